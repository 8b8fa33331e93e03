/- Bytes: slices of them, strings to and fro. Conditions: none. -/
import Derived.Test.YtdicohcmccjnoaaGreatRc
import Derived.Lib.AppendStr
import Derived.Laws.IdiomStrings
import Derived.Laws.BytesArg
namespace Go.Topo
open Go Go.Eng

def byteC (b : UInt8) : Value := .int .u8 (b.toNat : Int)
def byteE : Rec UInt8 := ⟨1, fun b => [byteC b], by decide, fun _ => rfl, fun x u hu => by obtain rfl := List.mem_singleton.1 hu; rfl⟩
theorem byteE_flat (l : List UInt8) : byteE.flat l = l.map byteC := by
  induction l with
  | nil => rfl
  | cons x r ih => simp only [Rec.flat, List.flatMap_cons, List.map_cons] at *; rw [ih]; rfl
theorem byteCells_eq (s : ByteArray) : byteCells s = byteE.flat s.data.toList := by rw [byteE_flat]; rfl
theorem strCells_eq (s : ByteArray) : Go.Lib.strCells s = byteCells s := rfl

/-- a number's least byte -/
def u8 (x : Int) : UInt8 := UInt8.ofNat (x % 256).toNat
theorem u8_toNat (x : Int) : ((u8 x).toNat : Int) = x % 256 := by
  unfold u8
  have h : (x % 256).toNat < 256 := by omega
  rw [UInt8.toNat_ofNat', Nat.mod_eq_of_lt h]
  omega
theorem wrap_u8 (x : Int) : IntKind.wrap .u8 x = ((u8 x).toNat : Int) := by
  rw [u8_toNat]
  simp [IntKind.wrap, IntKind.bits, IntKind.signed]
theorem byteC_u8 (x : Int) : Value.int .u8 (IntKind.wrap .u8 x) = byteC (u8 x) := by rw [wrap_u8]; rfl

section
variable {w w' : World} {F G : List Nat} {n c lo : Nat} {a : Option Addr} {xs : List Value} {e : TypeId}

/-- append of a string to bytes of one's own -/
theorem Own.appendStr {P : Program} {t u : TypeId} (T : ElemT P t e 1) (hu : P.underlying u = some .string) (h : Own w lo e 1 a n c xs) (hlo : lo ≤ w.heap.size) (ty : TypeId) (s : ByteArray) (hb : n + s.size ≤ 17179869184) :
    ∃ b d w', (Builtin.append_ #[t, u] ty #[.slice a n c, .string s]).run P w = .ok (.slice b (n + s.size) d) w' ∧ Own w' lo e 1 b (n + s.size) d (xs ++ byteCells s) ∧ Fr (blks a) w w' ∧ (∀ i ∈ blks b, i ∈ blks a ∨ w.heap.size ≤ i) := by
  obtain ⟨i, z, hi, hs, hby, hz, hzs⟩ := T.i
  have hbytes : (n + s.size) * i.bytes ≤ 140737488355328 := by
    have : (n + s.size) * i.bytes ≤ 17179869184 * 4000 := Nat.mul_le_mul hb hby
    omega
  have hS : Src P i.size u (.string s) s.size (byteCells s) w := by rw [hs]; exact Src.ofString w hu s
  have hmax : n + s.size ≤ maxLen := by simp [maxLen]; omega
  have grow : c < n + s.size → (Builtin.firstCells i.size n (.slice a n c)).run P w.drew = .ok xs.toArray w.drew →
      ∃ b d w', (Builtin.append_ #[t, u] ty #[.slice a n c, .string s]).run P w = .ok (.slice b (n + s.size) d) w' ∧ Own w' lo e 1 b (n + s.size) d (xs ++ byteCells s) ∧ Fr (blks a) w w' ∧ (∀ i ∈ blks b, i ∈ blks a ∨ w.heap.size ≤ i) := by
    intro hg hold
    have hr := run_append_grow_src (P := P) w t u ty e i z T.u hi hz a n c xs hold (.string s) s.size (byteCells s) hS hg (by omega) (growslice_fits hg hbytes)
    refine ⟨_, _, _, hr, ?_, ?_, ?_⟩
    · refine Own.mk_some (by rw [List.length_append, byteCells_length, h.1]; omega) (show lo ≤ w.heap.size from hlo) (heap_alloc_new w.drew _) (grownCap_ge w _ c e) (grownCap_le_maxLen w _ c e hmax) ?_ ?_
      · have hge := grownCap_ge w (n + s.size) c e
        simp only [Array.size_append, List.size_toArray, size_zeroCells, hzs, List.length_append, byteCells_length, h.1]
        omega
      · rw [Array.toList_append]
        have : (n + s.size) * 1 = (xs ++ byteCells s).length := by rw [List.length_append, byteCells_length, h.1]; omega
        rw [this]
        exact List.take_left
    · exact Fr.of_nil ((Fr.drew w).trans (Fr.alloc ..))
    · intro j hj
      simp [blks] at hj
      right; rw [hj]; exact Nat.le_refl _
  rcases h.data with ⟨hl, ⟨rfl, rfl, rfl⟩ | ⟨b, cur, rfl, hbl, hh, hn, hm, hsz, ht⟩⟩
  · have hx : xs = [] := List.eq_nil_of_length_eq_zero (by simpa using hl)
    by_cases h0 : s.size = 0
    · have hbc : byteCells s = [] := List.eq_nil_of_length_eq_zero (by rw [byteCells_length]; exact h0)
      refine ⟨none, 0, w, ?_, ?_, Fr.refl .., by simp [blks]⟩
      · have hs1 := hS.len
        have hs2 := hS.cells
        rw [h0, hbc] at hs2
        rw [h0] at hs1 ⊢
        rw [hs] at hs2
        simp [Builtin.append_, run_underlying T.u, run_underlying hu, sizeOf, typeInfo, hi, hs, hs1, hs2]
      · rw [h0, hbc, hx]; exact Own.nil ..
    · exact grow (by omega) (by rw [hx]; exact (Src.ofNil (P := P) w T.u 0).cellsD)
  · by_cases hroom : n + s.size ≤ c
    · have hr := Go.Lib.run_append_room_string (P := P) w t u ty e i T.u hu hi hs b n c cur hh s hroom (by omega)
      rw [strCells_eq] at hr
      refine ⟨_, _, _, hr, ?_, ?_, fun j hj => .inl hj⟩
      · refine Own.mk_some (by rw [List.length_append, byteCells_length, h.1]; omega) hbl (setRow_heap w b cur _ e _ hh) hroom hm ?_ ?_
        · simp only [List.size_toArray, List.length_append, List.length_take, List.length_drop, Array.length_toList, byteCells_length]
          omega
        · have e1 : (n + s.size) * 1 = (cur.toList.take n ++ byteCells s).length := by
            rw [List.length_append, byteCells_length, List.length_take, Array.length_toList]; omega
          rw [e1]
          simp only [List.take_left']
          rw [← ht, Nat.mul_one]
      · exact ⟨by simp, fun j hj hne => setRow_other w b j _ (by simpa [blks] using hne), rfl, rfl, rfl⟩
    · refine grow (by omega) ?_
      rw [hs]
      have hc : ∀ j u, xs[j]? = some u → w.cell? ((⟨b, 0, none⟩ : Addr).add j) = some u := (h.sliN (F := []) (by simp)).cellsAt
      exact run_firstCells_some (P := P) w.drew 1 n ⟨b, 0, none⟩ n c xs hl (by simpa using hc)

/-- string(b) -/
theorem run_str {P : Program} {src dst e : TypeId} (hs : P.underlying src = some (.slice e)) (he : P.underlying e = some (.int .u8)) (hd : P.underlying dst = some .string) {l : List UInt8} (h : Recs byteE w F a n l) :
    (convert src dst (.slice a n c)).run P w = .ok (.string ⟨l.toArray⟩) w := by
  have hn := h.len
  cases a with
  | none =>
    obtain ⟨h0, hl⟩ := h.nilIff
    subst hl
    subst h0
    rw [run_convert_bytes_string w src dst e none 0 c hs he hd]
    rfl
  | some ad =>
    subst hn
    refine run_convert_bytes_back w src dst e ad c l hs he hd (fun j hj => ?_)
    have := Sli.cellsAt h j (byteC l[j]) (by rw [byteE_flat]; simp [hj])
    exact this

end
end Go.Topo
