/- Entries that came in are opened: a slice of them, a directory, four small numbers. Conditions: none. -/
import Derived.Test.YtdicohcmccjnoaaGreatOg
import Derived.Laws.IdiomArrays
set_option maxRecDepth 100000
namespace Go.Proofs.Tryz
open Go Go.Eng Go.Topo
section
variable {H : Type} {enc : TypeId × Value → H} {w : World} {base : Nat} {sp : Nat → Bool} {held : Bool} {n : Nat} {ft : TypeId} {v : Value} {y : DataW H × List MemPlace}
theorem tr_str (hu : prog.underlying ft = some .string) (h : DataW.trod enc prog w base sp held n ft [v] = some y) : ∃ x, v = .string x ∧ x.size ≤ 9223372036854775807 := by
  obtain ⟨s, hc, _, hs⟩ := DataW.trod_string hu h
  simp at hc
  exact ⟨s, hc, hs⟩
theorem ent_fields0 : (match prog.underlying 117 with | some (.struct fs) => some (fs.toList.map (fun f => (f.type, f.offset))) | _ => none) =
    some [(9, 0), (3, 1), (4, 2), (2, 3), (3, 4)] := by kernel_rfl
theorem cells_entry : prog.cellsOf 117 = 5 := by kernel_rfl
theorem cells_int64 : prog.cellsOf 2 = 1 := by kernel_rfl
theorem u_i64 : prog.underlying 2 = some (.int .i64) := by kernel_rfl
theorem list5 {α : Type} (l : List α) (h : l.length = 5) : ∃ a b c d e, l = [a, b, c, d, e] := by
  match l with
  | [a, b, c, d, e] => exact ⟨a, b, c, d, e, rfl⟩
  | [] => simp at h
  | [_] => simp at h
  | [_, _] => simp at h
  | [_, _, _] => simp at h
  | [_, _, _, _] => simp at h
  | _ :: _ :: _ :: _ :: _ :: _ :: _ => simp at h
theorem open_ent {cs : List Value} (h : DataW.trod enc prog w base sp held n 117 cs = some y) : ∃ e : Ent, cs = entC e ∧ e.name.size ≤ 9223372036854775807 := by
  have h0 := ent_fields0
  cases hu : prog.underlying 117 with
  | none => rw [hu] at h0; cases h0
  | some ds =>
    rw [hu] at h0
    cases ds <;> first | (simp at h0; done) | skip
    case struct fs =>
      simp only [Option.some.injEq] at h0
      obtain ⟨xs, k, _, _, hlen, _, hf⟩ := DataW.trod_struct hu h
      rw [cells_entry] at hlen
      obtain ⟨l, hl⟩ : ∃ l, fs.toList = l := ⟨_, rfl⟩
      rw [hl] at h0
      match l, h0 with
      | [f0, f1, f2, f3, f4], h0 =>
        simp only [List.map_cons, List.map_nil, List.cons.injEq, Prod.mk.injEq, and_true] at h0
        obtain ⟨⟨t0, o0⟩, ⟨t1, o1⟩, ⟨t2, o2⟩, ⟨t3, o3⟩, ⟨t4, o4⟩⟩ := h0
        have hfs : fs = #[f0, f1, f2, f3, f4] := Array.ext' (by rw [hl])
        subst hfs
        have hx : ∀ i, i < 5 → ∃ y, xs[i]? = some y := by
          intro i hi
          have : xs.length = 5 := by simp_all
          exact ⟨_, List.getElem?_eq_getElem (by omega)⟩
        obtain ⟨v0, v1, v2, v3, v4, rfl⟩ := list5 cs hlen
        obtain ⟨y0, e0⟩ := hx 0 (by omega)
        obtain ⟨y1, e1⟩ := hx 1 (by omega)
        obtain ⟨y2, e2⟩ := hx 2 (by omega)
        obtain ⟨y3, e3⟩ := hx 3 (by omega)
        obtain ⟨y4, e4⟩ := hx 4 (by omega)
        have g0 := hf 0 f0 rfl
        have g1 := hf 1 f1 rfl
        have g2 := hf 2 f2 rfl
        have g3 := hf 3 f3 rfl
        have g4 := hf 4 f4 rfl
        rw [t0, o0, cells_string, e0] at g0
        rw [t1, o1, cells_int, e1] at g1
        rw [t2, o2, cells_bool, e2] at g2
        rw [t3, o3, cells_int64, e3] at g3
        rw [t4, o4, cells_int, e4] at g4
        obtain ⟨a0, rfl, hs⟩ := tr_str u_string g0
        obtain ⟨a1, rfl⟩ := tr_int u_int g1
        obtain ⟨a2, rfl⟩ := tr_bool u_bool g2
        obtain ⟨a3, rfl⟩ := tr_int u_i64 g3
        obtain ⟨a4, rfl⟩ := tr_int u_int g4
        exact ⟨⟨a0, a1, a2, a3, a4⟩, rfl, hs⟩
      | [], h0 => simp at h0
      | [_], h0 => simp at h0
      | [_, _], h0 => simp at h0
      | [_, _, _], h0 => simp at h0
      | [_, _, _, _], h0 => simp at h0
      | _ :: _ :: _ :: _ :: _ :: _ :: _, h0 => simp at h0

/-- a slice's place, as it came in -/
theorem ok_slice {r : Reach} {b0 : Nat} {t e : TypeId} {ad : Addr} {len cap : Nat} (hu : prog.underlying t = some (.slice e)) (h : Cell.okWide prog w r b0 t (.slice (some ad) len cap)) : ad.spot = none ∧ ∃ c T fr, w.heap[ad.block]? = some (.cells c T fr) := by
  simp only [Cell.okWide, hu, Cell.ok, World.has] at h
  obtain ⟨_, _, _, h1, row, cells, hs, _⟩ := h
  refine ⟨h1, ?_⟩
  unfold World.shape? at hs
  split at hs
  · rename_i c elem fr hb
    exact ⟨_, _, _, hb⟩
  · cases hs
theorem sli_of {k : Nat} {ad : Addr} {xs : List Value} {n : Nat} (hl : xs.length = n * k) (hs : ad.spot = none) (hb : ∃ c T fr, w.heap[ad.block]? = some (.cells c T fr)) (hc : ∀ j v, xs[j]? = some v → w.cell? (ad.add j) = some v) : Sli w [] k (some ad) n xs := by
  obtain ⟨b, off, s⟩ := ad
  simp only at hs hb
  subst hs
  obtain ⟨c, T, fr, hb⟩ := hb
  refine ⟨hl, .inr ⟨b, off, rfl, by simp, c, T, fr, hb, fun i hi => ?_⟩⟩
  have := hc i _ (List.getElem?_eq_getElem hi)
  rw [List.getElem?_eq_getElem hi, ← this]
  have e : Addr.add ⟨b, off, none⟩ i = ⟨b, off + i, none⟩ := by simp [Addr.add_lit]
  rw [e]
  simp [World.cell?, hb]

theorem flat_cells {l : List Ent} {ad : Addr} (h : ∀ i e, l[i]? = some e → ∀ j v, (entC e)[j]? = some v → w.cell? ((ad.add (i * 5)).add j) = some v) : ∀ j v, (flat l)[j]? = some v → w.cell? (ad.add j) = some v := by
  intro j v hv
  have hj : j < (flat l).length := (List.getElem?_eq_some_iff.1 hv).1
  rw [flat_length] at hj
  have hi : j / 5 < l.length := by omega
  have := h (j / 5) _ (List.getElem?_eq_getElem hi) (j % 5) v (by rw [← flat_get (List.getElem?_eq_getElem hi) (j % 5) (by omega), show j / 5 * 5 + j % 5 = j by omega]; exact hv)
  rw [Go.Deep.add_add] at this
  rwa [show j / 5 * 5 + j % 5 = j by omega] at this

/-- a slice of entries is opened -/
theorem open_ents {r : Reach} {b0 : Nat} {a : Option Addr} {len cap : Nat} (hok : Cell.okWide prog w r b0 49 (.slice a len cap)) (h : DataW.trod enc prog w base sp held n 49 [.slice a len cap] = some y) :
    ∃ l, Ents w [] a len l ∧ ∀ e ∈ l, e.name.size ≤ 9223372036854775807 := by
  rcases Go.Deep.open_slice u_entries h with ⟨hc, _⟩ | ⟨ad, len', cap', m, k, D, Pl, hc, _, hl, hm, hmm, _, hx⟩
  · simp at hc
    obtain ⟨rfl, rfl, rfl⟩ := hc
    exact ⟨[], Sli.nil .., by simp⟩
  · simp at hc
    obtain ⟨rfl, rfl, rfl⟩ := hc
    have hlm : len ≤ m := by rw [hmm]; split <;> omega
    have each : ∀ i, i < len → ∃ o : Ent, (∀ j v, (entC o)[j]? = some v → w.cell? ((ad.add (i * 5)).add j) = some v) ∧ o.name.size ≤ 9223372036854775807 := by
      intro i hi
      obtain ⟨cs', h1, h2⟩ := hx i (by omega)
      obtain ⟨o, rfl, hs⟩ := open_ent h2
      rw [cells_entry] at h1
      obtain ⟨_, hlen, hcell⟩ := World.cells?_some h1
      refine ⟨o, fun j v hv => ?_, hs⟩
      have hj : j < 5 := by have := (List.getElem?_eq_some_iff.1 hv).1; simpa using this
      have := hcell j hj
      rw [this]
      simpa using hv
    haveI : Inhabited Ent := ⟨⟨⟨#[]⟩, 0, false, 0, 0⟩⟩
    obtain ⟨f, hf⟩ := Go.Deep.choose_lt each
    obtain ⟨hs, hb⟩ := ok_slice u_entries hok
    refine ⟨(List.range len).map f, sli_of (by rw [flat_length]; simp) hs hb (flat_cells ?_), ?_⟩
    · intro i o ho j v hv
      have hi : i < len := by have := (List.getElem?_eq_some_iff.1 ho).1; simpa using this
      rw [List.getElem?_map, List.getElem?_range hi] at ho
      simp at ho
      subst ho
      exact (hf i hi).1 j v hv
    · intro e he
      obtain ⟨i, hi, rfl⟩ := List.mem_map.1 he
      exact (hf i (List.mem_range.1 hi)).2
end

theorem ldir_fields0 : (match prog.underlying 51 with | some (.struct fs) => some (fs.toList.map (fun f => (f.type, f.offset))) | _ => none) = some [(3, 0), (49, 1)] := by kernel_rfl
theorem cells_ldir : prog.cellsOf 51 = 2 := by kernel_rfl
theorem cells_entries : prog.cellsOf 49 = 1 := by kernel_rfl
theorem types_ldir : prog.cellTypes prog.depth 51 = some [3, 49] := by kernel_rfl
theorem u_quad : prog.underlying 52 = some (.array 4 5) := by kernel_rfl
theorem cells_quad : prog.cellsOf 52 = 4 := by kernel_rfl
theorem types_quad : prog.cellTypes prog.depth 52 = some [5, 5, 5, 5] := by kernel_rfl

section
variable {H : Type} {enc : TypeId × Value → H} {w : World} {base : Nat} {sp : Nat → Bool} {held : Bool} {n : Nat} {y : DataW H × List MemPlace} {r : Reach} {b0 : Nat} {v : Value} {d : DataW H} {ps : List MemPlace}
theorem list2 {α : Type} (l : List α) (h : l.length = 2) : ∃ a b, l = [a, b] := by
  match l with
  | [a, b] => exact ⟨a, b, rfl⟩
  | [] => simp at h
  | [_] => simp at h
  | _ :: _ :: _ :: _ => simp at h
theorem list4 {α : Type} (l : List α) (h : l.length = 4) : ∃ a b c d, l = [a, b, c, d] := by
  match l with
  | [a, b, c, d] => exact ⟨a, b, c, d, rfl⟩
  | [] => simp at h
  | [_] => simp at h
  | [_, _] => simp at h
  | [_, _, _] => simp at h
  | _ :: _ :: _ :: _ :: _ :: _ => simp at h

theorem open_ldir (hval : Value.okWide prog w r b0 51 v) (hd : DataW.Trod enc prog w base sp held 51 v d ps) : ∃ (node : Int) (a : Option Addr) (len cap : Nat) (l : List Ent), v = .agg #[.int .i64 node, .slice a len cap] ∧ Ents w [] a len l ∧ ∀ e ∈ l, e.name.size ≤ 9223372036854775807 := by
  have h0 := ldir_fields0
  cases hu : prog.underlying 51 with
  | none => rw [hu] at h0; cases h0
  | some dd =>
    rw [hu] at h0
    cases dd <;> first | (simp at h0; done) | skip
    case struct fs =>
      simp only [Option.some.injEq] at h0
      simp only [Value.okWide, hu] at hval
      obtain ⟨cs, rfl, hsz, ts, hts, _, hrow⟩ := hval
      obtain ⟨fuel, h⟩ := hd
      rw [types_ldir] at hts
      obtain rfl := Option.some.inj hts
      obtain ⟨xs, k, _, _, hlen, _, hf⟩ := DataW.trod_struct hu h
      rw [cells_ldir] at hlen hsz
      obtain ⟨l, hl⟩ : ∃ l, fs.toList = l := ⟨_, rfl⟩
      rw [hl] at h0
      match l, h0 with
      | [f0, f1], h0 =>
        simp only [List.map_cons, List.map_nil, List.cons.injEq, Prod.mk.injEq, and_true] at h0
        obtain ⟨⟨t0, o0⟩, ⟨t1, o1⟩⟩ := h0
        have hfs : fs = #[f0, f1] := Array.ext' (by rw [hl])
        subst hfs
        obtain ⟨cl, hcl⟩ : ∃ cl, cs.toList = cl := ⟨_, rfl⟩
        have hcs : cs = cl.toArray := by rw [← hcl]
        subst hcs
        obtain ⟨v0, v1, rfl⟩ := list2 cl (by simpa using hsz)
        have hx : ∀ i, i < 2 → ∃ y, xs[i]? = some y := by
          intro i hi
          have : xs.length = 2 := by simp_all
          exact ⟨_, List.getElem?_eq_getElem (by omega)⟩
        obtain ⟨y0, e0⟩ := hx 0 (by omega)
        obtain ⟨y1, e1⟩ := hx 1 (by omega)
        have g0 := hf 0 f0 rfl
        have g1 := hf 1 f1 rfl
        rw [t0, o0, cells_int, e0] at g0
        rw [t1, o1, cells_entries, e1] at g1
        obtain ⟨a0, rfl⟩ := tr_int u_int g0
        obtain ⟨u, hu1, hok⟩ := hrow 1 v1 rfl
        have : u = 49 := by simpa using hu1.symm
        subst this
        have hsl : ∃ a len cap, v1 = .slice a len cap := by
          simp only [Cell.okWide, u_entries, Cell.ok] at hok
          cases v1 <;> simp_all
        obtain ⟨a, len, cap, rfl⟩ := hsl
        obtain ⟨l, hl1, hl2⟩ := open_ents hok g1
        exact ⟨a0, a, len, cap, l, rfl, hl1, hl2⟩
      | [], h0 => simp at h0
      | [_], h0 => simp at h0
      | _ :: _ :: _ :: _, h0 => simp at h0

theorem open_quad (hval : Value.okWide prog w r b0 52 v) : ∃ h0 h1 h2 h3 : Int, v = .agg #[.int .u8 h0, .int .u8 h1, .int .u8 h2, .int .u8 h3] ∧ 0 ≤ h1 ∧ h1 ≤ 255 := by
  simp only [Value.okWide, u_quad] at hval
  obtain ⟨cs, rfl, hsz, ts, hts, _, hrow⟩ := hval
  rw [types_quad] at hts
  obtain rfl := Option.some.inj hts
  rw [cells_quad] at hsz
  obtain ⟨cl, hcl⟩ : ∃ cl, cs.toList = cl := ⟨_, rfl⟩
  have hcs : cs = cl.toArray := by rw [← hcl]
  subst hcs
  obtain ⟨v0, v1, v2, v3, rfl⟩ := list4 cl (by simpa using hsz)
  have one : ∀ i v, i < 4 → ([v0, v1, v2, v3] : List Value)[i]? = some v → ∃ x : Int, v = .int .u8 x ∧ 0 ≤ x ∧ x ≤ 255 := by
    intro i v hi hv
    obtain ⟨u, hu1, hok⟩ := hrow i v (by simpa using hv)
    have hu : u = 5 := by
      have : i = 0 ∨ i = 1 ∨ i = 2 ∨ i = 3 := by omega
      rcases this with rfl | rfl | rfl | rfl <;> simpa using hu1.symm
    subst hu
    simp only [Cell.okWide, u_u8, Cell.ok] at hok
    cases v with
    | int k x =>
      obtain ⟨rfl, h1, h2⟩ := hok
      exact ⟨x, rfl, h1, h2⟩
    | _ => exact hok.elim
  obtain ⟨x0, rfl, _⟩ := one 0 v0 (by omega) rfl
  obtain ⟨x1, rfl, hx1⟩ := one 1 v1 (by omega) rfl
  obtain ⟨x2, rfl, _⟩ := one 2 v2 (by omega) rfl
  obtain ⟨x3, rfl, _⟩ := one 3 v3 (by omega) rfl
  exact ⟨x0, x1, x2, x3, rfl, hx1⟩
end
end Go.Proofs.Tryz
