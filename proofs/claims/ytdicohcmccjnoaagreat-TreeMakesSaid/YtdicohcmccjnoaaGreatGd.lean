/- Good names: strings.ContainsAny of any bytes whatever, Good, may. Conditions: none. -/
import Derived.Test.YtdicohcmccjnoaaGreatSh
import Derived.Test.YtdicohcmccjnoaaGreatCa
import Derived.Test.YtdicohcmccjnoaaGreatPb
import Derived.Laws.RangeAny
import Derived.Lib.IndexLaws
namespace Go.Topo
open Go Go.Eng

theorem decode_bytes (s : ByteArray) (pos : Nat) (h : pos < s.size) (ha : 128 ≤ (s.get! pos).toNat) : ∀ k, k < (Utf8.decode s pos).2 → pos + k < s.size ∧ 128 ≤ (s.get! (pos + k)).toNat := by
  intro k hk
  have h0 : ∀ j, j = 0 → pos + j < s.size ∧ 128 ≤ (s.get! (pos + j)).toNat := by rintro j rfl; exact ⟨h, ha⟩
  unfold Utf8.decode at hk
  simp only [Nat.add_zero] at hk
  rw [if_neg (by omega)] at hk
  have hc : ∀ j, (decide (pos + j < s.size) && (s.get! (pos + j)).toNat / 64 == 2) = true → pos + j < s.size ∧ 128 ≤ (s.get! (pos + j)).toNat := by
    intro j hj
    simp only [Bool.and_eq_true, decide_eq_true_eq, beq_iff_eq] at hj
    exact ⟨hj.1, by omega⟩
  split at hk
  · rename_i hb
    simp only [Bool.and_eq_true] at hb
    split at hk
    · have : k = 0 ∨ k = 1 := by omega
      rcases this with e | e
      · exact h0 k e
      · subst e; exact hc 1 (by simpa using hb.2)
    · exact h0 k (by omega)
  · split at hk
    · rename_i hb
      simp only [Bool.and_eq_true] at hb
      split at hk
      · have : k = 0 ∨ k = 1 ∨ k = 2 := by omega
        rcases this with e | e | e
        · exact h0 k e
        · subst e; exact hc 1 (by simpa using hb.1.2)
        · subst e; exact hc 2 (by simpa using hb.2)
      · exact h0 k (by omega)
    · split at hk
      · rename_i hb
        simp only [Bool.and_eq_true] at hb
        split at hk
        · have : k = 0 ∨ k = 1 ∨ k = 2 ∨ k = 3 := by omega
          rcases this with e | e | e | e
          · exact h0 k e
          · subst e; exact hc 1 (by simpa using hb.1.1.2)
          · subst e; exact hc 2 (by simpa using hb.1.2)
          · subst e; exact hc 3 (by simpa using hb.2)
        · exact h0 k (by omega)
      · exact h0 k (by omega)

theorem get!_eq (s : ByteArray) (i : Nat) (h : i < s.size) : s.get! i = s[i] := by
  show s.data[i]! = _
  rw [getElem!_pos s.data i h]; rfl

/-- a byte that a name may not bear -/
def bad (s : ByteArray) : Prop := ∃ k, k < s.size ∧ (s.get! k = 0 ∨ s.get! k = 47)
theorem bad_iff (s : ByteArray) : bad s ↔ ∃ b ∈ s.data.toList, b = 0 ∨ b = 47 := by
  constructor
  · rintro ⟨k, hk, h⟩
    rw [get!_eq s k hk] at h
    exact ⟨s[k], by show s.data[k] ∈ _; simp, h⟩
  · rintro ⟨b, hb, h⟩
    obtain ⟨k, hk, rfl⟩ := List.mem_iff_getElem.1 hb
    have hk' : k < s.size := by rw [Array.length_toList] at hk; exact hk
    refine ⟨k, hk', ?_⟩
    rw [get!_eq s k hk']
    exact h

section
variable {P : Program} {T : TypeId}
theorem run_range_string (hT : P.underlying T = some .string) (s : ByteArray) (w : World) : (Instr.range T (.string s)).run P w = .ok (.pointer (some ⟨w.heap.size, 0, none⟩)) (w.alloc (.stringIter s 0)) := by
  unfold Instr.range
  rw [run_bind_ok (run_underlying hT w)]
  dsimp only
  rw [run_bind_ok (Sem.run_pure _ _ _)]
  simp
theorem run_next_over {s : ByteArray} {pos r : Nat} {w : World} (h : w.heap[r]? = some (.stringIter s pos)) (hp : s.size ≤ pos) (ty : TypeId) :
    (Instr.next (.pointer (some ⟨r, 0, none⟩)) true ty).run P w = .ok (.tuple #[.bool false]) w := by
  have hg : (getObj r).run P w = .ok (.stringIter s pos) w := by simp [getObj, Sem.run, h]
  simp [Instr.next, hg, Nat.not_lt.2 hp]
theorem run_next_rune {s : ByteArray} {pos r : Nat} {w : World} (h : w.heap[r]? = some (.stringIter s pos)) (hp : pos < s.size) (ty : TypeId) :
    ∃ w', (Instr.next (.pointer (some ⟨r, 0, none⟩)) true ty).run P w = .ok (.tuple #[.bool true, .int .i64 pos, .int .i32 (Utf8.decode s pos).1]) w' ∧ w'.heap[r]? = some (.stringIter s (pos + (Utf8.decode s pos).2)) ∧ Fr [r] w w' := by
  have hlt := lt_of_heap h
  have hg : (getObj r).run P w = .ok (.stringIter s pos) w := by simp [getObj, Sem.run, h]
  refine ⟨{ w with heap := w.heap.setIfInBounds r (.stringIter s (pos + (Utf8.decode s pos).2)) }, ?_, by simp [hlt], fr_setObj w r _⟩
  have hs : (setObj r (.stringIter s (pos + (Utf8.decode s pos).2))).run P w = .ok () { w with heap := w.heap.setIfInBounds r (.stringIter s (pos + (Utf8.decode s pos).2)) } := by simp [setObj, Sem.run, h]
  simp [Instr.next, hg, hp, hs, goInt]
end

theorem encode_last (r : Int) (h : 128 ≤ r) : ∃ n, (Utf8.encode r).size = n + 2 ∧ n ≤ 2 ∧ (n = 0 → 128 ≤ ((Utf8.encode r).get! 1).toNat) := by
  unfold Utf8.encode
  have hr : ¬ (if Utf8.valid r = true then r.toNat else Utf8.runeError) < 128 := by
    split
    · omega
    · simp [Utf8.runeError]
  dsimp only
  rw [if_neg hr]
  generalize (if Utf8.valid r = true then r.toNat else Utf8.runeError) = c at *
  split
  · refine ⟨0, rfl, by omega, fun _ => ?_⟩
    show 128 ≤ (UInt8.ofNat (128 + c % 64)).toNat
    have : 128 + c % 64 < 256 := by omega
    simp only [UInt8.toNat_ofNat', Nat.mod_eq_of_lt this]
    omega
  · split
    · exact ⟨1, rfl, by omega, by omega⟩
    · exact ⟨2, rfl, by omega, by omega⟩
end Go.Topo

namespace Go.Proofs.Tryz
open Go Go.Eng Go.Topo
theorem u_string : prog.underlying 9 = some .string := by kernel_rfl

/-- IndexRune in the two bytes that a name may not bear -/
theorem k_IndexRune2 (c : Int) (h0 : 0 ≤ c) (w : World) :
    Calls prog 211 #[.string ⟨#[0, 47]⟩, .int .i32 c] w fun e w' => (∃ x : Int, e = .returned (.int .i64 x) ∧ (0 ≤ x ↔ c = 0 ∨ c = 47)) ∧ Fr [] w w' := by
  by_cases hlt : c < 128
  · refine Calls.mono (Go.Proofs.Tryz.strings_IndexRune_ascii ⟨#[0, 47]⟩ c w h0 hlt) ?_
    rintro e w' ⟨rfl, rfl⟩
    refine ⟨⟨_, rfl, ?_⟩, Fr.refl ..⟩
    obtain ⟨n, rfl⟩ := Int.eq_ofNat_of_zero_le h0
    have hn : n < 128 := by omega
    show 0 ≤ Lib.indexByte [0, 47] (((n : Nat) : Int).toNat.toUInt8) ↔ _
    rw [Int.toNat_natCast]
    have e0 : ((0 : UInt8) == n.toUInt8) = decide (n = 0) := by
      rw [Bool.eq_iff_iff]
      simp only [beq_iff_eq, decide_eq_true_eq]
      constructor
      · intro h
        have := congrArg UInt8.toNat h
        simp at this
        omega
      · rintro rfl; rfl
    have e1 : ((47 : UInt8) == n.toUInt8) = decide (n = 47) := by
      rw [Bool.eq_iff_iff]
      simp only [beq_iff_eq, decide_eq_true_eq]
      constructor
      · intro h
        have := congrArg UInt8.toNat h
        simp at this
        omega
      · rintro rfl; rfl
    simp only [Lib.indexByte, e0, e1]
    by_cases a : n = 0
    · simp [a]
    · by_cases b : n = 47
      · simp [b]
      · simp [a, b]; omega
  · refine c211 _ _ _ _ (withR (X := N211 _ _ _) ?_)
    intro R hR
    unfold N211
    have hno : ∀ (w' : World), Fr [] w w' → R (.returned (.int .i64 (-1))) w' := fun w' hf => hR _ _ ⟨⟨_, rfl, by omega⟩, hf⟩
    rw [decide_eq_true h0, cond_true, decide_eq_false hlt, cond_false]
    by_cases he : c = 65533
    · subst he
      rw [show ((65533 : Int) == 65533) = true from rfl, cond_true]
      refine ⟨_, _, Go.Topo.run_range_string u_string _ w, ?_⟩
      refine lp211_0 _ (fun m W => ∃ pos, m = 2 - pos ∧ W.heap[w.heap.size]? = some (.stringIter ⟨#[0, 47]⟩ pos) ∧ Fr [] w W) _ ?_ 2 _ ⟨0, rfl, heap_alloc_new .., Fr.alloc ..⟩ _
      rintro m ds W ⟨pos, rfl, hit, hf⟩
      unfold B211_0
      by_cases hp : pos < 2
      · right
        obtain ⟨W', hr, hit', hf'⟩ := run_next_rune (P := prog) hit hp 0
        have hd : ((Utf8.decode ⟨#[0, 47]⟩ pos).1 : Int) ≠ 65533 ∧ (Utf8.decode ⟨#[0, 47]⟩ pos).2 = 1 := by
          have : pos = 0 ∨ pos = 1 := by omega
          rcases this with rfl | rfl <;> decide
        refine ⟨_, _, W', hr, ?_⟩
        rw [show (((Utf8.decode ⟨#[0, 47]⟩ pos).1 : Int) == 65533) = false from beq_eq_false_iff_ne.2 hd.1, cond_false]
        rw [hd.2] at hit'
        exact ⟨rfl, 2 - (pos + 1), by omega, pos + 1, rfl, hit', hf.trans' hf' (by intro i hi; simp at hi; right; omega)⟩
      · left
        exact ⟨W, run_next_over hit (by show 2 ≤ pos; omega) 0, hno W hf⟩
    · rw [show (c == (65533 : Int)) = false from beq_eq_false_iff_ne.2 he, cond_false]
      refine Calls.mono (Go.Proofs.Tryz.utf8_ValidRune c w) ?_
      rintro _ _ ⟨rfl, rfl⟩
      refine ⟨_, rfl, ?_⟩
      cases hv : Lib.validRune c with
      | false => exact hno _ (Fr.refl ..)
      | true =>
        rw [Bool.not_true, cond_false]
        obtain ⟨n, hn, hn2, hl⟩ := encode_last c (by omega)
        have e1 : IntKind.wrap .i64 ((((Utf8.encode c).size : Nat) : Int) - (1)) = ((n + 1 : Nat) : Int) := by rw [hn, wr (by omega) (by omega)]; omega
        rw [e1]
        rename_i W
        refine lp211_1 _ _ _ (fun _ i V => i = ((n + 1 : Nat) : Int) ∧ V = W) _ ?_ 0 _ _ ⟨rfl, rfl⟩ _
        rintro m _ ds _ ⟨rfl, rfl⟩
        unfold B211_1
        have hs2 : (⟨#[0, 47]⟩ : ByteArray).size = 2 := rfl
        rw [hs2]
        by_cases hn0 : n = 0
        · subst hn0
          rw [show decide (((0 + 1 : Nat) : Int) < ((2 : Nat) : Int)) = true from rfl, cond_true]
          rintro W1 rfl
          have hsz : 1 < (Utf8.encode c).size := by omega
          have hb : (Utf8.encode c)[((0 + 1 : Nat) : Int).toNat]? = some ((Utf8.encode c).get! 1) := by
            rw [get!_eq _ 1 hsz]
            exact getElem?_pos (Utf8.encode c) 1 hsz
          refine ⟨fun _ => True, trivial, by decide, 47, rfl, by decide, _, hb, ?_⟩
          have h128 := hl rfl
          rw [show ((((47 : UInt8).toNat : Nat) : Int) != ((((Utf8.encode c).get! 1).toNat : Nat) : Int)) = true from bne_iff_ne.2 (by show ¬ ((47 : Nat) : Int) = _; omega), cond_true]
          rintro W2 rfl
          refine ⟨fun _ => True, trivial, ⟨by decide, by decide, by decide⟩, by decide, _, hb, ?_⟩
          refine Calls.mono (Go.Proofs.Tryz.strings_IndexByte _ _ _) ?_
          rintro _ _ ⟨rfl, rfl⟩
          refine ⟨_, rfl, trivial, ?_⟩
          rw [show Lib.indexByte ((⟨#[0, 47]⟩ : ByteArray).extract ((IntKind.wrap .i64 (((0 + 1 : Nat) : Int) + (1))) : Int).toNat (((2 : Nat) : Int) : Int).toNat).data.toList _ = -1 from rfl]
          exact hno _ ((Fr.drew _).trans (Fr.drew _))
        · rw [decide_eq_false (by omega), cond_false]
          exact hno _ (Fr.refl ..)

theorem z_set0 : (prog.info? 298).map (fun i => i.zero) = some (some (.agg (Array.replicate 256 (.bool false)))) := by kernel_rfl
theorem z_set (w : World) : (zeroValue 298).run prog w = .ok (.agg (Array.replicate 256 (.bool false))) w := by
  have h := z_set0
  cases hi : prog.info? 298 with
  | none => rw [hi] at h; cases h
  | some i => rw [hi] at h; simp only [Option.map_some, Option.some.injEq] at h; simp [zeroValue, typeInfo, hi, h]

theorem indexAny_iff (s : ByteArray) : 0 ≤ Lib.indexAny s.data.toList [0, 47] ↔ bad s := by
  rw [bad_iff]
  generalize s.data.toList = l
  induction l with
  | nil => simp [Lib.indexAny]
  | cons b l ih =>
    unfold Lib.indexAny
    by_cases hb : ([0, 47] : List UInt8).contains b = true
    · rw [if_pos hb]
      simp at hb
      simp only [List.mem_cons]
      exact ⟨fun _ => ⟨b, .inl rfl, hb⟩, fun _ => by omega⟩
    · rw [if_neg hb]
      have hb' : ¬ (b = 0 ∨ b = 47) := by simpa using hb
      have hge := Lib.indexAny_ge [0, 47] l
      have : (∃ x ∈ b :: l, x = 0 ∨ x = 47) ↔ ∃ x ∈ l, x = 0 ∨ x = 47 := by
        constructor
        · rintro ⟨x, hx, h⟩
          rcases List.mem_cons.1 hx with rfl | hx
          · exact absurd h hb'
          · exact ⟨x, hx, h⟩
        · rintro ⟨x, hx, h⟩; exact ⟨x, List.mem_cons_of_mem _ hx, h⟩
      rw [this, ← ih]
      by_cases h1 : Lib.indexAny l [0, 47] = -1
      · rw [h1]; simp
      · rw [if_neg (by simpa using h1)]; omega

theorem k_IndexAny2 (s : ByteArray) (hs : s.size < 4294967281) (w : World) :
    Calls prog 199 #[.string s, .string ⟨#[0, 47]⟩] w fun e w' => (∃ x : Int, e = .returned (.int .i64 x) ∧ (0 ≤ x ↔ bad s)) ∧ Fr [] w w' := by
  by_cases h8 : 8 < s.size
  · refine Calls.mono (Go.Proofs.Tryz.strings_IndexAny_long z_set s ⟨#[0, 47]⟩ w (by decide) h8 hs (by decide) (by
      intro j b hb
      have : j = 0 ∨ j = 1 ∨ 2 ≤ j := by omega
      rcases this with rfl | rfl | h
      · cases hb; decide
      · cases hb; decide
      · rw [List.getElem?_eq_none (by simpa using h)] at hb; cases hb)) ?_
    rintro e w' ⟨rfl, rfl⟩
    exact ⟨⟨_, rfl, indexAny_iff s⟩, (Fr.alloc ..).trans (Fr.alloc ..)⟩
  · refine c199 _ _ _ _ (withR (X := N199 _ _ _) ?_)
    intro R hR
    unfold N199
    rw [show ((⟨#[0, 47]⟩ : ByteArray).toList == (⟨#[]⟩ : ByteArray).toList) = false by rw [bytes_beq]; rfl, cond_false]
    rw [show (((((⟨#[0, 47]⟩ : ByteArray).size : Nat) : Int) : Int) == 1) = false from rfl, cond_false]
    refine Calls.mono (Go.Proofs.Tryz.strings_shouldUseASCIISet _ w) ?_
    rintro _ _ ⟨rfl, rfl⟩
    rename_i w
    refine ⟨_, rfl, ?_⟩
    rw [decide_eq_false (by omega), cond_false]
    refine ⟨_, _, Go.Topo.run_range_string u_string s w, ?_⟩
    refine lp199_0 _ _ (fun m W => ∃ pos, m = s.size - pos ∧ W.heap[w.heap.size]? = some (.stringIter s pos) ∧ Fr [] w W ∧ ∀ k, k < pos → k < s.size → ¬ (s.get! k = 0 ∨ s.get! k = 47)) _ ?_ s.size _ ⟨0, rfl, heap_alloc_new .., Fr.alloc .., by intro k hk; omega⟩ _
    rintro m ds W ⟨pos, rfl, hit, hf, hpre⟩
    unfold B199_0
    by_cases hp : pos < s.size
    · right
      obtain ⟨W', hr, hit', hf'⟩ := run_next_rune (P := prog) hit hp 0
      have hf2 : Fr [] w W' := hf.trans' hf' (by intro i hi; simp at hi; right; omega)
      refine ⟨_, _, W', hr, ?_⟩
      refine Calls.mono (k_IndexRune2 _ (by omega) W') ?_
      rintro _ W2 ⟨⟨x, rfl, hx⟩, hf3⟩
      refine ⟨x, rfl, ?_⟩
      by_cases hx0 : 0 ≤ x
      · rw [decide_eq_true (by omega), cond_true]
        refine hR _ _ ⟨⟨_, rfl, ?_⟩, hf2.trans hf3⟩
        refine ⟨fun _ => ⟨pos, hp, ?_⟩, fun _ => by omega⟩
        have hc := hx.1 hx0
        by_cases ha : (s[pos]'hp).toNat < 128
        · rw [decode_ascii s pos hp ha] at hc
          rw [get!_eq s pos hp]
          rcases hc with h | h
          · left; apply UInt8.toNat_inj.1; show (s[pos]'hp).toNat = 0; omega
          · right; apply UInt8.toNat_inj.1; show (s[pos]'hp).toNat = 47; omega
        · have := (decode_high s pos hp (by omega)).1
          omega
      · rw [decide_eq_false (by omega), cond_false]
        have hw1 : 1 ≤ (Utf8.decode s pos).2 := by
          by_cases ha : (s[pos]'hp).toNat < 128
          · rw [decode_ascii s pos hp ha]; omega
          · exact (decode_high s pos hp (by omega)).2
        refine ⟨rfl, s.size - (pos + (Utf8.decode s pos).2), by omega, pos + (Utf8.decode s pos).2, rfl, ?_, hf2.trans hf3, ?_⟩
        · exact (hf3.2 _ (lt_of_heap hit') (by simp)).trans hit'
        · intro k hk hks
          by_cases hkp : k < pos
          · exact hpre k hkp hks
          · by_cases ha : (s[pos]'hp).toNat < 128
            · rw [decode_ascii s pos hp ha] at hk
              have hkk : k = pos := by
                have : k < pos + 1 := hk
                omega
              subst hkk
              intro hbad
              refine hx0 (hx.2 ?_)
              rw [decode_ascii s k hp ha]
              rw [get!_eq s k hp] at hbad
              rcases hbad with h | h
              · left; rw [h]; rfl
              · right; rw [h]; rfl
            · have := (decode_bytes s pos hp (by rw [get!_eq s pos hp]; omega) (k - pos) (by omega)).2
              rw [show pos + (k - pos) = k by omega] at this
              rintro (h | h)
              · rw [h] at this; exact absurd this (by decide)
              · rw [h] at this; exact absurd this (by decide)
    · left
      refine ⟨W, run_next_over hit (by omega) 0, hR _ _ ⟨⟨_, rfl, ?_⟩, hf⟩⟩
      refine ⟨fun h => by omega, ?_⟩
      rintro ⟨k, hk, h⟩
      exact absurd h (hpre k (by omega) hk)

theorem all_bad (s : ByteArray) : s.data.toList.all (fun c => c != 0 && c != 47) = true ↔ ¬ bad s := by
  rw [bad_iff, List.all_eq_true]
  constructor
  · rintro h ⟨b, hb, hc⟩
    have := h b hb
    simp at this
    rcases hc with hc | hc
    · exact this.1 hc
    · exact this.2 hc
  · intro h b hb
    simp only [Bool.and_eq_true, bne_iff_ne]
    exact ⟨fun e => h ⟨b, hb, .inl e⟩, fun e => h ⟨b, hb, .inr e⟩⟩
theorem toList_lit (l : List UInt8) : (⟨l.toArray⟩ : ByteArray).toList = l := by rw [toList_data']

/-- escape.Good -/
theorem k_Good (s : ByteArray) (w : World) : Calls prog 133 #[.string s] w fun e w' => e = .returned (.bool (isGoodB s)) ∧ Fr [] w w' := by
  refine c133 _ _ _ (withR (X := N133 _ _) ?_)
  intro R hR
  unfold N133
  have no : ∀ w', Fr [] w w' → isGoodB s = false → R (.returned (.bool false)) w' := fun w' hf h => hR _ _ ⟨by rw [h], hf⟩
  by_cases h1 : 1 ≤ s.size
  · rw [decide_eq_true (by omega), cond_true]
    by_cases h2 : s.size ≤ 255
    · rw [decide_eq_true (by omega), cond_true]
      refine c171 _ _ _ _ ?_
      unfold N171
      refine Calls.mono (k_IndexAny2 s (by omega) w) ?_
      rintro _ w1 ⟨⟨x, rfl, hx⟩, hf⟩
      refine ⟨x, rfl, _, rfl, ?_⟩
      have e1 : (s.toList == (⟨#[46]⟩ : ByteArray).toList) = decide (s.data.toList = [46]) := by
        rw [toList_data', toList_data']; rw [Bool.eq_iff_iff]; simp
      have e2 : (s.toList == (⟨#[46, 46]⟩ : ByteArray).toList) = decide (s.data.toList = [46, 46]) := by
        rw [toList_data', toList_data']; rw [Bool.eq_iff_iff]; simp
      rw [e1, e2]
      by_cases hx0 : 0 ≤ x
      · rw [decide_eq_true (by omega), Bool.not_true, cond_false]
        refine no _ hf ?_
        have : s.data.toList.all (fun c => c != 0 && c != 47) = false := by
          cases h : s.data.toList.all (fun c => c != 0 && c != 47) with
          | false => rfl
          | true => exact absurd (hx.1 hx0) ((all_bad s).1 h)
        unfold isGoodB
        rw [this]; simp
      · rw [decide_eq_false (by omega), Bool.not_false, cond_true]
        have ha : s.data.toList.all (fun c => c != 0 && c != 47) = true := (all_bad s).2 (fun h => hx0 (hx.2 h))
        have hg : isGoodB s = (decide (s.data.toList ≠ [46]) && decide (s.data.toList ≠ [46, 46])) := by
          unfold isGoodB
          rw [ha, decide_eq_true h1, decide_eq_true h2]; simp
        by_cases h46 : s.data.toList = [46]
        · rw [decide_eq_true h46, Bool.not_true, cond_false]
          refine no _ hf ?_
          rw [hg]; simp [h46]
        · rw [decide_eq_false h46, Bool.not_false, cond_true]
          refine hR _ _ ⟨?_, hf⟩
          rw [hg]; simp [h46]
    · rw [decide_eq_false (by omega), cond_false]
      refine no _ (Fr.refl ..) ?_
      unfold isGoodB
      rw [decide_eq_false h2]; simp
  · rw [decide_eq_false (by omega), cond_false]
    refine no _ (Fr.refl ..) ?_
    unfold isGoodB
    rw [decide_eq_false h1]; simp

/-- tree.may -/
theorem k_may (s : ByteArray) (sh : Int) (w : World) : Calls prog 77 #[.string s, .int .i64 sh] w fun e w' => e = .returned (.int .i64 (mayErr s sh)) ∧ Fr [] w w' := by
  refine c77 _ _ _ _ (withR (X := N77 _ _ _) ?_)
  intro R hR
  unfold N77
  refine Calls.mono (k_Good s w) ?_
  rintro _ w1 ⟨rfl, hf⟩
  refine ⟨_, rfl, ?_⟩
  cases hg : isGoodB s with
  | false =>
    rw [Bool.not_false, cond_true]
    exact hR _ _ ⟨by simp [mayErr, hg], hf⟩
  | true =>
    rw [Bool.not_true, cond_false]
    by_cases h1 : sh < 0
    · rw [decide_eq_true h1, cond_true]
      exact hR _ _ ⟨by simp [mayErr, hg, h1], hf⟩
    · rw [decide_eq_false h1, cond_false]
      by_cases h2 : sh > 1000000
      · rw [decide_eq_true h2, cond_true]
        exact hR _ _ ⟨by simp [mayErr, hg, h2], hf⟩
      · rw [decide_eq_false h2, cond_false]
        exact hR _ _ ⟨by simp [mayErr, hg, h1, h2], hf⟩
end Go.Proofs.Tryz
