/- tree.Make: its helpers; an entry. Conditions: none. -/
import Derived.Test.YtdicohcmccjnoaaGreatMl
import Derived.Test.YtdicohcmccjnoaaGreatGs
import Derived.Test.YtdicohcmccjnoaaGreatRf
import Derived.Test.YtdicohcmccjnoaaGreatFm
namespace Go.Topo
open Go
theorem srtB_iff : ∀ l : List Ent, srtB l = true ↔ ∀ (k : Nat) (x y : Ent), l[k]? = some x → l[k + 1]? = some y → 0 ≤ IntKind.wrap .i64 (y.cookie - x.cookie)
  | [] => by simp [srtB]
  | [a] => by simp [srtB]
  | a :: b :: r => by
    simp only [srtB, Bool.and_eq_true, decide_eq_true_eq, srtB_iff (b :: r)]
    constructor
    · rintro ⟨h1, h2⟩ k x y hx hy
      cases k with
      | zero => simp at hx hy; subst hx; subst hy; exact h1
      | succ k => exact h2 k x y (by simpa using hx) (by simpa using hy)
    · intro h
      exact ⟨h 0 a b rfl rfl, fun k x y hx hy => h (k + 1) x y (by simpa using hx) (by simpa using hy)⟩
def clamp (d : Int) : Int := if (1 : Int) < (if (-1 : Int) > d then -1 else d) then 1 else (if (-1 : Int) > d then -1 else d)
theorem clamp_neg (d : Int) : clamp d < 0 ↔ d < 0 := by unfold clamp; split <;> split at * <;> omega
end Go.Topo

namespace Go.Proofs.Tryz
open Go Go.Eng Go.Topo

/-- ids.New, of numbers that are out -/
theorem k_idNewL (a : Option Addr) (n c : Nat) (l : List Int) (w : World) (he : Sli w [] 1 a n (l.map intC)) (hn : n ≤ 1048576) :
    Calls prog 56 #[.int .i64 200, .slice a n c] w fun e w' => ∃ pb F, e = .returned (.pointer (some ⟨pb, 0, none⟩)) ∧ PoolAt w' pb F (fun x => x ∈ l ∧ 1 ≤ x ∧ x ≤ 200) ∧ (∀ i ∈ F, w.heap.size ≤ i) ∧ pb ∈ F ∧ Fr [] w w' := by
  refine c56 _ _ _ _ _ _ (withR (X := N56 _ _ _ _ _) ?_)
  intro R hR
  unfold N56
  have hlen : l.length = n := by have := he.1; simp at this; omega
  rintro w1 rfl
  rintro w2 rfl
  have f1 := Fr.alloc w (.map #[] 0)
  have f2 := Fr.alloc (w.alloc (.map #[] 0)) (.cells #[.int .i64 200, .int .i64 1, .slice none 0 0, .map (some w.heap.size)] 205)
  have b2 := Blk.new (w.alloc (.map #[] 0)) [.int .i64 200, .int .i64 1, .slice none 0 0, .map (some w.heap.size)] 205
  have m2 := (IMap.new w).fr f2 (by simp)
  rw [size_alloc] at b2
  refine lp56_0 _ _ _ _ _ (fun q i W => ∃ (k : Nat) (m : List (Int × Value)), i = k ∧ k ≤ n ∧ q = n - k ∧ Fr [] w W ∧ Blk W (w.heap.size + 1) [.int .i64 200, .int .i64 1, .slice none 0 0, .map (some w.heap.size)] ∧ IMap W w.heap.size m ∧
    (∀ p ∈ m, p.2 = .int .i64 1 ∧ 1 ≤ p.1 ∧ p.1 ≤ 200) ∧ ∀ x, x ∈ keys m ↔ (x ∈ l.take k ∧ 1 ≤ x ∧ x ≤ 200)) _ ?_ n 0 _
    ⟨0, [], rfl, by omega, by omega, f1.trans f2, b2, m2, by simp, by simp [keys]⟩ _
  rintro q _ ds W ⟨k, m, rfl, hk, rfl, hf, hb, hm, h1, h2⟩
  unfold B56_0
  by_cases hkn : k < n
  · rw [decide_eq_true (by omega), cond_true]
    obtain ⟨x, hx⟩ : ∃ x, l[k]? = some x := ⟨l[k]'(by omega), List.getElem?_eq_getElem _⟩
    have heW := he.fr (Fr.of_nil hf)
    obtain ⟨b, off, rfl, _, hr⟩ := heW.some_of (by omega)
    have hc : W.cell? ⟨b, off + k, none⟩ = some (.int .i64 x) := by
      rw [hr.cell (by simp; omega)]; simp [hx]
    rw [size_alloc]
    simp only [optW, Addr.add_lit, Int.toNat_natCast, Nat.mul_one, Nat.zero_add]
    refine ⟨⟨by omega, by omega⟩, x, hc, ?_⟩
    have next : ∀ (W' : World) (m' : List (Int × Value)), Fr [] w W' → Blk W' (w.heap.size + 1) [.int .i64 200, .int .i64 1, .slice none 0 0, .map (some w.heap.size)] → IMap W' w.heap.size m' → (∀ p ∈ m', p.2 = .int .i64 1 ∧ 1 ≤ p.1 ∧ p.1 ≤ 200) → (∀ y, y ∈ keys m' ↔ y ∈ keys m ∨ (y = x ∧ 1 ≤ x ∧ x ≤ 200)) →
        ∃ m_1, m_1 < n - k ∧ ∃ (k' : Nat) (m2 : List (Int × Value)), IntKind.wrap .i64 ((k : Int) + 1) = k' ∧ k' ≤ n ∧ m_1 = n - k' ∧ Fr [] w W' ∧ Blk W' (w.heap.size + 1) [.int .i64 200, .int .i64 1, .slice none 0 0, .map (some w.heap.size)] ∧ IMap W' w.heap.size m2 ∧
          (∀ p ∈ m2, p.2 = .int .i64 1 ∧ 1 ≤ p.1 ∧ p.1 ≤ 200) ∧ ∀ x, x ∈ keys m2 ↔ (x ∈ l.take k' ∧ 1 ≤ x ∧ x ≤ 200) := by
      intro W' m' g1 g2 g3 g4 g5
      refine ⟨n - (k + 1), by omega, k + 1, m', ?_, by omega, rfl, g1, g2, g3, g4, ?_⟩
      · rw [wr (by omega) (by omega)]; simp
      · intro y
        rw [g5, h2, take_snoc hx, List.mem_append, List.mem_singleton]
        constructor
        · rintro (⟨a1, a2, a3⟩ | ⟨rfl, a2, a3⟩)
          · exact ⟨.inl a1, a2, a3⟩
          · exact ⟨.inr rfl, a2, a3⟩
        · rintro ⟨a1 | rfl, a2, a3⟩
          · exact .inl ⟨a1, a2, a3⟩
          · exact .inr ⟨rfl, a2, a3⟩
    by_cases e1 : x ≥ 1
    · rw [decide_eq_true e1, cond_true]
      refine ⟨_, hb.cell 0, ?_⟩
      by_cases e2 : x ≤ 200
      · rw [decide_eq_true e2, cond_true]
        refine ⟨_, hb.cell 3, ?_⟩
        obtain ⟨W', hr', hm', hf', _⟩ := IMap.update (P := prog) u_files u_int hm x (.int .i64 1)
        refine ⟨W', hr', _, rfl, next W' _ (hf.trans' hf' (by intro i hi; simp at hi; right; omega)) (hb.fr hf' (by simp)) hm' ?_ ?_⟩
        · intro p hp
          rcases mem_aput hp with rfl | hp
          · exact ⟨rfl, e1, e2⟩
          · exact h1 p hp
        · intro y
          rw [keys_aput]
          split
          · rename_i hin
            constructor
            · exact .inl
            · rintro (h | ⟨rfl, _⟩)
              · exact h
              · exact hin
          · simp only [List.mem_append, List.mem_singleton]
            constructor
            · rintro (h | rfl)
              · exact .inl h
              · exact .inr ⟨rfl, e1, e2⟩
            · rintro (h | ⟨rfl, _⟩)
              · exact .inl h
              · exact .inr rfl
      · rw [decide_eq_false e2, cond_false]
        exact ⟨_, rfl, next W m hf hb hm h1 (fun y => ⟨.inl, fun h => h.elim id (fun h => absurd h.2.2 e2)⟩)⟩
    · rw [decide_eq_false e1, cond_false]
      exact ⟨_, rfl, next W m hf hb hm h1 (fun y => ⟨.inl, fun h => h.elim id (fun h => absurd h.2.1 e1)⟩)⟩
  · rw [decide_eq_false (by omega), cond_false]
    rw [List.take_of_length_le (by omega)] at h2
    rw [size_alloc]
    refine hR _ _ ⟨w.heap.size + 1, [w.heap.size + 1, w.heap.size], rfl, ⟨w.heap.size, none, 0, 0, 1, [], m, rfl, ?_⟩, by intro i hi; simp at hi; omega, by simp, hf⟩
    exact {
      blk := hb
      row := Own.nil ..
      map := hm
      ap := ⟨by omega, by simp [blks], by simp [blks]⟩
      heap := fun k _ hk => by omega
      nodup := by simp
      fr1 := by omega
      fr2 := by omega
      mem := by
        intro x
        simp only [List.not_mem_nil, false_iff]
        rintro ⟨a1, a2, _⟩
        have : x < 1 := a2
        omega
      one := h1
      out := h2 }

/-- must -/
theorem k_must {w : World} {mb : Nat} {c0 c1 c2 c3 c4 : Value} {b : Bool} (h : Blk w mb [c0, c1, c2, c3, c4, .bool b]) (ok : Bool) :
    Calls prog 74 #[.pointer (some ⟨mb, 0, none⟩), .bool ok] w fun e w' => e = .returned (.tuple #[]) ∧ Blk w' mb [c0, c1, c2, c3, c4, .bool (b || !ok)] ∧ Fr [mb] w w' := by
  refine c74 _ _ _ _ (withR (X := N74 _ _ _) ?_)
  intro R hR
  unfold N74
  simp only [Addr.add_lit, Nat.zero_add]
  refine ⟨b, h.cell 5, ?_⟩
  cases b with
  | true =>
    rw [cond_true]
    refine ⟨⟨_, h.cell 5⟩, h.frozen 5, ?_⟩
    rintro _ rfl
    exact hR _ _ ⟨rfl, h.set 5 _, Fr.setCell' w mb 0 5 _⟩
  | false =>
    rw [cond_false]
    refine ⟨⟨_, h.cell 5⟩, h.frozen 5, ?_⟩
    rintro _ rfl
    exact hR _ _ ⟨rfl, by simpa using h.set 5 (.bool (!ok)), Fr.setCell' w mb 0 5 _⟩

/-- which of two cookies is the greater -/
theorem k_mdir1 (x y : Ent) (w : World) : Calls prog 131 #[entV x, entV y] w fun e w' => e = .returned (.int .i64 (clamp (IntKind.wrap .i64 (x.cookie - y.cookie)))) ∧ Fr [] w w' := by
  refine c131 _ _ _ _ _ _ _ _ _ _ _ _ (withR (X := N131 _ _ _ _ _ _ _ _ _ _ _) ?_)
  intro R hR
  unfold N131
  rintro w1 rfl
  rintro w2 rfl
  have f1 := Fr.alloc w (.cells (entC x).toArray 117)
  have f2 := Fr.alloc (w.alloc (.cells (entC x).toArray 117)) (.cells (entC y).toArray 117)
  refine ⟨x.cookie, ((Blk.new w (entC x) 117).fr f2 (by simp)).cell 3, y.cookie, (Blk.new (w.alloc (.cells (entC x).toArray 117)) (entC y) 117).cell 3, hR _ _ ⟨rfl, f1.trans f2⟩⟩

/-- slices.IsSortedFunc, by cookies -/
theorem k_IsSortedFunc (l : List Ent) (a : Option Addr) (n c : Nat) (w : World) (he : Ents w [] a n l) (hn : n ≤ 1048576) :
    Calls prog 130 #[.slice a n c, .func (.func 131) #[] #[]] w fun e w' => e = .returned (.bool (srtB l)) ∧ Fr [] w w' := by
  refine c130 _ _ _ _ _ _ _ (withR (X := N130 _ _ _ _ _ _) ?_)
  intro R hR
  unfold N130
  have hlen := he.len
  rw [wr (by omega) (by omega)]
  refine lp130_0 _ _ _ _ _ (fun q i W => i = (q : Int) - 1 ∧ q ≤ n ∧ Fr [] w W ∧ ∀ (k : Nat) (x y : Ent), q ≤ k + 1 → l[k]? = some x → l[k + 1]? = some y → 0 ≤ IntKind.wrap .i64 (y.cookie - x.cookie)) _ ?_ n _ w
    ⟨rfl, Nat.le_refl _, Fr.refl .., fun k x y h1 h2 h3 => by have := (List.getElem?_eq_some_iff.1 h3).1; omega⟩ _
  rintro q _ ds W ⟨rfl, hq, hf, hp⟩
  unfold B130_0
  by_cases h0 : 2 ≤ q
  · obtain ⟨j, rfl⟩ : ∃ j, q = j + 2 := ⟨q - 2, by omega⟩
    rw [decide_eq_true (by omega), cond_true]
    rintro W1 rfl
    have hf1 := hf.trans (Fr.drew W)
    have heW := he.fr hf1
    obtain ⟨x, hx⟩ : ∃ x, l[j]? = some x := ⟨l[j]'(by omega), List.getElem?_eq_getElem _⟩
    obtain ⟨y, hy⟩ : ∃ y, l[j + 1]? = some y := ⟨l[j + 1]'(by omega), List.getElem?_eq_getElem _⟩
    have e1 : (((j + 2 : Nat) : Int) - 1).toNat = j + 1 := by omega
    have e2 : IntKind.wrap .i64 (((j + 2 : Nat) : Int) - 1 - 1) = (j : Int) := by rw [wr (by omega) (by omega)]; omega
    rw [e1, e2]
    have rows : ∀ U, Fr [] w U → Ents U [] a n l := fun U hU => he.fr hU
    obtain ⟨b, off, rfl, -⟩ := heW.at hx
    have dy : ∀ U, Fr [] w U → U.cell? ⟨b, off + (j + 1) * 5, none⟩ = some (.string y.name) ∧ U.cell? ⟨b, off + (j + 1) * 5 + 1, none⟩ = some (.int .i64 y.node) ∧ U.cell? ⟨b, off + (j + 1) * 5 + 2, none⟩ = some (.bool y.dir) ∧ U.cell? ⟨b, off + (j + 1) * 5 + 3, none⟩ = some (.int .i64 y.cookie) ∧ U.cell? ⟨b, off + (j + 1) * 5 + 4, none⟩ = some (.int .i64 y.short) := by
      intro U hU
      obtain ⟨b', off', hb, h⟩ := (rows U hU).at hy
      cases hb
      exact h
    have dx : ∀ U, Fr [] w U → U.cell? ⟨b, off + j * 5, none⟩ = some (.string x.name) ∧ U.cell? ⟨b, off + j * 5 + 1, none⟩ = some (.int .i64 x.node) ∧ U.cell? ⟨b, off + j * 5 + 2, none⟩ = some (.bool x.dir) ∧ U.cell? ⟨b, off + j * 5 + 3, none⟩ = some (.int .i64 x.cookie) ∧ U.cell? ⟨b, off + j * 5 + 4, none⟩ = some (.int .i64 x.short) := by
      intro U hU
      obtain ⟨b', off', hb, h⟩ := (rows U hU).at hx
      cases hb
      exact h
    simp only [optW, Addr.add_lit, Int.toNat_natCast, show entersB prog 131 = true from by kernel_rfl, cond_true]
    refine ⟨fun U => Fr [] w U, hf1, ⟨by omega, by omega⟩, _, fun U hU => (dy U hU).1, _, fun U hU => (dy U hU).2.1, _, fun U hU => (dy U hU).2.2.1, _, fun U hU => (dy U hU).2.2.2.1, _, fun U hU => (dy U hU).2.2.2.2,
      ⟨by omega, by omega⟩, _, fun U hU => (dx U hU).1, _, fun U hU => (dx U hU).2.1, _, fun U hU => (dx U hU).2.2.1, _, fun U hU => (dx U hU).2.2.2.1, _, fun U hU => (dx U hU).2.2.2.2, ?_⟩
    refine Calls.mono (k_mdir1 y x _) ?_
    rintro _ W2 ⟨rfl, hf2⟩
    refine ⟨_, rfl, hf1.trans hf2, ?_⟩
    by_cases hc : IntKind.wrap .i64 (y.cookie - x.cookie) < 0
    · rw [decide_eq_true ((clamp_neg _).2 hc), cond_true]
      refine hR _ _ ⟨?_, hf1.trans hf2⟩
      have : srtB l = false := by
        cases h : srtB l with
        | false => rfl
        | true => have := (srtB_iff l).1 h j x y hx hy; omega
      rw [this]
    · rw [decide_eq_false (fun h => hc ((clamp_neg _).1 h)), cond_false]
      refine ⟨_, rfl, j + 1, by omega, by omega, by omega, hf1.trans hf2, ?_⟩
      intro k x' y' h1 h2 h3
      by_cases e : k = j
      · subst e
        rw [hx] at h2; rw [hy] at h3; cases h2; cases h3
        omega
      · exact hp k x' y' (by omega) h2 h3
  · rw [decide_eq_false (by omega), cond_false]
    refine hR _ _ ⟨?_, hf⟩
    rw [(srtB_iff l).2 (fun k x y h2 h3 => hp k x y (by omega) h2 h3)]

/-- slices.Index, of numbers -/
theorem k_IndexI (l : List Int) (v : Int) (a : Option Addr) (n c : Nat) (w : World) (he : Sli w [] 1 a n (l.map intC)) (hn : n ≤ 4194304) :
    Calls prog 186 #[.slice a n c, .int .i64 v] w fun e w' => (∃ i : Int, e = .returned (.int .i64 i) ∧ (i ≥ 0 ↔ v ∈ l)) ∧ w = w' := by
  refine c186 _ _ _ _ _ _ (withR (X := N186 _ _ _ _ _) ?_)
  intro R hR
  unfold N186
  have hlen : l.length = n := by have := he.1; simp at this; omega
  refine lp186_0 _ _ _ _ _ (fun q i W => ∃ k : Nat, i = k ∧ k ≤ n ∧ q = n - k ∧ w = W ∧ v ∉ l.take k) _ ?_ n 0 w ⟨0, rfl, by omega, by omega, rfl, by simp⟩ _
  rintro q _ ds W ⟨k, rfl, hk, rfl, rfl, hp⟩
  unfold B186_0
  by_cases hkn : k < n
  · rw [decide_eq_true (by omega), cond_true]
    obtain ⟨x, hx⟩ : ∃ x, l[k]? = some x := ⟨l[k]'(by omega), List.getElem?_eq_getElem _⟩
    obtain ⟨b, off, rfl, _, hr⟩ := he.some_of (by omega)
    have hc : w.cell? ⟨b, off + k, none⟩ = some (.int .i64 x) := by
      rw [hr.cell (by simp; omega)]; simp [hx]
    simp only [optW, Addr.add_lit, Int.toNat_natCast, Nat.mul_one]
    refine ⟨⟨by omega, by omega⟩, x, hc, ?_⟩
    by_cases e : v = x
    · subst e
      rw [beq_self_eq_true, cond_true]
      exact hR _ _ ⟨⟨_, rfl, ⟨fun _ => List.mem_of_getElem? hx, fun _ => by omega⟩⟩, rfl⟩
    · rw [beq_eq_false_iff_ne.2 e, cond_false]
      refine ⟨_, rfl, n - (k + 1), by omega, k + 1, ?_, by omega, rfl, trivial, ?_⟩
      · rw [wr (by omega) (by omega)]; simp
      · rw [take_snoc hx, List.mem_append, List.mem_singleton]
        rintro (h | h)
        · exact hp h
        · exact e h
  · rw [decide_eq_false (by omega), cond_false]
    rw [List.take_of_length_le (by omega)] at hp
    exact hR _ _ ⟨⟨_, rfl, ⟨fun h => by omega, fun h => absurd h hp⟩⟩, rfl⟩
theorem k_ContainsI (l : List Int) (v : Int) (a : Option Addr) (n c : Nat) (w : World) (he : Sli w [] 1 a n (l.map intC)) (hn : n ≤ 4194304) :
    Calls prog 161 #[.slice a n c, .int .i64 v] w fun e w' => e = .returned (.bool (decide (v ∈ l))) ∧ w = w' := by
  refine c161 _ _ _ _ _ _ (withR (X := N161 _ _ _ _ _) ?_)
  intro R hR
  unfold N161
  refine Calls.mono (k_IndexI l v a n c w he hn) ?_
  rintro _ w1 ⟨⟨i, rfl, hi⟩, rfl⟩
  refine ⟨i, rfl, hR _ _ ⟨?_, rfl⟩⟩
  rw [decide_eq_decide.2 hi]
end Go.Proofs.Tryz
