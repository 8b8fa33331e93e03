/- TreeClones, of whatever calls: true. Conditions: none. -/
import Derived.Test.YtdicohcmccjnoaaGreatAk
import Derived.Test.YtdicohcmccjnoaaGreatFc
set_option maxRecDepth 10000
namespace Go.Proofs.Tryz
open Go Go.Eng Go.Topo

theorem k_TreeClones (l more : List Opr) (la ma : Option Addr) (ln lc mn mc : Nat) (w : World) (hl : Opsl w la ln l) (hm : Opsl w ma mn more) :
    Calls prog 3 #[.slice la ln lc, .slice ma mn mc] w fun e w' => e = .returned (.bool true) ∧ Fr [] w w' := by
  refine c3 _ _ _ _ _ _ _ _ (withR (X := N3 _ _ _ _ _ _ _) ?_)
  intro R hR
  unfold N3
  have hln := hl.len
  have hmn := hm.len
  refine Calls.mono (k_awake10 w) ?_
  rintro _ w1 ⟨rfl, f1⟩
  refine ⟨_, rfl, ?_⟩
  rw [Bool.not_true, cond_false]
  have stop : ∀ W, Fr [] w W → Calls prog 11 #[] W fun e w' => ∃ x : Bool, e = .returned (.bool x) ∧ R (.returned (.bool x)) w' := by
    intro W hW
    refine Calls.mono (k_awake10 W) ?_
    rintro _ w' ⟨rfl, f⟩
    exact ⟨_, rfl, hR _ _ ⟨rfl, hW.trans f⟩⟩
  refine Calls.mono (k_Few l la ln lc 60 w1 (hl.fr f1)) ?_
  rintro _ _ ⟨⟨b, rfl, hb⟩, rfl⟩
  refine ⟨_, rfl, ?_⟩
  cases b with
  | false => rw [Bool.not_false, cond_true]; exact stop w1 f1
  | true =>
  obtain ⟨h60, hs1⟩ := hb rfl
  have hs1 := hs1 (by omega)
  rw [Bool.not_true, cond_false]
  refine Calls.mono (k_Few more ma mn mc 20 w1 (hm.fr f1)) ?_
  rintro _ _ ⟨⟨b, rfl, hb⟩, rfl⟩
  refine ⟨_, rfl, ?_⟩
  cases b with
  | false => rw [Bool.not_false, cond_true]; exact stop w1 f1
  | true =>
  obtain ⟨h20, hs2⟩ := hb rfl
  have hs2 := hs2 (by omega)
  rw [Bool.not_true, cond_false]
  refine Calls.mono (k_New w1) ?_
  rintro _ w2 ⟨tb, F, rfl, hT, hF, htb, f2⟩
  refine ⟨_, rfl, ?_⟩
  refine Calls.mono (k_rNew w2) ?_
  rintro _ w3 ⟨rfl, f3⟩
  refine ⟨_, _, _, _, rfl, ?_⟩
  rintro w4 rfl
  have f4 := Fr.alloc w3 (.cells #[(.slice none 0 0), (.int .i64 0)] 29)
  have b4 := Blk.new w3 [(.slice none 0 0), (.int .i64 0)] 29
  refine set2 b4 _ _ _ (fun w5 b5 g5 => ?_)
  have f05 : Fr [] w w5 := (((f1.trans f2).trans f3).trans f4).trans' g5 (by intro i hi; simp at hi; right; rw [hi]; exact ((f1.trans f2).trans f3).1)
  have hFlt := hT.1.lt
  have hT3 : TreeAt w3 tb F [w3.heap.size] ⟨[], 1⟩ := hT.fr f3 (by simp) (by intro i hi; simp at hi; right; rw [hi]; exact f3.1)
  have hwbF : w3.heap.size ∉ F := fun hm => by have := hFlt _ hm; have := f3.1; omega
  have hT5 : TreeAt w5 tb F [w3.heap.size] ⟨[], 1⟩ := (hT3.fr0 f4).fr g5 (by intro i hi; simp at hi; subst hi; exact ⟨by simp, hwbF⟩) (fun _ hi => .inl hi)
  have hwb0 : w.heap.size ≤ w3.heap.size := ((f1.trans f2).trans f3).1
  have hwb5 : w3.heap.size < w5.heap.size := b5.lt
  have hF0 : ∀ i ∈ F, w.heap.size ≤ i := fun i hi => Nat.le_trans f1.1 (hF i hi)
  generalize w3.heap.size = wb at *
  clear b4 f4 hT3 f3 hT f2 f1 stop hFlt hF htb
  refine lp3_0 _ _ _ _ _ _ _ _ (fun q i W => ∃ (k : Nat) (t : RT) (F : List Nat) (a : Option Addr) (n c : Nat), i = k ∧ k ≤ ln ∧ q = ln - k ∧ TreeAt W tb F [wb] t ∧ t.next ≤ 1 + k ∧ (∀ i ∈ F, w.heap.size ≤ i) ∧ wb ∉ F ∧ Blk W wb [.slice a n c, .int .i64 t.next] ∧ Recs itE W (wb :: F) a n t.L ∧ Fr [] w W) R ?_ ln 0 w5
    ⟨0, ⟨[], 1⟩, F, none, 0, 0, rfl, by omega, by omega, hT5, by simp, hF0, hwbF, b5, Recs.nil .., f05⟩ _
  clear hT5 hwbF hF0 b5 g5 hwb5 f05 F
  rintro q _ ds W ⟨k, t, F, a, n, c, rfl, hk, rfl, hT, hnx, hF, hwbF, bW, hits, fW⟩
  unfold B3_0
  by_cases hkn : k < ln
  · rw [decide_eq_true (by omega), cond_true]
    obtain ⟨o, ho⟩ : ∃ o, l[k]? = some o := ⟨l[k]'(by omega), List.getElem?_eq_getElem _⟩
    have hom := hs1 o (List.mem_of_getElem? ho)
    refine Calls.mono (k_tClone hT) ?_
    rintro _ W1 ⟨tb', F', rfl, hC, hF', htb', g1⟩
    refine ⟨_, rfl, ?_⟩
    have hT1 := hT.fr0 g1
    have fW1 := fW.trans g1
    have hlt := hT.1.lt
    have hC1 := hC (wb :: F) (by
      intro i hi
      rcases List.mem_cons.1 hi with e | e
      · rw [e]; exact bW.lt
      · exact hlt i e)
    obtain ⟨ad, rfl, hc0, hc⟩ := (hl.fr fW1).at ho
    simp only [optW, Int.toNat_natCast]
    refine ⟨⟨by omega, by omega⟩, _, hc0, _, hc 1 _ rfl, _, hc 2 _ rfl, _, hc 3 _ rfl, _, hc 4 _ rfl, _, hc 5 _ rfl, _, hc 6 _ rfl, ?_⟩
    have hwbW1 : wb < W1.heap.size := Nat.lt_of_lt_of_le bW.lt g1.1
    refine Calls.mono (k_Do hT1 (by intro i hi; simp at hi; omega) (by omega) o) ?_
    rintro _ W2 ⟨rfl, F2, hT2, hext, g2⟩
    refine ⟨_, _, rfl, ?_⟩
    have hF2 : ∀ i ∈ F2, w.heap.size ≤ i := fun i hi => (hext i hi).elim (hF i) (fun h => Nat.le_trans fW1.1 h)
    have hwbF2 : wb ∉ F2 := fun hm => (hext _ hm).elim hwbF (fun h => by omega)
    have fW2 : Fr [] w W2 := fW1.trans' g2 (fun i hi => .inr (hF i hi))
    have hC2 : TreeAt W2 tb' F' [wb] t := hC1.fr g2 (fun i hi => ⟨List.mem_cons_of_mem _ hi, fun hm => by have := hF' i hm; have := hlt i hi; omega⟩) (by intro i hi; simp at hi; left; simp [hi])
    have hits2 : Recs itE W2 (wb :: F2) a n t.L := ((hits.fr0 g1).move g2 (fun i hi => List.mem_cons_of_mem _ hi) (by
      intro i hi
      rcases List.mem_cons.1 hi with e | e
      · left; simp [e]
      · rcases hext i e with h | h
        · exact .inl (List.mem_cons_of_mem _ h)
        · exact .inr h))
    have b2 : Blk W2 wb [.slice a n c, .int .i64 t.next] := (bW.fr g1 (by simp)).fr g2 hwbF
    have hd := doOp_next t o
    have herr := doOp_err t o
    have htb'F : ∀ i ∈ F', i ≠ wb := fun i hi e => by have := hF' i hi; have := bW.lt; omega
    rintro W3 rfl
    have g3 := Fr.drew W2
    have b3 := b2.fr g3 (by simp)
    have fW3 := fW2.trans g3
    obtain ⟨ad', had', hc0', hc'⟩ := (hl.fr fW3).at ho
    cases had'
    have lift : ∀ {v : Value} {x : Addr}, W2.drew.cell? x = some v → ∀ U, Fr [] W2.drew U → U.cell? x = some v := fun h U hU => cell_fr hU h (by simp)
    refine ⟨fun U => Fr [] W2.drew U, Fr.refl .., _, _, _, fun U hU => (b3.fr hU (by simp)).cell 0, _, fun U hU => (b3.fr hU (by simp)).cell 1, ?_⟩
    simp only [optW, Int.toNat_natCast]
    refine ⟨⟨by omega, by omega⟩, _, lift hc0', _, lift (hc' 1 _ rfl), _, lift (hc' 2 _ rfl), _, lift (hc' 3 _ rfl), _, lift (hc' 4 _ rfl), _, lift (hc' 5 _ rfl), _, lift (hc' 6 _ rfl), ?_⟩
    have hlt2 := hT2.1.lt
    -- what the chapter's call gives
    have call : ∀ U (Y : List Nat), Fr [] W2.drew U → (∀ i ∈ Y, W2.drew.heap.size ≤ i ∧ i < U.heap.size) → Calls prog 17 #[.agg #[.slice a n c, .int .i64 t.next], .agg (opC o).toArray] U fun e U' =>
        ∃ a' n' c', e = .returned (.tuple #[.agg #[.slice a' n' c', .int .i64 (t.doOp o).1.next], .int .i64 (t.doOp o).2.1, .int .i64 (t.doOp o).2.2]) ∧ Recs itE U' (Y ++ wb :: F2) a' n' (t.doOp o).1.L ∧ Fr [] U U' := by
      intro U Y hU hY
      have h1 : Recs itE W2.drew (Y ++ wb :: F2) a n t.L := (hits2.fr0 g3).ext (by
        intro i hi
        rcases List.mem_append.1 hi with e | e
        · exact .inr (hY i e).1
        · exact .inl e)
      refine k_rDo (h1.fr0 hU) (fun i hi => ?_) hT.2 (by omega) o (by omega) (by omega)
      have := hU.1
      have := g3.1
      rcases List.mem_append.1 hi with e | e
      · exact (hY i e).2
      · rcases List.mem_cons.1 e with e | e
        · rw [e]; have := b3.lt; omega
        · have := hlt2 i e; omega
    -- the round's end
    have fin : ∀ V (a' : Option Addr) (n' c' : Nat), Blk V wb [.slice a' n' c', .int .i64 (t.doOp o).1.next] → Recs itE V (wb :: F2) a' n' (t.doOp o).1.L → Fr [wb] W2 V →
        cond ((some (⟨tb', 0, none⟩ : Addr)).isNone) (R (.returned (.bool false)) V) (cond (((t.doOp o).2.2 : Int) != (0)) (Calls prog 18 #[.pointer (some ⟨tb, 0, none⟩), .pointer (some ⟨tb', 0, none⟩)] V fun e V' => ∃ b : Bool, e = .returned (.bool b) ∧ cond (!b) (R (.returned (.bool false)) V')
          (∃ i' : Int, IntKind.wrap .i64 (((k : Nat) : Int) + 1) = i' ∧ ∃ m, m < ln - k ∧ ∃ (k' : Nat) (t : RT) (F : List Nat) (a : Option Addr) (n c : Nat), i' = k' ∧ k' ≤ ln ∧ m = ln - k' ∧ TreeAt V' tb F [wb] t ∧ t.next ≤ 1 + k' ∧ (∀ i ∈ F, w.heap.size ≤ i) ∧ wb ∉ F ∧ Blk V' wb [.slice a n c, .int .i64 t.next] ∧ Recs itE V' (wb :: F) a n t.L ∧ Fr [] w V'))
          (∃ i' : Int, IntKind.wrap .i64 (((k : Nat) : Int) + 1) = i' ∧ ∃ m, m < ln - k ∧ ∃ (k' : Nat) (t : RT) (F : List Nat) (a : Option Addr) (n c : Nat), i' = k' ∧ k' ≤ ln ∧ m = ln - k' ∧ TreeAt V tb F [wb] t ∧ t.next ≤ 1 + k' ∧ (∀ i ∈ F, w.heap.size ≤ i) ∧ wb ∉ F ∧ Blk V wb [.slice a n c, .int .i64 t.next] ∧ Recs itE V (wb :: F) a n t.L ∧ Fr [] w V)) := by
      intro V a' n' c' hb hr hV
      rw [show ((some (⟨tb', 0, none⟩ : Addr)).isNone) = false from rfl, cond_false]
      have hTV : TreeAt V tb F2 [wb] (t.doOp o).1 := hT2.fr hV (by intro i hi; simp at hi; subst hi; exact ⟨by simp, hwbF2⟩) (fun _ hi => .inl hi)
      have fV : Fr [] w V := fW2.trans' hV (by intro i hi; simp at hi; right; rw [hi]; exact hwb0)
      have e1 : IntKind.wrap .i64 (((k : Nat) : Int) + 1) = ((k + 1 : Nat) : Int) := by rw [wr (by omega) (by omega)]; omega
      by_cases he : (t.doOp o).2.2 = 0
      · rw [he, bne_self_eq_false, cond_false]
        exact ⟨_, rfl, ln - (k + 1), by omega, k + 1, _, F2, a', n', c', e1, by omega, rfl, hTV, by omega, hF2, hwbF2, hb, hr, fV⟩
      · rw [bne_iff_ne.2 he, cond_true]
        have hCV : TreeAt V tb' F' [wb] t := hC2.fr hV (by intro i hi; simp at hi; subst hi; exact ⟨by simp, fun hm => htb'F _ hm rfl⟩) (fun _ hi => .inl hi)
        have heq := herr he
        refine Calls.mono (k_tSame hTV hCV (by rw [heq]) (fun n => by rw [heq])) ?_
        rintro _ V' ⟨rfl, g⟩
        refine ⟨_, rfl, ?_⟩
        rw [Bool.not_true, cond_false]
        exact ⟨_, rfl, ln - (k + 1), by omega, k + 1, _, F2, a', n', c', e1, by omega, rfl, hTV.fr0 g, by omega, hF2, hwbF2, hb.fr g (by simp), hr.fr0 g, fV.trans g⟩
    refine ⟨?_, ?_⟩
    · refine Calls.mono (call _ [] (Fr.refl ..) (by simp)) ?_
      rintro _ W4 ⟨a4, n4, c4, rfl, hr4, g4⟩
      refine ⟨_, _, _, _, _, _, rfl, g4, ?_⟩
      rintro W5 rfl
      have g5 := Fr.alloc W4 (.cells #[(.slice none 0 0), (.int .i64 0)] 29)
      have b5 := Blk.new W4 [(.slice none 0 0), (.int .i64 0)] 29
      refine ⟨g4.trans g5, ?_⟩
      have hwb4 : wb < W4.heap.size := Nat.lt_of_lt_of_le b3.lt g4.1
      refine put2 b5 _ _ _ _ _ (fun W6 g6 => ?_)
      have g46 : Fr [] W4 W6 := g5.trans' g6 (by intro i hi; simp at hi; right; omega)
      refine set2 ((b3.fr g4 (by simp)).fr g46 (by simp)) _ _ _ (fun W7 b7 g7 => ?_)
      have := fin W7 a4 n4 c4 b7 ((hr4.fr0 g46).fr (g7.mono (by simp))) ((Fr.of_nil ((g3.trans g4).trans g46)).trans g7)
      simpa using this
    · rintro W5 rfl
      have g5 := Fr.alloc W2.drew (.cells #[(.slice none 0 0), (.int .i64 0)] 29)
      have b5 := Blk.new W2.drew [(.slice none 0 0), (.int .i64 0)] 29
      refine ⟨g5, ?_⟩
      refine Calls.mono (call _ [W2.drew.heap.size] g5 (by intro i hi; obtain rfl := List.mem_singleton.1 hi; exact ⟨Nat.le_refl _, by rw [size_alloc]; omega⟩)) ?_
      rintro _ W4 ⟨a4, n4, c4, rfl, hr4, g4⟩
      refine ⟨_, _, _, _, _, _, rfl, g5.trans g4, ?_⟩
      refine put2 (b5.fr g4 (by simp)) _ _ _ _ _ (fun W6 g6 => ?_)
      have hwb3 := b3.lt
      have g56 : Fr [] W2.drew W6 := (g5.trans g4).trans' g6 (by intro i hi; obtain rfl := List.mem_singleton.1 hi; exact .inr (Nat.le_refl _))
      refine set2 (b3.fr g56 (by simp)) _ _ _ (fun W7 b7 g7 => ?_)
      have hr6 : Recs itE W6 (wb :: F2) a4 n4 (t.doOp o).1.L := (hr4.fr (g6.mono (by simp))).ext (fun i hi => .inl (List.mem_append_right _ hi))
      have := fin W7 a4 n4 c4 b7 (hr6.fr (g7.mono (by simp))) ((Fr.of_nil (g3.trans g56)).trans g7)
      simpa using this
  · rw [decide_eq_false (by omega), cond_false]
    refine Calls.mono (k_tClone hT) ?_
    rintro _ W1 ⟨tc, Fc, rfl, hC, hFc, htc, g1⟩
    refine ⟨_, rfl, ?_⟩
    have hT1 := hT.fr0 g1
    have fW1 := fW.trans g1
    have hlt := hT.1.lt
    have hC1 := hC (wb :: F) (by
      intro i hi
      rcases List.mem_cons.1 hi with e | e
      · rw [e]; exact bW.lt
      · exact hlt i e)
    have hwbW := bW.lt
    -- the clone goes on by itself
    refine lp3_1 _ _ _ _ _ _ (fun q i V => ∃ (j : Nat) (tc' : RT) (Fc : List Nat), i = j ∧ j ≤ mn ∧ q = mn - j ∧ TreeAt V tc Fc (wb :: F) tc' ∧ tc'.next ≤ 1 + k + j ∧ (∀ i ∈ Fc, W.heap.size ≤ i) ∧ Fr [] W V) R ?_ mn 0 W1
      ⟨0, t, Fc, rfl, by omega, by omega, hC1, by omega, hFc, g1⟩ _
    clear hC hC1 hFc htc
    rintro q _ ds V ⟨j, tc', Fc, rfl, hj, rfl, hC, hcn, hFc, gV⟩
    unfold B3_1
    have fV := fW.trans gV
    by_cases hjn : j < mn
    · rw [decide_eq_true (by omega), cond_true]
      obtain ⟨o, ho⟩ : ∃ o, more[j]? = some o := ⟨more[j]'(by omega), List.getElem?_eq_getElem _⟩
      obtain ⟨ad, rfl, hc0, hc⟩ := (hm.fr fV).at ho
      simp only [optW, Int.toNat_natCast]
      refine ⟨⟨by omega, by omega⟩, _, hc0, _, hc 1 _ rfl, _, hc 2 _ rfl, _, hc 3 _ rfl, _, hc 4 _ rfl, _, hc 5 _ rfl, _, hc 6 _ rfl, ?_⟩
      refine Calls.mono (k_Do hC (by
        intro i hi
        have := gV.1
        rcases List.mem_cons.1 hi with e | e
        · omega
        · have := hlt i e; omega) (by omega) o) ?_
      rintro _ V2 ⟨rfl, Fc2, hC2, hext, g2⟩
      have hd := doOp_next tc' o
      refine ⟨_, _, rfl, _, rfl, mn - (j + 1), by omega, j + 1, (tc'.doOp o).1, Fc2, ?_, by omega, rfl, hC2, by omega, ?_, gV.trans' g2 (fun i hi => .inr (hFc i hi))⟩
      · rw [wr (by omega) (by omega)]; simp
      · intro i hi
        rcases hext i hi with h' | h'
        · exact hFc i h'
        · exact Nat.le_trans gV.1 h'
    · rw [decide_eq_false (by omega), cond_false]
      have bV := bW.fr gV (by simp)
      simp only [Addr.add_lit, Nat.zero_add]
      refine ⟨_, _, _, bV.cell 0, _, bV.cell 1, ?_⟩
      refine Calls.mono (k_Alike (hT.fr0 gV) ((hits.fr0 gV).ext (by simp))) ?_
      rintro _ V1 ⟨rfl, h1⟩
      refine ⟨_, rfl, ?_⟩
      rw [cond_true]
      have gV1 := gV.trans h1
      refine Calls.mono (k_tClone (hT.fr0 gV1)) ?_
      rintro _ V2 ⟨t2, F2, rfl, hC2, _, _, h2⟩
      refine ⟨_, rfl, ?_⟩
      refine Calls.mono (k_tSame (hT.fr0 (gV1.trans h2)) (hC2 [] (by simp)) rfl (fun _ => rfl)) ?_
      rintro _ V3 ⟨rfl, h3⟩
      exact ⟨_, rfl, hR _ _ ⟨rfl, ((fW.trans gV1).trans h2).trans h3⟩⟩
end Go.Proofs.Tryz
