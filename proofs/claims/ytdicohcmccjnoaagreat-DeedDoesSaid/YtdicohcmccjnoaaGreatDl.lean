/- DeedDoes, of whatever deeds: true. Conditions: none. -/
import Derived.Test.YtdicohcmccjnoaaGreatDd
set_option maxRecDepth 10000
namespace Go.Proofs.Tryz
open Go Go.Eng Go.Topo

theorem k_DeedDoes (l : List Opr) (la : Option Addr) (ln lc : Nat) (w : World) (hl : Dsl w la ln l) :
    Calls prog 4 #[.slice la ln lc] w fun e w' => e = .returned (.bool true) ∧ Fr [] w w' := by
  refine c4 _ _ _ _ _ (withR (X := N4 _ _ _ _) ?_)
  intro R hR
  unfold N4
  have hln := hl.len
  refine Calls.mono (k_awake11 w) ?_
  rintro _ w1 ⟨rfl, f1⟩
  refine ⟨_, rfl, ?_⟩
  rw [Bool.not_true, cond_false]
  refine Calls.mono (k_Few11 l la ln lc 60 w1 (hl.fr f1)) ?_
  rintro _ _ ⟨⟨b, rfl, hb⟩, rfl⟩
  refine ⟨_, rfl, ?_⟩
  cases b with
  | false =>
    rw [Bool.not_false, cond_true]
    refine Calls.mono (k_awake11 w1) ?_
    rintro _ w' ⟨rfl, f⟩
    exact ⟨_, rfl, hR _ _ ⟨rfl, f1.trans f⟩⟩
  | true =>
  obtain ⟨h60, hs1⟩ := hb rfl
  have hs1 := hs1 (by omega)
  rw [Bool.not_true, cond_false]
  refine Calls.mono (k_New w1) ?_
  rintro _ w2 ⟨tb, F, rfl, hT, hF, htb, f2⟩
  refine ⟨_, rfl, ?_⟩
  refine Calls.mono (k_rNew w2) ?_
  rintro _ w3 ⟨rfl, f3⟩
  refine ⟨_, _, _, _, rfl, ?_⟩
  rintro w4 rfl
  have f4 := Fr.alloc w3 (.cells #[(.slice none 0 0), (.int .i64 0)] 29)
  have b4 := Blk.new w3 [(.slice none 0 0), (.int .i64 0)] 29
  refine set2 b4 _ _ _ (fun w5 b5 g5 => ?_)
  have f05 : Fr [] w w5 := (((f1.trans f2).trans f3).trans f4).trans' g5 (by intro i hi; simp at hi; right; rw [hi]; exact ((f1.trans f2).trans f3).1)
  have hFlt := hT.1.lt
  have hT3 : TreeAt w3 tb F [w3.heap.size] ⟨[], 1⟩ := hT.fr f3 (by simp) (by intro i hi; simp at hi; right; rw [hi]; exact f3.1)
  have hwbF : w3.heap.size ∉ F := fun hm => by have := hFlt _ hm; have := f3.1; omega
  have hT5 : TreeAt w5 tb F [w3.heap.size] ⟨[], 1⟩ := (hT3.fr0 f4).fr g5 (by intro i hi; simp at hi; subst hi; exact ⟨by simp, hwbF⟩) (fun _ hi => .inl hi)
  have hwb0 : w.heap.size ≤ w3.heap.size := ((f1.trans f2).trans f3).1
  have hF0 : ∀ i ∈ F, w.heap.size ≤ i := fun i hi => Nat.le_trans f1.1 (hF i hi)
  generalize w3.heap.size = wb at *
  clear b4 f4 hT3 f3 hT f2 f1 hFlt hF htb
  refine lp4_0 _ _ _ _ _ (fun q i W => ∃ (k : Nat) (t : RT) (F : List Nat) (a : Option Addr) (n c : Nat), i = k ∧ k ≤ ln ∧ q = ln - k ∧ TreeAt W tb F [wb] t ∧ t.next ≤ 1 + k ∧ (∀ i ∈ F, w.heap.size ≤ i) ∧ wb ∉ F ∧ Blk W wb [.slice a n c, .int .i64 t.next] ∧ Recs itE W (wb :: F) a n t.L ∧ Fr [] w W) R ?_ ln 0 w5
    ⟨0, ⟨[], 1⟩, F, none, 0, 0, rfl, by omega, by omega, hT5, by simp, hF0, hwbF, b5, Recs.nil .., f05⟩ _
  clear hT5 hwbF hF0 b5 g5 f05 F
  rintro q _ ds W ⟨k, t, F, a, n, c, rfl, hk, rfl, hT, hnx, hF, hwbF, bW, hits, fW⟩
  unfold B4_0
  by_cases hkn : k < ln
  · rw [decide_eq_true (by omega), cond_true]
    obtain ⟨o, ho⟩ : ∃ o, l[k]? = some o := ⟨l[k]'(by omega), List.getElem?_eq_getElem _⟩
    have hom := hs1 o (List.mem_of_getElem? ho)
    have hlt := hT.1.lt
    obtain ⟨ad, rfl, hc0, hc⟩ := (hl.fr fW).at ho
    simp only [optW, Int.toNat_natCast]
    refine ⟨⟨by omega, by omega⟩, _, hc0, _, hc 1 _ rfl, _, hc 2 _ rfl, _, hc 3 _ rfl, _, hc 4 _ rfl, _, hc 5 _ rfl, _, hc 6 _ rfl, ?_⟩
    have hwbW := bW.lt
    refine Calls.mono (k_deedDo hT (by intro i hi; simp at hi; omega) (by omega) o) ?_
    rintro _ W2 ⟨rfl, F2, hT2, hext, g2⟩
    refine ⟨_, _, rfl, ?_⟩
    have hF2 : ∀ i ∈ F2, w.heap.size ≤ i := fun i hi => (hext i hi).elim (hF i) (fun h => Nat.le_trans fW.1 h)
    have hwbF2 : wb ∉ F2 := fun hm => (hext _ hm).elim hwbF (fun h => by omega)
    have fW2 : Fr [] w W2 := fW.trans' g2 (fun i hi => .inr (hF i hi))
    have hits2 : Recs itE W2 (wb :: F2) a n t.L := hits.move g2 (fun i hi => List.mem_cons_of_mem _ hi) (by
      intro i hi
      rcases List.mem_cons.1 hi with e | e
      · left; simp [e]
      · rcases hext i e with h | h
        · exact .inl (List.mem_cons_of_mem _ h)
        · exact .inr h)
    have b2 : Blk W2 wb [.slice a n c, .int .i64 t.next] := bW.fr g2 hwbF
    have e1 : IntKind.wrap .i64 (((k : Nat) : Int) + 1) = ((k + 1 : Nat) : Int) := by rw [wr (by omega) (by omega)]; omega
    obtain ⟨ad', had', hc0', hc'⟩ := (hl.fr fW2).at ho
    cases had'
    refine ⟨⟨by omega, by omega⟩, _, hc0', _, hc' 1 _ rfl, _, hc' 2 _ rfl, _, hc' 3 _ rfl, _, hc' 4 _ rfl, _, hc' 5 _ rfl, _, hc' 6 _ rfl, ?_⟩
    refine Calls.mono (k_May11 o W2) ?_
    rintro _ W3 ⟨rfl, g3⟩
    refine ⟨_, rfl, ?_⟩
    have fW3 := fW2.trans g3
    have b3 := b2.fr g3 (by simp)
    cases hf : dformB o with
    | false =>
      have hdd : doDeed t o = (t, 0, 1) := by unfold doDeed; rw [hf]; rfl
      rw [hdd] at hT2 ⊢
      rw [Bool.not_false, cond_true, bne_self_eq_false, cond_false, bne_self_eq_false, cond_false]
      exact ⟨_, rfl, ln - (k + 1), by omega, k + 1, t, F2, a, n, c, e1, by omega, rfl, hT2.fr0 g3, by omega, hF2, hwbF2, b3, hits2.fr0 g3, fW3⟩
    | true =>
      have hdd : doDeed t o = t.doOp (callOf o) := by unfold doDeed; rw [hf]; rfl
      rw [hdd] at hT2 ⊢
      rw [Bool.not_true, cond_false]
      have hkind := form_kind (dformB_iff.1 hf)
      have hd := doOp_next t (callOf o)
      rintro W4 rfl
      have g4 := Fr.drew W3
      have fW4 := fW3.trans g4
      have b4 := b3.fr g4 (by simp)
      have g34 := g3.trans g4
      obtain ⟨ad', had', hc0', hc'⟩ := (hl.fr fW4).at ho
      cases had'
      have lift : ∀ {v : Value} {x : Addr}, W3.drew.cell? x = some v → ∀ U, Fr [] W3.drew U → U.cell? x = some v := fun h U hU => cell_fr hU h (by simp)
      refine ⟨fun U => Fr [] W3.drew U, Fr.refl .., _, _, _, fun U hU => (b4.fr hU (by simp)).cell 0, _, fun U hU => (b4.fr hU (by simp)).cell 1, ?_⟩
      simp only [optW, Int.toNat_natCast]
      refine ⟨⟨by omega, by omega⟩, _, lift hc0', _, lift (hc' 1 _ rfl), _, lift (hc' 2 _ rfl), _, lift (hc' 3 _ rfl), _, lift (hc' 4 _ rfl), _, lift (hc' 5 _ rfl), _, lift (hc' 6 _ rfl), ?_⟩
      have hlt2 := hT2.1.lt
      have hits4 : Recs itE W3.drew (wb :: F2) a n t.L := hits2.fr0 g34
      -- what the chapter's call gives
      have call : ∀ U (Y : List Nat), Fr [] W3.drew U → (∀ i ∈ Y, W3.drew.heap.size ≤ i ∧ i < U.heap.size) → Calls prog 17 #[.agg #[.slice a n c, .int .i64 t.next], .agg (opC (callOf o)).toArray] U fun e U' =>
          ∃ a' n' c', e = .returned (.tuple #[.agg #[.slice a' n' c', .int .i64 (t.doOp (callOf o)).1.next], .int .i64 (t.doOp (callOf o)).2.1, .int .i64 (t.doOp (callOf o)).2.2]) ∧ Recs itE U' (Y ++ wb :: F2) a' n' (t.doOp (callOf o)).1.L ∧ Fr [] U U' := by
        intro U Y hU hY
        have h1 : Recs itE W3.drew (Y ++ wb :: F2) a n t.L := hits4.ext (by
          intro i hi
          rcases List.mem_append.1 hi with e | e
          · exact .inr (hY i e).1
          · exact .inl e)
        refine k_rDo (h1.fr0 hU) (fun i hi => ?_) hT.2 (by omega) (callOf o) (by show o.name.size < _; omega) (by show o.new.size < _; omega)
        have := hU.1
        have := g34.1
        rcases List.mem_append.1 hi with e | e
        · exact (hY i e).2
        · rcases List.mem_cons.1 e with e | e
          · rw [e]; have := b4.lt; omega
          · have := hlt2 i e; omega
      -- the round's end
      have fin : ∀ V (a' : Option Addr) (n' c' : Nat), Blk V wb [.slice a' n' c', .int .i64 (t.doOp (callOf o)).1.next] → Recs itE V (wb :: F2) a' n' (t.doOp (callOf o)).1.L → Fr [wb] W3.drew V →
          cond (((t.doOp (callOf o)).2.1 : Int) != (t.doOp (callOf o)).2.1) (R (.returned (.bool false)) V) (cond (((t.doOp (callOf o)).2.2 : Int) != (t.doOp (callOf o)).2.2) (R (.returned (.bool false)) V)
            (∃ i' : Int, IntKind.wrap .i64 (((k : Nat) : Int) + 1) = i' ∧ ∃ m, m < ln - k ∧ ∃ (k' : Nat) (t : RT) (F : List Nat) (a : Option Addr) (n c : Nat), i' = k' ∧ k' ≤ ln ∧ m = ln - k' ∧ TreeAt V tb F [wb] t ∧ t.next ≤ 1 + k' ∧ (∀ i ∈ F, w.heap.size ≤ i) ∧ wb ∉ F ∧ Blk V wb [.slice a n c, .int .i64 t.next] ∧ Recs itE V (wb :: F) a n t.L ∧ Fr [] w V)) := by
        intro V a' n' c' hb hr hV
        rw [bne_self_eq_false, cond_false, bne_self_eq_false, cond_false]
        have hTV : TreeAt V tb F2 [wb] (t.doOp (callOf o)).1 := (hT2.fr0 g34).fr hV (by intro i hi; simp at hi; subst hi; exact ⟨by simp, hwbF2⟩) (fun _ hi => .inl hi)
        have fV : Fr [] w V := fW4.trans' hV (by intro i hi; simp at hi; right; rw [hi]; exact hwb0)
        exact ⟨_, rfl, ln - (k + 1), by omega, k + 1, _, F2, a', n', c', e1, by omega, rfl, hTV, by omega, hF2, hwbF2, hb, hr, fV⟩
      have hwb4 : wb < W3.drew.heap.size := b4.lt
      -- the result's box is there: behind the chapter's call
      have put : ∀ (V : World) (q : Nat) (a' : Option Addr) (n' c' : Nat), Fr [] W3.drew V → Blk V q [.slice none 0 0, .int .i64 0] → W3.drew.heap.size ≤ q → Recs itE V (q :: wb :: F2) a' n' (t.doOp (callOf o)).1.L → ∀ K : World → Prop,
          (∀ V', (∃ a' n' c', Blk V' wb [.slice a' n' c', .int .i64 (t.doOp (callOf o)).1.next] ∧ Recs itE V' (wb :: F2) a' n' (t.doOp (callOf o)).1.L) ∧ Fr [wb] W3.drew V' → K V') →
          (∃ u, V.cell? ⟨q, 0, none⟩ = some u) ∧ V.frozen? ⟨q, 0, none⟩ = false ∧ ∀ w1, w1 = V.setCell ⟨q, 0, none⟩ (.slice a' n' c') →
          (∃ u, w1.cell? ⟨q, 1, none⟩ = some u) ∧ w1.frozen? ⟨q, 1, none⟩ = false ∧ ∀ w2, w2 = w1.setCell ⟨q, 1, none⟩ (.int .i64 (t.doOp (callOf o)).1.next) →
          ∃ (ra : Option Addr) (rn rc : Nat), w2.cell? ⟨q, 0, none⟩ = some (.slice ra rn rc) ∧ ∃ (r : Int), w2.cell? ⟨q, 1, none⟩ = some (.int .i64 r) ∧
          (∃ u, w2.cell? ⟨wb, 0, none⟩ = some u) ∧ w2.frozen? ⟨wb, 0, none⟩ = false ∧ ∀ w3, w3 = w2.setCell ⟨wb, 0, none⟩ (.slice ra rn rc) →
          (∃ u, w3.cell? (Addr.add ⟨wb, 0, none⟩ 1) = some u) ∧ w3.frozen? (Addr.add ⟨wb, 0, none⟩ 1) = false ∧ ∀ w4, w4 = w3.setCell (Addr.add ⟨wb, 0, none⟩ 1) (.int .i64 r) → K w4 := by
        intro V q a' n' c' hV hq hqlt hr K hK
        simp only [Addr.add_lit, Nat.zero_add]
        refine put2 hq _ _ _ _ _ (fun V6 g6 => ?_)
        refine set2 ((b4.fr hV (by simp)).fr g6 (by simp; omega)) _ _ _ (fun V7 b7 g7 => ?_)
        refine hK V7 ⟨⟨a', n', c', b7, ?_⟩, ?_⟩
        · exact ((hr.fr (g6.mono (by simp))).ext (fun i hi => .inl (List.mem_cons_of_mem _ hi)) : Recs itE V6 (wb :: F2) a' n' _).fr (g7.mono (by simp))
        · exact (Fr.of_nil (hV.trans' g6 (by intro i hi; obtain rfl := List.mem_singleton.1 hi; exact .inr hqlt))).trans g7
      have hcb : Blk (W3.drew.alloc (.cells #[(.slice none 0 0), (.int .i64 0)] 29)) W3.drew.heap.size [.slice none 0 0, .int .i64 0] := Blk.new ..
      refine ⟨?_, ?_⟩
      · refine Calls.mono (k_Op11 o (by omega) W3.drew) ?_
        rintro _ W5 ⟨rfl, g5⟩
        refine ⟨_, _, _, _, _, _, _, rfl, g5, ?_, ?_⟩
        · refine Calls.mono (call W5 [] g5 (by simp)) ?_
          rintro _ W6 ⟨a6, n6, c6, rfl, hr6, g6⟩
          refine ⟨_, _, _, _, _, _, rfl, g5.trans g6, ?_⟩
          rintro W7 rfl
          have g7 := Fr.alloc W6 (.cells #[(.slice none 0 0), (.int .i64 0)] 29)
          have g57 := (g5.trans g6).trans g7
          refine ⟨g57, ?_⟩
          refine put _ W6.heap.size a6 n6 c6 g57 (Blk.new ..) (g5.trans g6).1 ?_ _ ?_
          · exact ((hr6.ext (by
              intro i hi
              rcases List.mem_cons.1 hi with e | e
              · right; omega
              · left; simpa using e) : Recs itE W6 (W6.heap.size :: wb :: F2) a6 n6 _)).fr0 g7
          · rintro V ⟨⟨a', n', c', hb, hr⟩, hV⟩
            simpa using fin V a' n' c' hb hr hV
        · rintro W6 rfl
          have g6 := Fr.alloc W5 (.cells #[(.slice none 0 0), (.int .i64 0)] 29)
          refine ⟨g5.trans g6, ?_⟩
          refine Calls.mono (call _ [W5.heap.size] (g5.trans g6) (by intro i hi; obtain rfl := List.mem_singleton.1 hi; exact ⟨g5.1, by rw [size_alloc]; omega⟩)) ?_
          rintro _ W7 ⟨a7, n7, c7, rfl, hr7, g7⟩
          refine ⟨_, _, _, _, _, _, rfl, (g5.trans g6).trans g7, ?_⟩
          refine put W7 W5.heap.size a7 n7 c7 ((g5.trans g6).trans g7) ((Blk.new W5 [.slice none 0 0, .int .i64 0] 29).fr g7 (by simp)) g5.1 hr7 _ ?_
          rintro V ⟨⟨a', n', c', hb, hr⟩, hV⟩
          simpa using fin V a' n' c' hb hr hV
      · rintro W5 rfl
        have g5 := Fr.alloc W3.drew (.cells #[(.slice none 0 0), (.int .i64 0)] 29)
        refine ⟨g5, ?_⟩
        refine Calls.mono (k_Op11 o (by omega) _) ?_
        rintro _ W6 ⟨rfl, g6⟩
        refine ⟨_, _, _, _, _, _, _, rfl, g5.trans g6, ?_⟩
        refine Calls.mono (call W6 [W3.drew.heap.size] (g5.trans g6) (by intro i hi; obtain rfl := List.mem_singleton.1 hi; exact ⟨Nat.le_refl _, by have := g6.1; rw [size_alloc] at this; omega⟩)) ?_
        rintro _ W7 ⟨a7, n7, c7, rfl, hr7, g7⟩
        refine ⟨_, _, _, _, _, _, rfl, (g5.trans g6).trans g7, ?_⟩
        refine put W7 W3.drew.heap.size a7 n7 c7 ((g5.trans g6).trans g7) ((hcb.fr g6 (by simp)).fr g7 (by simp)) (Nat.le_refl _) hr7 _ ?_
        rintro V ⟨⟨a', n', c', hb, hr⟩, hV⟩
        simpa using fin V a' n' c' hb hr hV
  · rw [decide_eq_false (by omega), cond_false]
    simp only [Addr.add_lit, Nat.zero_add]
    refine ⟨_, _, _, bW.cell 0, _, bW.cell 1, ?_⟩
    refine Calls.mono (k_Alike hT (hits.ext (by simp))) ?_
    rintro _ V1 ⟨rfl, h1⟩
    exact ⟨_, rfl, hR _ _ ⟨rfl, fW.trans h1⟩⟩
end Go.Proofs.Tryz
