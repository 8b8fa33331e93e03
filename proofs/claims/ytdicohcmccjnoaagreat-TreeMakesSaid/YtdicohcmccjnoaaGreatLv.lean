/- TreeMakes, of whatever calls and entries: true. Conditions: none. -/
import Derived.Test.YtdicohcmccjnoaaGreatLu
set_option maxRecDepth 10000
namespace Go.Proofs.Tryz
open Go Go.Eng Go.Topo

theorem k_TreeMakes (l : List Opr) (la : Option Addr) (ln lc : Nat) (node : Int) (ba : Option Addr) (bn bc : Nat) (bl : List Ent) (how0 how1 how2 how3 : Int) (w : World) (hl : Opsl w la ln l) (hbl : Ents w [] ba bn bl)
    (hnm : ∀ e ∈ bl, e.name.size ≤ 9223372036854775807) (h1 : 0 ≤ how1 ∧ how1 ≤ 255) :
    Calls prog 5 #[.slice la ln lc, .agg #[.int .i64 node, .slice ba bn bc], .agg #[.int .u8 how0, .int .u8 how1, .int .u8 how2, .int .u8 how3]] w fun e w' => e = .returned (.bool true) ∧ Fr [] w w' := by
  refine c5 _ _ _ _ _ _ _ _ _ _ _ _ _ (withR (X := N5 _ _ _ _ _ _ _ _ _ _ _ _) ?_)
  intro R hR
  unfold N5
  have hln := hl.len
  rintro w8 rfl
  have f8 := Fr.alloc w (.cells #[.int .i64 node, .slice ba bn bc] 51)
  have b8 := Blk.new w [.int .i64 node, .slice ba bn bc] 51
  generalize hbb : w.heap.size = bb at *
  generalize w.alloc (.cells #[.int .i64 node, .slice ba bn bc] 51) = w8 at *
  rintro w9 rfl
  have f9 := Fr.alloc w8 (.cells #[.int .u8 how0, .int .u8 how1, .int .u8 how2, .int .u8 how3] 52)
  have b9 := Blk.new w8 [.int .u8 how0, .int .u8 how1, .int .u8 how2, .int .u8 how3] 52
  have b8 := b8.fr f9 (by simp)
  have f09 := f8.trans f9
  generalize hhb : w8.heap.size = hb at *
  generalize w8.alloc (.cells #[.int .u8 how0, .int .u8 how1, .int .u8 how2, .int .u8 how3] 52) = w9 at *
  have hbb9 := b8.lt
  have hhb9 := b9.lt
  have hw0 : w.heap.size ≤ w9.heap.size := f09.1
  refine Calls.mono (k_awake10 w9) ?_
  rintro _ w1 ⟨rfl, f1⟩
  refine ⟨_, rfl, ?_⟩
  rw [Bool.not_true, cond_false]
  have stop : ∀ W, Fr [] w9 W → Calls prog 11 #[] W fun e w' => ∃ x : Bool, e = .returned (.bool x) ∧ R (.returned (.bool x)) w' := by
    intro W hW
    refine Calls.mono (k_awake10 W) ?_
    rintro _ w' ⟨rfl, f⟩
    exact ⟨_, rfl, hR _ _ ⟨rfl, (f09.trans hW).trans f⟩⟩
  refine Calls.mono (k_Few l la ln lc 60 w1 (hl.fr (f09.trans f1))) ?_
  rintro _ _ ⟨⟨b, rfl, hb'⟩, rfl⟩
  refine ⟨_, rfl, ?_⟩
  cases b with
  | false => rw [Bool.not_false, cond_true]; exact stop w1 f1
  | true =>
  obtain ⟨h60, hs1⟩ := hb' rfl
  have hs1 := hs1 (by omega)
  rw [Bool.not_true, cond_false]
  refine ⟨ba, bn, bc, (b8.fr f1 (by simp)).cell 1, ?_⟩
  refine condC (fun _ => stop w1 f1) (fun c4 => ?_)
  have hbn : bn ≤ 4 := by have := of_decide_eq_false c4; omega
  refine Calls.mono (k_New w1) ?_
  rintro _ w2 ⟨tb, F, rfl, hT, hF, htb, f2⟩
  refine ⟨_, rfl, ?_⟩
  refine Calls.mono (k_rNew w2) ?_
  rintro _ w3 ⟨rfl, f3⟩
  refine ⟨_, _, _, _, rfl, ?_⟩
  rintro w4 rfl
  have f4 := Fr.alloc w3 (.cells #[(.slice none 0 0), (.int .i64 0)] 29)
  have b4 := Blk.new w3 [(.slice none 0 0), (.int .i64 0)] 29
  refine set2 b4 _ _ _ (fun w5 b5 g5 => ?_)
  have f05 : Fr [] w9 w5 := (((f1.trans f2).trans f3).trans f4).trans' g5 (by intro i hi; simp at hi; right; rw [hi]; exact ((f1.trans f2).trans f3).1)
  have hFlt := hT.1.lt
  have hT3 : TreeAt w3 tb F [w3.heap.size] ⟨[], 1⟩ := hT.fr f3 (by simp) (by intro i hi; simp at hi; right; rw [hi]; exact f3.1)
  have hwbF : w3.heap.size ∉ F := fun hm => by have := hFlt _ hm; have := f3.1; omega
  have hT5 : TreeAt w5 tb F [w3.heap.size] ⟨[], 1⟩ := (hT3.fr0 f4).fr g5 (by intro i hi; simp at hi; subst hi; exact ⟨by simp, hwbF⟩) (fun _ hi => .inl hi)
  have hwb0 : w9.heap.size ≤ w3.heap.size := ((f1.trans f2).trans f3).1
  have hwb5 : w3.heap.size < w5.heap.size := b5.lt
  have hF0 : ∀ i ∈ F, w9.heap.size ≤ i := fun i hi => Nat.le_trans f1.1 (hF i hi)
  generalize w3.heap.size = wb at *
  clear b4 f4 hT3 f3 hT f2 f1 stop hFlt hF htb
  refine lp5_0 _ _ _ _ _ _ _ (fun q i W => ∃ (k : Nat) (t : RT) (F : List Nat) (a : Option Addr) (n c : Nat), i = k ∧ k ≤ ln ∧ q = ln - k ∧ TreeAt W tb F [wb] t ∧ t.next ≤ 1 + k ∧ (∀ i ∈ F, w9.heap.size ≤ i) ∧ wb ∉ F ∧ Blk W wb [.slice a n c, .int .i64 t.next] ∧ Recs itE W (wb :: F) a n t.L ∧ Fr [] w9 W) R ?_ ln 0 w5
    ⟨0, ⟨[], 1⟩, F, none, 0, 0, rfl, by omega, by omega, hT5, by simp, hF0, hwbF, b5, Recs.nil .., f05⟩ _
  clear hT5 hwbF hF0 b5 g5 hwb5 f05 F
  rintro q _ ds W ⟨k, t, F, a, n, c, rfl, hk, rfl, hT, hnx, hF, hwbF, bW, hits, fW⟩
  unfold B5_0
  by_cases hkn : k < ln
  · rw [decide_eq_true (by omega), cond_true]
    obtain ⟨o, ho⟩ : ∃ o, l[k]? = some o := ⟨l[k]'(by omega), List.getElem?_eq_getElem _⟩
    have hom := hs1 o (List.mem_of_getElem? ho)
    have hlt := hT.1.lt
    obtain ⟨ad, rfl, hc0, hc⟩ := (hl.fr (f09.trans fW)).at ho
    simp only [optW, Int.toNat_natCast]
    refine ⟨⟨by omega, by omega⟩, _, hc0, _, hc 1 _ rfl, _, hc 2 _ rfl, _, hc 3 _ rfl, _, hc 4 _ rfl, _, hc 5 _ rfl, _, hc 6 _ rfl, ?_⟩
    have hwbW1 : wb < W.heap.size := bW.lt
    refine Calls.mono (k_Do hT (by intro i hi; simp at hi; omega) (by omega) o) ?_
    rintro _ W2 ⟨rfl, F2, hT2, hext, g2⟩
    refine ⟨_, _, rfl, ?_⟩
    have hF2 : ∀ i ∈ F2, w9.heap.size ≤ i := fun i hi => (hext i hi).elim (hF i) (fun h => Nat.le_trans fW.1 h)
    have hwbF2 : wb ∉ F2 := fun hm => (hext _ hm).elim hwbF (fun h => by omega)
    have fW2 : Fr [] w9 W2 := fW.trans' g2 (fun i hi => .inr (hF i hi))
    have hits2 : Recs itE W2 (wb :: F2) a n t.L := hits.move g2 (fun i hi => List.mem_cons_of_mem _ hi) (by
      intro i hi
      rcases List.mem_cons.1 hi with e | e
      · left; simp [e]
      · rcases hext i e with h | h
        · exact .inl (List.mem_cons_of_mem _ h)
        · exact .inr h)
    have b2 : Blk W2 wb [.slice a n c, .int .i64 t.next] := bW.fr g2 hwbF
    have hd := doOp_next t o
    rintro W3 rfl
    have g3 := Fr.drew W2
    have b3 := b2.fr g3 (by simp)
    have fW3 := fW2.trans g3
    obtain ⟨ad', had', hc0', hc'⟩ := (hl.fr (f09.trans fW3)).at ho
    cases had'
    have lift : ∀ {v : Value} {x : Addr}, W2.drew.cell? x = some v → ∀ U, Fr [] W2.drew U → U.cell? x = some v := fun h U hU => cell_fr hU h (by simp)
    refine ⟨fun U => Fr [] W2.drew U, Fr.refl .., _, _, _, fun U hU => (b3.fr hU (by simp)).cell 0, _, fun U hU => (b3.fr hU (by simp)).cell 1, ?_⟩
    simp only [optW, Int.toNat_natCast]
    refine ⟨⟨by omega, by omega⟩, _, lift hc0', _, lift (hc' 1 _ rfl), _, lift (hc' 2 _ rfl), _, lift (hc' 3 _ rfl), _, lift (hc' 4 _ rfl), _, lift (hc' 5 _ rfl), _, lift (hc' 6 _ rfl), ?_⟩
    have hlt2 := hT2.1.lt
    have call : ∀ U (Y : List Nat), Fr [] W2.drew U → (∀ i ∈ Y, W2.drew.heap.size ≤ i ∧ i < U.heap.size) → Calls prog 17 #[.agg #[.slice a n c, .int .i64 t.next], .agg (opC o).toArray] U fun e U' =>
        ∃ a' n' c', e = .returned (.tuple #[.agg #[.slice a' n' c', .int .i64 (t.doOp o).1.next], .int .i64 (t.doOp o).2.1, .int .i64 (t.doOp o).2.2]) ∧ Recs itE U' (Y ++ wb :: F2) a' n' (t.doOp o).1.L ∧ Fr [] U U' := by
      intro U Y hU hY
      have h1 : Recs itE W2.drew (Y ++ wb :: F2) a n t.L := (hits2.fr0 g3).ext (by
        intro i hi
        rcases List.mem_append.1 hi with e | e
        · exact .inr (hY i e).1
        · exact .inl e)
      refine k_rDo (h1.fr0 hU) (fun i hi => ?_) hT.2 (by omega) o (by omega) (by omega)
      have := hU.1
      have := g3.1
      rcases List.mem_append.1 hi with e | e
      · exact (hY i e).2
      · rcases List.mem_cons.1 e with e | e
        · rw [e]; have := b3.lt; omega
        · have := hlt2 i e; omega
    have fin : ∀ V (a' : Option Addr) (n' c' : Nat), Blk V wb [.slice a' n' c', .int .i64 (t.doOp o).1.next] → Recs itE V (wb :: F2) a' n' (t.doOp o).1.L → Fr [wb] W2 V →
        ∃ m, m < ln - k ∧ ∃ (k' : Nat) (t : RT) (F : List Nat) (a : Option Addr) (n c : Nat), IntKind.wrap .i64 (((k : Nat) : Int) + 1) = k' ∧ k' ≤ ln ∧ m = ln - k' ∧ TreeAt V tb F [wb] t ∧ t.next ≤ 1 + k' ∧ (∀ i ∈ F, w9.heap.size ≤ i) ∧ wb ∉ F ∧ Blk V wb [.slice a n c, .int .i64 t.next] ∧ Recs itE V (wb :: F) a n t.L ∧ Fr [] w9 V := by
      intro V a' n' c' hb hr hV
      have hTV : TreeAt V tb F2 [wb] (t.doOp o).1 := hT2.fr hV (by intro i hi; simp at hi; subst hi; exact ⟨by simp, hwbF2⟩) (fun _ hi => .inl hi)
      have fV : Fr [] w9 V := fW2.trans' hV (by intro i hi; simp at hi; right; rw [hi]; exact hwb0)
      have e1 : IntKind.wrap .i64 (((k : Nat) : Int) + 1) = ((k + 1 : Nat) : Int) := by rw [wr (by omega) (by omega)]; omega
      exact ⟨ln - (k + 1), by omega, k + 1, _, F2, a', n', c', e1, by omega, rfl, hTV, by omega, hF2, hwbF2, hb, hr, fV⟩
    refine ⟨?_, ?_⟩
    · refine Calls.mono (call _ [] (Fr.refl ..) (by simp)) ?_
      rintro _ W4 ⟨a4, n4, c4, rfl, hr4, g4⟩
      refine ⟨_, _, _, _, _, _, rfl, g4, ?_⟩
      rintro W5 rfl
      have g5 := Fr.alloc W4 (.cells #[(.slice none 0 0), (.int .i64 0)] 29)
      have b5 := Blk.new W4 [(.slice none 0 0), (.int .i64 0)] 29
      refine ⟨g4.trans g5, ?_⟩
      have hwb4 : wb < W4.heap.size := Nat.lt_of_lt_of_le b3.lt g4.1
      refine put2 b5 _ _ _ _ _ (fun W6 g6 => ?_)
      have g46 : Fr [] W4 W6 := g5.trans' g6 (by intro i hi; simp at hi; right; omega)
      refine set2 ((b3.fr g4 (by simp)).fr g46 (by simp)) _ _ _ (fun W7 b7 g7 => ?_)
      exact ⟨_, rfl, fin W7 a4 n4 c4 b7 ((hr4.fr0 g46).fr (g7.mono (by simp))) ((Fr.of_nil ((g3.trans g4).trans g46)).trans g7)⟩
    · rintro W5 rfl
      have g5 := Fr.alloc W2.drew (.cells #[(.slice none 0 0), (.int .i64 0)] 29)
      have b5 := Blk.new W2.drew [(.slice none 0 0), (.int .i64 0)] 29
      refine ⟨g5, ?_⟩
      refine Calls.mono (call _ [W2.drew.heap.size] g5 (by intro i hi; obtain rfl := List.mem_singleton.1 hi; exact ⟨Nat.le_refl _, by rw [size_alloc]; omega⟩)) ?_
      rintro _ W4 ⟨a4, n4, c4, rfl, hr4, g4⟩
      refine ⟨_, _, _, _, _, _, rfl, g5.trans g4, ?_⟩
      refine put2 (b5.fr g4 (by simp)) _ _ _ _ _ (fun W6 g6 => ?_)
      have hwb3 := b3.lt
      have g56 : Fr [] W2.drew W6 := (g5.trans g4).trans' g6 (by intro i hi; obtain rfl := List.mem_singleton.1 hi; exact .inr (Nat.le_refl _))
      refine set2 (b3.fr g56 (by simp)) _ _ _ (fun W7 b7 g7 => ?_)
      have hr6 : Recs itE W6 (wb :: F2) a4 n4 (t.doOp o).1.L := (hr4.fr (g6.mono (by simp))).ext (fun i hi => .inl (List.mem_append_right _ hi))
      exact ⟨_, rfl, fin W7 a4 n4 c4 b7 (hr6.fr (g7.mono (by simp))) ((Fr.of_nil (g3.trans g56)).trans g7)⟩
  · rw [decide_eq_false (by omega), cond_false]
    rintro W1 rfl
    have f1 := Fr.alloc W (.map #[] 0)
    have m1 := IMap.new W
    have hlt := hT.1.lt
    have hT1 : TreeAt (W.alloc (.map #[] 0)) tb F [W.heap.size] t := hT.fr f1 (by simp) (by intro i hi; simp at hi; right; omega)
    have hs1 := size_alloc W (.map #[] 0)
    generalize W.alloc (.map #[] 0) = W1 at *
    generalize hmb : W.heap.size = mb at *
    refine Calls.mono (k_Dirs hT1) ?_
    rintro _ W2 ⟨da, dn, dc, rfl, hdo, f2⟩
    refine ⟨da, dn, dc, rfl, ?_⟩
    have hdB := Own.blk hdo
    have f9W := fW.1
    refine tm_made hR (((f09.trans fW).trans f1).trans f2) (hT1.fr0 f2) (by omega) (m1.fr f2 (by simp)) (((b8.fr fW (by simp)).fr f1 (by simp)).fr f2 (by simp)) (((b9.fr fW (by simp)).fr f1 (by simp)).fr f2 (by simp)) h1 hbl hbn hnm hdo ?_ _
    refine ⟨fun hm => by have := hlt _ hm; omega, by omega, by omega, fun hm => by have := (hdB _ hm).1; omega, fun hm => by have := hF _ hm; omega, fun hm => by have := hF _ hm; omega, fun i hi hm => by have := hlt i hi; have := (hdB _ hm).1; omega, fun i hi => by have := hF i hi; omega, by omega⟩
end Go.Proofs.Tryz
