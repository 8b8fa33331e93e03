/- CursorReads, of whatever calls, cursor and size: true. Conditions: none. -/
import Derived.Test.YtmnhbjoamnjppaaDo
namespace Go.Proofs.Try
open Go Go.Eng Go.Topo

/-- awake -/
theorem k_awake (w : World) : Calls prog 4 #[] w fun e w' => e = .returned (.bool true) ∧ Fr [] w w' := by
  refine c4 _ _ (withR (X := N4 _) ?_)
  intro R hR
  unfold N4
  rintro w1 rfl
  let l : List Ent := [⟨⟨#[]⟩, 0, false, 2, 0⟩, ⟨⟨#[]⟩, 0, false, 5, 0⟩]
  have f1 := Fr.alloc w (.cells (flat l).toArray 43)
  have he : Ents (w.alloc (.cells (flat l).toArray 43)) [] (some ⟨w.heap.size, 0, none⟩) 2 l := ⟨rfl, .inr ⟨w.heap.size, 0, rfl, by simp, (Blk.new w (flat l) 43).row⟩⟩
  have hr : Rising l := by simp [Rising, l]
  refine Calls.mono (k_cRead l hr _ 2 2 (by omega) 2 1 _ he (by omega)) ?_
  rintro _ w2 ⟨a', c', rfl, ho, f2⟩
  have e1 : (rOut l 2 1).length = 1 := rfl
  have e2 : rCur l 2 1 = 5 := rfl
  have e3 : readErr 2 1 = 0 := rfl
  rw [e1, e2, e3]
  refine ⟨_, _, _, _, _, rfl, ?_⟩
  rw [show ((0 : Int) == 0) = true from rfl, cond_true, show ((5 : Int) == 5) = true from rfl, cond_true, show (((1 : Nat) : Int) == 1) = true from rfl, cond_true]
  refine Calls.mono (k_Valid 0 w2) ?_
  rintro _ _ ⟨rfl, rfl⟩
  exact ⟨_, rfl, hR _ _ ⟨rfl, f1.trans f2⟩⟩

/-- CursorReads -/
theorem k_CursorReads (l : List Opr) (a : Option Addr) (n cc : Nat) (c nv : Int) (w : World) (he : Opsl w a n l) :
    Calls prog 3 #[.slice a n cc, .int .i64 c, .int .i64 nv] w fun e w' => e = .returned (.bool true) ∧ Fr [] w w' := by
  refine c3 _ _ _ _ _ _ _ (withR (X := N3 _ _ _ _ _ _) ?_)
  intro R hR
  unfold N3
  have hlen := he.len
  refine Calls.mono (k_awake w) ?_
  rintro _ w1 ⟨rfl, f1⟩
  refine ⟨_, rfl, ?_⟩
  rw [Bool.not_true, cond_false]
  refine Calls.mono (k_Few l a n cc 60 w1 (he.fr f1)) ?_
  rintro _ _ ⟨⟨b, rfl, hb⟩, rfl⟩
  refine ⟨_, rfl, ?_⟩
  cases b with
  | false =>
    rw [Bool.not_false, cond_true]
    refine Calls.mono (k_awake w1) ?_
    rintro _ w2 ⟨rfl, f2⟩
    exact ⟨_, rfl, hR _ _ ⟨rfl, f1.trans f2⟩⟩
  | true =>
    have h60 : (n : Int) ≤ 60 := hb rfl
    rw [Bool.not_true, cond_false]
    refine Calls.mono (k_New w1) ?_
    rintro _ w2 ⟨tb, F, rfl, hT, hF, _, f2⟩
    refine ⟨_, rfl, ?_⟩
    have f02 := f1.trans f2
    have hF0 : ∀ i ∈ F, w.heap.size ≤ i := fun i hi => Nat.le_trans f1.1 (hF i hi)
    -- the calls, one by one
    refine lp3_0 _ _ _ _ _ _ (fun q i W => ∃ (k : Nat) (t : RT) (F : List Nat), i = k ∧ k ≤ n ∧ q = n - k ∧ TreeAt W tb F [] t ∧ t.next ≤ 1 + k ∧ (∀ i ∈ F, w.heap.size ≤ i) ∧ Fr [] w W) _ ?_ n 0 w2
      ⟨0, ⟨[], 1⟩, F, rfl, by omega, by omega, hT, by simp, hF0, f02⟩ _
    rintro q _ ds W ⟨k, t, F, rfl, hk, rfl, hT, hnx, hF, hf⟩
    unfold B3_0
    by_cases hkn : k < n
    · rw [decide_eq_true (by omega), cond_true]
      obtain ⟨o, ho⟩ : ∃ o, l[k]? = some o := ⟨l[k]'(by omega), List.getElem?_eq_getElem _⟩
      obtain ⟨ad, rfl, hc0, hc⟩ := (he.fr hf).at ho
      simp only [optW, Int.toNat_natCast]
      refine ⟨⟨by omega, by omega⟩, _, hc0, _, hc 1 _ rfl, _, hc 2 _ rfl, _, hc 3 _ rfl, _, hc 4 _ rfl, _, hc 5 _ rfl, _, hc 6 _ rfl, ?_⟩
      refine Calls.mono (k_Do hT (by simp) (by omega) o) ?_
      rintro _ W2 ⟨rfl, F2, hT2, hext, fW⟩
      have hd := doOp_next t o
      refine ⟨_, _, rfl, _, rfl, n - (k + 1), by omega, k + 1, (t.doOp o).1, F2, ?_, by omega, rfl, hT2, by omega, ?_, hf.trans' fW (fun i hi => .inr (hF i hi))⟩
      · rw [wr (by omega) (by omega)]; simp
      · intro i hi
        rcases hext i hi with h' | h'
        · exact hF i h'
        · exact Nat.le_trans hf.1 h'
    · rw [decide_eq_false (by omega), cond_false]
      refine Calls.mono (k_Dirs hT) ?_
      rintro _ W2 ⟨da, dn, dc, dl, rfl, hds, hdn, f3⟩
      refine ⟨_, _, _, rfl, ?_⟩
      have hT2 := hT.fr0 f3
      have hf2 := hf.trans f3
      have hdl := hds.len
      -- the directories, one by one
      refine lp3_1 _ _ _ _ _ _ (fun q i V => ∃ j : Nat, i = j ∧ j ≤ dn ∧ q = dn - j ∧ Fr [] W2 V) _ ?_ dn 0 W2 ⟨0, rfl, by omega, by omega, Fr.refl ..⟩ _
      rintro q _ ds V ⟨j, rfl, hj, rfl, hV⟩
      unfold B3_1
      by_cases hjn : j < dn
      · rw [decide_eq_true (by omega), cond_true]
        obtain ⟨bd, rfl, hcd⟩ := (hds.fr hV (by simp)).at hjn
        simp only [optW, Addr.add_lit, Int.toNat_natCast, Nat.mul_one, Nat.zero_add]
        refine ⟨⟨by omega, by omega⟩, _, hcd, ?_⟩
        refine Calls.mono (k_tList (hT2.fr0 hV) (nth dl j)) ?_
        rintro _ V1 ⟨la, lc, rfl, hol, g1⟩
        refine ⟨_, _, _, _, rfl, ?_⟩
        have hr := rising_ents hT.2 (nth dl j)
        have hsm := ents_small hT.2 (nth dl j)
        have hel : Ents V1 [] la (entsOf t.L (nth dl j)).length (entsOf t.L (nth dl j)) := hol.sli (by simp)
        refine Calls.mono (k_cRead _ hr la _ lc hol.le c nv V1 hel (by omega)) ?_
        rintro _ V2 ⟨xa, xc, rfl, hx, g2⟩
        refine ⟨_, _, _, _, _, rfl, ?_⟩
        refine Calls.mono (k_r16Read _ hr la _ lc c nv V2 (hel.fr g2) (by omega)) ?_
        rintro _ V3 ⟨ya, yc, rfl, hy, g3⟩
        refine ⟨_, _, _, _, _, rfl, ?_⟩
        have hol2 : (rOut (entsOf t.L (nth dl j)) c nv).length ≤ 1048576 := by
          unfold rOut readOut
          split
          · rw [List.length_take]
            have := List.length_filter_le (fun e : Ent => decide (e.cookie > c)) (entsOf t.L (nth dl j))
            omega
          · simp
        refine Calls.mono (k_rSame _ xa ya _ xc yc V3 (hx.fr g3) hy hol2) ?_
        rintro _ V4 ⟨rfl, g4⟩
        refine ⟨_, rfl, ?_⟩
        rw [Bool.not_true, cond_false, bne_self_eq_false, cond_false, bne_self_eq_false, cond_false]
        refine ⟨_, rfl, dn - (j + 1), by omega, j + 1, ?_, by omega, rfl, (((hV.trans g1).trans g2).trans g3).trans g4⟩
        rw [wr (by omega) (by omega)]; simp
      · rw [decide_eq_false (by omega), cond_false]
        refine Calls.mono (k_Valid c V) ?_
        rintro _ _ ⟨rfl, rfl⟩
        exact ⟨_, rfl, hR _ _ ⟨by rw [beq_self_eq_true], hf2.trans hV⟩⟩
end Go.Proofs.Try
