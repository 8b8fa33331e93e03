/- The chapter's New and Do; awake; Alike. Conditions: none. -/
import Derived.Test.YtdicohcmccjnoaaGreatRh
import Derived.Test.YtdicohcmccjnoaaGreatDo
set_option maxRecDepth 10000
namespace Go.Proofs.Tryz
open Go Go.Eng Go.Topo

section
variable {w : World} {a : Option Addr} {n c : Nat} {L : Items} {t : RT}

/-- the chapter's New -/
theorem k_rNew (w : World) : Calls prog 14 #[] w fun e w' => e = .returned (.agg #[.slice none 0 0, .int .i64 1]) ∧ Fr [] w w' := by
  refine c14 _ _ (withR (X := N14 _) ?_)
  intro R hR
  unfold N14
  rintro w1 rfl
  have b1 := Blk.new w [(.slice none 0 0), (.int .i64 0)] 29
  refine put2 b1 _ _ _ _ _ (fun w' hf => ?_)
  exact hR _ _ ⟨rfl, (Fr.alloc ..).trans' hf (by intro i hi; simp at hi; right; omega)⟩

/-- the chapter's Do -/
theorem k_rDo {F : List Nat} (hX : Recs itE w F a n t.L) (hF : ∀ i ∈ F, i < w.heap.size) (hI : Go.Topo.Inv t) (hnx : t.next < 9223372036854775807) (o : Opr) (hn1 : o.name.size ≤ 9223372036854775807) (hn2 : o.new.size ≤ 9223372036854775807) :
    Calls prog 17 #[.agg #[.slice a n c, .int .i64 t.next], .agg (opC o).toArray] w fun e w' =>
    ∃ a' n' c', e = .returned (.tuple #[.agg #[.slice a' n' c', .int .i64 (t.doOp o).1.next], .int .i64 (t.doOp o).2.1, .int .i64 (t.doOp o).2.2]) ∧ Recs itE w' F a' n' (t.doOp o).1.L ∧ Fr [] w w' := by
  refine c17 _ _ _ _ _ _ _ _ _ _ _ _ _ (withR (X := N17 _ _ _ _ _ _ _ _ _ _ _ _) ?_)
  intro R hR
  unfold N17
  rintro w1 rfl
  have f1 := Fr.alloc w (.cells #[.slice a n c, .int .i64 t.next] 29)
  have b1 := Blk.new w [.slice a n c, .int .i64 t.next] 29
  have s1 := size_alloc w (.cells #[.slice a n c, .int .i64 t.next] 29)
  generalize w.alloc (.cells #[.slice a n c, .int .i64 t.next] 29) = w1 at *
  rintro w2 rfl
  have f2 := Fr.alloc w1 (.cells (opC o).toArray 35)
  have b2 := Blk.new w1 (opC o) 35
  have s2 := size_alloc w1 (.cells (opC o).toArray 35)
  have b1 := b1.fr f2 (by simp)
  generalize w1.alloc (.cells (opC o).toArray 35) = w2 at *
  rintro w3 rfl
  have f3 := Fr.alloc w2 (.cells #[(.slice none 0 0), (.int .i64 0)] 29)
  have b3 := Blk.new w2 [(.slice none 0 0), (.int .i64 0)] 29
  have s3 := size_alloc w2 (.cells #[(.slice none 0 0), (.int .i64 0)] 29)
  have b1 := b1.fr f3 (by simp)
  have b2 := b2.fr f3 (by simp)
  generalize w2.alloc (.cells #[(.slice none 0 0), (.int .i64 0)] 29) = w3 at *
  have f03 := (f1.trans f2).trans f3
  have fin : ∀ {W : World}, Fr [] w W → ∀ w', Fr [w2.heap.size] W w' → Fr [] w w' := fun hW w' hf => hW.trans' hf (by intro i hi; simp at hi; right; omega)
  have keep : ∀ {W w' : World} {a' : Option Addr} {n' : Nat} {L' : Items}, Recs itE W (w2.heap.size :: F) a' n' L' → Fr [w2.heap.size] W w' → Recs itE w' F a' n' L' := fun h hf => (h.fr (hf.mono (by simp))).ext (fun i hi => .inl (List.mem_cons_of_mem _ hi))
  have h3 : Recs itE w3 (w2.heap.size :: F) a n t.L := ((hX.ext (by
    intro i hi
    rcases List.mem_cons.1 hi with e | e
    · right; omega
    · exact .inl e) : Recs itE w (w2.heap.size :: F) a n t.L)).fr0 f03
  have hF3 : ∀ i ∈ w2.heap.size :: F, i < w3.heap.size := by
    intro i hi
    rcases List.mem_cons.1 hi with e | e
    · omega
    · have := hF i e; omega
  refine ⟨o.kind, b2.cell 0, ?_⟩
  by_cases k0 : o.kind.tmod 3 = 0
  · have hd : t.doOp o = t.link o.dir o.name o.is o.short := by unfold RT.doOp; rw [if_pos k0]
    rw [hd] at hR
    rw [beq_iff_eq.2 k0, cond_true]
    refine ⟨_, _, _, b1.cell 0, _, b1.cell 1, _, b2.cell 1, _, b2.cell 3, _, b2.cell 5, _, b2.cell 6, ?_⟩
    refine Calls.mono (k_rLink h3 hF3 hI hnx o.dir o.name hn1 o.is o.short) ?_
    rintro _ w4 ⟨a4, n4, c4, rfl, h4, f4⟩
    refine ⟨_, _, _, _, _, _, rfl, ?_⟩
    refine put2 (b3.fr f4 (by simp)) _ _ _ _ _ (fun w' hf => ?_)
    exact hR _ _ ⟨a4, n4, c4, rfl, keep h4 hf, fin (f03.trans f4) w' hf⟩
  · rw [beq_eq_false_iff_ne.2 k0, cond_false]
    by_cases k1 : o.kind.tmod 3 = 1
    · have hd : t.doOp o = ((t.unlink o.dir o.name o.is).1, 0, (t.unlink o.dir o.name o.is).2) := by unfold RT.doOp; rw [if_neg k0, if_pos k1]
      rw [hd] at hR
      rw [beq_iff_eq.2 k1, cond_true]
      refine ⟨_, _, _, b1.cell 0, _, b1.cell 1, _, b2.cell 1, _, b2.cell 3, _, b2.cell 5, ?_⟩
      refine Calls.mono (k_rUnlink h3 hF3 hI o.dir o.name o.is) ?_
      rintro _ w4 ⟨a4, n4, c4, rfl, h4, f4⟩
      refine ⟨_, _, _, _, _, rfl, ?_⟩
      rintro w5 rfl
      have f5 := Fr.alloc w4 (.cells #[(.slice none 0 0), (.int .i64 0)] 29)
      have b5 := Blk.new w4 [(.slice none 0 0), (.int .i64 0)] 29
      have b3 := (b3.fr f4 (by simp)).fr f5 (by simp)
      have l3 := (b3).lt
      have l4 : w2.heap.size < w4.heap.size := by have := f4.1; omega
      refine put2 b5 _ _ _ _ _ (fun w6 f6 => ?_)
      refine put2 (b3.fr f6 (by simp; omega)) _ _ _ _ _ (fun w' hf => ?_)
      have f46 : Fr [] w4 w6 := f5.trans' f6 (by intro i hi; simp at hi; right; omega)
      exact hR _ _ ⟨a4, n4, c4, rfl, keep (h4.fr0 f46) hf, fin ((f03.trans f4).trans f46) w' hf⟩
    · have hd : t.doOp o = ((t.move o.dir o.name o.dest o.new o.short).1, 0, (t.move o.dir o.name o.dest o.new o.short).2) := by unfold RT.doOp; rw [if_neg k0, if_neg k1]
      rw [hd] at hR
      rw [beq_eq_false_iff_ne.2 k1, cond_false]
      refine ⟨_, _, _, b1.cell 0, _, b1.cell 1, _, b2.cell 1, _, b2.cell 3, _, b2.cell 2, _, b2.cell 4, _, b2.cell 6, ?_⟩
      refine Calls.mono (k_rMove h3 hF3 hI hnx o.dir o.name o.dest o.new hn2 o.short) ?_
      rintro _ w4 ⟨a4, n4, c4, rfl, h4, f4⟩
      refine ⟨_, _, _, _, _, rfl, ?_⟩
      rintro w5 rfl
      have f5 := Fr.alloc w4 (.cells #[(.slice none 0 0), (.int .i64 0)] 29)
      have b5 := Blk.new w4 [(.slice none 0 0), (.int .i64 0)] 29
      have b3 := (b3.fr f4 (by simp)).fr f5 (by simp)
      have l4 : w2.heap.size < w4.heap.size := by have := f4.1; omega
      refine put2 b5 _ _ _ _ _ (fun w6 f6 => ?_)
      refine put2 (b3.fr f6 (by simp; omega)) _ _ _ _ _ (fun w' hf => ?_)
      have f46 : Fr [] w4 w6 := f5.trans' f6 (by intro i hi; simp at hi; right; omega)
      exact hR _ _ ⟨a4, n4, c4, rfl, keep (h4.fr0 f46) hf, fin ((f03.trans f4).trans f46) w' hf⟩

/-- awake -/
theorem k_awake10 (w : World) : Calls prog 11 #[] w fun e w' => e = .returned (.bool true) ∧ Fr [] w w' := by
  refine c11 _ _ (withR (X := N11 _) ?_)
  intro R hR
  unfold N11
  refine Calls.mono (k_New w) ?_
  rintro _ w1 ⟨tb, F, rfl, hT, hF, _, f1⟩
  refine ⟨_, rfl, ?_⟩
  rw [show (some (⟨tb, 0, none⟩ : Addr)).isNone = false from rfl, cond_false]
  refine Calls.mono (k_Link hT (by simp) (by decide) 0 ⟨#[97]⟩ false 0) ?_
  rintro _ w2 ⟨rfl, hT2, f2⟩
  have e1 : (RT.link ⟨[], 1⟩ 0 ⟨#[97]⟩ false 0) = (⟨[(0, ⟨⟨#[97]⟩, 1, false, 1, 0⟩)], 2⟩, 1, 0) := by
    have g : isGoodB ⟨#[97]⟩ = true := by
      unfold isGoodB
      simp
      decide
    have m : mayErr ⟨#[97]⟩ 0 = 0 := by unfold mayErr; rw [if_pos g]; simp
    unfold RT.link
    rw [if_neg (by simp [listErr, kindOf]), if_neg (by simp [m])]
    rw [if_neg (by simp [entsOf, findIn])]
    have hf : freeNode [] = some 1 := rfl
    rw [hf]
    simp [RT.put]
  rw [e1] at hT2 ⊢
  refine ⟨_, _, rfl, ?_⟩
  rw [show ((0 : Int) == 0) = true from rfl, cond_true, show ((1 : Int) == 1) = true from rfl, cond_true]
  refine Calls.mono (k_Cookie hT2) ?_
  rintro _ _ ⟨rfl, rfl⟩
  exact ⟨_, rfl, hR _ _ ⟨rfl, f1.trans' f2 (fun i hi => .inr (hF i hi))⟩⟩

/-- Alike, of the same -/
theorem k_Alike {tb : Nat} {F X : List Nat} (h1 : TreeAt w tb F X t) (h2 : Its w a n t.L) : Calls prog 19 #[.pointer (some ⟨tb, 0, none⟩), .agg #[.slice a n c, .int .i64 t.next]] w fun e w' => e = .returned (.bool true) ∧ Fr [] w w' := by
  refine c19 _ _ _ _ _ _ _ (withR (X := N19 _ _ _ _ _ _) ?_)
  intro R hR
  unfold N19
  have hI := h1.2
  have hlen := h2.len
  have hsm := len_small hI
  rintro w1 rfl
  have f1 := Fr.alloc w (.cells #[.slice a n c, .int .i64 t.next] 29)
  have b1 := Blk.new w [.slice a n c, .int .i64 t.next] 29
  generalize w.alloc (.cells #[.slice a n c, .int .i64 t.next] 29) = w1 at *
  rintro w2 rfl
  have fD := Fr.drew w1
  have f02 := f1.trans fD
  have b2 := b1.fr fD (by simp)
  refine ⟨fun U => Fr [] w1.drew U, Fr.refl .., _, _, _, fun U hU => (b2.fr hU (by simp)).cell 0, _, fun U hU => (b2.fr hU (by simp)).cell 1, ?_⟩
  refine Calls.mono (k_Dirs (h1.fr0 f02)) ?_
  rintro _ w3 ⟨da, dn, dc, rfl, hd, f3⟩
  refine ⟨_, _, _, rfl, f3, ?_⟩
  have f03 := f02.trans f3
  refine Calls.mono (k_rDirs (h2.fr0 f03) (by omega) t.next) ?_
  rintro _ w4 ⟨ea, ec, rfl, he, f4⟩
  refine ⟨_, _, _, rfl, f3.trans f4, ?_⟩
  have f04 := f03.trans f4
  rintro w5 rfl
  have fE := Fr.drew w4
  have f05 := f04.trans fE
  have b5 := ((b2.fr f3 (by simp)).fr f4 (by simp)).fr fE (by simp)
  refine ⟨fun U => U = w4.drew, rfl, ?_⟩
  have hdn := hd.len
  subst hdn
  rw [bne_self_eq_false, cond_false]
  refine ⟨_, fun U hU => by rw [hU]; exact b5.cell 1, ?_⟩
  refine Calls.mono (k_Cookie (h1.fr0 f05)) ?_
  rintro _ _ ⟨rfl, rfl⟩
  refine ⟨_, rfl, rfl, ?_⟩
  rw [bne_self_eq_false, cond_false]
  refine ⟨_, _, _, fun U hU => by rw [hU]; exact b5.cell 0, ?_⟩
  refine Calls.mono (k_Nodes (h1.fr0 f05)) ?_
  rintro _ _ ⟨rfl, rfl⟩
  refine ⟨_, rfl, rfl, ?_⟩
  rw [hlen, bne_self_eq_false, cond_false]
  have hdl := dirsOf_length t.L
  refine lp19_0 _ _ _ _ _ _ _ _ (fun m i W => ∃ k : Nat, i = k ∧ k ≤ (dirsOf t.L).length ∧ m = (dirsOf t.L).length - k ∧ Fr [] w4.drew W) R ?_ (dirsOf t.L).length 0 w4.drew ⟨0, rfl, by omega, by omega, Fr.refl ..⟩ _
  rintro m _ ds W ⟨k, rfl, hk, rfl, hf⟩
  unfold B19_0
  have fW := f05.trans hf
  have bW := b5.fr hf (by simp)
  by_cases hkn : k < (dirsOf t.L).length
  · rw [decide_eq_true (by omega), cond_true]
    obtain ⟨bd, rfl, hcd⟩ := (((hd.fr f4 (by simp)).fr fE (by simp)).fr hf (by simp)).at hkn
    simp only [optW, Addr.add_lit, Int.toNat_natCast, Nat.mul_one, Nat.zero_add]
    refine ⟨⟨by omega, by omega⟩, _, hcd, ?_⟩
    refine Calls.mono (k_tList (h1.fr0 fW) (nth (dirsOf t.L) k)) ?_
    rintro _ W1 ⟨la, lc, rfl, hol, g1⟩
    refine ⟨_, _, _, _, rfl, ?_⟩
    rintro W2 rfl
    have gD := Fr.drew W1
    have g02 := fW.trans (g1.trans gD)
    have bW2 := (bW.fr g1 (by simp)).fr gD (by simp)
    obtain ⟨be, rfl, hce⟩ := (((he.fr fE (by simp)).fr hf (by simp)).fr g1 (by simp)).at hkn
    refine ⟨fun U => Fr [] W1.drew U, Fr.refl .., _, _, _, fun U hU => (bW2.fr hU (by simp)).cell 0, _, fun U hU => (bW2.fr hU (by simp)).cell 1, ?_⟩
    simp only [optW, Addr.add_lit, Int.toNat_natCast, Nat.mul_one, Nat.zero_add]
    refine ⟨⟨by omega, by omega⟩, _, fun U hU => cell_fr hU (cell_fr gD hce (by simp)) (by simp), ?_⟩
    refine Calls.mono (k_rList (h2.fr0 g02) hI t.next (nth (dirsOf t.L) k)) ?_
    rintro _ W3 ⟨ma, mc, rfl, hom, g3⟩
    refine ⟨_, _, _, _, rfl, g3, ?_⟩
    rintro W4 rfl
    have gE := Fr.drew W3
    have g34 := g3.trans gE
    have gW4 : Fr [] W W3.drew := (g1.trans gD).trans g34
    refine ⟨fun U => Fr [] W3.drew U, Fr.refl .., ?_⟩
    simp only [optW, Addr.add_lit, Int.toNat_natCast, Nat.mul_one, Nat.zero_add]
    refine ⟨⟨by omega, by omega⟩, _, fun U hU => cell_fr hU (cell_fr gW4 hcd (by simp)) (by simp), ⟨by omega, by omega⟩, _, fun U hU => cell_fr hU (cell_fr (gD.trans g34) hce (by simp)) (by simp), ?_⟩
    rw [bne_self_eq_false, cond_false, bne_self_eq_false, cond_false]
    have hsmE := ents_small hI (nth (dirsOf t.L) k)
    refine Calls.mono (k_rSame (entsOf t.L (nth (dirsOf t.L) k)) la ma _ lc mc W3.drew (Sli.fr (Own.sli hol (by simp)) (gD.trans g34)) (Sli.fr (Own.sli hom (by simp)) gE) (by omega)) ?_
    rintro _ W5 ⟨rfl, g5⟩
    refine ⟨_, rfl, g5, ?_⟩
    rw [Bool.not_true, cond_false]
    refine ⟨_, rfl, (dirsOf t.L).length - (k + 1), by omega, k + 1, ?_, by omega, rfl, (hf.trans gW4).trans g5⟩
    rw [wr (by omega) (by omega)]; simp
  · rw [decide_eq_false (by omega), cond_false]
    exact hR _ _ ⟨rfl, fW⟩
end
end Go.Proofs.Tryz
