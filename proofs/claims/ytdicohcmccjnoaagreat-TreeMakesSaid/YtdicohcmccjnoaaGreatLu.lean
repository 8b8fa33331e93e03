/- TreeMakes: the walk. Conditions: none. -/
import Derived.Test.YtdicohcmccjnoaaGreatLt
set_option maxRecDepth 10000
namespace Go.Proofs.Tryz
open Go Go.Eng Go.Topo

/-- the tree's own entries, made; then those that are bent -/
theorem tm_made {w V : World} {t : RT} {tb mb bb hb : Nat} {F : List Nat} {R : Ending → World → Prop} (hR : ∀ e w', (e = .returned (.bool true) ∧ Fr [] w w') → R e w') (fV : Fr [] w V) (hT : TreeAt V tb F [mb] t) (hnx : t.next ≤ 1000) (hM : IMap V mb [])
    {ba : Option Addr} {bn bc : Nat} {bl : List Ent} {node how0 how1 how2 how3 : Int} (hbb : Blk V bb [.int .i64 node, .slice ba bn bc]) (hhb : Blk V hb [.int .u8 how0, .int .u8 how1, .int .u8 how2, .int .u8 how3]) (h1 : 0 ≤ how1 ∧ how1 ≤ 255)
    (hbl : Ents w [] ba bn bl) (hbn : bn ≤ 4) (hnm : ∀ e ∈ bl, e.name.size ≤ 9223372036854775807) {da : Option Addr} {dn dc lo : Nat} (hdL : OwnI V lo da dn dc (dirsOf t.L))
    (hap : mb ∉ F ∧ mb ≠ bb ∧ mb ≠ hb ∧ mb ∉ blks da ∧ bb ∉ F ∧ hb ∉ F ∧ (∀ i ∈ F, i ∉ blks da) ∧ (∀ i ∈ F, w.heap.size ≤ i) ∧ w.heap.size ≤ mb) (ds : List Value) :
    L5_1 ⟨bb, 0, none⟩ ⟨hb, 0, none⟩ (some ⟨tb, 0, none⟩) (some mb) da dn dc 0 ds V R := by
  obtain ⟨a1, a2, a3, a4, a5, a6, a7, a8, a9⟩ := hap
  have hI := hT.2
  have hFlt := hT.1.lt
  have hdl := dirsOf_length t.L
  have hdn : dn ≤ 201 := by rw [hdL.len]; exact hdl
  have hdnE := hdL.len
  have hmlt := hM.lt
  have hdN : (dirsOf t.L).Nodup := (dirsOf_rising t.L).imp (fun h => by omega)
  refine lp5_1 _ _ _ _ _ _ _ (fun q i U => ∃ (k : Nat) (dm : List (Int × Value)), i = k ∧ k ≤ dn ∧ q = dn - k ∧ Fr [mb] V U ∧ TreeAt U tb F [mb] t ∧ DMx U (mb :: F) mb dm (fun n => if n ∈ (dirsOf t.L).take k then some (entsOf t.L n) else none)) _ ?_ dn 0 V
    ⟨0, [], rfl, by omega, by omega, Fr.refl .., hT, ⟨hM, by simp [alook_nil]⟩⟩ _
  rintro q _ ds U ⟨k, dm, rfl, hk, rfl, gU, hTU, hDU⟩
  unfold B5_1
  have hdU : OwnI U lo da dn dc (dirsOf t.L) := hdL.fr gU (by intro i hi; simp; rintro rfl; exact a4 hi)
  have fU : Fr [] w U := fV.trans' gU (by intro i hi; simp at hi; subst hi; exact .inr a9)
  have hbbU := hbb.fr gU (by simpa using fun e => a2 e.symm)
  have hhbU := hhb.fr gU (by simpa using fun e => a3 e.symm)
  by_cases hkn : k < dn
  · rw [decide_eq_true (by omega), cond_true]
    obtain ⟨x, hx⟩ : ∃ x, (dirsOf t.L)[k]? = some x := ⟨(dirsOf t.L)[k]'(by omega), List.getElem?_eq_getElem _⟩
    obtain ⟨b, rfl, hc⟩ := hdU.at hkn
    have hxn : nth (dirsOf t.L) k = x := by have := nth_eq (l := dirsOf t.L) (k := k) (by omega); rw [hx] at this; exact (Option.some.inj this).symm
    rw [hxn] at hc
    have hc' : U.cell? ⟨b, 0 + k, none⟩ = some (.int .i64 x) := by rw [Nat.zero_add]; exact hc
    simp only [optW, Addr.add_lit, Int.toNat_natCast, Nat.mul_one]
    refine ⟨⟨by omega, by omega⟩, x, hc', ?_⟩
    refine Calls.mono (k_tList hTU x) ?_
    rintro _ U1 ⟨a', c', rfl, ho, f1⟩
    have hT1 := hTU.fr0 f1
    have hD1 := hDU.fr0 f1
    have hFU : ∀ i ∈ mb :: F, i < U.heap.size := by
      intro i hi
      rcases List.mem_cons.1 hi with e | e
      · rw [e]; exact hDU.1.lt
      · exact hTU.1.lt i e
    have hE : Ents U1 (mb :: F) a' (entsOf t.L x).length (entsOf t.L x) := Own.sli ho hFU
    have hes := ents_small hI x
    obtain ⟨U2, dm2, hr2, hD2, f2⟩ := hD1.put (by simp) x a' c' (entsOf t.L x) (by omega) hE
    refine ⟨a', _, c', _, rfl, ⟨by omega, by omega⟩, x, cell_fr f1 hc' (by simp), U2, hr2, ?_⟩
    refine ⟨_, rfl, dn - (k + 1), by omega, k + 1, dm2, ?_, by omega, rfl, (gU.trans (Fr.of_nil f1)).trans f2, hT1.fr f2 (by intro i hi; simp at hi; subst hi; exact ⟨by simp, a1⟩) (fun _ hi => .inl hi), hD2.congr ?_⟩
    · rw [wr (by omega) (by omega)]; simp
    · intro n
      rw [take_snoc hx]
      by_cases e : n = x
      · subst e; simp
      · simp [e]
  · rw [decide_eq_false (by omega), cond_false]
    have hall0 : (dirsOf t.L).take k = dirsOf t.L := List.take_of_length_le (by omega)
    rw [hall0] at hDU
    have hDt : ∀ n, (if n ∈ dirsOf t.L then some (entsOf t.L n) else none) = Dt t.L n := by
      intro n
      unfold Dt
      by_cases h : kindOf t.L n = 2
      · rw [if_pos ((mem_dirsOf hI).2 h), if_pos h]
      · rw [if_neg (fun h' => h ((mem_dirsOf hI).1 h')), if_neg h]
    have hD0 := hDU.congr hDt
    have hlenD : ∀ n, (dl (Dt t.L) n).length ≤ 200 := fun n => by rw [dl_Dt hI]; exact ents_small hI n
    have hallD : ∀ n, (Dt t.L n).isSome → n ∈ dirsOf t.L := by
      intro n h
      rw [mem_dirsOf hI]
      unfold Dt at h
      by_cases hk : kindOf t.L n = 2
      · exact hk
      · rw [if_neg hk] at h; cases h
    refine Calls.mono (k_Cookie hTU) ?_
    rintro _ _ ⟨rfl, rfl⟩
    refine ⟨_, rfl, ?_⟩
    obtain ⟨hkm, q1, q2, q3⟩ := hD0.at.bounds (ks := dirsOf t.L) (by omega) hallD hlenD
    have hkm2 : ∀ n, n ∈ keys dm ↔ kindOf t.L n = 2 := by
      intro n
      rw [hkm]
      unfold Dt
      by_cases hk : kindOf t.L n = 2 <;> simp [hk]
    have hmade := made_own hI hD0.1.nodup hkm2
    refine Calls.mono (k_Make hD0.at (by omega) (by omega) (by omega)) ?_
    rintro _ W1 ⟨f1, hcase⟩
    rcases hcase with ⟨_, xb, Fx, rfl, hX, hFx, _⟩ | ⟨hno, _⟩
    rotate_left
    · exact absurd (formed_own hI hD0.1.nodup hkm2) hno
    rw [hmade] at hX
    have hlt1 := hTU.1.lt
    have hX1 : TreeAt W1 xb Fx (mb :: F) t := hX (mb :: F) (by
      intro i hi
      rcases List.mem_cons.1 hi with e | e
      · rw [e]; exact hD0.1.lt
      · exact hlt1 i e)
    have hT1 : TreeAt W1 tb F (mb :: Fx) t := hTU.fr f1 (by simp) (by
      intro i hi
      rcases List.mem_cons.1 hi with e | e
      · left; simp [e]
      · exact .inr (hFx i e))
    have hD1 : DMx W1 (mb :: (F ++ Fx)) mb dm (Dt t.L) := hD0.fr f1 (by simp) (by simp) (by
      intro i hi
      simp only [List.mem_cons, List.mem_append] at hi ⊢
      rcases hi with e | e | e
      · exact .inl (.inl e)
      · exact .inl (.inr e)
      · exact .inr (hFx i e))
    have hmU := hD0.1.lt
    have hbU := hbbU.lt
    have hhU := hhbU.lt
    have hdB := Own.blk hdU
    have fxF : ∀ i ∈ Fx, i ∉ F := fun i hi hm => by have := hFx i hi; have := hlt1 i hm; omega
    have fxm : mb ∉ Fx := fun hm => by have := hFx _ hm; omega
    have fxb : bb ∉ Fx := fun hm => by have := hFx _ hm; omega
    have fxh : hb ∉ Fx := fun hm => by have := hFx _ hm; omega
    have fxd : ∀ i ∈ blks da, i ∉ Fx := fun i hi hm => by have := hFx i hm; have := (hdB i hi).2; omega
    refine ⟨_, _, rfl, ?_⟩
    rw [show ((0 : Int) != 0) = false from rfl, cond_false]
    refine Calls.mono (k_tSame hX1 hT1 rfl (fun _ => rfl)) ?_
    rintro _ W2 ⟨rfl, f2⟩
    refine ⟨_, rfl, ?_⟩
    rw [Bool.not_true, cond_false]
    have hX2 := hX1.fr0 f2
    have hT2 := hT1.fr0 f2
    refine Calls.mono (k_Nodes hX2) ?_
    rintro _ _ ⟨rfl, rfl⟩
    refine ⟨_, rfl, ?_⟩
    refine Calls.mono (k_Nodes hT2) ?_
    rintro _ _ ⟨rfl, rfl⟩
    refine ⟨_, rfl, ?_⟩
    rw [bne_self_eq_false, cond_false]
    refine Calls.mono (k_Link hX2 (by
      intro i hi
      have h5 := (f1.trans f2).1
      rcases List.mem_cons.1 hi with e | e
      · omega
      · have := hlt1 i e; omega) (by omega) 0 ⟨#[122, 122]⟩ false 0) ?_
    rintro _ W3 ⟨rfl, hX3, f3⟩
    refine ⟨_, _, rfl, ?_⟩
    have hT3 : TreeAt W3 tb F (mb :: Fx) t := hT2.fr f3 (fun i hi => ⟨List.mem_cons_of_mem _ hi, fxF i hi⟩) (fun _ hi => .inl hi)
    have hltx := hX2.1.lt
    refine Calls.mono (k_Link hT3 (by
      intro i hi
      have h5 := ((f1.trans f2)).1
      have h6 := f3.1
      rcases List.mem_cons.1 hi with e | e
      · omega
      · have := hltx i e; omega) (by omega) 0 ⟨#[122, 122]⟩ false 0) ?_
    rintro _ W4 ⟨rfl, hT4, f4⟩
    refine ⟨_, _, rfl, ?_⟩
    rw [bne_self_eq_false, cond_false, bne_self_eq_false, cond_false]
    have hX4 := hX3.fr f4 (fun i hi => ⟨List.mem_cons_of_mem _ hi, fun hm => fxF i hm hi⟩) (X' := mb :: F) (fun _ hi => .inl hi)
    refine Calls.mono (k_tSame hX4 hT4 rfl (fun _ => rfl)) ?_
    rintro _ W5 ⟨rfl, f5⟩
    refine ⟨_, rfl, ?_⟩
    rw [Bool.not_true, cond_false]
    -- what has been left alone
    have g15 : Fr (F ++ Fx) W1 W5 := (((Fr.of_nil f2).trans (f3.mono (by intro i hi; simp [hi]))).trans (f4.mono (by intro i hi; simp [hi]))).trans (Fr.of_nil f5)
    have gU5 : Fr (F ++ Fx) U W5 := (Fr.of_nil f1).trans g15
    have fW5 : Fr [] w W5 := fU.trans' gU5 (by
      intro i hi
      rcases List.mem_append.1 hi with h | h
      · exact .inr (a8 i h)
      · right; have := hFx i h; have := fU.1; omega)
    have hD5 : DMx W5 (mb :: (F ++ Fx)) mb dm (Dt t.L) := hD1.fr g15 (fun i hi => List.mem_cons_of_mem _ hi) (by
      intro hm
      rcases List.mem_append.1 hm with h | h
      · exact a1 h
      · exact fxm h) (fun _ hi => .inl hi)
    have hb5 := hbbU.fr gU5 (by
      intro hm
      rcases List.mem_append.1 hm with h | h
      · exact a5 h
      · exact fxb h)
    have hh5 := hhbU.fr gU5 (by
      intro hm
      rcases List.mem_append.1 hm with h | h
      · exact a6 h
      · exact fxh h)
    have hd5 : OwnI W5 lo da dn dc (dirsOf t.L) := hdU.fr gU5 (by
      intro i hi hm
      rcases List.mem_append.1 hm with h | h
      · exact a7 i h hi
      · exact fxd i hi h)
    have hbl5 : Ents W5 (mb :: (F ++ Fx)) ba bn bl := (hbl.ext (G := mb :: (F ++ Fx)) (by
      intro i hi
      right
      have := fU.1
      simp only [List.mem_cons, List.mem_append] at hi
      rcases hi with h | h | h
      · omega
      · exact a8 i h
      · have := hFx i h; omega)).fr (Fr.of_nil fW5)
    have hbll := hbl.len
    subst hbll
    have hgood : ∀ n, ∀ e ∈ dl (Dt t.L) n, e.name.size ≤ 9223372036854775807 := by
      intro n e he
      have := (hI.good _ ((mem_dlt hI).1 he)).1
      unfold isGoodB at this
      simp only [Bool.and_eq_true, decide_eq_true_eq] at this
      have := this.1.1.1.2
      omega
    simp only [Addr.add_lit, Nat.zero_add]
    refine ⟨⟨by omega, by omega⟩, how0, hh5.cell 0, ?_⟩
    refine condC (fun _ => ?_) (fun _ => ?_)
    · obtain ⟨W6, dm6, hr6, hD6, f6⟩ := hD5.put (by simp) node ba bc bl (by omega) hbl5
      refine ⟨node, hb5.cell 0, ba, _, bc, hb5.cell 1, W6, hr6, ?_⟩
      refine tm_end hR (fW5.trans' f6 (by intro i hi; simp at hi; subst hi; exact .inr a9)) hD6.at (hb5.fr f6 (by simpa using fun e => a2 e.symm)) (hh5.fr f6 (by simpa using fun e => a3 e.symm)) h1
        (Own.sli (hd5.fr f6 (by intro i hi; simp; rintro rfl; exact a4 hi)) (by simp)) (by omega) hdN ?_ ?_ ?_
      · intro n hn
        rw [mem_keysOf]
        by_cases e : n = node
        · exact .inr e
        · rw [if_neg e] at hn; exact .inl (hallD n hn)
      · intro n
        rw [dl_put]
        by_cases e : n = node
        · rw [if_pos e]; omega
        · rw [if_neg e]; exact hlenD n
      · intro n e he
        rw [dl_put] at he
        by_cases hn : n = node
        · rw [if_pos hn] at he; exact hnm e he
        · rw [if_neg hn] at he; exact hgood n e he
    · obtain ⟨W6, dm6, hr6, hD6, f6⟩ := hD5.del (by simp) node 0 3
      refine ⟨node, hb5.cell 0, W6, hr6, ?_⟩
      refine tm_end hR (fW5.trans' f6 (by intro i hi; simp at hi; subst hi; exact .inr a9)) hD6.at (hb5.fr f6 (by simpa using fun e => a2 e.symm)) (hh5.fr f6 (by simpa using fun e => a3 e.symm)) h1
        (Own.sli (hd5.fr f6 (by intro i hi; simp; rintro rfl; exact a4 hi)) (by simp)) (by omega) hdN ?_ ?_ ?_
      · intro n hn
        rw [mem_keysOf]
        by_cases e : n = node
        · exact .inr e
        · rw [if_neg e] at hn; exact .inl (hallD n hn)
      · intro n
        rw [dl_del]
        by_cases e : n = node
        · rw [if_pos e]; simp
        · rw [if_neg e]; exact hlenD n
      · intro n e he
        rw [dl_del] at he
        by_cases hn : n = node
        · rw [if_pos hn] at he; cases he
        · rw [if_neg hn] at he; exact hgood n e he
end Go.Proofs.Tryz
