/- Equal, Same, Cookie, Nodes. Conditions: none. -/
import Derived.Test.YtdicohcmccjnoaaGreatCl
import Derived.Test.YtdicohcmccjnoaaGreatSm
namespace Go.Proofs.Tryz
open Go Go.Eng Go.Topo

/-- slices.Equal, of the same -/
theorem k_Equal (l : List Ent) (a b : Option Addr) (n ca cb : Nat) (w : World) (ha : Ents w [] a n l) (hb : Ents w [] b n l) (hn : n ≤ 1048576) :
    Calls prog 66 #[.slice a n ca, .slice b n cb] w fun e w' => e = .returned (.bool true) ∧ Fr [] w w' := by
  refine c66 _ _ _ _ _ _ _ _ (withR (X := N66 _ _ _ _ _ _ _) ?_)
  intro R hR
  unfold N66
  have hlen := ha.len
  rw [show (((n : Nat) : Int) != ((n : Nat) : Int)) = false by simp, cond_false]
  refine lp66_0 _ _ _ _ _ _ _ (fun m i W => ∃ k : Nat, i = k ∧ k ≤ n ∧ m = n - k ∧ Fr [] w W) _ ?_ n 0 w ⟨0, rfl, by omega, by omega, Fr.refl ..⟩ _
  rintro m _ ds W ⟨k, rfl, hk, rfl, hf⟩
  unfold B66_0
  by_cases hkn : k < n
  · rw [decide_eq_true (by omega), cond_true]
    rintro W1 rfl
    have hf1 := hf.trans (Fr.drew W)
    obtain ⟨x, hx⟩ : ∃ x, l[k]? = some x := ⟨l[k]'(by omega), List.getElem?_eq_getElem _⟩
    obtain ⟨b1, o1, rfl, d0, d1, d2, d3, d4⟩ := (ha.fr hf1).at hx
    obtain ⟨b2, o2, rfl, e0, e1, e2, e3, e4⟩ := (hb.fr hf1).at hx
    simp only [optW, Addr.add_lit, Int.toNat_natCast]
    refine ⟨fun V => V = W.drew, rfl, ⟨by omega, by omega⟩, _, fun V hV => by rw [hV]; exact d0, _, fun V hV => by rw [hV]; exact d1, _, fun V hV => by rw [hV]; exact d2, _, fun V hV => by rw [hV]; exact d3, _, fun V hV => by rw [hV]; exact d4,
      ⟨by omega, by omega⟩, _, fun V hV => by rw [hV]; exact e0, _, fun V hV => by rw [hV]; exact e1, _, fun V hV => by rw [hV]; exact e2, _, fun V hV => by rw [hV]; exact e3, _, fun V hV => by rw [hV]; exact e4,
      !entEq x x, fun V => neq_entry x x V, fun V => grd_entry x x _ _ V, ?_⟩
    rw [entEq_self, Bool.not_true, cond_false]
    refine ⟨_, rfl, n - (k + 1), by omega, k + 1, ?_, by omega, rfl, hf1⟩
    rw [wr (by omega) (by omega)]; simp
  · rw [decide_eq_false (by omega), cond_false]
    exact hR _ _ ⟨rfl, hf⟩

section
variable {w w' : World} {tb tb1 tb2 : Nat} {F F1 F2 X X1 X2 : List Nat} {t t1 t2 : RT}

theorem len_of_keys {l r : List Int} (hl : l.Nodup) (hr : r.Nodup) (h : ∀ x, x ∈ l ↔ x ∈ r) : l.length = r.length :=
  ((List.perm_ext_iff_of_nodup hl hr).2 h).length_eq

/-- Same, of two that have the same -/
theorem k_tSame (h1 : TreeAt w tb1 F1 X1 t1) (h2 : TreeAt w tb2 F2 X2 t2) (hn : t1.next = t2.next) (hD : ∀ n, Dt t1.L n = Dt t2.L n) :
    Calls prog 18 #[.pointer (some ⟨tb1, 0, none⟩), .pointer (some ⟨tb2, 0, none⟩)] w fun e w' => e = .returned (.bool true) ∧ Fr [] w w' := by
  obtain ⟨⟨db1, fb1, pb1, PF1, dm1, fm1, rfl, h1⟩, hI1⟩ := h1
  obtain ⟨⟨db2, fb2, pb2, PF2, dm2, fm2, rfl, h2⟩, hI2⟩ := h2
  refine c18 _ _ _ _ (withR (X := N18 _ _ _) ?_)
  intro R hR
  unfold N18
  rintro w1 rfl
  have at1 : ∀ W, Fr [] w W → TM W tb1 db1 fb1 pb1 PF1 X1 dm1 fm1 (Dt t1.L) (flt t1.L) (outt t1.L) t1.next := fun W hW => h1.fr hW (by simp) (fun _ hi => .inl hi)
  have at2 : ∀ W, Fr [] w W → TM W tb2 db2 fb2 pb2 PF2 X2 dm2 fm2 (Dt t2.L) (flt t2.L) (outt t2.L) t2.next := fun W hW => h2.fr hW (by simp) (fun _ hi => .inl hi)
  simp only [Addr.add_lit, Nat.zero_add]
  refine ⟨fun W => Fr [] w W, Fr.drew w, _, fun W hW => (at1 W hW).blk.cell 3, _, fun W hW => (at2 W hW).blk.cell 3, ?_⟩
  rw [hn, beq_self_eq_true, cond_true]
  refine ⟨some db1, fun W hW => (at1 W hW).blk.cell 0, some db2, fun W hW => (at2 W hW).blk.cell 0, ?_⟩
  have hkeys : ∀ x, x ∈ keys dm1 ↔ x ∈ keys dm2 := by
    intro x
    rw [key_iff h1, key_iff h2]
    have := hD x
    unfold Dt at this
    by_cases e1 : kindOf t1.L x = 2 <;> by_cases e2 : kindOf t2.L x = 2 <;> simp [e1, e2] at this ⊢
  have hlen : dm1.length = dm2.length := by
    have := len_of_keys h1.dmap.nodup h2.dmap.nodup hkeys
    simpa [keys] using this
  have g1 := at1 _ (Fr.drew w)
  have g2 := at2 _ (Fr.drew w)
  refine c65 _ _ _ _ _ _ ?_
  unfold N65
  refine ⟨_, IMap.len (P := prog) u_dirs g1.dmap 3, _, IMap.len (P := prog) u_dirs g2.dmap 3, ?_⟩
  rw [hlen, bne_self_eq_false, cond_false]
  obtain ⟨wz, hrz, hit, fz, sz⟩ := IMap.range (P := prog) u_dirs g1.dmap
  refine ⟨_, wz, hrz, ?_⟩
  refine lp65_0 _ _ _ _ (fun q V => ∃ done : List Int, q = leftN dm1 done ∧ MIter V w.drew.heap.size db1 dm1 done ∧ Fr [w.drew.heap.size] wz V ∧ Fr [] w V) _ ?_ _ wz ⟨[], rfl, hit, Fr.refl .., (Fr.drew w).trans fz⟩ _
  rintro q ds V ⟨done, rfl, hit, fzV, fV⟩
  unfold B65_0
  rcases hit.next (P := prog) 0 with ⟨hall, hrun⟩ | ⟨k, v, w2, hlk, hk, hrun, hit2, f2, hent⟩
  · exact .inl ⟨V, hrun, _, rfl, fV, hR _ _ ⟨rfl, fV⟩⟩
  · have hkm : k ∈ keys dm1 := by rw [mem_keys_iff, hlk]; rfl
    have hk2 := (key_iff h1 k).1 hkm
    have hk2' := (key_iff h2 k).1 ((hkeys k).1 hkm)
    have hD1 : Dt t1.L k = some (entsOf t1.L k) := by unfold Dt; rw [if_pos hk2]
    have hD2 : Dt t2.L k = some (entsOf t2.L k) := by unfold Dt; rw [if_pos hk2']
    have hents : entsOf t2.L k = entsOf t1.L k := by have := hD k; rw [hD1, hD2] at this; exact (Option.some.inj this).symm
    have hlow : ∀ i ∈ [w.drew.heap.size], i ∈ [w.drew.heap.size] ∨ False := by simp
    have f02 : Fr [] w w2 := fV.trans' f2 (by intro i hi; simp at hi; right; rw [hi]; exact (Fr.drew w).1)
    have hd := (at1 _ f02).dirs k
    rw [hD1] at hd
    obtain ⟨hl, a, c, ha, he⟩ := hd
    have hv : v = .slice a (entsOf t1.L k).length c := by rw [ha] at hlk; exact (Option.some.inj hlk).symm
    subst hv
    have hd' := (at2 _ f02).dirs k
    rw [hD2, hents] at hd'
    obtain ⟨hl', a', c', ha', he'⟩ := hd'
    refine .inr ⟨.int .i64 k, .slice a (entsOf t1.L k).length c, w2, hrun, k, a, (entsOf t1.L k).length, c, w2, hent, ?_⟩
    have hlook := lookup_dirs (at2 _ f02).dmap k true
    rw [if_pos rfl, ha'] at hlook
    refine ⟨_, _, _, _, hlook, ?_⟩
    rw [show (some (Value.slice a' (entsOf t1.L k).length c')).isSome = true from rfl, Bool.not_true, cond_false]
    rw [show entersB prog 66 = true by kernel_rfl, cond_true]
    simp only [List.nil_append, List.append_nil]
    refine Calls.mono (k_Equal (entsOf t1.L k) a a' _ c c' w2 (he.ext (by simp)) (he'.ext (by simp)) hl) ?_
    rintro _ w3 ⟨rfl, f3⟩
    refine ⟨_, rfl, ?_⟩
    rw [Bool.not_true, cond_false]
    refine ⟨trivial, leftN dm1 (k :: done), leftN_lt hlk hk, k :: done, rfl, hit2.fr f3 (by simp) (by simp), (fzV.trans f2).trans (Fr.of_nil f3), f02.trans f3⟩

/-- Cookie -/
theorem k_Cookie (h : TreeAt w tb F X t) : Calls prog 28 #[.pointer (some ⟨tb, 0, none⟩)] w fun e w' => e = .returned (.int .i64 t.next) ∧ w = w' := by
  obtain ⟨⟨db, fb, pb, PF, dm, fm, rfl, h⟩, hI⟩ := h
  refine c28 _ _ _ ?_
  exact ⟨t.next, by simpa [Addr.add_lit] using h.blk.cell 3, rfl, rfl⟩

theorem out_len {t : RT} (hI : Go.Topo.Inv t) {l : List Int} (hn : l.Nodup) (h : ∀ x, x ∈ l ↔ outt t.L x) : l.length = t.L.length := by
  have h2 : (t.L.map (fun x => x.2.node)).Nodup := by
    unfold List.Nodup
    rw [List.pairwise_map]
    exact hI.nodes
  have := len_of_keys hn h2 (fun x => by
    rw [h x]
    unfold outt
    have hz := kindOf_zero_iff t.L x
    constructor
    · rintro ⟨h0, hk⟩
      apply Classical.byContradiction
      intro hno
      refine hk (hz.2 ⟨h0, fun y hy e => hno ?_⟩)
      rw [← e]; exact List.mem_map_of_mem (f := fun x : Int × Ent => x.2.node) hy
    · intro hm
      obtain ⟨y, hy, rfl⟩ := List.mem_map.1 hm
      have := hI.node y hy
      exact ⟨by omega, fun hk => (hz.1 hk).2 y hy rfl⟩)
  simpa using this

/-- Nodes -/
theorem k_Nodes (h : TreeAt w tb F X t) : Calls prog 29 #[.pointer (some ⟨tb, 0, none⟩)] w fun e w' => e = .returned (.int .i64 (t.L.length : Nat)) ∧ w = w' := by
  obtain ⟨⟨db, fb, pb, PF, dm, fm, rfl, h⟩, hI⟩ := h
  refine c29 _ _ _ ?_
  have hp := h.pool
  obtain ⟨ob, a, n, c, fresh, l, m, rfl, hp⟩ := hp
  refine ⟨_, by simpa [Addr.add_lit] using h.blk.cell 2, ?_⟩
  refine c76 _ _ _ ?_
  refine ⟨_, by simpa [Addr.add_lit] using hp.blk.cell 3, _, IMap.len (P := prog) u_files hp.map 3, _, rfl, ?_, rfl⟩
  have := out_len hI hp.map.nodup hp.out
  rw [← this]; simp [keys]
end
end Go.Proofs.Tryz
