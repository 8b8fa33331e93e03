/- tree.Make: a directory and what lies below it. Conditions: none. -/
import Derived.Test.YtdicohcmccjnoaaGreatMn
set_option maxRecDepth 10000
namespace Go.Topo
open Go
theorem dfs_rng {D : DMap} {c : Int} : ∀ (f : Nat) (s : MSt) (n : Int) (s' : MSt), dfs D c f s n = some s' → (s.bad = false → Rng s) → (s'.bad = false → Rng s') := by
  intro f
  induction f with
  | zero => intro s n s' h; simp [dfs] at h
  | succ f ih =>
    intro s n s' h hs
    unfold dfs at h
    have loop : ∀ (l : List Ent) (u s' : MSt), l.foldlM (fun s e => if e.dir && !s.bad then dfs D c f s e.node else some s) u = some s' → (u.bad = false → Rng u) → (s'.bad = false → Rng s') := by
      intro l
      induction l with
      | nil => intro u s' h hu; simp at h; rw [← h]; exact hu
      | cons e l ihl =>
        intro u s' h hu
        rw [List.foldlM_cons] at h
        by_cases hc : (e.dir && !u.bad) = true
        · rw [if_pos hc] at h
          cases hd : dfs D c f u e.node with
          | none => rw [hd] at h; cases h
          | some v =>
            rw [hd] at h
            exact ihl v s' h (ih u e.node v hd hu)
        · rw [if_neg hc] at h
          exact ihl u s' h hu
    exact loop _ _ _ h (fun h1 => dir1_rng (hs ((dir1_ok s n).1 h1).1) h1)
end Go.Topo

namespace Go.Proofs.Tryz
open Go Go.Eng Go.Topo

section
variable {w0 W W' : World} {mb ckb db : Nat} {nv : Value} {c : Int} {a : Option Addr} {cap : Nat} {s : MSt} {dm : List (Int × Value)} {D : DMap}
theorem Mk.same {s' : MSt} (h : Mk w0 W mb ckb db nv c a cap s) (h1 : s'.nodes = s.nodes) (h2 : s'.cooks = s.cooks) (h3 : s'.bad = s.bad) : Mk w0 W mb ckb db nv c a cap s' := by
  obtain ⟨f, b, o, ck, ap⟩ := h
  exact { fr := f, blk := by rw [h1, h3]; exact b, own := by rw [h1]; exact o, ck := by rw [h2]; exact ck, ap := ap }
theorem Mk.names (h : Mk w0 W mb ckb db nv c a cap s) (v : Value) : Mk w0 (W.setCell ⟨mb, 4, none⟩ v) mb ckb db v c a cap s := by
  obtain ⟨a1, a2, a3, a4, a5⟩ := h.ap
  have hf := Fr.setCell' W mb 0 4 v
  exact { fr := h.fr.trans' hf (by intro i hi; simp [blks] at hi; right; omega), blk := h.blk.set 4 v, own := h.own.fr hf (by intro i hi hm; simp [blks] at hm; subst hm; exact a2 hi), ck := h.ck.fr hf (by simp [blks]; exact fun e => a1 e.symm), ap := h.ap }

theorem k_mdir (hd : DMAt w0 [] db dm D) : ∀ (f : Nat) (s s' : MSt) (n : Int) (W : World) (nv : Value) (a : Option Addr) (cap : Nat), dfs D c f s n = some s' → s.bad = false → Rng s → Mk w0 W mb ckb db nv c a cap s →
    Calls prog 75 #[.pointer (some ⟨mb, 0, none⟩), .int .i64 n] W fun r W' => r = .returned (.tuple #[]) ∧ ∃ nv' a' cap', Mk w0 W' mb ckb db nv' c a' cap' s' := by
  intro f
  induction f with
  | zero => intro s s' n W nv a cap h; simp [dfs] at h
  | succ f ih =>
    intro s s' n W nv a cap hdfs hbad hrng h
    refine c75 _ _ _ _ (withR (X := N75 _ _ _) ?_)
    intro R hR
    unfold N75
    obtain ⟨a1, a2, a3, a4, a5⟩ := h.ap
    have hmlt := h.blk.lt
    have hclt := h.ck.lt
    have hlo := h.fr.1
    have hblk := Own.blk h.own
    rintro w1 rfl
    have h1 := h.fr0 (Fr.alloc W (.map #[] 0))
    have n1 := GSet.new (fun x : ByteArray => Value.string x) W
    generalize hnb : W.heap.size = nb at *
    generalize W.alloc (.map #[] 0) = w1 at *
    simp only [Addr.add_lit, Nat.zero_add]
    refine ⟨⟨_, h1.blk.cell 4⟩, h1.blk.frozen 4, ?_⟩
    rintro w2 rfl
    have h2 := h1.names (.map (some nb))
    have n2 := n1.fr (Fr.setCell' w1 mb 0 4 (.map (some nb))) (by simp [blks]; omega)
    generalize w1.setCell ⟨mb, 4, none⟩ (.map (some nb)) = w2 at *
    obtain ⟨da, dc, he, hl, hlk, hsm⟩ := (hd.fr h2.fr).look n
    have hlen : ∀ k, k ≤ (dl D n).length → k ≤ 1048576 := fun k hk => by omega
    refine ⟨some db, h2.blk.cell 1, da, (dl D n).length, dc, ?_, ?_⟩
    · rw [lookup_dirs (hd.1.fr h2.fr (by simp)) n false, hlk]; rfl
    refine Calls.mono (k_IsSortedFunc (dl D n) da _ dc w2 he hl) ?_
    rintro _ w3 ⟨rfl, f3⟩
    have h3 := h2.fr0 f3
    have n3 := n2.fr f3 (by simp)
    refine ⟨_, rfl, ?_⟩
    refine Calls.mono (h3.must (srtB (dl D n))) ?_
    rintro _ w4 ⟨rfl, h4, f4⟩
    have n4 := n3.fr f4 (by simp; omega)
    refine ⟨rfl, ?_⟩
    have hrl := hrng.len
    -- the second round
    have second : ∀ (ds : List Value) (V : World) (nv : Value) (a : Option Addr) (cap : Nat), Mk w0 V mb ckb db nv c a cap (dir1 D c s n).1 → L75_1 ⟨mb, 0, none⟩ da (dl D n).length dc (dl D n).length 0 ds V R := by
      intro ds V nv a cap hV
      refine lp75_1 _ _ _ _ _ (fun q i U => ∃ (k : Nat) (u : MSt) (nv : Value) (a : Option Addr) (cap : Nat), i = k ∧ k ≤ (dl D n).length ∧ q = (dl D n).length - k ∧ Mk w0 U mb ckb db nv c a cap u ∧ (u.bad = false → Rng u) ∧
        ((dl D n).drop k).foldlM (fun s e => if e.dir && !s.bad then dfs D c f s e.node else some s) u = some s') _ ?_ (dl D n).length 0 V
        ⟨0, _, nv, a, cap, rfl, by omega, by omega, hV, fun hb => dir1_rng hrng hb, by rw [List.drop_zero]; exact hdfs⟩ _
      rintro q _ ds U ⟨k, u, nv, a, cap, rfl, hk, rfl, hU, hru, hfold⟩
      unfold B75_1
      by_cases hkn : k < (dl D n).length
      · rw [decide_eq_true (by omega), cond_true]
        obtain ⟨x, hx⟩ : ∃ x, (dl D n)[k]? = some x := ⟨(dl D n)[k], List.getElem?_eq_getElem hkn⟩
        have hdrop : (dl D n).drop k = x :: (dl D n).drop (k + 1) := by
          rw [List.drop_eq_getElem_cons hkn, (List.getElem?_eq_some_iff.1 hx).2]
        rw [hdrop, List.foldlM_cons] at hfold
        obtain ⟨da', dc', he', -, hlk', -⟩ := (hd.fr hU.fr).look n
        have hEq : Value.slice da' (dl D n).length dc' = .slice da (dl D n).length dc := by rw [← hlk', ← hlk]
        cases hEq
        obtain ⟨b, off, rfl, d0, d1, d2, d3, d4⟩ := he'.at hx
        simp only [optW, Addr.add_lit, Int.toNat_natCast, Nat.zero_add]
        refine ⟨⟨by omega, by omega⟩, _, d0, _, d1, _, d2, _, d3, _, d4, ?_⟩
        rintro V1 rfl
        have fV1 := Fr.alloc U (.cells #[(.string ⟨#[]⟩), (.int .i64 0), (.bool false), (.int .i64 0), (.int .i64 0)] 117)
        have bV1 := Blk.new U [(.string ⟨#[]⟩), (.int .i64 0), (.bool false), (.int .i64 0), (.int .i64 0)] 117
        refine set5 bV1 (.string x.name) (.int .i64 x.node) (.bool x.dir) (.int .i64 x.cookie) (.int .i64 x.short) _ ?_
        intro V2 bV2 fV2
        have fUV : Fr [] U V2 := fV1.trans' fV2 (by intro i hi; simp at hi; right; omega)
        have hV2 := hU.fr0 fUV
        have stp : ∀ (V3 : World) (u' : MSt) (nv' : Value) (a' : Option Addr) (cap' : Nat), Mk w0 V3 mb ckb db nv' c a' cap' u' → (u'.bad = false → Rng u') → ((dl D n).drop (k + 1)).foldlM (fun s e => if e.dir && !s.bad then dfs D c f s e.node else some s) u' = some s' →
            ∃ m, m < (dl D n).length - k ∧ ∃ (k' : Nat) (u : MSt) (nv : Value) (a : Option Addr) (cap : Nat), IntKind.wrap .i64 ((k : Int) + 1) = k' ∧ k' ≤ (dl D n).length ∧ m = (dl D n).length - k' ∧ Mk w0 V3 mb ckb db nv c a cap u ∧ (u.bad = false → Rng u) ∧
              ((dl D n).drop k').foldlM (fun s e => if e.dir && !s.bad then dfs D c f s e.node else some s) u = some s' := by
          intro V3 u' nv' a' cap' g1 g2 g3
          refine ⟨(dl D n).length - (k + 1), by omega, k + 1, u', nv', a', cap', ?_, by omega, rfl, g1, g2, g3⟩
          rw [wr (by omega) (by omega)]; simp
        refine ⟨_, bV2.cell 2, ?_⟩
        cases hxd : x.dir with
        | true =>
          rw [cond_true]
          refine ⟨u.bad, hV2.blk.cell 5, ?_⟩
          cases hub : u.bad with
          | false =>
            rw [Bool.not_false, cond_true]
            refine ⟨_, bV2.cell 1, ?_⟩
            rw [hxd, hub, Bool.not_false, Bool.and_self, if_pos rfl] at hfold
            cases hdf : dfs D c f u x.node with
            | none => rw [hdf] at hfold; cases hfold
            | some v =>
              rw [hdf] at hfold
              refine Calls.mono (ih u v x.node V2 nv a cap hdf hub (hru hub) hV2) ?_
              rintro _ V3 ⟨rfl, nv', a', cap', hV3⟩
              exact ⟨rfl, _, rfl, stp V3 v nv' a' cap' hV3 (dfs_rng f u x.node v hdf hru) hfold⟩
          | true =>
            rw [Bool.not_true, cond_false]
            rw [hxd, hub, Bool.not_true, Bool.and_false, if_neg (by simp)] at hfold
            exact ⟨_, rfl, stp V2 u nv a cap hV2 hru hfold⟩
        | false =>
          rw [cond_false]
          rw [hxd, Bool.false_and, if_neg (by simp)] at hfold
          exact ⟨_, rfl, stp V2 u nv a cap hV2 hru hfold⟩
      · rw [decide_eq_false (by omega), cond_false]
        rw [List.drop_of_length_le (by omega)] at hfold
        have : u = s' := by simpa using hfold
        subst this
        exact hR _ _ ⟨rfl, _, _, _, hU⟩
    -- the first round
    let p0 : MSt × List ByteArray := (⟨s.nodes, s.cooks, s.bad || !(srtB (dl D n)), s.vis ++ [n]⟩, [])
    refine lp75_0 _ _ _ _ _ _ _ _ (fun q i U => ∃ (k : Nat) (a : Option Addr) (cap : Nat), i = k ∧ k ≤ (dl D n).length ∧ q = (dl D n).length - k ∧ Mk w0 U mb ckb db (.map (some nb)) c a cap (((dl D n).take k).foldl (entStep D c) p0).1 ∧
      SSet U nb (· ∈ (((dl D n).take k).foldl (entStep D c) p0).2) ∧ nb ∉ blks a) _ ?_ (dl D n).length 0 w4
      ⟨0, a, cap, rfl, by omega, by omega, h4.same rfl rfl rfl, n4.congr (by simp [p0]), fun hm => by have := (hblk _ hm).2; omega⟩ _
    rintro q _ ds U ⟨k, a, cap, rfl, hk, rfl, hU, nU, hna⟩
    unfold B75_0
    by_cases hkn : k < (dl D n).length
    · rw [decide_eq_true (by omega), cond_true]
      obtain ⟨x, hx⟩ : ∃ x, (dl D n)[k]? = some x := ⟨(dl D n)[k], List.getElem?_eq_getElem hkn⟩
      obtain ⟨da', dc', he', -, hlk', -⟩ := (hd.fr hU.fr).look n
      have hEq : Value.slice da' (dl D n).length dc' = .slice da (dl D n).length dc := by rw [← hlk', ← hlk]
      cases hEq
      obtain ⟨b, off, rfl, d0, d1, d2, d3, d4⟩ := he'.at hx
      simp only [optW, Addr.add_lit, Int.toNat_natCast, Nat.zero_add]
      refine ⟨⟨by omega, by omega⟩, _, d0, _, d1, _, d2, _, d3, _, d4, ?_⟩
      rintro V1 rfl
      have fV1 := Fr.alloc U (.cells #[(.string ⟨#[]⟩), (.int .i64 0), (.bool false), (.int .i64 0), (.int .i64 0)] 117)
      have bV1 := Blk.new U [(.string ⟨#[]⟩), (.int .i64 0), (.bool false), (.int .i64 0), (.int .i64 0)] 117
      refine set5 bV1 (.string x.name) (.int .i64 x.node) (.bool x.dir) (.int .i64 x.cookie) (.int .i64 x.short) _ ?_
      intro V2 bV2 fV2
      have fUV : Fr [] U V2 := fV1.trans' fV2 (by intro i hi; simp at hi; right; omega)
      refine ⟨_, bV2.cell 0, _, bV2.cell 1, _, bV2.cell 2, _, bV2.cell 3, _, bV2.cell 4, ?_⟩
      refine Calls.mono (k_mentry hd (hU.fr0 fUV) (nU.fr fUV (by simp)) ⟨by omega, by omega, hna, by omega⟩ ?_ x) ?_
      · rw [fold_nodes, List.length_append, List.length_map, List.length_take]
        show s.nodes.length + _ ≤ _
        omega
      rintro _ V3 ⟨rfl, a', cap', hV3, nV3, hna'⟩
      refine ⟨rfl, _, rfl, (dl D n).length - (k + 1), by omega, k + 1, a', cap', ?_, by omega, rfl, ?_, ?_, hna'⟩
      · rw [wr (by omega) (by omega)]; simp
      · rw [take_snoc hx, List.foldl_append]; exact hV3
      · rw [take_snoc hx, List.foldl_append]; exact nV3
    · rw [decide_eq_false (by omega), cond_false]
      rw [List.take_of_length_le (by omega)] at hU
      exact second _ _ _ _ _ hU
end
end Go.Proofs.Tryz
