/- Dirs: the directories' numbers, a slice of one's own. Conditions: none. -/
import Derived.Test.YtmnhbjoamnjppaaUm
import Derived.Test.YtmnhbjoamnjppaaKy
namespace Go.Proofs.Try
open Go Go.Eng Go.Topo
open Go.WideElems (Fit rd rg)
open Go.RowKit Go.Maps Go.Sort Go.Shelf

theorem keyOf_int {k : Int} (h1 : -9223372036854775808 ≤ k) (h2 : k ≤ 9223372036854775807) : keyOf prog 3 (.int .i64 k) = some (.int .i64 k) := by
  have hw : (Lit.int .i64 k).wf = true := by
    have a1 : IntKind.min .i64 = -9223372036854775808 := rfl
    have a2 : IntKind.max .i64 = 9223372036854775807 := rfl
    simp only [Lit.wf, a1, a2, Bool.and_eq_true, decide_eq_true_eq]
    exact ⟨h1, h2⟩
  have hu := u_int
  simp only [keyOf, hu, mapKey, hw, and_self, if_true]

/-- a map keyed by int, as the shelf speaks of it -/
theorem ownsMap_of {w : World} {b : Nat} {m : List (Int × Value)} (h : IMap w b m) (hr : ∀ k ∈ keys m, -9223372036854775808 ≤ k ∧ k ≤ 9223372036854775807) (hm : m.length ≤ 1048576) :
    ∃ D0 : DataW Unit, w.ownsMap prog 3 (fun _ => some (DataW.nil, [])) b m.length D0 ∧ Maps.size D0 ≤ m.length := by
  obtain ⟨es, clock, hb, he, hn, hbn, hbc⟩ := h
  have hlen : es.toList.length = m.length := by have := congrArg List.length he; simpa using this
  have hk : ∀ x ∈ es.toList, ∃ k ∈ keys m, x.key = .int .i64 k := by
    intro x hx
    have : (x.key, x.val) ∈ es.toList.map (fun e => (e.key, e.val)) := List.mem_map_of_mem hx
    rw [he] at this
    obtain ⟨p, hp, e⟩ := List.mem_map.1 this
    exact ⟨p.1, List.mem_map_of_mem hp, by have := congrArg Prod.fst e; simpa using this.symm⟩
  refine ⟨_, ⟨es, clock, hb, ⟨?_, ⟨hbc, hbn, ?_⟩, ?_⟩, ?_, rfl⟩, ?_⟩
  · rw [← Array.length_toList, hlen]; simp [maxLen]; omega
  · have e2 : es.toList.map (·.key) = (keys m).map (Value.int .i64) := by
      have := congrArg (List.map Prod.fst) he
      simpa [keys, List.map_map, Function.comp_def] using this
    rw [e2]
    unfold List.Nodup at *
    rw [List.pairwise_map]
    exact hn.imp (fun hne e => hne (by simpa using e))
  · intro x hx
    obtain ⟨k, hk1, hk2⟩ := hk x hx
    obtain ⟨r1, r2⟩ := hr k hk1
    obtain ⟨ky, vl, bn⟩ := x
    simp only at hk2
    subst hk2
    exact ⟨_, Go.WideElems.rd_mk (keyOf_int r1 r2) rfl⟩
  · rw [← Array.length_toList, hlen]; exact Nat.le_refl _
  · show List.length _ ≤ _
    rw [length_sorted, List.length_map, hlen]; exact Nat.le_refl _

theorem sortsA (m : Nat) : AnyZI.SortsIn prog sortedA_ren Fence.wide m :=
  ⟨fun blk off cap ss W hH hblk hsz => callsIn_wide.2 (AnyM.slices_Sort_int sortA blk off cap ss W hH hblk hsz),
   fun p cap W => callsIn_wide.2 (AnyM.slices_Sort_int_none sortA p cap W)⟩

theorem fr_of_below {w w' : World} (h : Below w.heap.size w w') : Fr [] w w' := ⟨h.size, fun b hb _ => h.block b hb, h.os, h.tape, h.output⟩

/-- slices.Sorted(maps.Keys(m)) -/
theorem k_SortedKeys {w : World} {b : Nat} {m : List (Int × Value)} (h : IMap w b m) (hr : ∀ k ∈ keys m, -9223372036854775808 ≤ k ∧ k ≤ 9223372036854775807) (hm : m.length ≤ 1048576) :
    Calls prog 18 #[.func (.func 33) #[] #[.pointer (some ⟨w.heap.size, 0, none⟩)]] (w.alloc (.cells #[.map (some b)] 44)) fun e w' =>
      ∃ a n c ds, e = .returned (.slice a n c) ∧ OwnI w' w.heap.size a n c ds ∧ n ≤ m.length ∧ Fr [] w w' := by
  obtain ⟨D0, hown, hsz⟩ := ownsMap_of h hr hm
  have hbl := h.lt
  have hseq : SeqGives Fence.wide 2 prog 33 #[.pointer (some ⟨w.heap.size, 0, none⟩)] encZ (fun ss => ss.Perm (intKeys D0)) (Maps.size D0) (w.alloc (.cells #[.map (some b)] 44)) :=
    AnyZI.keys_gives (ρ := keysA_ren) { keysA with } Fence.wide _ trivial rfl (by omega) w.heap.size b m.length D0 _ (by simp) (by simp) (by
      obtain ⟨es, clock, hb, Ft, hs, hD⟩ := hown
      exact ⟨es, clock, (Below.heap_alloc _ _ b hbl).trans hb, Ft, hs, hD⟩)
  have cS := AnyZI.sorted_in sortedA Fence.wide 5 trivial trivial trivial trivial rfl (by omega) (sortsA _) (enters_of_B (by kernel_rfl)) 33 #[.pointer (some ⟨w.heap.size, 0, none⟩)] trivial (enters_of_B (by kernel_rfl)) _ _ (by simp [maxLen]; omega) (by omega) _ hseq
  change CallsIn _ _ prog 18 _ _ _ at cS
  refine Calls.mono (callsIn_wide.1 cS) ?_
  rintro e w' ⟨v, ss, rfl, hS, hrow, _, hb⟩
  have hlen : ss.length ≤ m.length := by
    rw [hS.length_eq]
    cases hD : D0 with
    | map es => rw [hD] at hsz; show (es.map _).length ≤ _; rw [List.length_map]; exact hsz
    | _ => simp [intKeys]
  have hrow' := ownsRow_base_a (base' := w.heap.size) hrow (by simp)
  have hf : Fr [] w w' := (Fr.alloc ..).trans (fr_of_below hb)
  have hv : ∃ a c, v = .slice a ss.length c := by
    rcases hrow'.2 with ⟨hv, hn⟩ | ⟨g, cap, cur, hv, _⟩
    · exact ⟨none, 0, by rw [hv, hn]⟩
    · exact ⟨_, _, hv⟩
  obtain ⟨a, c, rfl⟩ := hv
  exact ⟨a, ss.length, c, _, rfl, hrow', hlen, hf⟩

theorem kind2_range {t : RT} (hI : Go.Topo.Inv t) {n : Int} (h : kindOf t.L n = 2) : 0 ≤ n ∧ n ≤ 200 := by
  by_cases h0 : n = 0
  · omega
  · have hk : kindOf t.L n ≠ 0 := by omega
    have : ∃ y ∈ t.L, y.2.node = n := by
      apply Classical.byContradiction
      intro hno
      exact hk ((kindOf_zero_iff _ _).2 ⟨h0, fun y hy e => hno ⟨y, hy, e⟩⟩)
    obtain ⟨y, hy, rfl⟩ := this
    have := hI.node y hy
    omega

/-- Dirs -/
theorem k_Dirs {w : World} {tb : Nat} {F X : List Nat} {t : RT} (h : TreeAt w tb F X t) : Calls prog 8 #[.pointer (some ⟨tb, 0, none⟩)] w fun e w' =>
    ∃ a n c ds, e = .returned (.slice a n c) ∧ OwnI w' w.heap.size a n c ds ∧ n ≤ 201 ∧ Fr [] w w' := by
  obtain ⟨⟨db, fb, pb, PF, dm, fm, rfl, h⟩, hI⟩ := h
  refine c8 _ _ _ (withR (X := N8 _ _) ?_)
  intro R hR
  unfold N8
  refine ⟨some db, h.blk.cell 0, ?_⟩
  refine c19 _ _ _ ?_
  unfold N19
  rintro w1 rfl
  refine ⟨_, _, _, rfl, ?_⟩
  have hrange : ∀ k ∈ keys dm, 0 ≤ k ∧ k ≤ 200 := by
    intro k hk
    have hd := h.dirs k
    rw [mem_keys_iff] at hk
    have : kindOf t.L k = 2 := by
      apply Classical.byContradiction
      intro hne
      have hn : Dt t.L k = none := by unfold Dt; rw [if_neg hne]
      rw [hn] at hd
      rw [hd] at hk; cases hk
    exact kind2_range hI this
  have hlen : dm.length ≤ 201 := by
    have := nodup_bound' 201 ((keys dm).map (· + 1)) (by
      have := h.dmap.nodup
      unfold List.Nodup at *
      rw [List.pairwise_map]
      exact this.imp (fun hne e => hne (by omega))) (by
      intro x hx
      obtain ⟨y, hy, rfl⟩ := List.mem_map.1 hx
      have := hrange y hy
      omega)
    simpa [keys] using this
  refine Calls.mono (k_SortedKeys h.dmap (fun k hk => by have := hrange k hk; omega) (by omega)) ?_
  rintro _ w2 ⟨a, n, c, ds, rfl, ho, hn, hf⟩
  exact ⟨_, _, _, rfl, hR _ _ ⟨a, n, c, ds, rfl, ho, by omega, hf⟩⟩
end Go.Proofs.Try
