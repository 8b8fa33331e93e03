/- Dirs: the directories' numbers, a slice of one's own. Conditions: none. -/
import Derived.Test.YtdicohcmccjnoaaGreatUm
import Derived.Test.YtdicohcmccjnoaaGreatKy
import Derived.Test.YtdicohcmccjnoaaGreatMi
namespace Go.Proofs.Tryz
open Go Go.Eng Go.Topo
open Go.WideElems (Fit rd rg)
open Go.RowKit Go.Maps Go.Sort Go.Shelf

theorem keyOf_int {k : Int} (h1 : -9223372036854775808 ≤ k) (h2 : k ≤ 9223372036854775807) : keyOf prog 3 (.int .i64 k) = some (.int .i64 k) := by
  have hw : (Lit.int .i64 k).wf = true := by
    have a1 : IntKind.min .i64 = -9223372036854775808 := rfl
    have a2 : IntKind.max .i64 = 9223372036854775807 := rfl
    simp only [Lit.wf, a1, a2, Bool.and_eq_true, decide_eq_true_eq]
    exact ⟨h1, h2⟩
  have hu := u_int
  simp only [keyOf, hu, mapKey, hw, and_self, if_true]

/-- a map keyed by int, as the shelf speaks of it -/
theorem ownsMap_of {w : World} {b : Nat} {m : List (Int × Value)} (h : IMap w b m) (hr : ∀ k ∈ keys m, -9223372036854775808 ≤ k ∧ k ≤ 9223372036854775807) (hm : m.length ≤ 1048576) :
    ∃ D0 : DataW Unit, w.ownsMap prog 3 (fun _ => some (DataW.nil, [])) b m.length D0 ∧ Maps.size D0 ≤ m.length ∧ (intKeys D0).Perm (keys m) := by
  obtain ⟨es, clock, hb, he, hn, hbn, hbc⟩ := h
  have hlen : es.toList.length = m.length := by have := congrArg List.length he; simpa using this
  have hk : ∀ x ∈ es.toList, ∃ k ∈ keys m, x.key = .int .i64 k := by
    intro x hx
    have : (x.key, x.val) ∈ es.toList.map (fun e => (e.key, e.val)) := List.mem_map_of_mem hx
    rw [he] at this
    obtain ⟨p, hp, e⟩ := List.mem_map.1 this
    exact ⟨p.1, List.mem_map_of_mem hp, by have := congrArg Prod.fst e; simpa using this.symm⟩
  refine ⟨_, ⟨es, clock, hb, ⟨?_, ⟨hbc, hbn, ?_⟩, ?_⟩, ?_, rfl⟩, ?_, ?_⟩
  · rw [← Array.length_toList, hlen]; simp [maxLen]; omega
  · have e2 : es.toList.map (·.key) = (keys m).map (Value.int .i64) := by
      have := congrArg (List.map Prod.fst) he
      simpa [keys, List.map_map, Function.comp_def] using this
    rw [e2]
    unfold List.Nodup at *
    rw [List.pairwise_map]
    exact hn.imp (fun hne e => hne (by simpa using e))
  · intro x hx
    obtain ⟨k, hk1, hk2⟩ := hk x hx
    obtain ⟨r1, r2⟩ := hr k hk1
    obtain ⟨ky, vl, bn⟩ := x
    simp only at hk2
    subst hk2
    exact ⟨_, Go.WideElems.rd_mk (keyOf_int r1 r2) rfl⟩
  · rw [← Array.length_toList, hlen]; exact Nat.le_refl _
  · show List.length _ ≤ _
    rw [length_sorted, List.length_map, hlen]; exact Nat.le_refl _
  · show (List.map _ _).Perm _
    refine ((Go.WideShapes.sorted_perm _).map _).trans ?_
    rw [List.map_map]
    have e3 : es.toList.map ((fun p : Lit × DataW Unit => _root_.Go.intOf p.1) ∘ rg prog 3 (fun _ => some (DataW.nil, []))) = keys m := by
      have e4 : (keys m) = (es.toList.map (·.key)).map (fun v => match v with | .int _ k => k | _ => 0) := by
        have := congrArg (List.map Prod.fst) he
        have e2 : es.toList.map (·.key) = (keys m).map (Value.int .i64) := by simpa [keys, List.map_map, Function.comp_def] using this
        rw [e2, List.map_map]
        simp [Function.comp_def]
      rw [e4, List.map_map]
      apply List.map_congr_left
      intro x hx
      obtain ⟨k, hk1, hk2⟩ := hk x hx
      obtain ⟨r1, r2⟩ := hr k hk1
      obtain ⟨ky, vl, bn⟩ := x
      simp only at hk2
      subst hk2
      have : rg prog 3 (fun _ => some (DataW.nil, [])) ⟨.int .i64 k, vl, bn⟩ = ((.int .i64 k), (DataW.nil : DataW Unit)) := Go.WideElems.rg_of (Go.WideElems.rd_mk (R := fun _ => some (DataW.nil, [])) (yv := (DataW.nil, [])) (keyOf_int r1 r2) rfl)
      simp [Function.comp, this, _root_.Go.intOf]
    rw [e3]

theorem sortsA (m : Nat) : AnyZI.SortsIn prog sortedA_ren Fence.wide m :=
  ⟨fun blk off cap ss W hH hblk hsz => callsIn_wide.2 (AnyM.slices_Sort_int sortA blk off cap ss W hH hblk hsz),
   fun p cap W => callsIn_wide.2 (AnyM.slices_Sort_int_none sortA p cap W)⟩

theorem fr_of_below {w w' : World} (h : Below w.heap.size w w') : Fr [] w w' := ⟨h.size, fun b hb _ => h.block b hb, h.os, h.tape, h.output⟩

/-- slices.Sorted(maps.Keys(m)) -/
theorem k_SortedKeys {w : World} {b : Nat} {m : List (Int × Value)} (h : IMap w b m) (hr : ∀ k ∈ keys m, -9223372036854775808 ≤ k ∧ k ≤ 9223372036854775807) (hm : m.length ≤ 1048576) :
    Calls prog 72 #[.func (.func 129) #[] #[.pointer (some ⟨w.heap.size, 0, none⟩)]] (w.alloc (.cells #[.map (some b)] 53)) fun e w' =>
      ∃ a n c ds, e = .returned (.slice a n c) ∧ OwnI w' w.heap.size a n c ds ∧ ds.Perm (keys m) ∧ ds.Pairwise (· ≤ ·) ∧ Fr [] w w' := by
  obtain ⟨D0, hown, hsz, hperm⟩ := ownsMap_of h hr hm
  have hbl := h.lt
  have hseq : SeqGives Fence.wide 2 prog 129 #[.pointer (some ⟨w.heap.size, 0, none⟩)] encZ (fun ss => ss.Perm (intKeys D0)) (Maps.size D0) (w.alloc (.cells #[.map (some b)] 53)) :=
    AnyZI.keys_gives (ρ := keysA_ren) { keysA with } Fence.wide _ trivial rfl (by omega) w.heap.size b m.length D0 _ (by simp) (by simp) (by
      obtain ⟨es, clock, hb, Ft, hs, hD⟩ := hown
      exact ⟨es, clock, (Below.heap_alloc _ _ b hbl).trans hb, Ft, hs, hD⟩)
  have cS := AnyZI.sorted_in sortedA Fence.wide 5 trivial trivial trivial trivial rfl (by omega) (sortsA _) (enters_of_B (by kernel_rfl)) 129 #[.pointer (some ⟨w.heap.size, 0, none⟩)] trivial (enters_of_B (by kernel_rfl)) _ _ (by simp [maxLen]; omega) (by omega) _ hseq
  change CallsIn _ _ prog 72 _ _ _ at cS
  refine Calls.mono (callsIn_wide.1 cS) ?_
  rintro e w' ⟨v, ss, rfl, hS, hrow, _, hb⟩
  have hrow' := ownsRow_base_a (base' := w.heap.size) hrow (by simp)
  have hf : Fr [] w w' := (Fr.alloc ..).trans (fr_of_below hb)
  have hv : ∃ a c, v = .slice a ss.length c := by
    rcases hrow'.2 with ⟨hv, hn⟩ | ⟨g, cap, cur, hv, _⟩
    · exact ⟨none, 0, by rw [hv, hn]⟩
    · exact ⟨_, _, hv⟩
  obtain ⟨a, c, rfl⟩ := hv
  refine ⟨a, ss.length, c, _, rfl, hrow', (List.mergeSort_perm ss _).trans (hS.trans hperm), ?_, hf⟩
  have := List.pairwise_mergeSort (le := leI) (fun a b c h1 h2 => by simp only [leI, decide_eq_true_eq] at *; exact Int.le_trans h1 h2) (fun a b => by simp only [leI, Bool.or_eq_true, decide_eq_true_eq]; exact Int.le_total a b) ss
  exact this.imp (fun h => by simpa [leI] using h)

theorem kind2_range {t : RT} (hI : Go.Topo.Inv t) {n : Int} (h : kindOf t.L n = 2) : 0 ≤ n ∧ n ≤ 200 := by
  by_cases h0 : n = 0
  · omega
  · have hk : kindOf t.L n ≠ 0 := by omega
    have : ∃ y ∈ t.L, y.2.node = n := by
      apply Classical.byContradiction
      intro hno
      exact hk ((kindOf_zero_iff _ _).2 ⟨h0, fun y hy e => hno ⟨y, hy, e⟩⟩)
    obtain ⟨y, hy, rfl⟩ := this
    have := hI.node y hy
    omega

/-- two rising lists with the same members are one -/
theorem rising_ext : ∀ {l r : List Int}, l.Pairwise (· < ·) → r.Pairwise (· < ·) → (∀ x, x ∈ l ↔ x ∈ r) → l = r
  | [], [], _, _, _ => rfl
  | [], y :: r, _, _, h => by have := (h y).2 (List.mem_cons_self ..); cases this
  | x :: l, [], _, _, h => by have := (h x).1 (List.mem_cons_self ..); cases this
  | x :: l, y :: r, hl, hr, h => by
    obtain ⟨l1, l2⟩ := List.pairwise_cons.1 hl
    obtain ⟨r1, r2⟩ := List.pairwise_cons.1 hr
    have e : x = y := by
      rcases List.mem_cons.1 ((h x).1 (List.mem_cons_self ..)) with h1 | h1
      · exact h1
      · rcases List.mem_cons.1 ((h y).2 (List.mem_cons_self ..)) with h2 | h2
        · exact h2.symm
        · have := l1 y h2; have := r1 x h1; omega
    subst e
    have : l = r := rising_ext l2 r2 (fun z => by
      have := h z
      simp only [List.mem_cons] at this
      constructor
      · intro hz
        rcases this.1 (.inr hz) with e | e
        · subst e; have := l1 z hz; omega
        · exact e
      · intro hz
        rcases this.2 (.inr hz) with e | e
        · subst e; have := r1 z hz; omega
        · exact e)
    rw [this]

/-- the directories' numbers, rising -/
def dirsOf (L : Items) : List Int := ((List.range 201).map (fun n : Nat => (n : Int))).filter (fun n => kindOf L n == 2)
theorem dirsOf_rising (L : Items) : (dirsOf L).Pairwise (· < ·) := by
  unfold dirsOf
  refine List.Pairwise.filter _ ?_
  rw [List.pairwise_map]
  exact List.pairwise_lt_range.imp (fun h => by omega)
theorem mem_dirsOf {t : RT} (hI : Go.Topo.Inv t) {n : Int} : n ∈ dirsOf t.L ↔ kindOf t.L n = 2 := by
  unfold dirsOf
  rw [List.mem_filter, List.mem_map]
  constructor
  · rintro ⟨_, h⟩; simpa using h
  · intro h
    have := kind2_range hI h
    exact ⟨⟨n.toNat, by rw [List.mem_range]; omega, by omega⟩, by simpa using h⟩
theorem dirsOf_length (L : Items) : (dirsOf L).length ≤ 201 := by
  unfold dirsOf
  refine Nat.le_trans (List.length_filter_le _ _) (by simp)

theorem key_iff {w : World} {tb db fb pb : Nat} {PF X : List Nat} {dm fm : List (Int × Value)} {t : RT} (h : TM w tb db fb pb PF X dm fm (Dt t.L) (flt t.L) (outt t.L) t.next) (k : Int) : k ∈ keys dm ↔ kindOf t.L k = 2 := by
  rw [mem_keys_iff]
  have hd := h.dirs k
  by_cases hk : kindOf t.L k = 2
  · have hn : Dt t.L k = some (entsOf t.L k) := by unfold Dt; rw [if_pos hk]
    rw [hn] at hd
    obtain ⟨_, a, c, ha, _⟩ := hd
    rw [ha]; simp [hk]
  · have hn : Dt t.L k = none := by unfold Dt; rw [if_neg hk]
    rw [hn] at hd
    rw [hd]; simp [hk]

/-- Dirs -/
theorem k_Dirs {w : World} {tb : Nat} {F X : List Nat} {t : RT} (h : TreeAt w tb F X t) : Calls prog 25 #[.pointer (some ⟨tb, 0, none⟩)] w fun e w' =>
    ∃ a n c, e = .returned (.slice a n c) ∧ OwnI w' w.heap.size a n c (dirsOf t.L) ∧ Fr [] w w' := by
  obtain ⟨⟨db, fb, pb, PF, dm, fm, rfl, h⟩, hI⟩ := h
  refine c25 _ _ _ (withR (X := N25 _ _) ?_)
  intro R hR
  unfold N25
  refine ⟨some db, h.blk.cell 0, ?_⟩
  refine c73 _ _ _ ?_
  unfold N73
  rintro w1 rfl
  refine ⟨_, _, _, rfl, ?_⟩
  have hrange : ∀ k ∈ keys dm, 0 ≤ k ∧ k ≤ 200 := fun k hk => kind2_range hI ((key_iff h k).1 hk)
  have hlen : dm.length ≤ 201 := by
    have := nodup_bound' 201 ((keys dm).map (· + 1)) (by
      have := h.dmap.nodup
      unfold List.Nodup at *
      rw [List.pairwise_map]
      exact this.imp (fun hne e => hne (by omega))) (by
      intro x hx
      obtain ⟨y, hy, rfl⟩ := List.mem_map.1 hx
      have := hrange y hy
      omega)
    simpa [keys] using this
  refine Calls.mono (k_SortedKeys h.dmap (fun k hk => by have := hrange k hk; omega) (by omega)) ?_
  rintro _ w2 ⟨a, n, c, ds, rfl, ho, hp, hs, hf⟩
  have hds : ds = dirsOf t.L := by
    refine rising_ext ?_ (dirsOf_rising _) (fun x => ?_)
    · have hnd : ds.Nodup := hp.nodup_iff.2 h.dmap.nodup
      exact (hs.and hnd).imp (fun ⟨h1, h2⟩ => by omega)
    · rw [hp.mem_iff, key_iff h, mem_dirsOf hI]
  subst hds
  exact ⟨_, _, _, rfl, hR _ _ ⟨a, n, c, rfl, ho, hf⟩⟩
end Go.Proofs.Tryz
