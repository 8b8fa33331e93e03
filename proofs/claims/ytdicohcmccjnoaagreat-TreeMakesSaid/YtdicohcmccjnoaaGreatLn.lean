/- A tree in memory is one of the model; Link. Conditions: none. -/
import Derived.Test.YtdicohcmccjnoaaGreatBw
namespace Go.Proofs.Tryz
open Go Go.Eng Go.Topo

def TreeAt (w : World) (tb : Nat) (F X : List Nat) (t : RT) : Prop := TMem w tb F X (Dt t.L) (flt t.L) (outt t.L) t.next ∧ Inv t

section
variable {w w' : World} {tb : Nat} {F G X X' : List Nat} {t : RT}
theorem TreeAt.fr0 (h : TreeAt w tb F X t) (hf : Fr [] w w') : TreeAt w' tb F X t := ⟨h.1.fr0 hf, h.2⟩
theorem TreeAt.fr (h : TreeAt w tb F X t) (hf : Fr G w w') (hG : ∀ i ∈ G, i ∈ X ∧ i ∉ F) (hX : ∀ i ∈ X', i ∈ X ∨ w.heap.size ≤ i) : TreeAt w' tb F X' t := ⟨h.1.fr hf hG hX, h.2⟩

theorem lErr_eq (t : RT) (n : Int) : lErr (Dt t.L) (flt t.L) n = listErr t.L n := by
  unfold lErr listErr Dt flt
  rcases kindOf_cases t.L n with h | h | h <;> simp [h]

theorem len_small {t : RT} (hI : Inv t) : t.L.length ≤ 200 := by
  have h := nodup_bound' 200 (t.L.map (fun x => x.2.node)) (by
    unfold List.Nodup
    rw [List.pairwise_map]
    exact hI.nodes) (by
    intro x hx
    obtain ⟨y, hy, rfl⟩ := List.mem_map.1 hx
    exact hI.node y hy)
  simpa using h
theorem ents_small {t : RT} (hI : Inv t) (d : Int) : (entsOf t.L d).length ≤ 200 := by
  have h1 := len_small hI
  unfold entsOf
  rw [List.length_map]
  exact Nat.le_trans (List.length_filter_le _ _) h1

/-- tree.New -/
theorem k_New (w : World) : Calls prog 13 #[] w fun e w' => ∃ tb F, e = .returned (.pointer (some ⟨tb, 0, none⟩)) ∧ TreeAt w' tb F [] ⟨[], 1⟩ ∧ (∀ i ∈ F, w.heap.size ≤ i) ∧ tb ∈ F ∧ Fr [] w w' := by
  refine Calls.mono (k_tNew w) ?_
  rintro e w' ⟨tb, F, rfl, h, h1, h2, h3⟩
  refine ⟨tb, F, rfl, ⟨(h []).congr ?_ ?_ ?_, inv_new⟩, h1, h2, h3⟩
  · intro n
    unfold Dt kindOf
    by_cases e : n = 0
    · simp [e, entsOf]
    · simp [e]
  · intro n
    unfold flt kindOf
    by_cases e : n = 0 <;> simp [e]
  · intro n
    unfold outt kindOf
    by_cases e : n = 0 <;> simp [e]

/-- List -/
theorem k_tList (h : TreeAt w tb F X t) (dir : Int) : Calls prog 26 #[.pointer (some ⟨tb, 0, none⟩), .int .i64 dir] w fun e w' =>
    ∃ a c, e = .returned (.tuple #[.slice a (entsOf t.L dir).length c, .int .i64 (listErr t.L dir)]) ∧ Own w' w.heap.size 117 5 a (entsOf t.L dir).length c (flat (entsOf t.L dir)) ∧ Fr [] w w' := by
  have := k_List h.1 dir
  rw [getD_Dt h.2, lErr_eq] at this
  exact this

/-- Find -/
theorem find_eq (hI : Inv t) (d : Int) (nm : ByteArray) : fErr (Dt t.L) (flt t.L) d nm = (match t.find d nm with | .error e => e | .ok _ => 0) ∧ fEnt (Dt t.L) d nm = (match t.find d nm with | .error _ => noEnt | .ok x => x) := by
  unfold fErr fEnt RT.find
  rw [lErr_eq, getD_Dt hI]
  by_cases h : listErr t.L d = 0
  · simp only [h, ne_eq, not_true_eq_false, if_false]
    cases findIn (entsOf t.L d) nm <;> simp
  · rw [if_pos h, if_pos h]
    refine ⟨rfl, ?_⟩
    have : entsOf t.L d = [] := entsOf_of_kind hI (by intro e; unfold listErr at h; rw [if_pos e] at h; exact h rfl)
    simp [this, findIn]

theorem findErr_ne (t : RT) (d : Int) (nm : ByteArray) {e : Int} (h : t.find d nm = .error e) : e ≠ 0 := by
  unfold RT.find at h
  split at h
  · rename_i h1; cases h; exact h1
  · split at h
    · cases h
    · cases h; decide

/-- Take, of the tree's pool -/
theorem TM.take {db fb pb : Nat} {PF : List Nat} {dm fm : List (Int × Value)} {D : Int → Option (List Ent)} {fl : Int → Bool} {out : Int → Prop} {next : Int}
    (h : TM w tb db fb pb PF X dm fm D fl out next) :
    Calls prog 79 #[.pointer (some ⟨pb, 0, none⟩)] w fun e w' => ∃ nn : Int, 1 ≤ nn ∧ ¬ out nn ∧ (∀ k, 1 ≤ k → k < nn → out k) ∧ Fr PF w w' ∧
      ((nn ≤ 200 ∧ e = .returned (.tuple #[.int .i64 nn, .bool true]) ∧ TM w' tb db fb pb PF X dm fm D fl (fun y => out y ∨ y = nn) next) ∨
       (200 < nn ∧ e = .returned (.tuple #[.int .i64 0, .bool false]) ∧ TM w' tb db fb pb PF X dm fm D fl out next)) := by
  refine Calls.mono (k_Take pb PF out w h.pool) ?_
  rintro e w' ⟨nn, h1, h2, h3, hf, h4⟩
  obtain ⟨a1, a2, a3, a4, a5, a6⟩ := h.ap
  have build : ∀ o, PoolAt w' pb PF o → TM w' tb db fb pb PF X dm fm D fl o next := fun o hp => {
    blk := h.blk.fr hf a4
    dmap := h.dmap.fr hf a5
    fmap := h.fmap.fr hf a6
    pool := hp
    ap := h.ap
    dirs := by
      intro m
      have hfF : Fr (tb :: db :: fb :: PF ++ X) w w' := hf.mono (by intro i hi; simp [hi])
      have hd := h.dirs m
      split
      · rename_i l' hl'
        rw [hl'] at hd
        obtain ⟨h1, a', c', ha, he'⟩ := hd
        exact ⟨h1, a', c', ha, he'.fr hfF⟩
      · rename_i hl'
        rw [hl'] at hd
        exact hd
    files := h.files }
  rcases h4 with ⟨g1, g2, g3⟩ | ⟨g1, g2, g3⟩
  · exact ⟨nn, h1, h2, h3, hf, .inl ⟨g1, g2, build _ g3⟩⟩
  · exact ⟨nn, h1, h2, h3, hf, .inr ⟨g1, g2, build _ g3⟩⟩

theorem findIn_idx (l : List Ent) (nm : ByteArray) : fidx (fun x => decide (x.name = nm)) l ≥ 0 ↔ (findIn l nm).isSome := by
  rcases find_idx l nm with ⟨h1, h2⟩ | ⟨i, x, h1, h2, _⟩
  · rw [fidx_none h1, h2]; simp
  · rw [fidx_some h1, h2]; simp

/-- Link -/
theorem k_Link (h : TreeAt w tb F X t) (hX : ∀ i ∈ X, i < w.heap.size) (hnext : t.next < 9223372036854775807) (dir : Int) (nm : ByteArray) (isDir : Bool) (sh : Int) :
    Calls prog 30 #[.pointer (some ⟨tb, 0, none⟩), .int .i64 dir, .string nm, .bool isDir, .int .i64 sh] w fun e w' =>
      e = .returned (.tuple #[.int .i64 (t.link dir nm isDir sh).2.1, .int .i64 (t.link dir nm isDir sh).2.2]) ∧ TreeAt w' tb F X (t.link dir nm isDir sh).1 ∧ Fr F w w' := by
  refine c30 _ _ _ _ _ _ _ (withR (X := N30 _ _ _ _ _ _) ?_)
  intro R hR
  unfold N30
  have bad : ∀ (w' : World) (er : Int), Fr [] w w' → t.link dir nm isDir sh = (t, 0, er) → R (.returned (.tuple #[.int .i64 0, .int .i64 er])) w' := by
    intro w' er hf he
    refine hR _ _ ?_
    rw [he]
    exact ⟨rfl, h.fr0 hf, Fr.of_nil hf⟩
  refine Calls.mono (k_tList h dir) ?_
  rintro _ w1 ⟨a, c, rfl, ho1, f1⟩
  refine ⟨_, _, _, _, rfl, ?_⟩
  by_cases he : listErr t.L dir = 0
  · rw [he, beq_self_eq_true, cond_true]
    refine Calls.mono (k_may nm sh w1) ?_
    rintro _ w2 ⟨rfl, f2⟩
    refine ⟨_, rfl, ?_⟩
    by_cases hm : mayErr nm sh = 0
    · rw [hm, beq_self_eq_true, cond_true]
      have hs : Ents w2 [] a (entsOf t.L dir).length (entsOf t.L dir) := (ho1.sli (by simp)).fr f2
      have hsm := ents_small h.2 dir
      refine Calls.mono (k_index nm _ a _ c w2 hs (by omega)) ?_
      rintro _ w3 ⟨rfl, f3⟩
      have f03 := (f1.trans f2).trans f3
      refine ⟨_, rfl, ?_⟩
      by_cases hidx : (findIn (entsOf t.L dir) nm).isSome
      · rw [decide_eq_true ((findIn_idx _ nm).2 hidx), cond_true]
        refine bad w3 6 f03 ?_
        unfold RT.link
        rw [if_neg (by simpa using he), if_neg (by simpa using hm), if_pos hidx]
      · rw [decide_eq_false (fun hge => hidx ((findIn_idx _ nm).1 hge)), cond_false]
        rw [show ((0 : Int) != 0) = false from rfl, cond_false]
        have hkd : kindOf t.L dir = 2 := by
          unfold listErr at he
          split at he
          · assumption
          · split at he <;> omega
        have hnm : findIn (entsOf t.L dir) nm = none := by simpa using hidx
        obtain ⟨⟨db, fb, pb, PF, dm, fm, rfl, h3⟩, hI⟩ := h.fr0 f03
        simp only [Addr.add_lit, Nat.zero_add]
        refine ⟨_, h3.blk.cell 2, ?_⟩
        refine Calls.mono h3.take ?_
        rintro _ w4 ⟨nn, n1, n2, n3, f4, h4⟩
        have f04 : Fr (tb :: db :: fb :: PF) w w4 := (Fr.of_nil f03).trans (f4.mono (by intro i hi; simp [hi]))
        rcases h4 with ⟨n4, rfl, h4⟩ | ⟨n4, rfl, h4⟩
        · refine ⟨_, _, rfl, ?_⟩
          rw [Bool.not_true, cond_false]
          have hk0 : kindOf t.L nn = 0 := by
            unfold outt at n2
            by_cases hk : kindOf t.L nn = 0
            · exact hk
            · exact absurd ⟨by omega, hk⟩ n2
          have hfree : freeNode t.L = some nn := leastFrom_spec _ 200 1 nn n1 (by omega) (by simpa using hk0) (fun j j1 j2 => by
            have := (n3 j j1 j2).2
            simpa using this)
          have hlink : t.link dir nm isDir sh = (t.put dir ⟨nm, nn, isDir, 0, sh⟩, nn, 0) := by
            unfold RT.link
            rw [if_neg (by simpa using he), if_neg (by simpa using hm), if_neg (by simpa using hnm), hfree]
          have hX4 : ∀ i ∈ X, i < w4.heap.size := fun i hi => by have := hX i hi; have := f04.1; omega
          have hD0 : Dt t.L dir = some (entsOf t.L dir) := by unfold Dt; rw [if_pos hkd]
          have hdn : dir ≠ nn := fun e => by rw [e, hk0] at hkd; omega
          have hnx := hI.next
          have hwr : IntKind.wrap .i64 (t.next + 1) = t.next + 1 := wr (by omega) (by omega)
          have hInv := inv_put hI (e := ⟨nm, nn, isDir, 0, sh⟩) hkd hk0 ⟨n1, n4⟩ hnm hm
          -- the entry is put
          have fin : ∀ (w5 : World) (G : List Nat) (D : Int → Option (List Ent)) (fl : Int → Bool), TMem w5 tb (tb :: db :: fb :: PF) X D fl (fun y => outt t.L y ∨ y = nn) t.next → Fr (tb :: db :: fb :: PF) w w5 →
              (∀ n, D n = if n = nn ∧ isDir = true then some [] else Dt t.L n) → (∀ n, fl n = if n = nn then !isDir else flt t.L n) →
              Calls prog 80 #[.pointer (some ⟨tb, 0, none⟩), .int .i64 dir, .agg #[.string nm, .int .i64 nn, .bool isDir, .int .i64 0, .int .i64 sh]] w5 fun e w6 => e = .returned (.tuple #[]) ∧ R (.returned (.tuple #[.int .i64 nn, .int .i64 0])) w6 := by
            intro w5 G D fl h5 f05 hDD hff
            have hDd : D dir = some (entsOf t.L dir) := by rw [hDD, if_neg (fun e => hdn e.1), hD0]
            have := k_put h5 (fun i hi => by have := hX i hi; have := f05.1; omega) dir _ hDd (by omega) ⟨nm, nn, isDir, 0, sh⟩
            refine Calls.mono this ?_
            rintro _ w6 ⟨rfl, h6, f6⟩
            refine ⟨rfl, hR _ _ ?_⟩
            rw [hlink]
            rw [hwr] at h6
            refine ⟨rfl, ⟨h6.congr ?_ ?_ ?_, hInv⟩, f05.trans f6⟩
            · intro n
              rw [Dt_put hI hkd hk0 (show nn ≠ 0 by omega), hDD]
            · intro n
              rw [flt_put hk0 (show nn ≠ 0 by omega), hff]
            · intro n
              rw [outt_put hk0 (show nn ≠ 0 by omega)]
          cases isDir with
          | true =>
            rw [cond_true]
            obtain ⟨w5, dm', hr5, h5, f5, _⟩ := h4.setDir nn none 0 [] (by simp) (Sli.nil ..)
            refine ⟨_, h4.blk.cell 0, w5, hr5, fin w5 [] _ _ ⟨db, fb, pb, PF, dm', fm, rfl, h5⟩ (f04.trans (f5.mono (by simp))) ?_ ?_⟩
            · intro n
              by_cases e : n = nn <;> simp [e]
            · intro n
              by_cases e : n = nn
              · subst e; simp [flt, hk0]
              · simp [e]
          | false =>
            rw [cond_false]
            obtain ⟨w5, fm', hr5, h5, f5, _⟩ := h4.setFile nn
            refine ⟨_, h4.blk.cell 1, w5, hr5, fin w5 [] _ _ ⟨db, fb, pb, PF, dm, fm', rfl, h5⟩ (f04.trans (f5.mono (by simp))) ?_ ?_⟩
            · intro n; simp
            · intro n; simp
        · refine ⟨_, _, rfl, ?_⟩
          rw [Bool.not_false, cond_true]
          refine hR _ _ ?_
          have hfree : freeNode t.L = none := leastFrom_none _ 200 1 (fun j j1 j2 => by
            have := (n3 j j1 (by omega)).2
            simpa using this)
          have hlink : t.link dir nm isDir sh = (t, 0, 12) := by
            unfold RT.link
            rw [if_neg (by simpa using he), if_neg (by simpa using hm), if_neg (by simpa using hnm), hfree]
          rw [hlink]
          exact ⟨rfl, ⟨⟨db, fb, pb, PF, dm, fm, rfl, h4⟩, hI⟩, f04⟩
    · rw [beq_eq_false_iff_ne.2 hm, cond_false]
      rw [bne_iff_ne.2 hm, cond_true]
      refine bad w2 _ (f1.trans f2) ?_
      unfold RT.link
      rw [if_neg (by simpa using he), if_pos hm]
  · rw [beq_eq_false_iff_ne.2 he, cond_false, cond_false, bne_iff_ne.2 he, cond_true]
    refine bad w1 _ f1 ?_
    unfold RT.link
    rw [if_pos he]
end
end Go.Proofs.Tryz
