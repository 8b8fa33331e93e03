/- Clone, Same, Cookie, Nodes. Conditions: none. -/
import Derived.Test.YtdicohcmccjnoaaGreatDr
import Derived.Test.YtdicohcmccjnoaaGreatRc
import Derived.Laws.Externs
namespace Go.Proofs.Tryz
open Go Go.Eng Go.Topo

theorem run_mclone {w : World} {r : Nat} {es : Array MapEntry} {clock : Nat} (t : TypeId) (hb : w.heap[r]? = some (.map es clock)) :
    (Extern.MapsClone.clone #[.iface t (.map (some r))]).run prog w = .ok (.iface t (.map (some w.heap.size))) (w.alloc (.map es clock)) := by
  have e : Extern.MapsClone.clone #[.iface t (.map (some r))] = (getObj r >>= fun o => match o with
      | .map entries clock => (newObj (.map entries clock) >>= fun n => pure (.iface t (.map (some n))))
      | _ => stuck "maps.clone: a map expected") := rfl
  rw [e, run_bind_ok (getObj_map hb)]
  rfl

/-- maps.Clone of the kind map[int]int -/
theorem k_mClone {w : World} {b : Nat} {m : List (Int × Value)} (h : IMap w b m) :
    Calls prog 57 #[.map (some b)] w fun e w' => e = .returned (.map (some w.heap.size)) ∧ IMap w' w.heap.size m ∧ Fr [] w w' ∧ w'.heap.size = w.heap.size + 1 := by
  refine c57 _ _ _ (withR (X := N57 _ _) ?_)
  intro R hR
  unfold N57
  obtain ⟨es, clock, hb, rest⟩ := h
  rw [show (some b : Option Nat).isNone = false from rfl, cond_false]
  refine ⟨_, _, ?_, _, rfl, hR _ (w.alloc (.map es clock)) ⟨rfl, ⟨es, clock, heap_alloc_new w _, rest⟩, Fr.alloc w _, size_alloc w _⟩⟩
  rw [run_callFunc_extern func115 (by kernel_rfl) (by kernel_rfl) (by kernel_rfl) (e := Extern.MapsClone.clone) (by kernel_rfl), run_mclone 108 hb]
  rfl

/-- slices.Clone of a heap -/
theorem k_iClone {w : World} {F : List Nat} {a : Option Addr} {n c : Nat} {l : List Int} (h : Sli w F 1 a n (l.map intC)) (hn : n ≤ 1048576) :
    Calls prog 116 #[.slice a n c] w fun e w' => ∃ a' c', e = .returned (.slice a' n c') ∧ OwnI w' w.heap.size a' n c' l ∧ Fr [] w w' := by
  refine c116 _ _ _ _ _ (withR (X := N116 _ _ _ _) ?_)
  intro R hR
  unfold N116
  cases a with
  | none =>
    have hz : n = 0 := by
      rcases h.2 with ⟨_, h0⟩ | ⟨b, off, h0, _⟩
      · exact h0
      · cases h0
    subst hz
    have hl : l = [] := by have := h.1; simpa using this
    subst hl
    rw [show (none : Option Addr).isNone = true from rfl, cond_true]
    exact hR _ _ ⟨none, 0, rfl, Own.nil .., Fr.refl ..⟩
  | some ad =>
    rw [show (some ad : Option Addr).isNone = false from rfl, cond_false]
    rintro w1 rfl
    have f1 := Fr.alloc w (.cells #[] 3)
    have ho : Own (w.alloc (.cells #[] 3)) w.heap.size 3 1 (some ⟨w.heap.size, 0, none⟩) 0 0 [] := Own.lit w [] 0 (by simp [maxLen]) (by simp) 3 (Nat.le_refl _)
    obtain ⟨b, d, w2, hr, ho2, f2, hbl, _⟩ := append_ints (c' := c) ho (by rw [size_alloc]; omega) 201 (h.fr (Fr.of_nil f1)) (by intro u hu; obtain ⟨x, _, rfl⟩ := List.mem_map.1 hu; rfl) (by omega)
    rw [Nat.zero_add] at hr ho2
    refine ⟨b, n, d, w2, hr, hR _ _ ⟨b, d, rfl, ho2, f1.trans' f2 ?_⟩⟩
    intro i hi
    simp [blks] at hi
    right; omega

/-- a pool by itself -/
theorem k_pClone {w : World} {pb : Nat} {F : List Nat} {out : Int → Prop} (h : PoolAt w pb F out) :
    Calls prog 58 #[.pointer (some ⟨pb, 0, none⟩)] w fun e w' => ∃ pb' F', e = .returned (.pointer (some ⟨pb', 0, none⟩)) ∧ PoolAt w' pb' F' out ∧ (∀ i ∈ F', w.heap.size ≤ i) ∧ Fr [] w w' := by
  obtain ⟨ob, a, n, c, fresh, l, m, rfl, hp⟩ := h
  refine c58 _ _ _ (withR (X := N58 _ _) ?_)
  intro R hR
  unfold N58
  rintro w1 rfl
  have at1 : ∀ W, Fr [] w W → Pool W pb ob a n c fresh l m out := fun W hW => hp.fr hW (by simp)
  refine ⟨fun W => Fr [] w W, Fr.drew w, 200, fun W hW => (at1 W hW).blk.cell 0, (fresh : Int), fun W hW => (at1 W hW).blk.cell 1, a, n, c, fun W hW => (at1 W hW).blk.cell 2, some ob, fun W hW => (at1 W hW).blk.cell 3, ?_⟩
  have hs := hp.small
  have h1 := at1 _ (Fr.drew w)
  refine Calls.mono (k_iClone (F := []) (l := l) (Own.sliN h1.row (by simp)) (by omega)) ?_
  rintro _ w2 ⟨a', c', rfl, ho, f2⟩
  have f02 := (Fr.drew w).trans f2
  refine ⟨_, _, _, rfl, f02, ?_⟩
  refine Calls.mono (k_mClone (at1 _ f02).map) ?_
  rintro _ w3 ⟨rfl, hm, f3, s3⟩
  have f03 := f02.trans f3
  refine ⟨_, rfl, f03, ?_⟩
  rintro w4 rfl
  have f4 := Fr.alloc w3 (.cells #[(.int .i64 200), (.int .i64 fresh), (.slice a' n c'), (.map (some w2.heap.size))] 205)
  refine ⟨f03.trans f4, hR _ _ ⟨w3.heap.size, w3.heap.size :: w2.heap.size :: blks a', rfl, ⟨w2.heap.size, a', n, c', fresh, l, m, rfl, ?_⟩, ?_, f03.trans f4⟩⟩
  · have hbl := Own.blk ho
    exact {
      blk := Blk.new ..
      row := ((Own.mono ho (Nat.zero_le _)).fr f3 (by simp)).fr f4 (by simp)
      map := hm.fr f4 (by simp)
      ap := by
        refine ⟨by omega, fun hi => ?_, fun hi => ?_⟩
        · have := (hbl _ hi).2; omega
        · have := (hbl _ hi).2; omega
      heap := hp.heap
      nodup := hp.nodup
      fr1 := hp.fr1
      fr2 := hp.fr2
      mem := hp.mem
      one := hp.one
      out := hp.out }
  · intro i hi
    have hbl := Own.blk ho
    have := f02.1
    have := (Fr.drew w).1
    simp only [List.mem_cons] at hi
    rcases hi with rfl | rfl | hi
    · omega
    · omega
    · have := hbl i hi; omega

section
variable {w w' : World} {tb : Nat} {F G X X' : List Nat} {t : RT}

/-- Clone -/
theorem k_tClone (h : TreeAt w tb F X t) : Calls prog 15 #[.pointer (some ⟨tb, 0, none⟩)] w fun e w' => ∃ tb' F', e = .returned (.pointer (some ⟨tb', 0, none⟩)) ∧
    (∀ X', (∀ i ∈ X', i < w.heap.size) → TreeAt w' tb' F' X' t) ∧ (∀ i ∈ F', w.heap.size ≤ i) ∧ tb' ∈ F' ∧ Fr [] w w' := by
  obtain ⟨⟨db, fb, pb, PF, dm, fm, rfl, h⟩, hI⟩ := h
  refine c15 _ _ _ (withR (X := N15 _ _) ?_)
  intro R hR
  unfold N15
  rintro w1 rfl
  have at1 : ∀ W, Fr [] w W → TM W tb db fb pb PF X dm fm (Dt t.L) (flt t.L) (outt t.L) t.next := fun W hW => h.fr hW (by simp) (fun _ hi => .inl hi)
  simp only [Addr.add_lit, Nat.zero_add]
  refine ⟨fun W => Fr [] w W, Fr.drew w, some fb, fun W hW => (at1 W hW).blk.cell 1, _, fun W hW => (at1 W hW).blk.cell 2, t.next, fun W hW => (at1 W hW).blk.cell 3, ?_⟩
  -- from the four parts on
  have tail : ∀ (W : World) (ob mb pb' : Nat) (PF' : List Nat), Fr [] w W → IMap W ob [] → IMap W mb fm → PoolAt W pb' PF' (outt t.L) → ob ≠ mb → ob ∉ PF' → mb ∉ PF' → w.heap.size ≤ ob → w.heap.size ≤ mb → (∀ i ∈ PF', w.heap.size ≤ i) →
      ∀ wv, wv = W.alloc (.cells #[(.map (some ob)), (.map (some mb)), (.pointer (some ⟨pb', 0, none⟩)), (.int .i64 t.next)] 112) → Fr [] w wv ∧ ∃ (x : Option Nat), wv.cell? ⟨tb, 0, none⟩ = some (.map x) ∧ ∃ (it : Value) (wz : World), (Instr.range 53 (.map x)).run prog wv = .ok it wz ∧
        ∀ ds, L15_0 ⟨W.heap.size, 0, none⟩ it ds wz R := by
    rintro W ob mb pb' PF' hW hob hmb hpb d1 d2 d3 g1 g2 g3 wv rfl
    have fA := Fr.alloc W (.cells #[(.map (some ob)), (.map (some mb)), (.pointer (some ⟨pb', 0, none⟩)), (.int .i64 t.next)] 112)
    have bA := Blk.new W [(.map (some ob)), (.map (some mb)), (.pointer (some ⟨pb', 0, none⟩)), (.int .i64 t.next)] 112
    have hWA := hW.trans fA
    refine ⟨hWA, some db, (at1 _ hWA).blk.cell 0, ?_⟩
    obtain ⟨wz, hrz, hit, fz, sz⟩ := IMap.range (P := prog) u_dirs (at1 _ hWA).dmap
    refine ⟨_, wz, hrz, fun ds => ?_⟩
    have hlt0 : tb < w.heap.size ∧ db < w.heap.size := ⟨h.blk.lt, h.dmap.lt⟩
    have hobW := hob.lt
    have hmbW := hmb.lt
    have hpbW := hpb.lt
    have sA := size_alloc W (.cells #[(.map (some ob)), (.map (some mb)), (.pointer (some ⟨pb', 0, none⟩)), (.int .i64 t.next)] 112)
    generalize W.alloc (.cells #[(.map (some ob)), (.map (some mb)), (.pointer (some ⟨pb', 0, none⟩)), (.int .i64 t.next)] 112) = wA at *
    have sW := hW.1
    -- what has been copied so far
    refine lp15_0 ⟨W.heap.size, 0, none⟩ (.pointer (some ⟨wA.heap.size, 0, none⟩)) (fun q V => ∃ (done : List Int) (om : List (Int × Value)), q = leftN dm done ∧ MIter V wA.heap.size db dm done ∧ IMap V ob om ∧ Fr [] w V ∧ Fr [wA.heap.size, ob] wz V ∧
      (∀ n ∈ done, n ∈ keys dm) ∧
      (∀ n, if n ∈ done then ∃ a c, alook om n = some (.slice a (entsOf t.L n).length c) ∧ Own V wz.heap.size 117 5 a (entsOf t.L n).length c (flat (entsOf t.L n)) else alook om n = none)) R ?_ _ wz ⟨[], [], rfl, hit, (hob.fr fA (by simp)).fr fz (by simp), hWA.trans fz, Fr.refl .., by simp, by simp [alook_nil]⟩ ds
    clear ds
    rintro q ds V ⟨done, om, rfl, hit, hom, fV, fzV, hdn, hdone⟩
    unfold B15_0
    have hkeep : ∀ {cs : List Value} {b : Nat}, Blk wz b cs → b ≠ wA.heap.size → b ≠ ob → Blk V b cs := fun hb h1 h2 => hb.fr fzV (by simp [h1, h2])
    rcases hit.next (P := prog) 0 with ⟨hall, hrun⟩ | ⟨k, v, w2, hlk, hk, hrun, hit2, f2, hent⟩
    · refine .inl ⟨V, hrun, hR _ _ ⟨W.heap.size, W.heap.size :: ob :: mb :: PF', rfl, ?_, ?_, by simp, fV⟩⟩
      · intro X' hX'
        refine ⟨⟨ob, mb, pb', PF', om, fm, rfl, ?_⟩, hI⟩
        exact {
          blk := hkeep (bA.fr fz (by simp)) (by omega) (by omega)
          dmap := hom
          fmap := ((hmb.fr fA (by simp)).fr fz (by simp)).fr fzV (by simp; omega)
          pool := ((hpb.fr fA (by simp)).fr fz (by simp)).fr fzV (by
            intro i hi
            have := hpbW i hi
            simp only [List.mem_cons, List.not_mem_nil, or_false, not_or]
            exact ⟨by omega, fun e => d2 (e ▸ hi)⟩)
          ap := ⟨by omega, by omega, d1, fun hi => by have := hpbW _ hi; omega, d2, d3⟩
          dirs := by
            intro n
            have hd := hdone n
            by_cases hn : kindOf t.L n = 2
            · have hD : Dt t.L n = some (entsOf t.L n) := by unfold Dt; rw [if_pos hn]
              rw [hD]
              rw [if_pos (hall n ((key_iff h n).2 hn))] at hd
              obtain ⟨a, c, ha, ho⟩ := hd
              have hsm := ents_small hI n
              refine ⟨by omega, a, c, ha, Own.sli ho ?_⟩
              intro i hi
              simp only [List.cons_append, List.mem_cons, List.mem_append] at hi
              rcases hi with rfl | rfl | rfl | hi | hi
              · omega
              · omega
              · omega
              · have := hpbW i hi; omega
              · have := hX' i hi; omega
            · have hD : Dt t.L n = none := by unfold Dt; rw [if_neg hn]
              rw [hD]
              rw [if_neg (fun hm => hn ((key_iff h n).1 (hdn n hm)))] at hd
              exact hd
          files := h.files }
      · intro i hi
        simp only [List.mem_cons] at hi
        rcases hi with rfl | rfl | rfl | hi
        · exact sW
        · exact g1
        · exact g2
        · exact g3 i hi
    · have hkm : k ∈ keys dm := by rw [mem_keys_iff, hlk]; rfl
      have hk2 := (key_iff h k).1 hkm
      have hD : Dt t.L k = some (entsOf t.L k) := by unfold Dt; rw [if_pos hk2]
      have f02 : Fr [] w w2 := fV.trans' f2 (by intro i hi; simp at hi; right; omega)
      have hd := (at1 _ (f02.trans (Fr.drew w2))).dirs k
      rw [hD] at hd
      obtain ⟨hl, a, c, ha, he⟩ := hd
      have hv : v = .slice a (entsOf t.L k).length c := by rw [ha] at hlk; exact (Option.some.inj hlk).symm
      subst hv
      refine .inr ⟨.int .i64 k, .slice a (entsOf t.L k).length c, w2, hrun, k, a, (entsOf t.L k).length, c, w2, hent, ?_⟩
      rintro w3 rfl
      have b3 : Blk w2.drew W.heap.size _ := (hkeep (bA.fr fz (by simp)) (by omega) (by omega) |>.fr f2 (by simp; omega)).fr (Fr.drew w2) (by simp)
      refine ⟨fun U => U.cell? ⟨W.heap.size, 0, none⟩ = some (.map (some ob)), b3.cell 0, some ob, fun U hU => hU, ?_⟩
      refine Calls.mono (k_Clone _ [] (flat_one _) a (entsOf t.L k).length c w2.drew (he.ext (by simp)) (by omega)) ?_
      rintro _ w4 ⟨a', c', rfl, ho4, f4⟩
      refine ⟨a', _, c', rfl, (b3.fr f4 (by simp)).cell 0, ?_⟩
      have f24 : Fr [] w2 w4 := (Fr.drew w2).trans f4
      obtain ⟨w5, hr5, hm5, f5, s5⟩ := IMap.update (P := prog) u_dirs u_int (((hom.fr f2 (by simp; omega)).fr f24 (by simp))) k (.slice a' (entsOf t.L k).length c')
      have hz2 : wz.heap.size ≤ w2.drew.heap.size := Nat.le_trans fzV.1 (Nat.le_trans f2.1 (Fr.drew w2).1)
      refine ⟨w5, hr5, rfl, leftN dm (k :: done), leftN_lt hlk hk, k :: done, _, rfl, ?_, hm5, ?_, ?_, ?_, ?_⟩
      · exact ((hit2.fr f24 (by simp) (by simp)).fr f5 (by simp; omega) (by simp; omega))
      · refine (f02.trans f24).trans' f5 (by intro i hi; simp at hi; right; omega)
      · exact ((fzV.trans (f2.mono (by simp))).trans (Fr.of_nil f24)).trans (f5.mono (by simp))
      · intro n hn
        rcases List.mem_cons.1 hn with rfl | hn
        · exact hkm
        · exact hdn n hn
      · intro n
        rw [alook_aput]
        have hkeepO : ∀ {a : Option Addr} {n c : Nat} {xs : List Value} {U U' : World} {G : List Nat}, Own U wz.heap.size 117 5 a n c xs → Fr G U U' → (∀ i ∈ G, i < wz.heap.size) → Own U' wz.heap.size 117 5 a n c xs := fun ho hf hG => ho.fr hf (fun i hi hm => by have := (Own.blk ho i hi).1; have := hG i hm; omega)
        have g5 : ∀ i ∈ [ob], i < wz.heap.size := by intro i hi; simp at hi; omega
        by_cases e : k = n
        · subst e
          rw [if_pos (by simp), if_pos rfl]
          exact ⟨a', c', rfl, hkeepO (Own.mono ho4 hz2) f5 g5⟩
        · rw [if_neg e]
          have hd := hdone n
          by_cases hn : n ∈ done
          · rw [if_pos hn] at hd
            rw [if_pos (by simp [hn])]
            obtain ⟨a0, c0, ha0, ho0⟩ := hd
            exact ⟨a0, c0, ha0, hkeepO (hkeepO (hkeepO ho0 f2 (by intro i hi; simp at hi; omega)) f24 (by simp)) f5 g5⟩
          · rw [if_neg hn] at hd
            rw [if_neg (by simp [hn]; exact fun e' => e e'.symm)]
            exact hd
  constructor
  · rintro w2 rfl
    have fa := Fr.alloc w.drew (.map #[] 0)
    have f02 := (Fr.drew w).trans fa
    have s1 := (Fr.drew w).1
    have sa := size_alloc w.drew (.map #[] 0)
    have hob := IMap.new w.drew
    generalize w.drew.alloc (.map #[] 0) = w2 at *
    refine ⟨f02, ?_⟩
    refine Calls.mono (k_mClone (at1 _ f02).fmap) ?_
    rintro _ w3 ⟨rfl, hm3, f3, s3⟩
    have f03 := f02.trans f3
    refine ⟨_, rfl, f03, ?_⟩
    refine Calls.mono (k_pClone (at1 _ f03).pool) ?_
    rintro _ w4 ⟨pb', PF', rfl, hp4, hPF, f4⟩
    have f04 := f03.trans f4
    refine ⟨_, rfl, f04, ?_⟩
    intro wv hwv
    obtain ⟨t1, x, t2, it, wz, t3, t4⟩ := tail w4 w.drew.heap.size w2.heap.size pb' PF' f04 ((hob.fr f3 (by simp)).fr f4 (by simp)) (hm3.fr f4 (by simp)) hp4 (by omega) (fun hi => by have := hPF _ hi; omega) (fun hi => by have := hPF _ hi; omega) s1 (by omega) (fun i hi => by have := hPF i hi; omega) wv hwv
    exact ⟨t1, x, t2, it, wz, t3, t4 _⟩
  · have f01 := Fr.drew w
    have s1 := f01.1
    refine Calls.mono (k_mClone (at1 _ f01).fmap) ?_
    rintro _ w3 ⟨rfl, hm3, f3, s3⟩
    have f03 := f01.trans f3
    refine ⟨_, rfl, f03, ?_⟩
    have last : ∀ (W : World) (ob pb' : Nat) (PF' : List Nat), Fr [] w W → IMap W ob [] → IMap W w.drew.heap.size fm → PoolAt W pb' PF' (outt t.L) → w.drew.heap.size < ob → ob ∉ PF' → (∀ i ∈ PF', w.drew.heap.size < i) →
      ∀ wv, wv = W.alloc (.cells #[(.map (some ob)), (.map (some w.drew.heap.size)), (.pointer (some ⟨pb', 0, none⟩)), (.int .i64 t.next)] 112) → Fr [] w wv ∧ ∃ (x : Option Nat), wv.cell? ⟨tb, 0, none⟩ = some (.map x) ∧ ∃ (it : Value) (wz : World), (Instr.range 53 (.map x)).run prog wv = .ok it wz ∧
        ∀ ds, L15_0 ⟨W.heap.size, 0, none⟩ it ds wz R := fun W ob pb' PF' hW h1 h2 h3 h4 h5 h6 wv hwv =>
      tail W ob w.drew.heap.size pb' PF' hW h1 h2 h3 (by omega) h5 (fun hi => by have := h6 _ hi; omega) (by omega) s1 (fun i hi => by have := h6 i hi; omega) wv hwv
    constructor
    · rintro w4 rfl
      have fa := Fr.alloc w3 (.map #[] 0)
      have f04 := f03.trans fa
      refine ⟨f04, ?_⟩
      refine Calls.mono (k_pClone (at1 _ f04).pool) ?_
      rintro _ w5 ⟨pb', PF', rfl, hp5, hPF, f5⟩
      have f05 := f04.trans f5
      refine ⟨_, rfl, f05, ?_⟩
      intro wv hwv
      rw [size_alloc] at hPF
      obtain ⟨t1, x, t2, it, wz, t3, t4⟩ := last w5 w3.heap.size pb' PF' f05 ((IMap.new w3).fr f5 (by simp)) ((hm3.fr fa (by simp)).fr f5 (by simp)) hp5 (by omega) (fun hi => by have := hPF _ hi; omega) (fun i hi => by have := hPF i hi; omega) wv hwv
      exact ⟨t1, x, t2, it, wz, t3, t4 _⟩
    · refine Calls.mono (k_pClone (at1 _ f03).pool) ?_
      rintro _ w4 ⟨pb', PF', rfl, hp4, hPF, f4⟩
      have f04 := f03.trans f4
      refine ⟨_, rfl, f04, ?_⟩
      rintro w5 rfl
      have fa := Fr.alloc w4 (.map #[] 0)
      have f05 := f04.trans fa
      refine ⟨f05, ?_⟩
      intro wv hwv
      have := f4.1
      obtain ⟨t1, x, t2, it, wz, t3, t4⟩ := last _ w4.heap.size pb' PF' f05 (IMap.new w4) ((hm3.fr f4 (by simp)).fr fa (by simp)) (hp4.fr fa (by simp)) (by omega) (fun hi => by have := hp4.lt _ hi; omega) (fun i hi => by have := hPF i hi; omega) wv hwv
      exact ⟨t1, x, t2, it, wz, t3, t4 _⟩
end
end Go.Proofs.Tryz
