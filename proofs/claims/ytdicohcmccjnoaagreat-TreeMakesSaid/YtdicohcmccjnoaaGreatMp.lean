/- tree.Make. Conditions: none. -/
import Derived.Test.YtdicohcmccjnoaaGreatMo
set_option maxRecDepth 10000
namespace Go.Topo
open Go
section
variable {D : DMap} {K : List Int} {c : Int}
theorem madeL_flt (h : Formed D K c) (x : Int) : flt (madeL D K) x = true ↔ x ∈ K.flatMap (fileNodes D) := by
  have hI := h.made.1
  unfold flt
  rw [decide_eq_true_iff, List.mem_flatMap]
  constructor
  · intro hk
    have h0 : x ≠ 0 := by rintro rfl; simp [kindOf] at hk
    have : ¬ ∀ y ∈ madeL D K, y.2.node ≠ x := fun hall => by
      have := (kindOf_zero_iff (madeL D K) x).2 ⟨h0, hall⟩; omega
    obtain ⟨y, hy⟩ := Classical.not_forall.1 this
    obtain ⟨hy1, hy2⟩ := Classical.not_imp.1 hy
    have hy2 : y.2.node = x := Classical.not_not.1 hy2
    have hkm := kind_of_mem hI hy1
    rw [hy2] at hkm
    have hkm : kindOf (madeL D K) x = if y.2.dir then 2 else 1 := hkm
    rw [hk] at hkm
    have hyd : y.2.dir = false := by cases hd : y.2.dir with
      | false => rfl
      | true => rw [hd] at hkm; simp at hkm
    obtain ⟨m1, m2⟩ := mem_madeL.1 hy1
    refine ⟨y.1, m1, ?_⟩
    unfold fileNodes
    rw [List.mem_map]
    exact ⟨y.2, List.mem_filter.2 ⟨m2, by simp [hyd]⟩, hy2⟩
  · rintro ⟨n, hn, hx⟩
    unfold fileNodes at hx
    obtain ⟨e, he, rfl⟩ := List.mem_map.1 hx
    obtain ⟨he1, he2⟩ := List.mem_filter.1 he
    have hkm := kind_of_mem hI (x := (n, e)) (mem_madeL.2 ⟨hn, he1⟩)
    have hd : e.dir = false := by simpa using he2
    simp [hd] at hkm
    exact hkm
theorem madeL_out (h : Formed D K c) (x : Int) : outt (madeL D K) x ↔ (x ∈ K.flatMap (allNodes D) ∧ 1 ≤ x ∧ x ≤ 200) := by
  have hI := h.made.1
  unfold outt
  have hz := kindOf_zero_iff (madeL D K) x
  constructor
  · rintro ⟨h0, hk⟩
    have : ¬ ∀ y ∈ madeL D K, y.2.node ≠ x := fun hall => hk (hz.2 ⟨h0, hall⟩)
    obtain ⟨y, hy⟩ := Classical.not_forall.1 this
    obtain ⟨hy1, hy2⟩ := Classical.not_imp.1 hy
    have hy2 : y.2.node = x := Classical.not_not.1 hy2
    obtain ⟨m1, m2⟩ := mem_madeL.1 hy1
    have := h.ent y.1 m1 y.2 m2
    rw [hy2] at this
    exact ⟨List.mem_flatMap.2 ⟨y.1, m1, List.mem_map.2 ⟨y.2, m2, hy2⟩⟩, this.2.1, this.2.2.1⟩
  · rintro ⟨hx, h1, h2⟩
    refine ⟨by omega, fun hk => ?_⟩
    obtain ⟨n, hn, hx⟩ := List.mem_flatMap.1 hx
    obtain ⟨e, he, rfl⟩ := List.mem_map.1 hx
    exact (hz.1 hk).2 (n, e) (mem_madeL.2 ⟨hn, he⟩) rfl
theorem file_le (D : DMap) (K : List Int) : (K.flatMap (dirNodes D)).length + (K.flatMap (fileNodes D)).length = (K.flatMap (allNodes D)).length := by
  have := (flatMap_perm2 (nodes_perm D) K).length_eq
  rw [this, List.length_append]
theorem sub_flat {α : Type} {f : Int → List α} {l r : List Int} (hl : l.Nodup) (h : ∀ x ∈ l, x ∈ r) : (l.flatMap f).length ≤ (r.flatMap f).length := by
  induction l generalizing r with
  | nil => simp
  | cons x l ih =>
    obtain ⟨h1, h2⟩ := List.nodup_cons.1 hl
    have hx := h x (List.mem_cons_self ..)
    have hp := List.perm_cons_erase hx
    rw [(hp.flatMap_right f).length_eq, List.flatMap_cons, List.flatMap_cons, List.length_append, List.length_append]
    have := ih (r := r.erase x) h2 (fun y hy => by
      have hne : y ≠ x := fun e => h1 (e ▸ hy)
      exact (List.mem_erase_of_ne hne).2 (h y (List.mem_cons_of_mem _ hy)))
    omega
end
end Go.Topo

namespace Go.Proofs.Tryz
open Go Go.Eng Go.Topo

/-- the tree's own block is stored: another pool, another next cookie -/
theorem TM.turn {w w' : World} {tb db fb pb pb' : Nat} {PF PF' X : List Nat} {dm fm : List (Int × Value)} {D : Int → Option (List Ent)} {fl : Int → Bool} {out out' : Int → Prop} {next next' : Int}
    (h : TM w tb db fb pb PF X dm fm D fl out next) (hf : Fr [tb] w w') (hb : Blk w' tb [.map (some db), .map (some fb), .pointer (some ⟨pb', 0, none⟩), .int .i64 next']) (hp : PoolAt w' pb' PF' out') (hPF : ∀ i ∈ PF', i ∈ PF ∨ w.heap.size ≤ i) :
    TM w' tb db fb pb' PF' X dm fm D fl out' next' := by
  obtain ⟨a1, a2, a3, a4, a5, a6⟩ := h.ap
  have l1 := h.blk.lt
  have l2 := h.dmap.lt
  have l3 := h.fmap.lt
  have no : ∀ i, i ∉ PF → i < w.heap.size → i ∉ PF' := fun i h1 h2 hm => (hPF i hm).elim h1 (fun h => by omega)
  exact {
    blk := hb
    dmap := h.dmap.fr hf (by simpa using fun e => a1 e.symm)
    fmap := h.fmap.fr hf (by simpa using fun e => a2 e.symm)
    pool := hp
    ap := ⟨a1, a2, a3, no _ a4 l1, no _ a5 l2, no _ a6 l3⟩
    dirs := by
      intro n
      have hd := h.dirs n
      split
      · rename_i l hl
        rw [hl] at hd
        obtain ⟨h1, a, c, ha, he⟩ := hd
        refine ⟨h1, a, c, ha, Sli.move he hf (by intro i hi; simp at hi; subst hi; simp) ?_⟩
        intro i hi
        simp only [List.cons_append, List.mem_cons, List.mem_append] at hi ⊢
        rcases hi with h' | h' | h' | h' | h'
        · exact .inl (.inl h')
        · exact .inl (.inr (.inl h'))
        · exact .inl (.inr (.inr (.inl h')))
        · rcases hPF i h' with h'' | h''
          · exact .inl (.inr (.inr (.inr (.inl h''))))
          · exact .inr h''
        · exact .inl (.inr (.inr (.inr (.inr h'))))
      · rename_i hl
        rw [hl] at hd
        exact hd
    files := h.files }
section
variable {w : World} {db : Nat} {c : Int} {dm : List (Int × Value)} {D : DMap}

/-- what the look from the root has left -/
def Met (D : DMap) (c : Int) (s : MSt) : Prop := ((D 0).isSome = true ∧ 1 ≤ c ∧ dfs D c 202 ⟨[], [], false, []⟩ 0 = some s) ∨ (¬ ((D 0).isSome = true ∧ 1 ≤ c) ∧ s.bad = true ∧ s.nodes = [])

theorem k_Make (hd : DMAt w [] db dm D) (hc : c ≤ 9223372036854775807) (hsz : ((keys dm).flatMap (allNodes D)).length ≤ 1099511627776) (hkl : dm.length ≤ 1099511627776) :
    Calls prog 27 #[.int .i64 c, .map (some db)] w fun e w' => Fr [] w w' ∧
      ((Formed D (keys dm) c ∧ ∃ tb F, e = .returned (.tuple #[.pointer (some ⟨tb, 0, none⟩), .int .i64 0]) ∧ (∀ X, (∀ i ∈ X, i < w.heap.size) → TreeAt w' tb F X ⟨madeL D (keys dm), c⟩) ∧ (∀ i ∈ F, w.heap.size ≤ i) ∧ tb ∈ F) ∨
       (¬ Formed D (keys dm) c ∧ e = .returned (.tuple #[.pointer none, .int .i64 2]))) := by
  refine c27 _ _ _ _ (withR (X := N27 _ _ _) ?_)
  intro R hR
  unfold N27
  have hKn : (keys dm).Nodup := hd.1.nodup
  have hKm : ∀ n, n ∈ keys dm ↔ (D n).isSome := by
    intro n
    rw [mem_keys_iff]
    obtain ⟨_, _, _, _, _, h⟩ := hd.look n
    rw [h]
  have hKlen : (keys dm).length = dm.length := by simp [keys]
  rintro w1 rfl
  have ck1 := GSet.new (fun x : Int => Value.int .i64 x) w
  have f1 := Fr.alloc w (.map #[] 0)
  have hs1 := size_alloc w (.map #[] 0)
  generalize w.alloc (.map #[] 0) = w1 at *
  rintro w2 rfl
  have f2 := Fr.alloc w1 (.cells #[(.int .i64 c), (.map (some db)), (.slice none 0 0), (.map (some w.heap.size)), (.map none), (.bool false)] 140)
  have b2 := Blk.new w1 [(.int .i64 c), (.map (some db)), (.slice none 0 0), (.map (some w.heap.size)), (.map none), (.bool false)] 140
  have hM2 : Mk w (w1.alloc (.cells #[(.int .i64 c), (.map (some db)), (.slice none 0 0), (.map (some w.heap.size)), (.map none), (.bool false)] 140)) w1.heap.size w.heap.size db (.map none) c none 0 ⟨[], [], false, []⟩ := {
    fr := f1.trans f2
    blk := b2
    own := Own.nil ..
    ck := (ck1.fr f2 (by simp)).congr (by simp)
    ap := ⟨by omega, by simp [blks], by simp [blks], by omega, by omega⟩ }
  generalize w1.alloc (.cells #[(.int .i64 c), (.map (some db)), (.slice none 0 0), (.map (some w.heap.size)), (.map none), (.bool false)] 140) = w2 at *
  generalize hmb : w1.heap.size = mb at *
  have hckb : w.heap.size < mb := by omega
  generalize hcb : w.heap.size = ckb at *
  obtain ⟨xa, xc, -, -, hlk0, hsm0⟩ := (hd.fr hM2.fr).look 0
  refine ⟨xa, (dl D 0).length, xc, (D 0).isSome, ?_, ?_⟩
  · rw [lookup_dirs (hd.1.fr hM2.fr (by simp)) 0 true, if_pos rfl, hlk0, hsm0]
  have rng0 : Rng ⟨[], [], false, []⟩ := ⟨by simp, by simp⟩
  -- behind the look from the root
  have tail : ∀ (DS : Option Addr → Addr → List Value) (W : World) (nv : Value) (a : Option Addr) (cap : Nat) (s : MSt), Mk w W mb ckb db nv c a cap s → Met D c s →
      Calls prog 13 #[] W fun e W1 => ∃ x : Option Addr, e = .returned (.pointer x) ∧ optW x fun ad => (∃ u, W1.cell? (ad.add 3) = some u) ∧ W1.frozen? (ad.add 3) = false ∧ ∀ w2, w2 = W1.setCell (ad.add 3) (.int .i64 c) →
        ∃ (it : Value) (w3 : World), (Instr.range 53 (.map (some db))).run prog w2 = .ok it w3 ∧ L27_0 (some db) ⟨mb, 0, none⟩ x 1 it (DS x ad) w3 R := by
    intro DS W nv a cap s hM hMet
    refine Calls.mono (k_tNew W) ?_
    rintro _ W1 ⟨tb, F, rfl, hT, hF, htb, g1⟩
    refine ⟨_, rfl, ?_⟩
    obtain ⟨db', fb, pb, PF, dm0, fm0, rfl, h1⟩ := hT (W1.heap.size :: List.range ckb)
    have hM1 := hM.fr0 g1
    have hWk : ckb ≤ W.heap.size := by have := hM.ck.lt; omega
    have hdb := hd.1.lt
    have hlt1 := h1.lt
    simp only [optW, Addr.add_lit, Nat.zero_add]
    refine ⟨⟨_, h1.blk.cell 3⟩, h1.blk.frozen 3, ?_⟩
    rintro W2 rfl
    have f2 := Fr.setCell' W1 tb 0 3 (.int .i64 c)
    have b2 := h1.blk.set 3 (.int .i64 c)
    have s2 : (W1.setCell ⟨tb, 3, none⟩ (.int .i64 c)).heap.size = W1.heap.size := size_setCell ..
    generalize W1.setCell ⟨tb, 3, none⟩ (.int .i64 c) = W2 at *
    have h2 : TM W2 tb db' fb pb PF (W1.heap.size :: List.range ckb) dm0 fm0 (fun n => if n = 0 then some [] else none) (fun _ => false) (fun _ => False) c :=
      h1.turn f2 b2 (h1.pool.fr f2 (by intro i hi hm; simp [blks] at hm; subst hm; exact h1.ap.2.2.2.1 hi)) (fun i hi => .inl hi)
    have g02 : Fr [] W W2 := g1.trans' f2 (by intro i hi; simp [blks] at hi; subst hi; right; exact hF _ (by simp))
    obtain ⟨W3, hr3, hit3, f3, s3⟩ := IMap.range (P := prog) u_dirs ((hd.1.fr hM.fr (by simp)).fr g02 (by simp))
    refine ⟨_, W3, hr3, ?_⟩
    rw [s2] at hit3 ⊢
    have h3 := h2.fr f3 (by simp) (fun _ hi => .inl hi)
    have hitF : W1.heap.size ∉ tb :: db' :: fb :: PF := fun hm => by have := hlt1 _ hm; omega
    have hdbF : db ∉ tb :: db' :: fb :: PF := fun hm => by have := hF _ hm; omega
    have hWU : W1.heap.size < W3.heap.size := by omega
    generalize hitb : W1.heap.size = it at *
    -- what holds at the head of a round
    refine lp27_0 _ _ _ _ (fun q met U => ∃ (done fs : List Int) (dm' fm : List (Int × Value)), met = 1 + ((done.flatMap (dirNodes D)).length : Int) ∧ q = leftN dm done ∧ Fr [] W U ∧
      TM U tb db' fb pb PF (it :: List.range ckb) dm' fm (fun n => if n ∈ done then D n else if n = 0 then some [] else none) (fun n => decide (n ∈ fs)) (fun _ => False) c ∧ MIter U it db dm done ∧ done.Nodup ∧ (∀ n ∈ done, n ∈ keys dm) ∧
      ∀ x, x ∈ fs ↔ x ∈ done.flatMap (fileNodes D)) _ ?_ (leftN dm []) 1 W3
      ⟨[], [], dm0, fm0, rfl, rfl, g02.trans f3, h3.congr (by simp) (by simp) (fun _ => Iff.rfl), hit3, by simp, by simp, by simp⟩ _
    rintro q _ ds U ⟨done, fs, dm', fm, rfl, rfl, gU, hU, hit, hnd, hsub, hfs⟩
    unfold B27_0
    simp only [optW, Addr.add_lit, Nat.zero_add]
    have hMU := hM.fr0 gU
    rcases hit.next (P := prog) 0 with ⟨hall, hrun⟩ | ⟨k, v, U1, hal, hkd, hrun, hit1, fU1, hent⟩
    · left
      refine ⟨U, hrun, ?_⟩
      rintro U2 rfl
      have gd := Fr.drew U
      have hU2 := hU.fr gd (by simp) (fun _ hi => .inl hi)
      have hMU2 := hMU.fr0 gd
      have gU2 := gU.trans gd
      generalize U.drew = U2 at *
      have hperm : done.Perm (keys dm) := (List.perm_ext_iff_of_nodup hnd hKn).2 (fun x => ⟨hsub x, hall x⟩)
      have hdl : (done.flatMap (dirNodes D)).length = ((keys dm).flatMap (dirNodes D)).length := (hperm.flatMap_right _).length_eq
      have hfk : ∀ x, x ∈ keys fm ↔ x ∈ (keys dm).flatMap (fileNodes D) := by
        intro x
        rw [mem_keys_iff, hU2.files x, ← (hperm.flatMap_right (fileNodes D)).mem_iff, ← hfs]
        by_cases e : x ∈ fs <;> simp [e]
      have hfn : (keys fm).Nodup := hU2.fmap.nodup
      have hfl : (keys fm).length = fm.length := by simp [keys]
      have hfle : fm.length ≤ ((keys dm).flatMap (fileNodes D)).length := by rw [← hfl]; exact nodup_le hfn (fun x hx => (hfk x).1 hx)
      have htot := file_le D (keys dm)
      have hF1 : Formed D (keys dm) c → s.bad = false ∧ ((keys dm).flatMap (dirNodes D)).length + 1 = (keys dm).length ∧ s.nodes.length = fm.length + ((keys dm).flatMap (dirNodes D)).length := by
        intro hf
        rcases hMet with ⟨_, _, hdf⟩ | ⟨hno, _⟩
        · obtain ⟨q1, q2, q3⟩ := formed_met hf hc hdf
          refine ⟨q1, q3, ?_⟩
          have hn2 := (flatMap_perm2 (nodes_perm D) (keys dm)).nodup_iff.1 hf.nodes
          have hn3 := (List.nodup_append.1 hn2).2.1
          have := ((List.perm_ext_iff_of_nodup hfn hn3).2 hfk).length_eq
          have := q2.length_eq
          omega
        · exact absurd ⟨(hf.mem 0).1 hf.root, hf.cpos⟩ hno
      have fail : ¬ Formed D (keys dm) c → R (.returned (.tuple #[.pointer none, .int .i64 2])) U2 := fun hno => hR _ _ ⟨hM.fr.trans gU2, .inr ⟨hno, rfl⟩⟩
      refine ⟨fun V => Fr [] U2 V, Fr.refl .., s.bad, fun V hV => (hMU2.blk.fr hV (by simp)).cell 5, ?_⟩
      refine condC (fun c1 => fail (fun hf => by rw [(hF1 hf).1] at c1; cases c1)) (fun c1 => ?_)
      refine ⟨dm.length, fun V hV => IMap.len u_dirs (hd.1.fr (hMU2.fr.trans hV) (by simp)) 3, ?_⟩
      refine condC (fun c2 => fail (fun hf => ?_)) (fun c2 => ?_)
      · have := (hF1 hf).2.1
        rw [bne_iff_ne] at c2
        omega
      have c2 : 1 + ((done.flatMap (dirNodes D)).length : Int) = dm.length := by simpa using c2
      refine ⟨a, s.nodes.length, cap, fun V hV => (hMU2.blk.fr hV (by simp)).cell 2, some fb, fun V hV => (hU2.blk.fr hV (by simp)).cell 1, fm.length, fun V hV => IMap.len u_files (hU2.fmap.fr hV (by simp)) 3, ?_⟩
      rw [wr (x := (fm.length : Int) + _) (by omega) (by omega), wr (by omega) (by omega)]
      refine condC (fun c3 => fail (fun hf => ?_)) (fun c3 => ?_)
      · have := (hF1 hf).2.2
        rw [bne_iff_ne] at c3
        omega
      have c3 : (s.nodes.length : Int) = fm.length + (1 + ((done.flatMap (dirNodes D)).length : Int)) - 1 := by simpa using c3
      rcases hMet with ⟨m1, m2, hdf⟩ | ⟨_, hb, _⟩
      rotate_left
      · rw [hb] at c1; cases c1
      obtain ⟨hFo, hpn⟩ := formed_of hKn hKm m1 m2 hdf c1 hfn hfk (by omega) (by omega) hc
      have hrs := dfs_rng 202 _ 0 s hdf (fun _ => rng0) c1
      have hsl := hrs.len
      refine ⟨a, s.nodes.length, cap, hMU2.blk.cell 2, ?_⟩
      refine Calls.mono (k_idNewL a s.nodes.length cap s.nodes U2 (Own.sli hMU2.own (by simp)) (by omega)) ?_
      rintro _ U3 ⟨pb', PF', rfl, hp3, hPF3, hpb3, f3'⟩
      have hU3 := hU2.fr f3' (by simp) (fun _ hi => .inl hi)
      refine ⟨_, rfl, ⟨_, hU3.blk.cell 2⟩, hU3.blk.frozen 2, ?_⟩
      rintro U4 rfl
      have f4 := Fr.setCell' U3 tb 0 2 (.pointer (some ⟨pb', 0, none⟩))
      have b4 := hU3.blk.set 2 (.pointer (some ⟨pb', 0, none⟩))
      generalize U3.setCell ⟨tb, 2, none⟩ (.pointer (some ⟨pb', 0, none⟩)) = U4 at *
      have hlt2 := hU2.lt
      have htbP : ∀ i ∈ PF', i ∉ [tb] := by
        intro i hi hm
        simp at hm
        subst hm
        have := hPF3 _ hi
        have := hlt2 i (by simp)
        omega
      have g4 : Fr [] w U4 := (hM.fr.trans (gU2.trans f3')).trans' f4 (by intro i hi; simp [blks] at hi; subst hi; right; have := hF i (by simp); omega)
      have f24 : Fr [tb] U2 U4 := (Fr.of_nil f3').trans f4
      have h4 := hU2.turn f24 b4 (hp3.fr f4 htbP) (fun i hi => .inr (hPF3 i hi))
      obtain ⟨hmi, hmD⟩ := hFo.made
      refine hR _ _ ⟨g4, .inl ⟨hFo, tb, tb :: db' :: fb :: PF', rfl, ?_, ?_, by simp⟩⟩
      · intro X hX
        refine ⟨⟨db', fb, pb', PF', dm', fm, rfl, (h4.fr (Fr.refl [] U4) (by simp) (X' := X) (fun i hi => .inl (List.mem_cons_of_mem _ (List.mem_range.2 (hX i hi))))).congr ?_ ?_ ?_⟩, hmi⟩
        · intro n
          rw [← hmD n]
          by_cases hn : n ∈ done
          · rw [if_pos hn]
          · have hnk : n ∉ keys dm := fun h => hn (hall n h)
            have h0 : n ≠ 0 := fun e => hnk (e ▸ hFo.root)
            rw [if_neg hn, if_neg h0]
            have := hKm n
            cases hDn : D n with
            | none => rfl
            | some l => rw [hDn] at this; exact absurd (this.2 rfl) hnk
        · intro n
          rw [Bool.eq_iff_iff, decide_eq_true_iff, madeL_flt hFo, hfs, (hperm.flatMap_right (fileNodes D)).mem_iff]
        · intro n
          rw [madeL_out hFo, hpn.mem_iff]
      · intro i hi
        simp only [List.mem_cons] at hi
        have hge := fun j hj => hF j hj
        rcases hi with rfl | rfl | rfl | hi
        · have := hF i (by simp); omega
        · have := hF i (by simp); omega
        · have := hF i (by simp); omega
        · have := hPF3 i hi
          have := gU2.1
          omega
    · right
      have hdk := hd.2.2 k
      obtain ⟨l, hDk⟩ : ∃ l, D k = some l := by
        cases hDk : D k with
        | some l => exact ⟨l, rfl⟩
        | none => rw [hDk] at hdk; rw [hdk] at hal; cases hal
      rw [hDk] at hdk
      obtain ⟨hll, va, vc, hal2, hev⟩ := hdk
      rw [hal] at hal2
      obtain rfl := Option.some.inj hal2
      have hdlk : dl D k = l := by unfold dl; rw [hDk]; rfl
      have hkK : k ∈ keys dm := by rw [mem_keys_iff, hal]; rfl
      have hndk : (k :: done).Nodup := List.nodup_cons.2 ⟨hkd, hnd⟩
      have hsubk : ∀ n ∈ k :: done, n ∈ keys dm := by
        intro n hn
        rcases List.mem_cons.1 hn with rfl | hn
        · exact hkK
        · exact hsub n hn
      have hbnd : (dirNodes D k).length + (done.flatMap (dirNodes D)).length ≤ 1099511627776 := by
        have h5 := sub_flat (f := dirNodes D) hndk hsubk
        rw [List.flatMap_cons, List.length_append] at h5
        have := file_le D (keys dm)
        omega
      refine ⟨_, _, U1, hrun, k, va, l.length, vc, U1, hent, ?_⟩
      rintro U2 rfl
      have gd := Fr.drew U1
      have itX : ∀ i ∈ [it], i ∈ it :: List.range ckb ∧ i ∉ tb :: db' :: fb :: PF := by intro i hi; simp at hi; subst hi; exact ⟨by simp, hitF⟩
      have hU1 := hU.fr fU1 itX (fun _ hi => .inl hi)
      have gU1 : Fr [] W U1 := gU.trans' fU1 (by intro i hi; simp at hi; subst hi; right; have := hit.lt; have := g1.1; omega)
      have hU2 := hU1.fr gd (by simp) (fun _ hi => .inl hi)
      have hit2 := hit1.fr gd (by simp) (by simp)
      have gU2 := gU1.trans gd
      generalize U1.drew = U2 at *
      have gw2 : Fr [] w U2 := hM.fr.trans gU2
      refine ⟨fun V => Fr [] U2 V, Fr.refl .., some db', fun V hV => (hU2.blk.fr hV (by simp)).cell 0, ?_⟩
      refine Calls.mono (k_Clone (flat l) [] (flat_one _) va _ vc U2 (hev.fr gw2) (by omega)) ?_
      rintro _ U3 ⟨a', c', rfl, ho, f3'⟩
      have hU3 := hU2.fr f3' (by simp) (fun _ hi => .inl hi)
      have hit3' := hit2.fr f3' (by simp) (by simp)
      have gU3 := gU2.trans f3'
      have hlt2 := hU2.lt
      have hitlt := hit2.lt
      have hcklt := gw2.1
      have heX : Ents U3 (tb :: db' :: fb :: PF ++ it :: List.range ckb) a' l.length l := Own.sli ho (by
        intro i hi
        rcases List.mem_append.1 hi with hi | hi
        · exact hlt2 i hi
        · rcases List.mem_cons.1 hi with rfl | hi
          · exact hitlt
          · have := List.mem_range.1 hi; omega)
      obtain ⟨U4, dm2, hr4, hU4, f4, s4⟩ := hU3.setDir k a' c' l hll heX
      have hitdb : it ∉ [db'] := by simp; rintro rfl; exact hitF (by simp)
      have hdbdb : db ∉ [db'] := by simp; rintro rfl; exact hdbF (by simp)
      have hit4 := hit3'.fr f4 hitdb hdbdb
      have gU4 : Fr [] W U4 := gU3.trans' f4 (by intro i hi; simp at hi; subst hi; right; exact hF _ (by simp))
      refine ⟨a', l.length, c', rfl, f3', U4, hr4, ?_⟩
      refine lp27_1 _ _ _ _ _ _ _ _ (fun q met i V => ∃ (j : Nat) (fs2 : List Int) (dm2 fm2 : List (Int × Value)), i = j ∧ j ≤ l.length ∧ q = l.length - j ∧ met = 1 + ((done.flatMap (dirNodes D)).length : Int) + (((l.take j).filter (·.dir)).length : Int) ∧ Fr [] W V ∧
        TM V tb db' fb pb PF (it :: List.range ckb) dm2 fm2 (fun m => if m = k then some l else if m ∈ done then D m else if m = 0 then some [] else none) (fun n => decide (n ∈ fs2)) (fun _ => False) c ∧ MIter V it db dm (k :: done) ∧
        ∀ x, x ∈ fs2 ↔ (x ∈ done.flatMap (fileNodes D) ∨ x ∈ ((l.take j).filter (fun e => !e.dir)).map (·.node))) _ _ _ _ _ _ ?_ l.length _ 0 U4
        ⟨0, fs, dm2, fm, rfl, by omega, by omega, by simp, gU4, hU4, hit4, by intro x; rw [hfs]; simp⟩ _
      rintro q met _ ds V ⟨j, fs2, dm2, fm2, rfl, hj, rfl, rfl, gV, hV, hitV, hfs2⟩
      unfold B27_1
      simp only [optW, Addr.add_lit, Nat.zero_add]
      have hlenk : (dirNodes D k).length = (l.filter (·.dir)).length := by unfold dirNodes; rw [hdlk, List.length_map]
      have hpart : ((l.take j).filter (·.dir)).length ≤ (l.filter (·.dir)).length := ((List.take_sublist j l).filter _).length_le
      by_cases hjl : j < l.length
      · rw [decide_eq_true (by omega), cond_true]
        obtain ⟨x, hx⟩ : ∃ x, l[j]? = some x := ⟨l[j], List.getElem?_eq_getElem hjl⟩
        obtain ⟨b, off, rfl, d0, d1, d2, d3, d4⟩ := (hev.fr (hM.fr.trans gV)).at hx
        simp only [optW, Addr.add_lit, Int.toNat_natCast, Nat.zero_add]
        refine ⟨⟨by omega, by omega⟩, _, d0, _, d1, _, d2, _, d3, _, d4, ?_⟩
        rintro V1 rfl
        have fV1 := Fr.alloc V (.cells #[(.string ⟨#[]⟩), (.int .i64 0), (.bool false), (.int .i64 0), (.int .i64 0)] 117)
        have bV1 := Blk.new V [(.string ⟨#[]⟩), (.int .i64 0), (.bool false), (.int .i64 0), (.int .i64 0)] 117
        refine set5 bV1 (.string x.name) (.int .i64 x.node) (.bool x.dir) (.int .i64 x.cookie) (.int .i64 x.short) _ ?_
        intro V2 bV2 fV2
        have fVV : Fr [] V V2 := fV1.trans' fV2 (by intro i hi; simp at hi; right; omega)
        have hV2 := hV.fr fVV (by simp) (fun _ hi => .inl hi)
        have hitV2 := hitV.fr fVV (by simp) (by simp)
        have gV2 := gV.trans fVV
        refine ⟨_, bV2.cell 2, ?_⟩
        have hwj : IntKind.wrap .i64 ((j : Int) + 1) = ((j + 1 : Nat) : Int) := by rw [wr (by omega) (by omega)]; simp
        cases hxd : x.dir with
        | true =>
          rw [cond_true]
          have htk : ((l.take (j + 1)).filter (·.dir)).length = ((l.take j).filter (·.dir)).length + 1 := by
            rw [take_snoc hx, List.filter_append]; simp [hxd]
          have htf : (l.take (j + 1)).filter (fun e => !e.dir) = (l.take j).filter (fun e => !e.dir) := by
            rw [take_snoc hx, List.filter_append]; simp [hxd]
          refine ⟨_, _, rfl, l.length - (j + 1), by omega, j + 1, fs2, dm2, fm2, hwj, by omega, rfl, ?_, gV2, hV2, hitV2, by rw [htf]; exact hfs2⟩
          rw [wr (by omega) (by omega), htk]; simp; omega
        | false =>
          rw [cond_false]
          have htk : (l.take (j + 1)).filter (·.dir) = (l.take j).filter (·.dir) := by
            rw [take_snoc hx, List.filter_append]; simp [hxd]
          have htf : (l.take (j + 1)).filter (fun e => !e.dir) = (l.take j).filter (fun e => !e.dir) ++ [x] := by
            rw [take_snoc hx, List.filter_append]; simp [hxd]
          rintro V3 rfl
          have gd3 := Fr.drew V2
          have hV3 := hV2.fr gd3 (by simp) (fun _ hi => .inl hi)
          have hitV3 := hitV2.fr gd3 (by simp) (by simp)
          have bV3 := bV2.fr gd3 (by simp)
          have gV3 := gV2.trans gd3
          generalize V2.drew = V3 at *
          obtain ⟨V4, fm3, hr5, hV4, f5, s5⟩ := hV3.setFile x.node
          have hitfb : it ∉ [fb] := by simp; rintro rfl; exact hitF (by simp)
          have hdbfb : db ∉ [fb] := by simp; rintro rfl; exact hdbF (by simp)
          have hitV4 := hitV3.fr f5 hitfb hdbfb
          refine ⟨fun U => U = V3, rfl, some fb, fun U hU => by rw [hU]; exact hV3.blk.cell 1, x.node, fun U hU => by rw [hU]; exact bV3.cell 1, V4, hr5, ?_⟩
          refine ⟨_, _, rfl, l.length - (j + 1), by omega, j + 1, x.node :: fs2, dm2, fm3, hwj, by omega, rfl, by rw [htk], gV3.trans' f5 (by intro i hi; simp at hi; subst hi; right; exact hF _ (by simp)), hV4.congr (fun _ => rfl) ?_ (fun _ => Iff.rfl), hitV4, ?_⟩
          · intro n
            by_cases e : n = x.node <;> simp [e]
          · intro y
            rw [htf, List.mem_cons, hfs2, List.map_append, List.mem_append]
            simp only [List.map_cons, List.map_nil, List.mem_singleton]
            constructor
            · rintro (h | h | h)
              · exact .inr (.inr h)
              · exact .inl h
              · exact .inr (.inl h)
            · rintro (h | h | h)
              · exact .inr (.inl h)
              · exact .inr (.inr h)
              · exact .inl h
      · rw [decide_eq_false (by omega), cond_false]
        rw [List.take_of_length_le (by omega)] at hfs2 ⊢
        refine ⟨_, rfl, leftN dm (k :: done), leftN_lt hal hkd, k :: done, fs2, dm2, fm2, ?_, rfl, gV, hV.congr ?_ (fun _ => rfl) (fun _ => Iff.rfl), hitV, hndk, hsubk, ?_⟩
        · rw [List.flatMap_cons, List.length_append, hlenk]; simp; omega
        · intro n
          by_cases e : n = k
          · subst e; simp [hDk]
          · simp [e]
        · intro x
          rw [hfs2, List.flatMap_cons, List.mem_append, or_comm]
          unfold fileNodes
          rw [hdlk]
  simp only [Addr.add_lit, Nat.zero_add]
  have arr : ∀ (ok : Bool), (ok = true ↔ ((D 0).isSome = true ∧ 1 ≤ c)) → ∀ (A : Ending → World → Prop), (∀ (W : World), Mk w W mb ckb db (.map none) c none 0 { (⟨[], [], false, []⟩ : MSt) with bad := false || !ok } → A (.returned (.tuple #[])) W) →
      Calls prog 74 #[.pointer (some ⟨mb, 0, none⟩), .bool ok] w2 A := by
    intro ok _ A hA
    refine Calls.mono (hM2.must ok) ?_
    rintro _ W ⟨rfl, h, _⟩
    exact hA W h
  -- the look from the root
  have look : ∀ (W : World) (DS : Option Addr → Addr → List Value), ((D 0).isSome = true ∧ 1 ≤ c) → Mk w W mb ckb db (.map none) c none 0 ⟨[], [], false, []⟩ →
      Calls prog 75 #[.pointer (some ⟨mb, 0, none⟩), .int .i64 0] W fun e W0 => e = .returned (.tuple #[]) ∧ Calls prog 13 #[] W0 fun e W1 => ∃ x : Option Addr, e = .returned (.pointer x) ∧ optW x fun ad => (∃ u, W1.cell? (ad.add 3) = some u) ∧ W1.frozen? (ad.add 3) = false ∧ ∀ w2, w2 = W1.setCell (ad.add 3) (.int .i64 c) →
        ∃ (it : Value) (w3 : World), (Instr.range 53 (.map (some db))).run prog w2 = .ok it w3 ∧ L27_0 (some db) ⟨mb, 0, none⟩ x 1 it (DS x ad) w3 R := by
    intro W DS hok hM
    obtain ⟨s', hdf, _⟩ := dfs_ends (D := D) (c := c) 202 ⟨[], [], false, []⟩ 0 rfl rng0 (by simp) (by omega)
    refine Calls.mono (k_mdir hd 202 _ s' 0 W _ _ _ hdf rfl rng0 hM) ?_
    rintro _ W0 ⟨rfl, nv', a', cap', hM'⟩
    exact ⟨rfl, tail DS W0 nv' a' cap' s' hM' (.inl ⟨hok.1, hok.2, hdf⟩)⟩
  refine condC (fun c1 => ?_) (fun c1 => ?_)
  · refine arr (decide (c ≥ 1)) (by simp [c1]) _ (fun W hM => ⟨rfl, _, hM.blk.cell 5, ?_⟩)
    by_cases h1 : c ≥ 1
    · simp only [decide_eq_true h1, Bool.not_true, Bool.or_false, Bool.not_false, cond_true] at hM ⊢
      exact look W (fun x ad => _) ⟨c1, h1⟩ hM
    · simp only [decide_eq_false h1, Bool.not_true, Bool.or_true, Bool.not_false, cond_false] at hM ⊢
      exact tail (fun x ad => _) W _ _ _ _ hM (.inr ⟨fun h => h1 h.2, rfl, rfl⟩)
  · refine arr false (by simp [c1]) _ (fun W hM => ⟨rfl, _, hM.blk.cell 5, ?_⟩)
    simp only [Bool.not_true, Bool.or_true, Bool.not_false, cond_false] at hM ⊢
    exact tail (fun x ad => _) W _ _ _ _ hM (.inr ⟨fun h => (by rw [h.1] at c1; cases c1), rfl, rfl⟩)
end
end Go.Proofs.Tryz
