/- Trees made of entries, plain: which make a tree; the tree that they make. Conditions: none. -/
import Derived.Test.YtdicohcmccjnoaaGreatMk
namespace Go.Topo
open Go

/-- entries that make a tree -/
structure Formed (D : DMap) (K : List Int) (c : Int) : Prop where
  root : 0 ∈ K
  cpos : 1 ≤ c
  keys : K.Nodup
  mem : ∀ n, n ∈ K ↔ (D n).isSome
  ent : ∀ n ∈ K, ∀ e ∈ dl D n, mayErr e.name e.short = 0 ∧ 1 ≤ e.node ∧ e.node ≤ 200 ∧ ((D e.node).isSome = e.dir) ∧ 1 ≤ e.cookie ∧ e.cookie < c
  sorted : ∀ n ∈ K, (dl D n).Pairwise (fun x y => x.cookie < y.cookie)
  nodes : (K.flatMap (allNodes D)).Nodup
  cooks : (K.flatMap (allCooks D)).Nodup
  names : ∀ n ∈ K, ((dl D n).map (·.name)).Nodup
  reach : ∀ n ∈ K, Reach D n 0

theorem sorted_ext {α : Type} (f : α → Int) : ∀ {l r : List α}, l.Pairwise (fun x y => f x < f y) → r.Pairwise (fun x y => f x < f y) → (∀ x, x ∈ l ↔ x ∈ r) → l = r
  | [], [], _, _, _ => rfl
  | [], y :: r, _, _, h => by have := (h y).2 (List.mem_cons_self ..); cases this
  | x :: l, [], _, _, h => by have := (h x).1 (List.mem_cons_self ..); cases this
  | x :: l, y :: r, hl, hr, h => by
    obtain ⟨l1, l2⟩ := List.pairwise_cons.1 hl
    obtain ⟨r1, r2⟩ := List.pairwise_cons.1 hr
    have e : x = y := by
      rcases List.mem_cons.1 ((h x).1 (List.mem_cons_self ..)) with h1 | h1
      · exact h1
      · rcases List.mem_cons.1 ((h y).2 (List.mem_cons_self ..)) with h2 | h2
        · exact h2.symm
        · have := l1 y h2; have := r1 x h1; omega
    subst e
    have : l = r := sorted_ext f l2 r2 (fun z => by
      have := h z
      simp only [List.mem_cons] at this
      constructor
      · intro hz
        rcases this.1 (.inr hz) with e | e
        · subst e; have := l1 z hz; omega
        · exact e
      · intro hz
        rcases this.2 (.inr hz) with e | e
        · subst e; have := r1 z hz; omega
        · exact e)
    rw [this]

theorem flatMap_disj {α β : Type} {f : α → List β} : ∀ {l : List α}, (l.flatMap f).Nodup → ∀ {x y : α} {z : β}, x ∈ l → y ∈ l → x ≠ y → z ∈ f x → z ∈ f y → False
  | [], _, _, _, _, hx, _, _, _, _ => by cases hx
  | a :: r, h, x, y, z, hx, hy, hne, hzx, hzy => by
    rw [List.flatMap_cons, List.nodup_append] at h
    obtain ⟨_, h2, h3⟩ := h
    rcases List.mem_cons.1 hx with ex | ex <;> rcases List.mem_cons.1 hy with ey | ey
    · exact hne (ex.trans ey.symm)
    · rw [ex] at hzx; exact h3 z hzx z (List.mem_flatMap.2 ⟨y, ey, hzy⟩) rfl
    · rw [ey] at hzy; exact h3 z hzy z (List.mem_flatMap.2 ⟨x, ex, hzx⟩) rfl
    · exact flatMap_disj h2 ex ey hne hzx hzy

section
variable {D : DMap} {K : List Int} {c : Int}

theorem mem_dl {n : Int} {e : Ent} (h : e ∈ dl D n) : (D n).isSome := by
  unfold dl at h
  cases hD : D n with
  | none => rw [hD] at h; cases h
  | some l => rfl

/-- one node stands in one place -/
theorem Formed.unique (h : Formed D K c) {p q : Int} {e e' : Ent} (hp : e ∈ dl D p) (hq : e' ∈ dl D q) (hn : e.node = e'.node) : p = q := by
  have hpK := (h.mem p).2 (mem_dl hp)
  have hqK := (h.mem q).2 (mem_dl hq)
  apply Classical.byContradiction
  intro hne
  exact flatMap_disj h.nodes hpK hqK hne (List.mem_map_of_mem (f := (·.node)) hp) (hn ▸ List.mem_map_of_mem (f := (·.node)) hq)

/-- in so many steps from the root -/
inductive PathN (D : DMap) : Nat → Int → Prop
  | zero : PathN D 0 0
  | succ (i : Nat) (p : Int) (e : Ent) (h : PathN D i p) (he : e ∈ dl D p) : PathN D (i + 1) e.node

theorem PathN.unique (h : Formed D K c) : ∀ {i j : Nat} {n : Int}, PathN D i n → PathN D j n → i = j := by
  intro i
  induction i with
  | zero =>
    intro j n h1 h2
    cases h1
    generalize hz : (0 : Int) = z at h2
    cases h2 with
    | zero => rfl
    | succ i p e hp he =>
      have := (h.ent p ((h.mem p).2 (mem_dl he)) e he).2.1
      omega
  | succ i ih =>
    intro j n h1 h2
    generalize hs : i + 1 = s at h1
    cases h1 with
    | zero => omega
    | succ i' p e hp he =>
      obtain rfl : i = i' := by omega
      generalize hm : e.node = m at h2
      cases h2 with
      | zero => have := (h.ent p ((h.mem p).2 (mem_dl he)) e he).2.1; omega
      | succ j' q e' hq he' =>
        obtain rfl := h.unique he he' hm
        rw [ih hp hq]
theorem PathN.of_reach {n a : Int} (h : Reach D n a) : ∀ {i : Nat}, PathN D i a → ∃ j, PathN D j n := by
  induction h with
  | here => intro i hi; exact ⟨i, hi⟩
  | down a x hx _ ih => intro i hi; exact ih (.succ i a x hi hx)

def itemsOf (D : DMap) (K : List Int) : Items := K.flatMap (fun n => (dl D n).map (fun e => (n, e)))
theorem mem_itemsOf {x : Int × Ent} : x ∈ itemsOf D K ↔ x.1 ∈ K ∧ x.2 ∈ dl D x.1 := by
  unfold itemsOf
  rw [List.mem_flatMap]
  constructor
  · rintro ⟨n, hn, hx⟩
    obtain ⟨e, he, rfl⟩ := List.mem_map.1 hx
    exact ⟨hn, he⟩
  · rintro ⟨h1, h2⟩
    exact ⟨x.1, h1, List.mem_map.2 ⟨x.2, h2, rfl⟩⟩
def ckLe (x y : Int × Ent) : Bool := decide (x.2.cookie ≤ y.2.cookie)
/-- all entries, by their cookies -/
def madeL (D : DMap) (K : List Int) : Items := (itemsOf D K).mergeSort ckLe
theorem mem_madeL {x : Int × Ent} : x ∈ madeL D K ↔ x.1 ∈ K ∧ x.2 ∈ dl D x.1 := by
  unfold madeL
  rw [(List.mergeSort_perm _ _).mem_iff, mem_itemsOf]

theorem itemsOf_map {β : Type} (f : Ent → β) : (itemsOf D K).map (fun x => f x.2) = K.flatMap (fun n => (dl D n).map f) := by
  unfold itemsOf
  rw [List.map_flatMap]
  congr 1
  funext n
  rw [List.map_map]
  rfl

theorem madeL_cookies (h : Formed D K c) : (madeL D K).Pairwise (fun x y => x.2.cookie < y.2.cookie) := by
  have h1 : ((madeL D K).map (fun x => x.2.cookie)).Nodup := by
    have hp : ((madeL D K).map (fun x => x.2.cookie)).Perm ((itemsOf D K).map (fun x => x.2.cookie)) := (List.mergeSort_perm _ _).map _
    rw [hp.nodup_iff, itemsOf_map (fun e => e.cookie)]
    exact h.cooks
  have h2 : (madeL D K).Pairwise (fun x y => ckLe x y = true) := List.pairwise_mergeSort (le := ckLe) (fun a b c h1 h2 => by simp only [ckLe, decide_eq_true_eq] at *; omega) (fun a b => by simp only [ckLe, Bool.or_eq_true, decide_eq_true_eq]; omega) _
  have h3 : (madeL D K).Pairwise (fun x y => x.2.cookie ≠ y.2.cookie) := List.pairwise_map.1 h1
  exact (h2.and h3).imp (fun ⟨a, b⟩ => by simp only [ckLe, decide_eq_true_eq] at a; omega)
theorem madeL_nodes (h : Formed D K c) : (madeL D K).Pairwise (fun x y => x.2.node ≠ y.2.node) := by
  have h1 : ((madeL D K).map (fun x => x.2.node)).Nodup := by
    have hp : ((madeL D K).map (fun x => x.2.node)).Perm ((itemsOf D K).map (fun x => x.2.node)) := (List.mergeSort_perm _ _).map _
    rw [hp.nodup_iff, itemsOf_map (fun e => e.node)]
    exact h.nodes
  exact List.pairwise_map.1 h1

theorem madeL_ents (h : Formed D K c) (n : Int) : entsOf (madeL D K) n = dl D n := by
  by_cases hn : n ∈ K
  · refine sorted_ext (fun e : Ent => e.cookie) ?_ (h.sorted n hn) ?_
    · unfold entsOf
      rw [List.pairwise_map]
      exact (madeL_cookies h).filter _
    · intro e
      rw [mem_entsOf, mem_madeL]
      exact ⟨fun h => h.2, fun h => ⟨hn, h⟩⟩
  · have h1 : dl D n = [] := by
      unfold dl
      cases hD : D n with
      | none => rfl
      | some l => exact absurd ((h.mem n).2 (by rw [hD]; rfl)) hn
    rw [h1]
    apply List.eq_nil_iff_forall_not_mem.2
    intro e he
    rw [mem_entsOf, mem_madeL] at he
    exact hn he.1

theorem madeL_kind (h : Formed D K c) (n : Int) : kindOf (madeL D K) n = 2 ↔ n ∈ K := by
  unfold kindOf
  by_cases h0 : n = 0
  · subst h0; simp [h.root]
  · rw [if_neg h0]
    constructor
    · intro hk
      split at hk
      · rename_i x hx
        have hm := List.mem_of_find?_eq_some hx
        have hn := List.find?_some hx
        simp at hn
        rw [mem_madeL] at hm
        have := (h.ent x.1 hm.1 x.2 hm.2).2.2.2.1
        rw [h.mem, ← hn, this]
        split at hk
        · assumption
        · omega
      · omega
    · intro hn
      rcases reach_last (h.reach n hn) with e | ⟨p, e, he, hen, _⟩
      · exact absurd e h0
      · have hp := (h.mem p).2 (mem_dl he)
        have hm : (p, e) ∈ madeL D K := mem_madeL.2 ⟨hp, he⟩
        have hf := find_node' (madeL_nodes h) hm
        simp only at hf
        rw [hen] at hf
        rw [hf]
        have := (h.ent p hp e he).2.2.2.1
        rw [hen] at this
        have hs := (h.mem n).1 hn
        rw [hs] at this
        simp [← this]

/-- such entries make a tree -/
theorem Formed.made (h : Formed D K c) : Inv ⟨madeL D K, c⟩ ∧ ∀ n, D n = Dt (madeL D K) n := by
  constructor
  · exact {
      next := h.cpos
      cookies := madeL_cookies h
      cookie := by
        intro x hx
        rw [mem_madeL] at hx
        have := h.ent x.1 hx.1 x.2 hx.2
        exact ⟨this.2.2.2.2.1, this.2.2.2.2.2⟩
      nodes := madeL_nodes h
      node := by
        intro x hx
        rw [mem_madeL] at hx
        have := h.ent x.1 hx.1 x.2 hx.2
        exact ⟨this.2.1, this.2.2.1⟩
      parent := by
        intro x hx
        rw [mem_madeL] at hx
        exact (madeL_kind h x.1).2 hx.1
      names := by
        have : ∀ x ∈ madeL D K, ∀ y ∈ madeL D K, x ≠ y → x.1 = y.1 → x.2.name ≠ y.2.name := by
          intro x hx y hy hne hxy hnm
          rw [mem_madeL] at hx hy
          have hnd := List.pairwise_map.1 (h.names x.1 hx.1)
          have hne2 : x.2 ≠ y.2 := fun e => hne (Prod.ext hxy e)
          rw [← hxy] at hy
          exact pairwise_mem (fun a b hab => fun e => hab e.symm) hnd hx.2 hy.2 hne2 hnm
        have hnd : (madeL D K).Pairwise (· ≠ ·) := (madeL_nodes h).imp (fun hab e => hab (by rw [e]))
        refine List.Pairwise.imp_of_mem ?_ hnd
        intro a b ha hb hab
        exact this a ha b hb hab
      good := by
        intro x hx
        rw [mem_madeL] at hx
        have := (h.ent x.1 hx.1 x.2 hx.2).1
        unfold mayErr at this
        split at this
        · rename_i hg
          split at this
          · omega
          · exact ⟨hg, by omega, by omega⟩
        · omega
      rank := by
        have hex : ∀ n ∈ K, ∃ i, PathN D i n := fun n hn => PathN.of_reach (h.reach n hn) .zero
        refine ⟨fun n => @dite _ (∃ i, PathN D i n) (Classical.propDecidable _) (fun hh => Classical.choose hh) (fun _ => 0), ?_⟩
        intro x hx
        rw [mem_madeL] at hx
        obtain ⟨i, hi⟩ := hex x.1 hx.1
        have hi' : PathN D (i + 1) x.2.node := .succ i x.1 x.2 hi hx.2
        have e1 : ∃ i, PathN D i x.1 := ⟨i, hi⟩
        have e2 : ∃ i, PathN D i x.2.node := ⟨_, hi'⟩
        simp only [dif_pos e1, dif_pos e2]
        have g1 := PathN.unique h (Classical.choose_spec e1) hi
        have g2 := PathN.unique h (Classical.choose_spec e2) hi'
        omega }
  · intro n
    unfold Dt
    by_cases hn : n ∈ K
    · rw [if_pos ((madeL_kind h n).2 hn), madeL_ents h]
      have := (h.mem n).1 hn
      unfold dl
      cases hD : D n with
      | none => rw [hD] at this; cases this
      | some l => rfl
    · rw [if_neg (fun hk => hn ((madeL_kind h n).1 hk))]
      cases hD : D n with
      | none => rfl
      | some l => exact absurd ((h.mem n).2 (by rw [hD]; rfl)) hn

theorem madeL_length : (madeL D K).length = (K.flatMap (allNodes D)).length := by
  unfold madeL
  rw [(List.mergeSort_perm _ _).length_eq]
  have : ((itemsOf D K).map (fun x => x.2.node)).length = (K.flatMap (allNodes D)).length := by rw [itemsOf_map (fun e => e.node)]; rfl
  simpa using this

/-! ### how many -/
def fileNodes (D : DMap) (n : Int) : List Int := ((dl D n).filter (fun e => !e.dir)).map (·.node)
theorem nodes_perm (D : DMap) (n : Int) : (allNodes D n).Perm (dirNodes D n ++ fileNodes D n) := by
  unfold allNodes dirNodes fileNodes
  rw [← List.map_append]
  exact (List.filter_append_perm (fun e : Ent => e.dir) (dl D n)).symm.map _
theorem flatMap_perm2 {α β : Type} {f g h : α → List β} (hp : ∀ x, (f x).Perm (g x ++ h x)) (l : List α) : (l.flatMap f).Perm (l.flatMap g ++ l.flatMap h) := by
  induction l with
  | nil => simp
  | cons x r ih =>
    rw [List.flatMap_cons, List.flatMap_cons, List.flatMap_cons]
    refine ((hp x).append ih).trans ?_
    have e : (g x ++ r.flatMap g) ++ (h x ++ r.flatMap h) = g x ++ (r.flatMap g ++ h x) ++ r.flatMap h := by simp
    have e2 : (g x ++ h x) ++ (r.flatMap g ++ r.flatMap h) = g x ++ (h x ++ r.flatMap g) ++ r.flatMap h := by simp
    rw [e, e2]
    exact (List.Perm.append_left _ List.perm_append_comm).append_right _

theorem split_keys {vis : List Int} (hK : K.Nodup) (hv : vis.Nodup) (hs : ∀ v ∈ vis, v ∈ K) : K.Perm (vis ++ K.filter (fun k => decide (k ∉ vis))) := by
  rw [List.perm_ext_iff_of_nodup hK]
  · intro x
    rw [List.mem_append, List.mem_filter, decide_eq_true_eq]
    by_cases hx : x ∈ vis
    · simp [hx, hs x hx]
    · simp [hx]
  · rw [List.nodup_append]
    refine ⟨hv, hK.filter _, ?_⟩
    rintro a ha b hb rfl
    rw [List.mem_filter, decide_eq_true_eq] at hb
    exact hb.2 ha

theorem nodup_le : ∀ {l r : List Int}, l.Nodup → (∀ x ∈ l, x ∈ r) → l.length ≤ r.length
  | [], _, _, _ => by simp
  | x :: l, r, hl, h => by
    obtain ⟨h1, h2⟩ := List.nodup_cons.1 hl
    have hx := h x (List.mem_cons_self ..)
    have hp := List.perm_cons_erase hx
    have := nodup_le (r := r.erase x) h2 (fun y hy => by
      have hy' := h y (List.mem_cons_of_mem _ hy)
      have hne : y ≠ x := fun e => h1 (e ▸ hy)
      exact (List.mem_erase_of_ne hne).2 hy')
    have hl := hp.length_eq
    simp only [List.length_cons] at hl ⊢
    omega

theorem srtB_sorted : ∀ {l : List Ent}, srtB l = true → (∀ e ∈ l, 1 ≤ e.cookie ∧ e.cookie ≤ 9223372036854775807) → (l.map (·.cookie)).Nodup → l.Pairwise (fun x y => x.cookie < y.cookie)
  | [], _, _, _ => .nil
  | [a], _, _, _ => List.pairwise_singleton ..
  | a :: b :: r, h, hr, hn => by
    simp only [srtB, Bool.and_eq_true, decide_eq_true_eq] at h
    have ha := hr a (List.mem_cons_self ..)
    have hb := hr b (List.mem_cons_of_mem _ (List.mem_cons_self ..))
    rw [List.map_cons, List.nodup_cons] at hn
    have ih := srtB_sorted h.2 (fun e he => hr e (List.mem_cons_of_mem _ he)) hn.2
    have hw := h.1
    rw [wr (by omega) (by omega)] at hw
    have hne : a.cookie ≠ b.cookie := fun e => hn.1 (by rw [e]; simp)
    have hlt : a.cookie < b.cookie := by omega
    refine List.pairwise_cons.2 ⟨?_, ih⟩
    intro x hx
    rcases List.mem_cons.1 hx with rfl | hx
    · exact hlt
    · have := (List.pairwise_cons.1 ih).1 x hx; omega
theorem sorted_srtB : ∀ {l : List Ent}, l.Pairwise (fun x y => x.cookie < y.cookie) → (∀ e ∈ l, 1 ≤ e.cookie ∧ e.cookie ≤ 9223372036854775807) → srtB l = true
  | [], _, _ => rfl
  | [a], _, _ => rfl
  | a :: b :: r, h, hr => by
    obtain ⟨h1, h2⟩ := List.pairwise_cons.1 h
    have ha := hr a (List.mem_cons_self ..)
    have hb := hr b (List.mem_cons_of_mem _ (List.mem_cons_self ..))
    have := h1 b (List.mem_cons_self ..)
    simp only [srtB, Bool.and_eq_true, decide_eq_true_eq]
    refine ⟨by rw [wr (by omega) (by omega)]; omega, sorted_srtB h2 (fun e he => hr e (List.mem_cons_of_mem _ he))⟩

/-- nothing is wrong, and all was met: the entries make a tree -/
theorem formed_of {s : MSt} {f : Nat} {fs : List Int} (hK : K.Nodup) (hmem : ∀ n, n ∈ K ↔ (D n).isSome) (h0 : (D 0).isSome) (hc : 1 ≤ c)
    (hd : dfs D c f ⟨[], [], false, []⟩ 0 = some s) (hb : s.bad = false) (hfs : fs.Nodup) (hfm : ∀ x, x ∈ fs ↔ x ∈ K.flatMap (fileNodes D))
    (hmet : (K.flatMap (dirNodes D)).length + 1 = K.length) (hcnt : s.nodes.length = fs.length + (K.flatMap (dirNodes D)).length) (hlt : c ≤ 9223372036854775807) : Formed D K c ∧ s.nodes.Perm (K.flatMap (allNodes D)) := by
  obtain ⟨hS, ws, hvis, hperm, hreach⟩ := dfs_said f _ 0 s hd hb ⟨rfl, by simp, by simp, by simp, by simp, by simp⟩
  have hvis : s.vis = 0 :: ws := by simpa using hvis
  have hws : ws.length = (s.vis.flatMap (dirNodes D)).length := by rw [hvis]; exact hperm.length_eq
  have hpv : (s.vis.flatMap (allNodes D)).Perm (s.vis.flatMap (dirNodes D) ++ s.vis.flatMap (fileNodes D)) := flatMap_perm2 (nodes_perm D) _
  have hnd : (s.vis.flatMap (dirNodes D) ++ s.vis.flatMap (fileNodes D)).Nodup := by rw [← hpv.nodup_iff, ← hS.nodes]; exact hS.nodesN
  obtain ⟨hnd1, hnd2, _⟩ := List.nodup_append.1 hnd
  have hwsN : ws.Nodup := by rw [hvis] at hnd1; exact hperm.nodup_iff.2 hnd1
  have hent1 : ∀ v ∈ s.vis, ∀ e ∈ dl D v, mayErr e.name e.short = 0 ∧ 1 ≤ e.node ∧ e.node ≤ 200 ∧ ((D e.node).isSome = e.dir) := fun v hv e he => entOk1_iff.1 (hS.ent v hv e he).1
  have hw1 : ∀ v ∈ ws, 1 ≤ v ∧ (D v).isSome := by
    intro v hv
    have := hperm.mem_iff.1 hv
    obtain ⟨p, hp, hv'⟩ := List.mem_flatMap.1 this
    unfold dirNodes at hv'
    obtain ⟨e, he, rfl⟩ := List.mem_map.1 hv'
    rw [List.mem_filter] at he
    have h1 := hent1 p (by rw [hvis]; exact hp) e he.1
    exact ⟨h1.2.1, by rw [h1.2.2.2]; exact he.2⟩
  have hvN : s.vis.Nodup := by
    rw [hvis, List.nodup_cons]
    exact ⟨fun h => by have := (hw1 0 h).1; omega, hwsN⟩
  have hvK : ∀ v ∈ s.vis, v ∈ K := by
    rw [hvis]
    intro v hv
    rcases List.mem_cons.1 hv with rfl | hv
    · exact (hmem 0).2 h0
    · exact (hmem v).2 (hw1 v hv).2
  have hsplit := split_keys hK hvN hvK
  generalize hrest : K.filter (fun k => decide (k ∉ s.vis)) = rest at hsplit
  have hlen : K.length = s.vis.length + rest.length := by rw [hsplit.length_eq, List.length_append]
  have hdirs : (K.flatMap (dirNodes D)).length = (s.vis.flatMap (dirNodes D)).length + (rest.flatMap (dirNodes D)).length := by
    have := (hsplit.flatMap_right (dirNodes D)).length_eq
    rw [this, List.flatMap_append, List.length_append]
  have hfile : (s.vis.flatMap (fileNodes D)).length ≤ fs.length := nodup_le hnd2 (fun x hx => by
    rw [hfm]
    obtain ⟨v, hv, hx⟩ := List.mem_flatMap.1 hx
    exact List.mem_flatMap.2 ⟨v, hvK v hv, hx⟩)
  have hall : s.nodes.length = (s.vis.flatMap (dirNodes D)).length + (s.vis.flatMap (fileNodes D)).length := by rw [hS.nodes, hpv.length_eq, List.length_append]
  have hvl : s.vis.length = ws.length + 1 := by rw [hvis]; rfl
  have hrest0 : rest = [] := List.eq_nil_of_length_eq_zero (by omega)
  rw [hrest0, List.append_nil] at hsplit
  have hin : ∀ n ∈ K, n ∈ s.vis := fun n hn => hsplit.mem_iff.1 hn
  refine ⟨?_, by rw [hS.nodes]; exact (hsplit.symm.flatMap_right (allNodes D))⟩
  exact {
    root := (hmem 0).2 h0
    cpos := hc
    keys := hK
    mem := hmem
    ent := fun n hn e he => by
      have h1 := hent1 n (hin n hn) e he
      have h2 := hS.ent n (hin n hn) e he
      exact ⟨h1.1, h1.2.1, h1.2.2.1, h1.2.2.2, h2.2.1, h2.2.2⟩
    sorted := fun n hn => by
      have h1 := (hS.dirs n (hin n hn)).1
      have h2 : ∀ e ∈ dl D n, 1 ≤ e.cookie ∧ e.cookie < c := fun e he => (hS.ent n (hin n hn) e he).2
      have h3 : (allCooks D n).Nodup := by
        have := hS.nodup
        have hm := hin n hn
        obtain ⟨l1, l2, e⟩ := List.append_of_mem hm
        rw [e, List.flatMap_append, List.flatMap_cons] at this
        exact (List.nodup_append.1 (List.nodup_append.1 this).2.1).1
      exact srtB_sorted h1 (fun e he => ⟨(h2 e he).1, by have := (h2 e he).2; omega⟩) h3
    nodes := by
      rw [(hsplit.flatMap_right (allNodes D)).nodup_iff, ← hS.nodes]
      exact hS.nodesN
    cooks := by
      rw [(hsplit.flatMap_right (allCooks D)).nodup_iff]
      exact hS.nodup
    names := fun n hn => (hS.dirs n (hin n hn)).2
    reach := fun n hn => by
      have := hin n hn
      rw [hvis] at this
      rcases List.mem_cons.1 this with rfl | h
      · exact .here
      · exact hreach n h }
end

/-! ### a tree's own entries -/
theorem rank_reach {D : DMap} {ρ : Int → Nat} (hρ : ∀ n, ∀ x ∈ (D n).getD [], ρ x.node < ρ n) {a b : Int} (h : Reach D a b) : ρ a ≤ ρ b := by
  induction h with
  | here => exact Nat.le_refl _
  | down x e he _ ih => have := hρ x e he; omega
theorem reach_trans {D : DMap} {a b n : Int} (h1 : Reach D a b) (h2 : Reach D b n) : Reach D a n := by
  induction h2 with
  | here => exact h1
  | down x e he _ ih => exact .down x e he ih

section
variable {t : RT} (hI : Inv t)
include hI
theorem dl_Dt (n : Int) : dl (Dt t.L) n = entsOf t.L n := getD_Dt hI n
theorem mem_dlt {n : Int} {e : Ent} : e ∈ dl (Dt t.L) n ↔ (n, e) ∈ t.L := by rw [dl_Dt hI, mem_entsOf]

theorem reach_comp {r : Int → Nat} (hr : ∀ x ∈ t.L, r x.1 < r x.2.node) : ∀ (k : Nat) {v a b : Int}, r v ≤ k → Reach (Dt t.L) v a → Reach (Dt t.L) v b → Reach (Dt t.L) a b ∨ Reach (Dt t.L) b a := by
  intro k
  induction k with
  | zero =>
    intro v a b hk ha hb
    rcases reach_last ha with rfl | ⟨p, e, he, rfl, _⟩
    · exact .inl hb
    · have := hr _ ((mem_dlt hI).1 he)
      simp only at this
      omega
  | succ k ih =>
    intro v a b hk ha hb
    rcases reach_last ha with rfl | ⟨p, e, he, rfl, hp⟩
    · exact .inl hb
    · rcases reach_last hb with rfl | ⟨q, e', he', hn, hq⟩
      · exact .inr ha
      · have h1 := (mem_dlt hI).1 he
        have h2 := (mem_dlt hI).1 he'
        have := item_unique hI h1 h2 hn.symm
        simp only [Prod.mk.injEq] at this
        obtain ⟨rfl, rfl⟩ := this
        have hlt := hr _ h1
        simp only at hlt
        exact ih (by omega) hp hq

theorem dir1_free (hnx : t.next ≤ 9223372036854775807) {s : MSt} {n : Int} (hs : s.bad = false) (hS : Said (Dt t.L) t.next s) (hv : ∀ v ∈ s.vis, v ≠ n) : (dir1 (Dt t.L) t.next s n).1.bad = false := by
  rw [dir1_ok]
  have hck : ∀ e ∈ dl (Dt t.L) n, 1 ≤ e.cookie ∧ e.cookie < t.next := fun e he => hI.cookie _ ((mem_dlt hI).1 he)
  have hsort : (dl (Dt t.L) n).Pairwise (fun x y => x.cookie < y.cookie) := by
    rw [dl_Dt hI]
    unfold entsOf
    rw [List.pairwise_map]
    exact hI.cookies.filter _
  have hnodes : (dl (Dt t.L) n).Pairwise (fun x y => x.node ≠ y.node) := by
    rw [dl_Dt hI]
    unfold entsOf
    rw [List.pairwise_map]
    exact hI.nodes.filter _
  refine ⟨hs, sorted_srtB hsort (fun e he => by have := hck e he; omega), ?_, ?_, ?_, ?_⟩
  · intro e he
    have hm := (mem_dlt hI).1 he
    have hg := hI.good _ hm
    have hn := hI.node _ hm
    refine ⟨entOk1_iff.2 ⟨?_, hn.1, hn.2, ?_⟩, (hck e he).1, (hck e he).2, ?_, ?_⟩
    · unfold mayErr; rw [if_pos hg.1, if_neg (by simp only at hg; omega)]
    · have := kind_of_mem hI hm
      simp only at this
      unfold Dt
      cases hd : e.dir with
      | true => rw [hd] at this; rw [if_pos (by simpa using this)]; rfl
      | false => rw [hd] at this; rw [if_neg (by rw [this]; decide)]; rfl
    · rw [hS.cooks]
      intro hc
      obtain ⟨v, hv', hc⟩ := List.mem_flatMap.1 hc
      obtain ⟨e', he', hce⟩ := List.mem_map.1 hc
      have hm' := (mem_dlt hI).1 he'
      have hne : ((v, e') : Int × Ent) ≠ (n, e) := fun h => hv v hv' (Prod.mk.inj h).1
      have := pairwise_mem (R := fun x y : Int × Ent => x.2.cookie ≠ y.2.cookie) (fun a b h e => h e.symm) (hI.cookies.imp (fun h => by omega)) hm' hm hne
      exact this hce
    · rw [hS.nodes]
      intro hc
      obtain ⟨v, hv', hc⟩ := List.mem_flatMap.1 hc
      obtain ⟨e', he', hce⟩ := List.mem_map.1 hc
      have := item_unique hI ((mem_dlt hI).1 he') hm hce
      exact hv v hv' (Prod.mk.inj this).1
  · exact List.pairwise_map.2 (hsort.imp (fun h => by omega))
  · exact List.pairwise_map.2 hnodes
  · rw [dl_Dt hI]; exact List.pairwise_map.2 (ents_names hI n)

theorem dfs_free (hnx : t.next ≤ 9223372036854775807) : ∀ (f : Nat) (s : MSt) (n : Int) (s' : MSt), dfs (Dt t.L) t.next f s n = some s' → s.bad = false → Said (Dt t.L) t.next s → (∀ v ∈ s.vis, ¬ Reach (Dt t.L) v n) →
    s'.bad = false := by
  obtain ⟨ρ, hρ⟩ := rank_down hI
  obtain ⟨r, hr⟩ := hI.rank
  intro f
  induction f with
  | zero => intro s n s' h; simp [dfs] at h
  | succ f ih =>
    intro s n s' h hs hS hv
    have hb1 := dir1_free hI hnx hs hS (fun v hv' e => hv v hv' (e ▸ .here))
    have hS1 := dir1_said hS hb1
    unfold dfs at h
    -- what has been met: what there was, the directory, what is below the entries that are done
    have loop : ∀ (l done : List Ent) (u s' : MSt), l.foldlM (fun s e => if e.dir && !s.bad then dfs (Dt t.L) t.next f s e.node else some s) u = some s' → u.bad = false → Said (Dt t.L) t.next u → done ++ l = dl (Dt t.L) n →
        (∀ v ∈ u.vis, v ∈ s.vis ∨ v = n ∨ ∃ e ∈ done, Reach (Dt t.L) v e.node) → s'.bad = false := by
      intro l
      induction l with
      | nil => intro done u s' h hb _ _ _; simp at h; rw [← h]; exact hb
      | cons e l ihl =>
        intro done u s' h hb hu hl hmet
        rw [List.foldlM_cons] at h
        have hen : e ∈ dl (Dt t.L) n := by rw [← hl]; simp
        by_cases hc : (e.dir && !u.bad) = true
        · rw [if_pos hc] at h
          cases hd : dfs (Dt t.L) t.next f u e.node with
          | none => rw [hd] at h; cases h
          | some u1 =>
            rw [hd] at h
            have hfree : ∀ v ∈ u.vis, ¬ Reach (Dt t.L) v e.node := by
              intro v hv' hre
              rcases hmet v hv' with h1 | rfl | ⟨e', he', h1⟩
              · exact hv v h1 (.down _ e hen hre)
              · have := rank_reach hρ hre
                have := hρ v e hen
                omega
              · have he'n : e' ∈ dl (Dt t.L) n := by rw [← hl]; exact List.mem_append_left _ he'
                have m1 := (mem_dlt hI).1 hen
                have m2 := (mem_dlt hI).1 he'n
                have hne : e'.node ≠ e.node := by
                  have hnodes : (dl (Dt t.L) n).Pairwise (fun x y => x.node ≠ y.node) := by
                    rw [dl_Dt hI]
                    unfold entsOf
                    rw [List.pairwise_map]
                    exact hI.nodes.filter _
                  rw [← hl] at hnodes
                  exact (List.pairwise_append.1 hnodes).2.2 e' he' e (List.mem_cons_self ..)
                have no : ∀ {x y : Ent}, x ∈ dl (Dt t.L) n → y ∈ dl (Dt t.L) n → x.node ≠ y.node → ¬ Reach (Dt t.L) x.node y.node := by
                  intro x y hx hy hxy hR
                  rcases reach_last hR with e1 | ⟨p, z, hz, hzn, hp⟩
                  · exact hxy e1
                  · have := item_unique hI ((mem_dlt hI).1 hz) ((mem_dlt hI).1 hx) hzn
                    simp only [Prod.mk.injEq] at this
                    obtain ⟨rfl, rfl⟩ := this
                    have := rank_reach hρ hp
                    have := hρ p y hy
                    omega
                rcases reach_comp hI hr _ (Nat.le_refl _) hre h1 with h2 | h2
                · exact no hen he'n (Ne.symm hne) h2
                · exact no he'n hen hne h2
            have hb' := ih u e.node u1 hd hb hu hfree
            obtain ⟨g1, ws, g2, _, g4⟩ := dfs_said f u e.node u1 hd hb' hu
            refine ihl (done ++ [e]) u1 s' h hb' g1 (by rw [← hl]; simp) ?_
            intro v hv'
            rw [g2] at hv'
            rcases List.mem_append.1 hv' with h1 | h1
            · rcases hmet v h1 with h2 | h2 | ⟨e', he', h2⟩
              · exact .inl h2
              · exact .inr (.inl h2)
              · exact .inr (.inr ⟨e', List.mem_append_left _ he', h2⟩)
            · refine .inr (.inr ⟨e, by simp, ?_⟩)
              rcases List.mem_cons.1 h1 with rfl | h1
              · exact .here
              · exact g4 v h1
        · rw [if_neg hc] at h
          refine ihl (done ++ [e]) u s' h hb hu (by rw [← hl]; simp) ?_
          intro v hv'
          rcases hmet v hv' with h2 | h2 | ⟨e', he', h2⟩
          · exact .inl h2
          · exact .inr (.inl h2)
          · exact .inr (.inr ⟨e', List.mem_append_left _ he', h2⟩)
    refine loop _ [] _ s' h hb1 hS1 rfl ?_
    intro v hv'
    rw [dir1_vis] at hv'
    rcases List.mem_append.1 hv' with h1 | h1
    · exact .inl h1
    · exact .inr (.inl (List.mem_singleton.1 h1))

/-- every directory is below the root -/
theorem reach_root {n : Int} (h : kindOf t.L n = 2) : Reach (Dt t.L) n 0 := by
  obtain ⟨r, hr⟩ := hI.rank
  have : ∀ (k : Nat) (n : Int), r n ≤ k → kindOf t.L n = 2 → Reach (Dt t.L) n 0 := by
    intro k
    induction k with
    | zero =>
      intro n hk h
      by_cases h0 : n = 0
      · rw [h0]; exact .here
      · have hz : kindOf t.L n ≠ 0 := by omega
        have : ∃ y ∈ t.L, y.2.node = n := by
          apply Classical.byContradiction
          intro hno
          exact hz ((kindOf_zero_iff _ _).2 ⟨h0, fun y hy e => hno ⟨y, hy, e⟩⟩)
        obtain ⟨y, hy, rfl⟩ := this
        have := hr y hy
        omega
    | succ k ih =>
      intro n hk h
      by_cases h0 : n = 0
      · rw [h0]; exact .here
      · have hz : kindOf t.L n ≠ 0 := by omega
        have : ∃ y ∈ t.L, y.2.node = n := by
          apply Classical.byContradiction
          intro hno
          exact hz ((kindOf_zero_iff _ _).2 ⟨h0, fun y hy e => hno ⟨y, hy, e⟩⟩)
        obtain ⟨y, hy, rfl⟩ := this
        have h1 := hr y hy
        exact reach_snoc (ih y.1 (by omega) (hI.parent y hy)) ((mem_dlt hI (e := y.2)).2 hy)
  exact this _ n (Nat.le_refl _) h

/-- a tree's own entries are formed -/
theorem formed_own {K : List Int} (hK : K.Nodup) (hmem : ∀ n, n ∈ K ↔ kindOf t.L n = 2) : Formed (Dt t.L) K t.next := by
  have hsome : ∀ n, (Dt t.L n).isSome ↔ kindOf t.L n = 2 := by
    intro n; unfold Dt; by_cases h : kindOf t.L n = 2 <;> simp [h]
  have hnd : ∀ (f : Ent → Int), t.L.Pairwise (fun x y => f x.2 ≠ f y.2) → (K.flatMap (fun n => (dl (Dt t.L) n).map f)).Nodup := by
    intro f hf
    clear hmem
    induction K with
    | nil => simp
    | cons k K ih =>
      obtain ⟨h1, h2⟩ := List.nodup_cons.1 hK
      rw [List.flatMap_cons, List.nodup_append]
      refine ⟨?_, ih h2, ?_⟩
      · rw [dl_Dt hI]
        refine List.pairwise_map.2 ?_
        unfold entsOf
        rw [List.pairwise_map]
        exact hf.filter _
      · rintro x hx y hy rfl
        obtain ⟨e, he, rfl⟩ := List.mem_map.1 hx
        obtain ⟨q, hq, hy⟩ := List.mem_flatMap.1 hy
        obtain ⟨e', he', hee⟩ := List.mem_map.1 hy
        have hne : ((k, e) : Int × Ent) ≠ (q, e') := fun h => h1 ((Prod.mk.inj h).1 ▸ hq)
        exact pairwise_mem (R := fun x y : Int × Ent => f x.2 ≠ f y.2) (fun a b h e => h e.symm) hf ((mem_dlt hI).1 he) ((mem_dlt hI).1 he') hne hee.symm
  exact {
    root := (hmem 0).2 (by simp [kindOf])
    cpos := hI.next
    keys := hK
    mem := fun n => (hmem n).trans (hsome n).symm
    ent := fun n _ e he => by
      have hm := (mem_dlt hI).1 he
      have hg := hI.good _ hm
      have hn := hI.node _ hm
      have hc := hI.cookie _ hm
      refine ⟨?_, hn.1, hn.2, ?_, hc.1, hc.2⟩
      · unfold mayErr; rw [if_pos hg.1, if_neg (by simp only at hg; omega)]
      · have := kind_of_mem hI hm
        simp only at this
        unfold Dt
        cases hd : e.dir with
        | true => rw [hd] at this; rw [if_pos (by simpa using this)]; rfl
        | false => rw [hd] at this; rw [if_neg (by rw [this]; decide)]; rfl
    sorted := fun n _ => by
      rw [dl_Dt hI]
      unfold entsOf
      rw [List.pairwise_map]
      exact hI.cookies.filter _
    nodes := hnd _ hI.nodes
    cooks := hnd _ (hI.cookies.imp (fun h => by omega))
    names := fun n _ => by rw [dl_Dt hI]; exact List.pairwise_map.2 (ents_names hI n)
    reach := fun n hn => reach_root hI ((hmem n).1 hn) }
end

section
variable {D : DMap} {K : List Int} {c : Int}
/-- of entries that are formed nothing is wrong, and all are met -/
theorem formed_met (h : Formed D K c) (hlt : c ≤ 9223372036854775807) {s : MSt} {f : Nat} (hd : dfs D c f ⟨[], [], false, []⟩ 0 = some s) :
    s.bad = false ∧ s.nodes.Perm (K.flatMap (allNodes D)) ∧ (K.flatMap (dirNodes D)).length + 1 = K.length := by
  obtain ⟨hI, hD⟩ := h.made
  have hDe : D = Dt (madeL D K) := funext hD
  have hb : s.bad = false := by
    have h1 := hd
    rw [hDe] at h1
    exact dfs_free hI hlt f _ 0 s (by rw [← hDe] at h1 ⊢; exact hd) rfl ⟨rfl, by simp, by simp, by simp, by simp, by simp⟩ (by simp)
  obtain ⟨hS, ws, hvis, hperm, hreach⟩ := dfs_said f _ 0 s hd hb ⟨rfl, by simp, by simp, by simp, by simp, by simp⟩
  have hvis : s.vis = 0 :: ws := by simpa using hvis
  have hclosed : ∀ v ∈ s.vis, ∀ e ∈ dl D v, e.dir = true → e.node ∈ s.vis := by
    intro v hv e he hdir
    rw [hvis] at hv ⊢
    refine List.mem_cons_of_mem _ (hperm.mem_iff.2 (List.mem_flatMap.2 ⟨v, hv, ?_⟩))
    exact List.mem_map.2 ⟨e, List.mem_filter.2 ⟨he, hdir⟩, rfl⟩
  have hall : ∀ {n a : Int}, Reach D n a → n ∈ K → a ∈ s.vis → n ∈ s.vis := by
    intro n a hr hn
    induction hr with
    | here => exact fun h => h
    | down a e he hr' ih =>
      intro ha
      refine ih (hclosed a ha e he ?_)
      -- what is below it has a directory above it
      have he4 := (h.ent a ((h.mem a).2 (mem_dl he)) e he).2.2.2.1
      cases hdir : e.dir with
      | true => rfl
      | false =>
        rw [hdir] at he4
        exfalso
        cases hr' with
        | here => have := (h.mem _).1 hn; rw [he4] at this; cases this
        | down _ x hx _ => have := mem_dl hx; rw [he4] at this; cases this
  have hin : ∀ n ∈ K, n ∈ s.vis := fun n hn => hall (h.reach n hn) hn (by rw [hvis]; simp)
  have hpv : (s.vis.flatMap (allNodes D)).Perm (s.vis.flatMap (dirNodes D) ++ s.vis.flatMap (fileNodes D)) := flatMap_perm2 (nodes_perm D) _
  have hnd : (s.vis.flatMap (dirNodes D) ++ s.vis.flatMap (fileNodes D)).Nodup := by rw [← hpv.nodup_iff, ← hS.nodes]; exact hS.nodesN
  have hwsN : ws.Nodup := by
    have := (List.nodup_append.1 hnd).1
    rw [hvis] at this
    exact hperm.nodup_iff.2 this
  have hent1 : ∀ v ∈ s.vis, ∀ e ∈ dl D v, mayErr e.name e.short = 0 ∧ 1 ≤ e.node ∧ e.node ≤ 200 ∧ ((D e.node).isSome = e.dir) := fun v hv e he => entOk1_iff.1 (hS.ent v hv e he).1
  have hw1 : ∀ v ∈ ws, 1 ≤ v ∧ (D v).isSome := by
    intro v hv
    have := hperm.mem_iff.1 hv
    obtain ⟨p, hp, hv'⟩ := List.mem_flatMap.1 this
    unfold dirNodes at hv'
    obtain ⟨e, he, rfl⟩ := List.mem_map.1 hv'
    rw [List.mem_filter] at he
    have h1 := hent1 p (by rw [hvis]; exact hp) e he.1
    exact ⟨h1.2.1, by rw [h1.2.2.2]; exact he.2⟩
  have hvN : s.vis.Nodup := by
    rw [hvis, List.nodup_cons]
    exact ⟨fun h => by have := (hw1 0 h).1; omega, hwsN⟩
  have hp : s.vis.Perm K := by
    rw [List.perm_ext_iff_of_nodup hvN h.keys]
    intro x
    refine ⟨fun hx => ?_, hin x⟩
    rw [hvis] at hx
    rcases List.mem_cons.1 hx with rfl | hx
    · exact h.root
    · exact (h.mem x).2 (hw1 x hx).2
  refine ⟨hb, by rw [hS.nodes]; exact hp.flatMap_right _, ?_⟩
  have h1 : ws.length = (s.vis.flatMap (dirNodes D)).length := by rw [hvis]; exact hperm.length_eq
  have h2 : (s.vis.flatMap (dirNodes D)).length = (K.flatMap (dirNodes D)).length := (hp.flatMap_right _).length_eq
  have h3 : s.vis.length = K.length := hp.length_eq
  rw [hvis, List.length_cons] at h3
  omega
end
end Go.Topo
