/- Which entries make a tree, as the law says it: plain. Conditions: none. -/
import Derived.Test.YtdicohcmccjnoaaGreatMl
namespace Go.Topo
open Go

def thereOf (D : DMap) (ks : List Int) : List Int := ks.filter (fun n => (D n).isSome)
inductive DReach (A : Items) : Int → Prop
  | root : DReach A 0
  | step (x : Int × Ent) (hx : x ∈ A) (hd : x.2.dir = true) (r : DReach A x.1) : DReach A x.2.node
structure LF (D : DMap) (ks : List Int) (c : Int) : Prop where
  sorted : ∀ n ∈ ks, ∀ (k : Nat) (x y : Ent), (dl D n)[k]? = some x → (dl D n)[k + 1]? = some y → x.cookie < y.cookie
  cpos : 1 ≤ c
  root : 0 ∈ thereOf D ks
  ent : ∀ x ∈ itemsOf D ks, mayErr x.2.name x.2.short = 0 ∧ 1 ≤ x.2.node ∧ x.2.node ≤ 200 ∧ 1 ≤ x.2.cookie ∧ x.2.cookie < c ∧ decide (x.2.node ∈ thereOf D ks) = x.2.dir
  pair : (itemsOf D ks).Pairwise (fun y x => y.2.node ≠ x.2.node ∧ y.2.cookie ≠ x.2.cookie ∧ ¬ (y.1 = x.1 ∧ y.2.name = x.2.name))
  reach : ∀ v ∈ thereOf D ks, DReach (itemsOf D ks) v

theorem chain_pairwise {α : Type} (f : α → Int) : ∀ {l : List α}, (∀ (k : Nat) (x y : α), l[k]? = some x → l[k + 1]? = some y → f x < f y) → l.Pairwise (fun x y => f x < f y)
  | [], _ => .nil
  | [a], _ => List.pairwise_singleton ..
  | a :: b :: r, h => by
    have h1 := chain_pairwise f (l := b :: r) (fun k x y hx hy => h (k + 1) x y (by simpa using hx) (by simpa using hy))
    have hab := h 0 a b rfl rfl
    refine List.pairwise_cons.2 ⟨?_, h1⟩
    intro x hx
    rcases List.mem_cons.1 hx with rfl | hx
    · exact hab
    · have := (List.pairwise_cons.1 h1).1 x hx; omega
theorem pairwise_chain {α : Type} (f : α → Int) {l : List α} (h : l.Pairwise (fun x y => f x < f y)) (k : Nat) (x y : α) (hx : l[k]? = some x) (hy : l[k + 1]? = some y) : f x < f y := by
  obtain ⟨h1, rfl⟩ := List.getElem?_eq_some_iff.1 hx
  obtain ⟨h2, rfl⟩ := List.getElem?_eq_some_iff.1 hy
  exact List.pairwise_iff_getElem.1 h k (k + 1) h1 h2 (by omega)

section
variable {D : DMap} {c : Int} {ks K : List Int}

theorem itemsOf_there : itemsOf D ks = itemsOf D (thereOf D ks) := by
  unfold itemsOf thereOf
  induction ks with
  | nil => rfl
  | cons n r ih =>
    rw [List.flatMap_cons, List.filter_cons]
    cases h : (D n).isSome with
    | true => rw [if_pos rfl, List.flatMap_cons, ih]
    | false =>
      have : dl D n = [] := by unfold dl; cases hD : D n with
        | none => rfl
        | some l => rw [hD] at h; cases h
      rw [this, if_neg (by simp), ih]; rfl

theorem Formed.perm (h : Formed D K c) {K' : List Int} (hn : K'.Nodup) (hm : ∀ n, n ∈ K' ↔ n ∈ K) : Formed D K' c := by
  have hp : K.Perm K' := (List.perm_ext_iff_of_nodup h.keys hn).2 (fun x => (hm x).symm)
  exact {
    root := (hm 0).2 h.root
    cpos := h.cpos
    keys := hn
    mem := fun n => (hm n).trans (h.mem n)
    ent := fun n hk => h.ent n ((hm n).1 hk)
    sorted := fun n hk => h.sorted n ((hm n).1 hk)
    nodes := (hp.flatMap_right _).nodup_iff.1 h.nodes
    cooks := (hp.flatMap_right _).nodup_iff.1 h.cooks
    names := fun n hk => h.names n ((hm n).1 hk)
    reach := fun n hk => h.reach n ((hm n).1 hk) }

theorem some_of_reach {v b : Int} (h : Reach D v b) (hv : (D v).isSome) : (D b).isSome := by
  cases h with
  | here => exact hv
  | down _ x hx _ => exact mem_dl hx

theorem nodup_map_iff {α β : Type} (f : α → β) (l : List α) : (l.map f).Nodup ↔ l.Pairwise (fun x y => f x ≠ f y) := by
  unfold List.Nodup; rw [List.pairwise_map]

theorem lf_formed (hks : ks.Nodup) (hall : ∀ n, (D n).isSome → n ∈ ks) : LF D ks c ↔ Formed D (thereOf D ks) c := by
  have hTn : (thereOf D ks).Nodup := hks.filter _
  have hTm : ∀ n, n ∈ thereOf D ks ↔ (D n).isSome := by
    intro n
    unfold thereOf
    rw [List.mem_filter]
    exact ⟨fun h => h.2, fun h => ⟨hall n h, h⟩⟩
  have hdec : ∀ n, decide (n ∈ thereOf D ks) = (D n).isSome := by
    intro n
    by_cases h : n ∈ thereOf D ks
    · rw [decide_eq_true h]; exact ((hTm n).1 h).symm
    · rw [decide_eq_false h]
      cases hs : (D n).isSome with
      | false => rfl
      | true => exact absurd ((hTm n).2 hs) h
  constructor
  · intro h
    have hent : ∀ n ∈ thereOf D ks, ∀ e ∈ dl D n, mayErr e.name e.short = 0 ∧ 1 ≤ e.node ∧ e.node ≤ 200 ∧ ((D e.node).isSome = e.dir) ∧ 1 ≤ e.cookie ∧ e.cookie < c := by
      intro n hn e he
      have := h.ent (n, e) (mem_itemsOf.2 ⟨hall n ((hTm n).1 hn), he⟩)
      rw [hdec] at this
      obtain ⟨a1, a2, a3, a4, a5, a6⟩ := this
      exact ⟨a1, a2, a3, a6, a4, a5⟩
    have hp := h.pair
    rw [itemsOf_there] at hp
    have hnodes : ((itemsOf D (thereOf D ks)).map (fun x => x.2.node)).Nodup := (nodup_map_iff _ _).2 (hp.imp (fun h => h.1))
    have hcooks : ((itemsOf D (thereOf D ks)).map (fun x => x.2.cookie)).Nodup := (nodup_map_iff _ _).2 (hp.imp (fun h => h.2.1))
    rw [itemsOf_map (fun e => e.node)] at hnodes
    rw [itemsOf_map (fun e => e.cookie)] at hcooks
    exact {
      root := h.root
      cpos := h.cpos
      keys := hTn
      mem := hTm
      ent := hent
      sorted := fun n hn => chain_pairwise (fun e : Ent => e.cookie) (h.sorted n (hall n ((hTm n).1 hn)))
      nodes := hnodes
      cooks := hcooks
      names := by
        intro n hn
        rw [nodup_map_iff]
        unfold itemsOf at hp
        have := (List.pairwise_flatMap.1 hp).1 n hn
        rw [List.pairwise_map] at this
        exact this.imp (fun h e => h.2.2 ⟨rfl, e⟩)
      reach := by
        intro v hv
        have hr := h.reach v hv
        clear hv
        induction hr with
        | root => exact .here
        | step x hx hd r ih => exact reach_trans (.down x.1 x.2 (mem_itemsOf.1 hx).2 .here) ih }
  · intro h
    exact {
      sorted := by
        intro n hn k x y hx hy
        have hns : (D n).isSome := mem_dl (List.mem_of_getElem? hx)
        exact pairwise_chain (fun e : Ent => e.cookie) (h.sorted n ((hTm n).2 hns)) k x y hx hy
      cpos := h.cpos
      root := h.root
      ent := by
        intro x hx
        obtain ⟨_, he⟩ := mem_itemsOf.1 hx
        obtain ⟨a1, a2, a3, a4, a5, a6⟩ := h.ent x.1 ((hTm x.1).2 (mem_dl he)) x.2 he
        exact ⟨a1, a2, a3, a5, a6, by rw [hdec]; exact a4⟩
      pair := by
        rw [itemsOf_there]
        have h1 : (itemsOf D (thereOf D ks)).Pairwise (fun x y => x.2.node ≠ y.2.node) := by
          rw [← nodup_map_iff (fun x : Int × Ent => x.2.node), itemsOf_map (fun e => e.node)]; exact h.nodes
        have h2 : (itemsOf D (thereOf D ks)).Pairwise (fun x y => x.2.cookie ≠ y.2.cookie) := by
          rw [← nodup_map_iff (fun x : Int × Ent => x.2.cookie), itemsOf_map (fun e => e.cookie)]; exact h.cooks
        have h3 : (itemsOf D (thereOf D ks)).Pairwise (fun x y => ¬ (x.1 = y.1 ∧ x.2.name = y.2.name)) := by
          unfold itemsOf
          rw [List.pairwise_flatMap]
          constructor
          · intro n hn
            rw [List.pairwise_map]
            exact ((nodup_map_iff _ _).1 (h.names n hn)).imp (fun hne e => hne e.2)
          · refine hTn.imp ?_
            intro a b hab x hx y hy e
            obtain ⟨_, _, rfl⟩ := List.mem_map.1 hx
            obtain ⟨_, _, rfl⟩ := List.mem_map.1 hy
            exact hab e.1
        exact ((h1.and h2).and h3).imp (fun h => ⟨h.1.1, h.1.2, h.2⟩)
      reach := by
        intro v hv
        have hvs := (hTm v).1 hv
        have down : ∀ a, Reach D v a → DReach (itemsOf D ks) a → DReach (itemsOf D ks) v := by
          intro a ha
          induction ha with
          | here => exact id
          | down a x hx r ih =>
            intro hd
            have hx : x ∈ dl D a := hx
            have hxs := some_of_reach r hvs
            have hdir := (h.ent a ((hTm a).2 (mem_dl hx)) x hx).2.2.2.1
            rw [hxs] at hdir
            exact ih (.step (a, x) (mem_itemsOf.2 ⟨hall a (mem_dl hx), hx⟩) hdir.symm hd)
        exact down 0 (h.reach v hv) .root }
end

theorem link_empty (nm : ByteArray) (isDir : Bool) (sh : Int) : ((⟨[], 1⟩ : RT).link 0 nm isDir sh).2.2 = mayErr nm sh ∧ (((⟨[], 1⟩ : RT).link 0 nm isDir sh).1.L.length = 1 ↔ mayErr nm sh = 0) := by
  have hl : listErr [] 0 = 0 := rfl
  have hf : findIn (entsOf [] 0) nm = none := rfl
  have hfree : freeNode [] = some 1 := by decide
  unfold RT.link
  rw [hl, hf, hfree]
  by_cases h : mayErr nm sh = 0
  · simp [h, RT.put]
  · simp [h]
end Go.Topo
