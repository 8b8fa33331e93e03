/- Trees made of entries, plain: the search from the root; what it says if nothing is wrong. Conditions: none. -/
import Derived.Test.YtdicohcmccjnoaaGreatPd
import Derived.Test.YtdicohcmccjnoaaGreatSl
namespace Go.Topo
open Go

abbrev DMap := Int → Option (List Ent)
def dl (D : DMap) (n : Int) : List Ent := (D n).getD []
def dirNodes (D : DMap) (n : Int) : List Int := ((dl D n).filter (·.dir)).map (·.node)
def allNodes (D : DMap) (n : Int) : List Int := (dl D n).map (·.node)
def allCooks (D : DMap) (n : Int) : List Int := (dl D n).map (·.cookie)

/-- what slices.IsSortedFunc says of cookies -/
def srtB : List Ent → Bool
  | a :: b :: r => decide (0 ≤ IntKind.wrap .i64 (b.cookie - a.cookie)) && srtB (b :: r)
  | _ => true

structure MSt where
  nodes : List Int
  cooks : List Int
  bad : Bool
  vis : List Int

def entOk1 (D : DMap) (e : Ent) : Bool := decide (mayErr e.name e.short = 0) && decide (1 ≤ e.node) && decide (e.node ≤ 200) && ((D e.node).isSome == e.dir)
def hasName (l : List ByteArray) (x : ByteArray) : Bool := l.any (fun y => decide (y = x))
theorem hasName_iff {l : List ByteArray} {x : ByteArray} : hasName l x = true ↔ x ∈ l := by
  unfold hasName
  rw [List.any_eq_true]
  constructor
  · rintro ⟨y, hy, e⟩; rw [decide_eq_true_eq] at e; rw [← e]; exact hy
  · intro h; exact ⟨x, h, by simp⟩
theorem hasName_false {l : List ByteArray} {x : ByteArray} : hasName l x = false ↔ x ∉ l := by
  rw [← hasName_iff]; simp
def entOk2 (c : Int) (cooks nodes : List Int) (names : List ByteArray) (e : Ent) : Bool :=
  decide (1 ≤ e.cookie) && decide (e.cookie < c) && decide (e.cookie ∉ cooks) && decide (e.node ∉ nodes) && !(hasName names e.name)
def entStep (D : DMap) (c : Int) (s : MSt × List ByteArray) (e : Ent) : MSt × List ByteArray :=
  (⟨s.1.nodes ++ [e.node], e.cookie :: s.1.cooks, s.1.bad || !(entOk1 D e) || !(entOk2 c s.1.cooks s.1.nodes s.2 e), s.1.vis⟩, e.name :: s.2)
def dir1 (D : DMap) (c : Int) (s : MSt) (n : Int) : MSt × List ByteArray := (dl D n).foldl (entStep D c) (⟨s.nodes, s.cooks, s.bad || !(srtB (dl D n)), s.vis ++ [n]⟩, [])
def dfs (D : DMap) (c : Int) : Nat → MSt → Int → Option MSt
  | 0, _, _ => none
  | f + 1, s, n => (dl D n).foldlM (fun s e => if e.dir && !s.bad then dfs D c f s e.node else some s) (dir1 D c s n).1

section
variable {D : DMap} {c : Int}

/-! ### the first round -/
theorem fold_bad (l : List Ent) : ∀ (p : MSt × List ByteArray), (l.foldl (entStep D c) p).1.bad = false → p.1.bad = false := by
  induction l with
  | nil => intro p h; exact h
  | cons e l ih =>
    intro p h
    have := ih _ h
    simp only [entStep, Bool.or_eq_false_iff] at this
    exact this.1.1
theorem fold_nodes (l : List Ent) : ∀ (p : MSt × List ByteArray), (l.foldl (entStep D c) p).1.nodes = p.1.nodes ++ l.map (·.node) := by
  induction l with
  | nil => intro p; simp
  | cons e l ih => intro p; rw [List.foldl_cons, ih]; simp [entStep]
theorem fold_vis (l : List Ent) : ∀ (p : MSt × List ByteArray), (l.foldl (entStep D c) p).1.vis = p.1.vis := by
  induction l with
  | nil => intro p; rfl
  | cons e l ih => intro p; rw [List.foldl_cons, ih]; rfl
theorem fold_cooks (l : List Ent) : ∀ (p : MSt × List ByteArray) (x : Int), x ∈ (l.foldl (entStep D c) p).1.cooks ↔ x ∈ p.1.cooks ∨ x ∈ l.map (·.cookie) := by
  induction l with
  | nil => intro p x; simp
  | cons e l ih => intro p x; rw [List.foldl_cons, ih]; simp only [entStep, List.mem_cons, List.map_cons]; rw [or_assoc, or_left_comm]
theorem fold_names (l : List Ent) : ∀ (p : MSt × List ByteArray) (x : ByteArray), x ∈ (l.foldl (entStep D c) p).2 ↔ x ∈ p.2 ∨ x ∈ l.map (·.name) := by
  induction l with
  | nil => intro p x; simp
  | cons e l ih => intro p x; rw [List.foldl_cons, ih]; simp only [entStep, List.mem_cons, List.map_cons]; rw [or_assoc, or_left_comm]

/-- nothing is wrong: what that says -/
theorem fold_ok (l : List Ent) : ∀ (p : MSt × List ByteArray), (l.foldl (entStep D c) p).1.bad = false ↔
    p.1.bad = false ∧ (∀ e ∈ l, entOk1 D e = true ∧ 1 ≤ e.cookie ∧ e.cookie < c ∧ e.cookie ∉ p.1.cooks ∧ e.node ∉ p.1.nodes ∧ e.name ∉ p.2) ∧
    (l.map (·.cookie)).Nodup ∧ (l.map (·.node)).Nodup ∧ (l.map (·.name)).Nodup := by
  induction l with
  | nil => intro p; simp
  | cons e l ih =>
    intro p
    rw [List.foldl_cons, ih]
    simp only [entStep, entOk2, Bool.or_eq_false_iff, Bool.not_eq_false', Bool.and_eq_true, decide_eq_true_eq, Bool.not_eq_true', hasName_false, List.mem_cons, not_or, List.mem_append, List.not_mem_nil, not_false_eq_true, and_true, List.map_cons, List.nodup_cons, List.mem_map, not_exists, not_and, or_false]
    constructor
    · rintro ⟨⟨⟨h1, h2⟩, ⟨⟨⟨h3, h4⟩, h5⟩, h6⟩, h7⟩, h8, h9, h10, h11⟩
      refine ⟨h1, ?_, ⟨fun x hx e' => (h8 x hx).2.2.2.1.1 e', h9⟩, ⟨fun x hx e' => (h8 x hx).2.2.2.2.1.2 e', h10⟩, ⟨fun x hx e' => (h8 x hx).2.2.2.2.2.1 e', h11⟩⟩
      rintro x (rfl | hx)
      · exact ⟨h2, h3, h4, h5, h6, h7⟩
      · obtain ⟨g1, g2, g3, g4, g5, g6⟩ := h8 x hx
        exact ⟨g1, g2, g3, g4.2, g5.1, g6.2⟩
    · rintro ⟨h1, h2, ⟨h3, h4⟩, ⟨h5, h6⟩, ⟨h7, h8⟩⟩
      obtain ⟨g1, g2, g3, g4, g5, g6⟩ := h2 e (.inl rfl)
      refine ⟨⟨⟨h1, g1⟩, ⟨⟨⟨g2, g3⟩, g4⟩, g5⟩, g6⟩, fun x hx => ?_, h4, h6, h8⟩
      obtain ⟨k1, k2, k3, k4, k5, k6⟩ := h2 x (.inr hx)
      exact ⟨k1, k2, k3, ⟨h3 x hx, k4⟩, ⟨k5, h5 x hx⟩, ⟨h7 x hx, k6⟩⟩

theorem dir1_ok (s : MSt) (n : Int) : (dir1 D c s n).1.bad = false ↔ s.bad = false ∧ srtB (dl D n) = true ∧
    (∀ e ∈ dl D n, entOk1 D e = true ∧ 1 ≤ e.cookie ∧ e.cookie < c ∧ e.cookie ∉ s.cooks ∧ e.node ∉ s.nodes) ∧ (allCooks D n).Nodup ∧ (allNodes D n).Nodup ∧ ((dl D n).map (·.name)).Nodup := by
  unfold dir1
  rw [fold_ok]
  simp only [Bool.or_eq_false_iff, Bool.not_eq_false', List.not_mem_nil, not_false_eq_true, and_true]
  unfold allCooks allNodes
  constructor
  · rintro ⟨⟨h1, h2⟩, h3, h4, h5, h6⟩; exact ⟨h1, h2, h3, h4, h5, h6⟩
  · rintro ⟨h1, h2, h3, h4, h5, h6⟩; exact ⟨⟨h1, h2⟩, h3, h4, h5, h6⟩
theorem dir1_nodes (s : MSt) (n : Int) : (dir1 D c s n).1.nodes = s.nodes ++ allNodes D n := fold_nodes _ _
theorem dir1_vis (s : MSt) (n : Int) : (dir1 D c s n).1.vis = s.vis ++ [n] := fold_vis _ _
theorem dir1_cooks (s : MSt) (n : Int) (x : Int) : x ∈ (dir1 D c s n).1.cooks ↔ x ∈ s.cooks ∨ x ∈ allCooks D n := fold_cooks _ _ _

theorem entOk1_iff {e : Ent} : entOk1 D e = true ↔ mayErr e.name e.short = 0 ∧ 1 ≤ e.node ∧ e.node ≤ 200 ∧ ((D e.node).isSome = e.dir) := by
  simp only [entOk1, Bool.and_eq_true, decide_eq_true_eq, beq_iff_eq, and_assoc]

/-! ### it ends -/
def Rng (s : MSt) : Prop := s.nodes.Nodup ∧ ∀ x ∈ s.nodes, 1 ≤ x ∧ x ≤ 200
theorem Rng.len {s : MSt} (h : Rng s) : s.nodes.length ≤ 200 := nodup_bound' 200 _ h.1 h.2
theorem dir1_rng {s : MSt} {n : Int} (h : Rng s) (hb : (dir1 D c s n).1.bad = false) : Rng (dir1 D c s n).1 := by
  obtain ⟨_, _, h3, _, h5, _⟩ := (dir1_ok s n).1 hb
  unfold Rng
  rw [dir1_nodes]
  refine ⟨List.nodup_append.2 ⟨h.1, h5, ?_⟩, ?_⟩
  · rintro x hx y hy rfl
    obtain ⟨e, he, rfl⟩ := List.mem_map.1 hy
    exact (h3 e he).2.2.2.2 hx
  · intro x hx
    rcases List.mem_append.1 hx with hx | hx
    · exact h.2 x hx
    · obtain ⟨e, he, rfl⟩ := List.mem_map.1 hx
      have := entOk1_iff.1 (h3 e he).1
      exact ⟨this.2.1, this.2.2.1⟩

theorem dfs_ends : ∀ (f : Nat) (s : MSt) (n : Int), s.bad = false → Rng s → 201 ≤ f + s.nodes.length → 1 ≤ f → ∃ s', dfs D c f s n = some s' ∧ (s'.bad = false → Rng s' ∧ s.nodes.length ≤ s'.nodes.length) := by
  intro f
  induction f with
  | zero => intro s n _ _ _ h; omega
  | succ f ih =>
    intro s n hs hr hf _
    unfold dfs
    have loop : ∀ (l : List Ent) (u : MSt), (u.bad = false → Rng u ∧ s.nodes.length + 1 ≤ u.nodes.length) →
        ∃ s', l.foldlM (fun s e => if e.dir && !s.bad then dfs D c f s e.node else some s) u = some s' ∧ (s'.bad = false → Rng s' ∧ s.nodes.length ≤ s'.nodes.length) := by
      intro l
      induction l with
      | nil => intro u hu; exact ⟨u, rfl, fun h => ⟨(hu h).1, by have := (hu h).2; omega⟩⟩
      | cons e l ihl =>
        intro u hu
        rw [List.foldlM_cons]
        by_cases hc : (e.dir && !u.bad) = true
        · rw [if_pos hc]
          have hub : u.bad = false := by simp at hc; exact hc.2
          obtain ⟨h1, h2⟩ := hu hub
          have h3 := h1.len
          obtain ⟨s', g1, g2⟩ := ih u e.node hub h1 (by omega) (by omega)
          rw [g1]
          exact ihl s' (fun h => ⟨(g2 h).1, by have := (g2 h).2; omega⟩)
        · rw [if_neg hc]
          exact ihl u hu
    cases hl : dl D n with
    | nil =>
      refine ⟨(dir1 D c s n).1, rfl, fun h => ⟨dir1_rng hr h, ?_⟩⟩
      rw [dir1_nodes]; simp
    | cons e l =>
      refine loop (e :: l) _ (fun h => ⟨dir1_rng hr h, ?_⟩)
      rw [dir1_nodes]
      simp [allNodes, hl]

/-! ### what is wrong stays wrong -/
theorem dfs_mono : ∀ (f : Nat) (s : MSt) (n : Int) (s' : MSt), dfs D c f s n = some s' → s'.bad = false → s.bad = false ∧ (dir1 D c s n).1.bad = false := by
  intro f
  induction f with
  | zero => intro s n s' h; simp [dfs] at h
  | succ f ih =>
    intro s n s' h hb
    unfold dfs at h
    have loop : ∀ (l : List Ent) (u s' : MSt), l.foldlM (fun s e => if e.dir && !s.bad then dfs D c f s e.node else some s) u = some s' → s'.bad = false → u.bad = false := by
      intro l
      induction l with
      | nil => intro u s' h hb; simp at h; rw [h]; exact hb
      | cons e l ihl =>
        intro u s' h hb
        rw [List.foldlM_cons] at h
        by_cases hc : (e.dir && !u.bad) = true
        · simp at hc; exact hc.2
        · rw [if_neg hc] at h
          exact ihl u s' h hb
    have := loop _ _ _ h hb
    exact ⟨((dir1_ok s n).1 this).1, this⟩

/-! ### what it says if nothing is wrong -/
structure Said (D : DMap) (c : Int) (s : MSt) : Prop where
  nodes : s.nodes = s.vis.flatMap (allNodes D)
  cooks : ∀ x, x ∈ s.cooks ↔ x ∈ s.vis.flatMap (allCooks D)
  nodup : (s.vis.flatMap (allCooks D)).Nodup
  nodesN : s.nodes.Nodup
  ent : ∀ v ∈ s.vis, ∀ e ∈ dl D v, entOk1 D e = true ∧ 1 ≤ e.cookie ∧ e.cookie < c
  dirs : ∀ v ∈ s.vis, srtB (dl D v) = true ∧ ((dl D v).map (·.name)).Nodup

theorem dir1_said {s : MSt} {n : Int} (h : Said D c s) (hb : (dir1 D c s n).1.bad = false) : Said D c (dir1 D c s n).1 := by
  obtain ⟨_, h2, h3, h4, h5, h6⟩ := (dir1_ok s n).1 hb
  exact {
    nodes := by rw [dir1_nodes, dir1_vis, h.nodes]; simp
    cooks := by intro x; rw [dir1_cooks, dir1_vis, h.cooks]; simp
    nodup := by
      rw [dir1_vis, List.flatMap_append]
      refine List.nodup_append.2 ⟨h.nodup, by simpa using h4, ?_⟩
      rintro x hx y hy rfl
      simp [allCooks] at hy
      obtain ⟨e, he, rfl⟩ := hy
      exact (h3 e he).2.2.2.1 ((h.cooks _).2 hx)
    nodesN := by
      rw [dir1_nodes]
      refine List.nodup_append.2 ⟨h.nodesN, h5, ?_⟩
      rintro x hx y hy rfl
      obtain ⟨e, he, rfl⟩ := List.mem_map.1 hy
      exact (h3 e he).2.2.2.2 hx
    ent := by
      rw [dir1_vis]
      intro v hv
      rcases List.mem_append.1 hv with hv | hv
      · exact h.ent v hv
      · obtain rfl := List.mem_singleton.1 hv
        intro e he
        have := h3 e he
        exact ⟨this.1, this.2.1, this.2.2.1⟩
    dirs := by
      rw [dir1_vis]
      intro v hv
      rcases List.mem_append.1 hv with hv | hv
      · exact h.dirs v hv
      · obtain rfl := List.mem_singleton.1 hv
        exact ⟨h2, h6⟩ }

theorem dfs_said : ∀ (f : Nat) (s : MSt) (n : Int) (s' : MSt), dfs D c f s n = some s' → s'.bad = false → Said D c s →
    Said D c s' ∧ ∃ ws, s'.vis = s.vis ++ n :: ws ∧ ws.Perm ((n :: ws).flatMap (dirNodes D)) ∧ ∀ v ∈ ws, Reach D v n := by
  intro f
  induction f with
  | zero => intro s n s' h; simp [dfs] at h
  | succ f ih =>
    intro s n s' h hb hs
    have hb1 := (dfs_mono (f + 1) s n s' h hb).2
    unfold dfs at h
    have hs1 := dir1_said hs hb1
    have loop : ∀ (l : List Ent) (u s' : MSt), l.foldlM (fun s e => if e.dir && !s.bad then dfs D c f s e.node else some s) u = some s' → s'.bad = false → Said D c u → (∀ e ∈ l, e ∈ dl D n) →
        Said D c s' ∧ ∃ ws, s'.vis = u.vis ++ ws ∧ ws.Perm ((l.filter (·.dir)).map (·.node) ++ ws.flatMap (dirNodes D)) ∧ ∀ v ∈ ws, Reach D v n := by
      intro l
      induction l with
      | nil => intro u s' h hb hu _; simp at h; subst h; exact ⟨hu, [], by simp, by simp, by simp⟩
      | cons e l ihl =>
        intro u s' h hb hu hl
        rw [List.foldlM_cons] at h
        by_cases hc : (e.dir && !u.bad) = true
        · rw [if_pos hc] at h
          have hed : e.dir = true := by simp at hc; exact hc.1
          cases hd : dfs D c f u e.node with
          | none => rw [hd] at h; cases h
          | some u1 =>
            rw [hd] at h
            have hb1 : u1.bad = false := by
              have mono : ∀ (l : List Ent) (u s' : MSt), l.foldlM (fun s e => if e.dir && !s.bad then dfs D c f s e.node else some s) u = some s' → s'.bad = false → u.bad = false := by
                intro l
                induction l with
                | nil => intro u s' h hb; simp at h; rw [h]; exact hb
                | cons e l ihl =>
                  intro u s' h hb
                  rw [List.foldlM_cons] at h
                  by_cases hc : (e.dir && !u.bad) = true
                  · simp at hc; exact hc.2
                  · rw [if_neg hc] at h
                    exact ihl u s' h hb
              exact mono _ _ _ h hb
            obtain ⟨g1, ws1, g2, g3, g4⟩ := ih u e.node u1 hd hb1 hu
            obtain ⟨k1, ws2, k2, k3, k4⟩ := ihl u1 s' h hb g1 (fun x hx => hl x (List.mem_cons_of_mem _ hx))
            have hen := hl e (List.mem_cons_self ..)
            refine ⟨k1, (e.node :: ws1) ++ ws2, ?_, ?_, ?_⟩
            · rw [k2, g2]; simp
            · rw [List.filter_cons, if_pos hed, List.map_cons, List.cons_append, List.cons_append]
              refine List.Perm.cons _ ?_
              rw [List.flatMap_cons, List.flatMap_append]
              rw [List.flatMap_cons] at g3
              refine (g3.append k3).trans ?_
              generalize (l.filter (·.dir)).map (·.node) = A
              generalize dirNodes D e.node = B1
              generalize ws1.flatMap (dirNodes D) = B2
              generalize ws2.flatMap (dirNodes D) = C
              have e1 : A ++ (B1 ++ (B2 ++ C)) = (A ++ (B1 ++ B2)) ++ C := by simp
              rw [e1, ← List.append_assoc]
              exact (List.perm_append_comm).append_right C
            · intro v hv
              rcases List.mem_append.1 hv with hv | hv
              · rcases List.mem_cons.1 hv with rfl | hv
                · exact .down _ e hen .here
                · exact .down _ e hen (g4 v hv)
              · exact k4 v hv
        · rw [if_neg hc] at h
          have hub : u.bad = false := by
            have mono : ∀ (l : List Ent) (u s' : MSt), l.foldlM (fun s e => if e.dir && !s.bad then dfs D c f s e.node else some s) u = some s' → s'.bad = false → u.bad = false := by
              intro l
              induction l with
              | nil => intro u s' h hb; simp at h; rw [h]; exact hb
              | cons e l ihl =>
                intro u s' h hb
                rw [List.foldlM_cons] at h
                by_cases hc : (e.dir && !u.bad) = true
                · simp at hc; exact hc.2
                · rw [if_neg hc] at h
                  exact ihl u s' h hb
            exact mono _ _ _ h hb
          have hed : e.dir = false := by
            cases hd : e.dir with
            | false => rfl
            | true => exact absurd (by simp [hd, hub]) hc
          obtain ⟨k1, ws2, k2, k3, k4⟩ := ihl u s' h hb hu (fun x hx => hl x (List.mem_cons_of_mem _ hx))
          refine ⟨k1, ws2, k2, ?_, k4⟩
          rw [List.filter_cons, if_neg (by simp [hed])]
          exact k3
    obtain ⟨g1, ws, g2, g3, g4⟩ := loop _ _ _ h hb hs1 (fun _ h => h)
    refine ⟨g1, ws, ?_, ?_, g4⟩
    · rw [g2, dir1_vis]; simp
    · rw [List.flatMap_cons]; exact g3
end
end Go.Topo
