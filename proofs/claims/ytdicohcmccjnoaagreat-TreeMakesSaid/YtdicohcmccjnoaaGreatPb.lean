/- The tree's pure model: what the chapters' calls do to a list of (directory, entry). -/
import Derived.Test.YtdicohcmccjnoaaGreatPa
namespace Go.Topo

def isGoodB (s : ByteArray) : Bool :=
  decide (1 ≤ s.size) && decide (s.size ≤ 255) && s.data.toList.all (fun c => c != 0 && c != 47) && decide (s.data.toList ≠ [46]) && decide (s.data.toList ≠ [46, 46])

/-- what is wrong with a new entry's name and number: 0, 3 (ErrName), 1 (ErrArg) -/
def mayErr (name : ByteArray) (short : Int) : Int := if isGoodB name then (if short < 0 ∨ short > 1000000 then 1 else 0) else 3

/-- the least number from n on, below n + k, at which p holds -/
def leastFrom (p : Int → Bool) : Nat → Int → Option Int
  | 0, _ => none
  | k + 1, n => if p n then some n else leastFrom p k (n + 1)

def freeNode (L : Items) : Option Int := leastFrom (fun n => kindOf L n == 0) 200 1

structure RT where
  L : Items
  next : Int

def RT.put (t : RT) (d : Int) (e : Ent) : RT := ⟨t.L ++ [(d, { e with cookie := t.next })], t.next + 1⟩
def dropL (L : Items) (d : Int) (name : ByteArray) : Items := L.filter (fun x => !(x.1 == d && decide (x.2.name = name)))
def RT.drop (t : RT) (d : Int) (name : ByteArray) : RT := ⟨dropL t.L d name, t.next⟩

/-- Find's error and entry -/
def RT.find (t : RT) (d : Int) (name : ByteArray) : Except Int Ent :=
  if listErr t.L d ≠ 0 then .error (listErr t.L d) else
  match findIn (entsOf t.L d) name with
  | some e => .ok e
  | none => .error 5

def RT.link (t : RT) (d : Int) (name : ByteArray) (isDir : Bool) (short : Int) : RT × Int × Int :=
  if listErr t.L d ≠ 0 then (t, 0, listErr t.L d) else
  if mayErr name short ≠ 0 then (t, 0, mayErr name short) else
  if (findIn (entsOf t.L d) name).isSome then (t, 0, 6) else
  match freeNode t.L with
  | some n => (t.put d ⟨name, n, isDir, 0, short⟩, n, 0)
  | none => (t, 0, 12)

def RT.unlink (t : RT) (d : Int) (name : ByteArray) (isDir : Bool) : RT × Int :=
  match t.find d name with
  | .error e => (t, e)
  | .ok x =>
    if isDir = true ∧ x.dir = false then (t, 8) else
    if isDir = false ∧ x.dir = true then (t, 7) else
    if entsOf t.L x.node ≠ [] then (t, 9) else
    (t.drop d name, 0)

def above (L : Items) (n : Int) : Int := match L.find? (fun x => x.2.node == n) with | some x => x.1 | none => -1

/-- is x met on the way up from n, in k steps? -/
def climb (L : Items) (x : Int) : Nat → Int → Bool
  | 0, _ => false
  | k + 1, n => if n < 0 then false else if n = x then true else climb L x k (above L n)

def RT.move (t : RT) (d : Int) (name : ByteArray) (to : Int) (as : ByteArray) (short : Int) : RT × Int :=
  match t.find d name with
  | .error e => (t, e)
  | .ok x =>
    if listErr t.L to ≠ 0 then (t, listErr t.L to) else
    if mayErr as short ≠ 0 then (t, mayErr as short) else
    if climb t.L x.node 300 to = true then (t, 10) else
    if (findIn (entsOf t.L to) as).isSome then (t, 6) else
    ((t.drop d name).put to ⟨as, x.node, x.dir, 0, short⟩, 0)

/-- What holds of every tree that calls have made. -/
structure Inv (t : RT) : Prop where
  next : 1 ≤ t.next
  cookies : t.L.Pairwise (fun x y => x.2.cookie < y.2.cookie)
  cookie : ∀ x ∈ t.L, 1 ≤ x.2.cookie ∧ x.2.cookie < t.next
  nodes : t.L.Pairwise (fun x y => x.2.node ≠ y.2.node)
  node : ∀ x ∈ t.L, 1 ≤ x.2.node ∧ x.2.node ≤ 200
  parent : ∀ x ∈ t.L, kindOf t.L x.1 = 2
  names : t.L.Pairwise (fun x y => x.1 = y.1 → x.2.name ≠ y.2.name)
  good : ∀ x ∈ t.L, isGoodB x.2.name = true ∧ 0 ≤ x.2.short ∧ x.2.short ≤ 1000000
  rank : ∃ r : Int → Nat, ∀ x ∈ t.L, r x.1 < r x.2.node

theorem inv_new : Inv ⟨[], 1⟩ := by
  refine ⟨by decide, by simp, by simp, by simp, by simp, by simp, by simp, by simp, ⟨fun _ => 0, by simp⟩⟩

/-! ### kinds -/
theorem find_node_append (L : Items) (x : Int × Ent) (n : Int) : (L ++ [x]).find? (fun y => y.2.node == n) = (L.find? (fun y => y.2.node == n)).or (if x.2.node = n then some x else none) := by
  rw [List.find?_append]
  congr 1
  by_cases h : x.2.node = n <;> simp [List.find?_cons, h]

theorem kindOf_append (L : Items) (d : Int) (e : Ent) (n : Int) (h0 : e.node ≠ 0) (hf : kindOf L e.node = 0) :
    kindOf (L ++ [(d, e)]) n = if n = e.node then (if e.dir then 2 else 1) else kindOf L n := by
  have hfree : L.find? (fun y => y.2.node == e.node) = none := by
    unfold kindOf at hf
    rw [if_neg h0] at hf
    cases hx : L.find? (fun y => y.2.node == e.node) with
    | none => rfl
    | some x => rw [hx] at hf; dsimp only at hf; split at hf <;> omega
  unfold kindOf
  rw [find_node_append]
  by_cases hn : n = e.node
  · subst hn
    rw [if_neg h0, if_pos rfl, hfree]
    simp
  · rw [if_neg hn]
    have hn' : ¬ e.node = n := fun e' => hn e'.symm
    by_cases hz : n = 0
    · simp [hz]
    · rw [if_neg hz, if_neg hz]
      simp [hn']

theorem entsOf_append (L : Items) (d : Int) (e : Ent) (n : Int) : entsOf (L ++ [(d, e)]) n = if d = n then entsOf L n ++ [e] else entsOf L n := by
  unfold entsOf
  by_cases h : d = n <;> simp [List.filter_append, List.filter_cons, h]

theorem entsOf_of_kind {t : RT} (hI : Inv t) {n : Int} (h : kindOf t.L n ≠ 2) : entsOf t.L n = [] := by
  unfold entsOf
  rw [List.map_eq_nil_iff, List.filter_eq_nil_iff]
  intro x hx e
  simp at e
  exact h (e ▸ hI.parent x hx)

/-- the item of a node -/
theorem find_node {t : RT} (hI : Inv t) {x : Int × Ent} (hx : x ∈ t.L) : t.L.find? (fun y => y.2.node == x.2.node) = some x := by
  have hn := hI.nodes
  clear hI
  generalize t.L = L at *
  induction L with
  | nil => cases hx
  | cons y r ih =>
    rw [List.find?_cons]
    obtain ⟨h1, h2⟩ := List.pairwise_cons.1 hn
    rcases List.mem_cons.1 hx with e | e
    · subst e; simp
    · have := h1 x e
      have hb : (y.2.node == x.2.node) = false := by simp [this]
      rw [hb]
      exact ih e h2

theorem kind_of_mem {t : RT} (hI : Inv t) {x : Int × Ent} (hx : x ∈ t.L) : kindOf t.L x.2.node = if x.2.dir then 2 else 1 := by
  have := hI.node x hx
  unfold kindOf
  rw [if_neg (by omega), find_node hI hx]

theorem kindOf_zero_iff (L : Items) (n : Int) : kindOf L n = 0 ↔ n ≠ 0 ∧ ∀ x ∈ L, x.2.node ≠ n := by
  unfold kindOf
  by_cases h : n = 0
  · simp [h]
  · rw [if_neg h]
    cases hx : L.find? (fun y => y.2.node == n) with
    | none =>
      simp only [List.find?_eq_none] at hx
      simp only [ne_eq, h, not_false_eq_true, true_and, true_iff]
      intro x hm e
      exact hx x hm (by simp [e])
    | some x =>
      have h1 := List.mem_of_find?_eq_some hx
      have h2 := List.find?_some hx
      simp at h2
      dsimp only
      constructor
      · intro e; split at e <;> omega
      · rintro ⟨_, h3⟩; exact absurd h2 (h3 x h1)

theorem kindOf_cases (L : Items) (n : Int) : kindOf L n = 0 ∨ kindOf L n = 1 ∨ kindOf L n = 2 := by
  unfold kindOf
  split
  · simp
  · split
    · split <;> simp
    · simp

end Go.Topo
