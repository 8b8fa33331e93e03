/- Plain lists and trees of the toponym laws: nothing of Go in it. -/
namespace Go.Topo

/-! ### association lists over Int keys -/
section
variable {β : Type}

def alook (m : List (Int × β)) (k : Int) : Option β := (m.find? (fun p => p.1 == k)).map (·.2)
def aput : List (Int × β) → Int → β → List (Int × β)
  | [], k, v => [(k, v)]
  | p :: r, k, v => if p.1 = k then (k, v) :: r else p :: aput r k v
def adel (m : List (Int × β)) (k : Int) : List (Int × β) := m.filter (fun p => !(p.1 == k))
def keys (m : List (Int × β)) : List Int := m.map (·.1)

theorem alook_nil (k : Int) : alook ([] : List (Int × β)) k = none := rfl
theorem alook_cons (p : Int × β) (r : List (Int × β)) (k : Int) : alook (p :: r) k = if p.1 = k then some p.2 else alook r k := by
  unfold alook
  by_cases h : p.1 = k
  · simp [List.find?_cons, h]
  · simp [List.find?_cons, h]

theorem alook_aput (m : List (Int × β)) (k : Int) (v : β) (j : Int) : alook (aput m k v) j = if k = j then some v else alook m j := by
  induction m with
  | nil => simp [aput, alook_cons, alook_nil]
  | cons p r ih =>
    unfold aput
    by_cases h : p.1 = k
    · rw [if_pos h, alook_cons, alook_cons]
      by_cases hj : k = j
      · simp [hj]
      · simp [hj, h]
    · rw [if_neg h, alook_cons, alook_cons, ih]
      by_cases hj : k = j
      · subst hj; simp [h]
      · simp [hj]

theorem alook_adel (m : List (Int × β)) (k : Int) (j : Int) : alook (adel m k) j = if k = j then none else alook m j := by
  induction m with
  | nil => simp [adel, alook_nil]
  | cons p r ih =>
    unfold adel at *
    rw [List.filter_cons]
    by_cases h : p.1 = k
    · simp only [h, beq_self_eq_true, Bool.not_true, Bool.false_eq_true, if_false]
      rw [ih, alook_cons]
      by_cases hj : k = j
      · simp [hj]
      · simp [hj, h]
    · have h' : (!(p.1 == k)) = true := by simp [h]
      rw [h', if_pos rfl, alook_cons, alook_cons, ih]
      by_cases hj : k = j
      · subst hj; simp [h]
      · simp [hj]

theorem mem_keys_iff (m : List (Int × β)) (k : Int) : k ∈ keys m ↔ (alook m k).isSome := by
  induction m with
  | nil => simp [keys, alook_nil]
  | cons p r ih =>
    rw [alook_cons]
    by_cases h : p.1 = k
    · simp [keys, h]
    · simp only [keys, List.map_cons, List.mem_cons] at *
      rw [if_neg h, ← ih]
      constructor
      · rintro (e | e)
        · exact absurd e.symm h
        · exact e
      · exact Or.inr

theorem keys_aput (m : List (Int × β)) (k : Int) (v : β) : keys (aput m k v) = if k ∈ keys m then keys m else keys m ++ [k] := by
  induction m with
  | nil => simp [aput, keys]
  | cons p r ih =>
    unfold aput
    by_cases h : p.1 = k
    · simp [h, keys]
    · rw [if_neg h]
      simp only [keys, List.map_cons, List.mem_cons] at *
      have h' : ¬ k = p.1 := fun e => h e.symm
      rw [ih]
      by_cases hk : k ∈ r.map (·.1)
      · simp [hk]
      · simp [hk, h']

theorem keys_nodup_aput (m : List (Int × β)) (k : Int) (v : β) (h : (keys m).Nodup) : (keys (aput m k v)).Nodup := by
  rw [keys_aput]
  split
  · exact h
  · rename_i hk
    rw [List.nodup_append]
    refine ⟨h, by simp, ?_⟩
    intro a ha b hb
    simp at hb
    subst hb
    intro e
    subst e
    exact hk ha

theorem keys_adel (m : List (Int × β)) (k : Int) : keys (adel m k) = (keys m).filter (fun j => !(j == k)) := by
  unfold keys adel
  rw [List.filter_map]
  rfl

theorem keys_nodup_adel (m : List (Int × β)) (k : Int) (h : (keys m).Nodup) : (keys (adel m k)).Nodup := by
  rw [keys_adel]
  exact h.filter _

theorem length_aput (m : List (Int × β)) (k : Int) (v : β) : (aput m k v).length ≤ m.length + 1 := by
  induction m with
  | nil => simp [aput]
  | cons p r ih => unfold aput; split <;> simp <;> omega
theorem length_adel (m : List (Int × β)) (k : Int) : (adel m k).length ≤ m.length := List.length_filter_le _ _

theorem mem_aput {m : List (Int × β)} {k : Int} {v : β} {p : Int × β} (h : p ∈ aput m k v) : p = (k, v) ∨ p ∈ m := by
  induction m with
  | nil => simp [aput] at h; exact Or.inl h
  | cons q r ih =>
    unfold aput at h
    split at h
    · rcases List.mem_cons.1 h with e | e
      · exact Or.inl e
      · exact Or.inr (List.mem_cons_of_mem _ e)
    · rcases List.mem_cons.1 h with e | e
      · exact Or.inr (by rw [e]; exact List.mem_cons_self ..)
      · rcases ih e with e | e
        · exact Or.inl e
        · exact Or.inr (List.mem_cons_of_mem _ e)
theorem mem_adel {m : List (Int × β)} {k : Int} {p : Int × β} (h : p ∈ adel m k) : p ∈ m := (List.mem_filter.1 h).1
end

/-! ### entries, trees -/
structure Ent where
  name : ByteArray
  node : Int
  dir : Bool
  cookie : Int
  short : Int

abbrev Items := List (Int × Ent)

def kindOf (L : Items) (n : Int) : Int :=
  if n = 0 then 2 else
  match L.find? (fun x => x.2.node == n) with
  | some x => if x.2.dir then 2 else 1
  | none => 0

def entsOf (L : Items) (d : Int) : List Ent := (L.filter (fun x => x.1 == d)).map (·.2)

/-- List's error: 0, 8 (a file), 5 (none). -/
def listErr (L : Items) (d : Int) : Int := if kindOf L d = 2 then 0 else if kindOf L d = 1 then 8 else 5

def findIn (l : List Ent) (name : ByteArray) : Option Ent := l.find? (fun e => decide (e.name = name))

def fidx (p : Ent → Bool) (l : List Ent) : Int := match l.findIdx? p with | some i => i | none => -1
theorem fidx_some {p : Ent → Bool} {l : List Ent} {i : Nat} (h : l.findIdx? p = some i) : fidx p l = i := by unfold fidx; rw [h]
theorem fidx_none {p : Ent → Bool} {l : List Ent} (h : l.findIdx? p = none) : fidx p l = -1 := by unfold fidx; rw [h]

def isGood (s : ByteArray) : Prop := 1 ≤ s.size ∧ s.size ≤ 255 ∧ (∀ c ∈ s.data.toList, c ≠ 0 ∧ c ≠ 47) ∧ s.data.toList ≠ [46] ∧ s.data.toList ≠ [46, 46]

end Go.Topo
