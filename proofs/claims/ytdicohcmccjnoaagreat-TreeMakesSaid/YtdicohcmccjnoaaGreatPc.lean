/- The tree's pure model, more of it: what stays true, and what the memory says of it. Conditions: none. -/
import Derived.Test.YtdicohcmccjnoaaGreatPb
namespace Go.Topo
/-- a node is met at another, or below it -/
inductive Reach (D : Int → Option (List Ent)) (node : Int) : Int → Prop
  | here : Reach D node node
  | down (at_ : Int) (x : Ent) (h : x ∈ (D at_).getD []) (r : Reach D node x.node) : Reach D node at_
noncomputable def reachB (D : Int → Option (List Ent)) (node at_ : Int) : Bool := @decide (Reach D node at_) (Classical.propDecidable _)
theorem reachB_iff {D : Int → Option (List Ent)} {node at_ : Int} : reachB D node at_ = true ↔ Reach D node at_ := by unfold reachB; exact @decide_eq_true_iff _ (Classical.propDecidable _)
theorem reachB_eq {D : Int → Option (List Ent)} {node at_ : Int} (h : at_ ≠ node) : reachB D node at_ = ((D at_).getD []).any (fun x => reachB D node x.node) := by
  rw [Bool.eq_iff_iff, reachB_iff, List.any_eq_true]
  constructor
  · intro hr
    cases hr with
    | here => exact absurd rfl h
    | down _ x hx r => exact ⟨x, hx, reachB_iff.2 r⟩
  · rintro ⟨x, hx, r⟩
    exact .down _ x hx (reachB_iff.1 r)


def Dt (L : Items) (n : Int) : Option (List Ent) := if kindOf L n = 2 then some (entsOf L n) else none
def flt (L : Items) (n : Int) : Bool := decide (kindOf L n = 1)
def outt (L : Items) (n : Int) : Prop := n ≠ 0 ∧ kindOf L n ≠ 0

theorem getD_Dt {t : RT} (hI : Inv t) (n : Int) : (Dt t.L n).getD [] = entsOf t.L n := by
  unfold Dt
  split
  · rfl
  · rename_i h; rw [entsOf_of_kind hI h]; rfl
theorem mem_entsOf {L : Items} {d : Int} {e : Ent} : e ∈ entsOf L d ↔ (d, e) ∈ L := by
  unfold entsOf
  rw [List.mem_map]
  constructor
  · rintro ⟨x, hx, rfl⟩
    rw [List.mem_filter] at hx
    have : x.1 = d := by simpa using hx.2
    rw [← this]; exact hx.1
  · intro h; exact ⟨(d, e), List.mem_filter.2 ⟨h, by simp⟩, rfl⟩
theorem kindOf_node_ne {t : RT} (hI : Inv t) {x : Int × Ent} (hx : x ∈ t.L) : kindOf t.L x.2.node ≠ 0 := by
  rw [kind_of_mem hI hx]; split <;> omega
theorem item_unique {t : RT} (hI : Inv t) {x y : Int × Ent} (hx : x ∈ t.L) (hy : y ∈ t.L) (h : x.2.node = y.2.node) : x = y := by
  have h1 := find_node hI hx
  have h2 := find_node hI hy
  rw [h] at h1
  rw [h1] at h2
  exact Option.some.inj h2

/-! ### ranks, below -/
theorem rank_down {t : RT} (hI : Inv t) : ∃ ρ : Int → Nat, ∀ n, ∀ x ∈ (Dt t.L n).getD [], ρ x.node < ρ n := by
  obtain ⟨r, hr⟩ := hI.rank
  have hmax : ∀ L : Items, ∃ M, ∀ x ∈ L, r x.2.node ≤ M := by
    intro L
    induction L with
    | nil => exact ⟨0, by simp⟩
    | cons y l ih =>
      obtain ⟨M, hM⟩ := ih
      refine ⟨max M (r y.2.node), ?_⟩
      intro x hx
      rcases List.mem_cons.1 hx with rfl | hx
      · omega
      · have := hM x hx; omega
  obtain ⟨M, hM⟩ := hmax t.L
  refine ⟨fun n => M - r n, ?_⟩
  intro n x hx
  rw [getD_Dt hI, mem_entsOf] at hx
  have h1 := hr _ hx
  have h2 := hM _ hx
  simp only at h1 h2 ⊢
  omega

theorem reach_snoc {D : Int → Option (List Ent)} {p top : Int} {e : Ent} (h : Reach D p top) (he : e ∈ (D p).getD []) : Reach D e.node top := by
  induction h with
  | here => exact .down _ e he .here
  | down a x hx _ ih => exact .down _ x hx ih
theorem reach_last {D : Int → Option (List Ent)} {n top : Int} (h : Reach D n top) : n = top ∨ ∃ p e, e ∈ (D p).getD [] ∧ e.node = n ∧ Reach D p top := by
  induction h with
  | here => exact .inl rfl
  | down a x hx _ ih =>
    right
    rcases ih with ih | ⟨p, e, h1, h2, h3⟩
    · exact ⟨a, x, hx, ih.symm, .here⟩
    · exact ⟨p, e, h1, h2, .down _ x hx h3⟩

theorem above_of {t : RT} (hI : Inv t) {p : Int} {e : Ent} (h : (p, e) ∈ t.L) : above t.L e.node = p := by
  unfold above
  rw [find_node hI h]

theorem nodup_bound' : ∀ (N : Nat) (l : List Int), l.Nodup → (∀ x ∈ l, 1 ≤ x ∧ x ≤ N) → l.length ≤ N
  | 0, l, _, h => by
    cases l with
    | nil => simp
    | cons x r => have := h x (by simp); omega
  | N + 1, l, hn, h => by
    have h1 := nodup_bound' N (l.filter (fun x => !(x == ((N + 1 : Nat) : Int)))) (hn.filter _) (by
      intro x hx
      rw [List.mem_filter] at hx
      have := h x hx.1
      have hne : x ≠ ((N + 1 : Nat) : Int) := by simpa using hx.2
      omega)
    have h2 : l.length = l.countP (fun x => x == ((N + 1 : Nat) : Int)) + l.countP (fun x => !(x == ((N + 1 : Nat) : Int))) := by
      rw [List.length_eq_countP_add_countP (fun x => x == ((N + 1 : Nat) : Int))]
      congr 1
      apply List.countP_congr
      intro x _
      simp
    have h3 : l.countP (fun x => x == ((N + 1 : Nat) : Int)) ≤ 1 := (List.nodup_iff_count.1 hn) _
    rw [← List.countP_eq_length_filter] at h1
    omega

theorem climb_false {t : RT} (hI : Inv t) (r : Int → Nat) (hr : ∀ x ∈ t.L, r x.1 < r x.2.node) (top : Int) (ht : 0 ≤ top) : ∀ (k : Nat) (n : Int), Reach (Dt t.L) n top → climb t.L top k n = false →
    ∃ l : List Int, l.length = k ∧ l.Nodup ∧ ∀ y ∈ l, (1 ≤ y ∧ y ≤ 200) ∧ r y ≤ r n := by
  intro k
  induction k with
  | zero => intro n _ _; exact ⟨[], rfl, by simp, by simp⟩
  | succ k ih =>
    intro n hn hc
    unfold climb at hc
    rcases reach_last hn with rfl | ⟨p, e, he, rfl, hp⟩
    · rw [if_neg (by omega), if_pos rfl] at hc; cases hc
    · rw [getD_Dt hI, mem_entsOf] at he
      have hb := hI.node _ he
      simp only at hb
      rw [if_neg (by omega)] at hc
      split at hc
      · cases hc
      · rw [above_of hI he] at hc
        obtain ⟨l, h1, h2, h3⟩ := ih p hp hc
        have hlt := hr _ he
        simp only at hlt
        refine ⟨e.node :: l, by simp [h1], ?_, ?_⟩
        · rw [List.nodup_cons]
          refine ⟨fun hm => ?_, h2⟩
          have := (h3 _ hm).2
          omega
        · intro y hy
          rcases List.mem_cons.1 hy with rfl | hy
          · exact ⟨hb, Nat.le_refl _⟩
          · have := h3 y hy; exact ⟨this.1, by omega⟩

theorem climb_reach {t : RT} (hI : Inv t) (top : Int) : ∀ (k : Nat) (n : Int), climb t.L top k n = true → Reach (Dt t.L) n top := by
  intro k
  induction k with
  | zero => intro n h; cases h
  | succ k ih =>
    intro n h
    unfold climb at h
    split at h
    · cases h
    · split at h
      · rename_i e; subst e; exact .here
      · have h' := ih _ h
        unfold above at h'
        cases hx : t.L.find? (fun x => x.2.node == n) with
        | none =>
          exfalso
          unfold above at h
          rw [hx] at h
          simp only at h
          cases k with
          | zero => cases h
          | succ k => unfold climb at h; rw [if_pos (by omega)] at h; cases h
        | some x =>
          rw [hx] at h'
          simp only at h'
          have hm := List.mem_of_find?_eq_some hx
          have hn := List.find?_some hx
          simp at hn
          subst hn
          exact reach_snoc h' (by rw [getD_Dt hI, mem_entsOf]; exact hm)

theorem climb_eq {t : RT} (hI : Inv t) (top : Int) (ht : 0 ≤ top) (n : Int) : climb t.L top 300 n = reachB (Dt t.L) n top := by
  rw [Bool.eq_iff_iff, reachB_iff]
  constructor
  · exact climb_reach hI top 300 n
  · intro h
    obtain ⟨r, hr⟩ := hI.rank
    cases hc : climb t.L top 300 n with
    | true => rfl
    | false =>
      obtain ⟨l, h1, h2, h3⟩ := climb_false hI r hr top ht 300 n h hc
      have := nodup_bound' 200 l h2 (fun y hy => (h3 y hy).1)
      omega

/-! ### a new entry -/
theorem pairwise_snoc {α : Type} {R : α → α → Prop} {l : List α} {x : α} (h : l.Pairwise R) (hx : ∀ y ∈ l, R y x) : (l ++ [x]).Pairwise R := by
  rw [List.pairwise_append]
  exact ⟨h, by simp, by intro y hy z hz; simp at hz; subst hz; exact hx y hy⟩

theorem findIn_none {l : List Ent} {nm : ByteArray} (h : findIn l nm = none) : ∀ e ∈ l, e.name ≠ nm := by
  intro e he
  unfold findIn at h
  rw [List.find?_eq_none] at h
  have := h e he
  simpa using this

theorem inv_put {t : RT} (hI : Inv t) {d : Int} {e : Ent} (hd : kindOf t.L d = 2) (hk : kindOf t.L e.node = 0) (hn : 1 ≤ e.node ∧ e.node ≤ 200) (hnm : findIn (entsOf t.L d) e.name = none)
    (hg : mayErr e.name e.short = 0) : Inv (t.put d e) := by
  have hk' := (kindOf_zero_iff t.L e.node).1 hk
  have hgood : isGoodB e.name = true ∧ 0 ≤ e.short ∧ e.short ≤ 1000000 := by
    unfold mayErr at hg
    split at hg
    · rename_i h
      split at hg
      · omega
      · exact ⟨h, by omega, by omega⟩
    · omega
  have hkk : ∀ n, kindOf (t.put d e).L n = if n = e.node then (if e.dir then 2 else 1) else kindOf t.L n := fun n => kindOf_append t.L d { e with cookie := t.next } n hk'.1 hk
  exact {
    next := by have := hI.next; show 1 ≤ t.next + 1; omega
    cookies := pairwise_snoc hI.cookies (fun y hy => (hI.cookie y hy).2)
    cookie := by
      intro x hx
      rcases List.mem_append.1 hx with hx | hx
      · have := hI.cookie x hx; exact ⟨this.1, by show x.2.cookie < t.next + 1; omega⟩
      · simp at hx; subst hx; have := hI.next; exact ⟨this, by show t.next < t.next + 1; omega⟩
    nodes := pairwise_snoc hI.nodes (fun y hy => hk'.2 y hy)
    node := by
      intro x hx
      rcases List.mem_append.1 hx with hx | hx
      · exact hI.node x hx
      · simp at hx; subst hx; exact hn
    parent := by
      intro x hx
      rw [hkk]
      have aux : ∀ p, kindOf t.L p = 2 → (if p = e.node then (if e.dir then (2 : Int) else 1) else kindOf t.L p) = 2 := by
        intro p hp
        rw [if_neg (fun h => by rw [h, hk] at hp; omega)]
        exact hp
      rcases List.mem_append.1 hx with hx | hx
      · exact aux _ (hI.parent x hx)
      · simp at hx; subst hx; exact aux d hd
    names := pairwise_snoc hI.names (fun y hy hyd => by
      simp only at hyd
      have : y.2 ∈ entsOf t.L d := mem_entsOf.2 (by rw [← hyd]; exact hy)
      exact findIn_none hnm _ this)
    good := by
      intro x hx
      rcases List.mem_append.1 hx with hx | hx
      · exact hI.good x hx
      · simp at hx; subst hx; exact hgood
    rank := by
      obtain ⟨r, hr⟩ := hI.rank
      refine ⟨fun n => if n = e.node then r d + 1 else r n, ?_⟩
      intro x hx
      have hde : d ≠ e.node := fun h => by rw [h, hk] at hd; omega
      rcases List.mem_append.1 hx with hx | hx
      · have h1 : x.2.node ≠ e.node := hk'.2 x hx
        have h2 : x.1 ≠ e.node := fun h => by have := hI.parent x hx; rw [h, hk] at this; omega
        simp only [if_neg h1, if_neg h2]
        exact hr x hx
      · simp at hx; subst hx
        simp only [if_neg hde, if_true]
        omega }

theorem Dt_put {t : RT} (hI : Inv t) {d : Int} {e : Ent} (hd : kindOf t.L d = 2) (hk : kindOf t.L e.node = 0) (hn : e.node ≠ 0) (n : Int) :
    Dt (t.put d e).L n = if n = d then some (entsOf t.L d ++ [{ e with cookie := t.next }]) else if n = e.node ∧ e.dir = true then some [] else Dt t.L n := by
  have hde : d ≠ e.node := fun h => by rw [h, hk] at hd; omega
  unfold Dt
  rw [show (t.put d e).L = t.L ++ [(d, { e with cookie := t.next })] from rfl, kindOf_append t.L d { e with cookie := t.next } n hn hk, entsOf_append]
  simp only
  by_cases h1 : n = d
  · subst h1
    rw [if_neg hde, if_pos hd, if_pos rfl, if_pos rfl]
  · rw [if_neg h1, if_neg (show ¬ d = n from fun h => h1 h.symm)]
    by_cases h2 : n = e.node
    · subst h2
      have he : entsOf t.L e.node = [] := entsOf_of_kind hI (by omega)
      rw [he, hk]
      cases e.dir <;> simp
    · simp [h2]

theorem flt_put {t : RT} {d : Int} {e : Ent} (hk : kindOf t.L e.node = 0) (hn : e.node ≠ 0) (n : Int) :
    flt (t.put d e).L n = if n = e.node then !e.dir else flt t.L n := by
  unfold flt
  rw [show (t.put d e).L = t.L ++ [(d, { e with cookie := t.next })] from rfl, kindOf_append t.L d { e with cookie := t.next } n hn hk]
  simp only
  by_cases h2 : n = e.node
  · subst h2
    rw [if_pos rfl, if_pos rfl]
    cases e.dir <;> simp
  · rw [if_neg h2, if_neg h2]

theorem outt_put {t : RT} {d : Int} {e : Ent} (hk : kindOf t.L e.node = 0) (hn : e.node ≠ 0) (n : Int) :
    outt (t.put d e).L n ↔ outt t.L n ∨ n = e.node := by
  unfold outt
  rw [show (t.put d e).L = t.L ++ [(d, { e with cookie := t.next })] from rfl, kindOf_append t.L d { e with cookie := t.next } n hn hk]
  simp only
  by_cases h2 : n = e.node
  · subst h2
    rw [if_pos rfl]
    constructor
    · intro _; exact .inr rfl
    · intro _; refine ⟨hn, ?_⟩; split <;> omega
  · rw [if_neg h2]
    exact ⟨fun h => .inl h, fun h => h.elim id (fun e => absurd e h2)⟩

theorem leastFrom_spec (p : Int → Bool) : ∀ (k : Nat) (n m : Int), n ≤ m → m < n + k → p m = true → (∀ j, n ≤ j → j < m → p j = false) → leastFrom p k n = some m
  | 0, n, m, h1, h2, _, _ => by omega
  | k + 1, n, m, h1, h2, h3, h4 => by
    unfold leastFrom
    by_cases e : n = m
    · subst e; rw [if_pos h3]
    · rw [if_neg (by rw [h4 n (by omega) (by omega)]; simp)]
      exact leastFrom_spec p k (n + 1) m (by omega) (by omega) h3 (fun j h5 h6 => h4 j (by omega) h6)
theorem leastFrom_none (p : Int → Bool) : ∀ (k : Nat) (n : Int), (∀ j, n ≤ j → j < n + k → p j = false) → leastFrom p k n = none
  | 0, _, _ => rfl
  | k + 1, n, h => by
    unfold leastFrom
    rw [if_neg (by rw [h n (by omega) (by omega)]; simp)]
    exact leastFrom_none p k (n + 1) (fun j h1 h2 => h j (by omega) (by omega))
end Go.Topo
