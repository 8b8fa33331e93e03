/- What the functions on lists of entries do: index, clone, delete. Conditions: none. -/
import Derived.Test.YtdicohcmccjnoaaGreatFn
import Derived.Test.YtdicohcmccjnoaaGreatTy
namespace Go.Proofs.Tryz
open Go Go.Eng Go.Topo

abbrev entV (x : Ent) : Value := .agg #[.string x.name, .int .i64 x.node, .bool x.dir, .int .i64 x.cookie, .int .i64 x.short]
abbrev entC (x : Ent) : List Value := [.string x.name, .int .i64 x.node, .bool x.dir, .int .i64 x.cookie, .int .i64 x.short]
def flat (l : List Ent) : List Value := l.flatMap entC
def Ents (w : World) (F : List Nat) (a : Option Addr) (n : Nat) (l : List Ent) : Prop := Sli w F 5 a n (flat l)

theorem flat_length (l : List Ent) : (flat l).length = l.length * 5 := by
  induction l with
  | nil => rfl
  | cons x r ih => simp only [flat, List.flatMap_cons, List.length_append, List.length_cons, List.length_nil] at *; omega
theorem flat_append (l r : List Ent) : flat (l ++ r) = flat l ++ flat r := by simp [flat]
theorem flat_take : ∀ (l : List Ent) (i : Nat), (flat l).take (i * 5) = flat (l.take i)
  | [], i => by simp [flat]
  | x :: r, 0 => by simp [flat]
  | x :: r, i + 1 => by
    have := flat_take r i
    simp only [flat, List.flatMap_cons, List.take_succ_cons, entC] at *
    rw [show (i + 1) * 5 = i * 5 + 5 by omega]
    simp [this]
theorem flat_drop : ∀ (l : List Ent) (i : Nat), (flat l).drop (i * 5) = flat (l.drop i)
  | [], i => by simp [flat]
  | x :: r, 0 => by simp [flat]
  | x :: r, i + 1 => by
    have := flat_drop r i
    simp only [flat, List.flatMap_cons, List.drop_succ_cons, entC] at *
    rw [show (i + 1) * 5 = i * 5 + 5 by omega]
    simp [this]
theorem flat_get {l : List Ent} {i : Nat} {x : Ent} (h : l[i]? = some x) (j : Nat) (hj : j < 5) : (flat l)[i * 5 + j]? = (entC x)[j]? := by
  rw [← List.getElem?_drop, flat_drop]
  have hl : i < l.length := (List.getElem?_eq_some_iff.1 h).1
  have hx : l[i] = x := (List.getElem?_eq_some_iff.1 h).2
  rw [List.drop_eq_getElem_cons hl, hx]
  simp only [flat, List.flatMap_cons]
  rw [List.getElem?_append_left (by simpa using hj)]
theorem flat_one (l : List Ent) : ∀ u ∈ flat l, u.oneCell' = true := by
  intro u hu
  obtain ⟨x, _, hx⟩ := List.mem_flatMap.1 hu
  simp only [entC, List.mem_cons, List.not_mem_nil, or_false] at hx
  rcases hx with rfl | rfl | rfl | rfl | rfl <;> rfl

section
variable {w w' : World} {F G : List Nat} {a : Option Addr} {n c : Nat} {l : List Ent}
theorem Ents.len (h : Ents w F a n l) : n = l.length := by have := h.1; rw [flat_length] at this; omega
theorem Ents.fr (h : Ents w F a n l) (hf : Fr F w w') : Ents w' F a n l := Sli.fr h hf
theorem Ents.ext (h : Ents w F a n l) (hg : ∀ i ∈ G, i ∈ F ∨ w.heap.size ≤ i) : Ents w G a n l := Sli.ext h hg
theorem Ents.at (h : Ents w F a n l) {i : Nat} {x : Ent} (hx : l[i]? = some x) : ∃ b off, a = some ⟨b, off, none⟩ ∧
    w.cell? ⟨b, off + i * 5, none⟩ = some (.string x.name) ∧ w.cell? ⟨b, off + i * 5 + 1, none⟩ = some (.int .i64 x.node) ∧ w.cell? ⟨b, off + i * 5 + 2, none⟩ = some (.bool x.dir) ∧
    w.cell? ⟨b, off + i * 5 + 3, none⟩ = some (.int .i64 x.cookie) ∧ w.cell? ⟨b, off + i * 5 + 4, none⟩ = some (.int .i64 x.short) := by
  have hl : i < l.length := (List.getElem?_eq_some_iff.1 hx).1
  have hn := h.len
  obtain ⟨b, off, ha, _, hr⟩ := Sli.some_of h (by omega)
  have hfl := flat_length l
  refine ⟨b, off, ha, ?_, ?_, ?_, ?_, ?_⟩
  · have := hr.cell (i := i * 5 + 0) (by omega); rw [flat_get hx 0 (by omega)] at this; exact this
  · have := hr.cell (i := i * 5 + 1) (by omega); rw [flat_get hx 1 (by omega)] at this; simpa [Nat.add_assoc] using this
  · have := hr.cell (i := i * 5 + 2) (by omega); rw [flat_get hx 2 (by omega)] at this; simpa [Nat.add_assoc] using this
  · have := hr.cell (i := i * 5 + 3) (by omega); rw [flat_get hx 3 (by omega)] at this; simpa [Nat.add_assoc] using this
  · have := hr.cell (i := i * 5 + 4) (by omega); rw [flat_get hx 4 (by omega)] at this; simpa [Nat.add_assoc] using this
theorem Ents.none_iff (h : Ents w F none n l) : n = 0 ∧ l = [] := by
  have hn := h.len
  rcases h.2 with ⟨_, h0⟩ | ⟨b, off, h0, _⟩
  · exact ⟨h0, List.eq_nil_of_length_eq_zero (by omega)⟩
  · cases h0
end

theorem cell_alloc_old {w : World} {o : Obj} {x : Addr} (h : x.block < w.heap.size) : (w.alloc o).cell? x = w.cell? x := World.cell?_of_block (heap_alloc_old w o h)
theorem cell_alloc_new (w : World) (cs : List Value) (T : TypeId) (i : Nat) : (w.alloc (.cells cs.toArray T)).cell? ⟨w.heap.size, i, none⟩ = cs[i]? := (Blk.new w cs T).cell i
theorem lt_of_cell {w : World} {x : Addr} {v : Value} (h : w.cell? x = some v) : x.block < w.heap.size := by
  unfold World.cell? at h
  cases hb : w.heap[x.block]? with
  | none => simp [hb] at h
  | some o => exact lt_of_heap hb
theorem cell_fr {w w' : World} {F : List Nat} (hf : Fr F w w') {x : Addr} {v : Value} (h : w.cell? x = some v) (hx : x.block ∉ F) : w'.cell? x = some v :=
  (World.cell?_of_block (hf.2 _ (lt_of_cell h) hx)).trans h

theorem bytes_beq (x y : ByteArray) : (x.toList == y.toList) = decide (x = y) := by
  have h : ∀ z : ByteArray, z.toList = z.data.toList := toList_data'
  rw [h, h]
  by_cases e : x = y
  · subst e; simp
  · have : x.data.toList ≠ y.data.toList := fun e' => e (ByteArray.ext (Array.ext' e'))
    rw [decide_eq_false e]; exact beq_eq_false_iff_ne.2 this

/-- index's closure -/
theorem k_index1 (cap : Addr) (nm : ByteArray) (x : Ent) (w : World) (hc : w.cell? cap = some (.string nm)) :
    Calls prog 135 #[entV x, .pointer (some cap)] w fun e w' => e = .returned (.bool (decide (x.name = nm))) ∧ Fr [] w w' := by
  refine c135 _ _ _ _ _ _ _ _ ?_
  unfold N135
  rintro _ rfl
  refine ⟨x.name, cell_alloc_new w _ _ 0, nm, (cell_alloc_old (lt_of_cell hc)).trans hc, ?_, Fr.alloc ..⟩
  rw [bytes_beq]

theorem findIdx_step {p : Ent → Bool} {l : List Ent} {i : Nat} {x : Ent} (hx : l[i]? = some x) (hi : ∀ y ∈ l.take i, p y = false) : p x = false → ∀ y ∈ l.take (i + 1), p y = false := by
  intro hp y hy
  rw [List.take_add_one, hx] at hy
  simp only [Option.toList_some, List.mem_append, List.mem_singleton] at hy
  rcases hy with hy | rfl
  · exact hi y hy
  · exact hp

/-- slices.IndexFunc: a test that does what p does, and turns nothing of what is there -/
theorem k_IndexFunc (g : Nat) (cap : Array Value) (hg : entersB prog g = true) (p : Ent → Bool) (l : List Ent) (a : Option Addr) (n c : Nat) (w : World) (he : Ents w [] a n l) (hn : n < 2 ^ 62)
    (hf : ∀ x ∈ l, ∀ W, Fr [] w W → Calls prog g (#[entV x] ++ cap) W fun e W' => e = .returned (.bool (p x)) ∧ Fr [] W W') :
    Calls prog 134 #[.slice a n c, .func (.func g) #[] cap] w fun e w' => e = .returned (.int .i64 (fidx p l)) ∧ Fr [] w w' := by
  refine c134 _ _ _ _ _ _ _ ?_
  unfold N134
  have hlen := he.len
  refine lp134_0 a n c g cap ((n : Nat) : Int) (fun m i W => ∃ j : Nat, i = j ∧ j ≤ n ∧ m = n - j ∧ Fr [] w W ∧ ∀ y ∈ l.take j, p y = false) _ ?_ n 0 w ⟨0, rfl, by omega, by omega, Fr.refl .., by simp⟩ _
  rintro m _ ds W ⟨j, rfl, hj, rfl, hfr, hpre⟩
  unfold B134_0
  by_cases hlt : j < n
  · rw [decide_eq_true (by omega), cond_true]
    obtain ⟨x, hx⟩ : ∃ x, l[j]? = some x := ⟨l[j]'(by omega), List.getElem?_eq_getElem _⟩
    obtain ⟨b, off, ha, e0, e1, e2, e3, e4⟩ := (he.fr hfr).at hx
    subst ha
    simp only [optW, Addr.add_lit, Int.toNat_natCast, hg, cond_true]
    refine ⟨⟨by omega, by omega⟩, x.name, e0, x.node, e1, x.dir, e2, x.cookie, e3, x.short, e4, ?_⟩
    have ea : (([] : List Value) ++ ([entV x] ++ cap.toList)).toArray = #[entV x] ++ cap := by apply Array.ext'; simp
    rw [ea]
    refine Calls.mono (hf x (List.mem_of_getElem? hx) W hfr) ?_
    rintro _ W' ⟨rfl, hW⟩
    refine ⟨p x, rfl, ?_⟩
    have hfi : p x = true → l.findIdx? p = some j := fun hp => by
      rw [List.findIdx?_eq_some_iff_getElem]
      refine ⟨by omega, by rw [(List.getElem?_eq_some_iff.1 hx).2]; exact hp, fun k hk => ?_⟩
      have := hpre (l[k]'(by omega)) (by
        rw [List.mem_take_iff_getElem]
        exact ⟨k, by omega, rfl⟩)
      simp [this]
    cases hp : p x with
    | true =>
      rw [cond_true, fidx_some (hfi hp)]
      exact ⟨rfl, hfr.trans hW⟩
    | false =>
      rw [cond_false]
      refine ⟨_, rfl, n - (j + 1), by omega, j + 1, ?_, by omega, rfl, hfr.trans hW, findIdx_step hx hpre hp⟩
      rw [wr (by omega) (by omega)]; simp
  · rw [decide_eq_false (by omega), cond_false]
    have : l.findIdx? p = none := by
      rw [List.findIdx?_eq_none_iff]
      intro y hy
      refine hpre y ?_
      rwa [List.take_of_length_le (by omega)]
    rw [fidx_none this]
    exact ⟨rfl, hfr⟩

theorem findIdx_le {p : Ent → Bool} {l : List Ent} {i : Nat} (h : l.findIdx? p = some i) : i < l.length := by
  rw [List.findIdx?_eq_some_iff_getElem] at h; exact h.1

/-- tree.index -/
theorem k_index (nm : ByteArray) (l : List Ent) (a : Option Addr) (n c : Nat) (w : World) (he : Ents w [] a n l) (hn : n < 2 ^ 62) :
    Calls prog 78 #[.slice a n c, .string nm] w fun e w' => e = .returned (.int .i64 (fidx (fun x => decide (x.name = nm)) l)) ∧ Fr [] w w' := by
  refine c78 _ _ _ _ _ _ ?_
  unfold N78
  rintro w1 rfl
  refine Calls.mono (k_IndexFunc 135 _ (by kernel_rfl) (fun x => decide (x.name = nm)) l a n c _ (he.fr (Fr.alloc ..)) hn ?_) ?_
  · intro x _ W hW
    have := k_index1 ⟨w.heap.size, 0, none⟩ nm x W (cell_fr hW (cell_alloc_new w _ _ 0) (by simp))
    simpa using this
  · rintro _ w' ⟨rfl, hf⟩
    exact ⟨_, rfl, rfl, (Fr.alloc ..).trans hf⟩

/-- slices.Clone -/
theorem k_Clone (xs : List Value) (F : List Nat) (h1 : ∀ u ∈ xs, u.oneCell' = true) (a : Option Addr) (n c : Nat) (w : World) (he : Sli w F 5 a n xs) (hn : n ≤ 1099511627776) :
    Calls prog 59 #[.slice a n c] w fun e w' => ∃ a' c', e = .returned (.slice a' n c') ∧ Own w' w.heap.size 117 5 a' n c' xs ∧ Fr [] w w' := by
  refine c59 _ _ _ _ _ ?_
  unfold N59
  cases a with
  | none =>
    rcases he.2 with ⟨_, rfl⟩ | ⟨b, off, h0, _⟩
    · obtain rfl : xs = [] := List.eq_nil_of_length_eq_zero (by have := he.1; omega)
      exact ⟨none, 0, rfl, Own.nil .., Fr.refl ..⟩
    · cases h0
  | some ad =>
    rw [show (some ad : Option Addr).isNone = false from rfl, cond_false]
    rintro w1 rfl
    have ho : Own (w.alloc (.cells #[] 117)) w.heap.size 117 5 (some ⟨w.heap.size, 0, none⟩) 0 0 [] := Own.lit w [] 0 (by simp [maxLen]) (by simp) 117 (Nat.le_refl _)
    obtain ⟨b, d, w', hr, ho', hf, _, _⟩ := append_entries (c' := c) ho (by rw [size_alloc]; omega) 49 (he.fr (Fr.of_nil (Fr.alloc ..))) h1 (by omega)
    simp only [Nat.zero_add, List.nil_append] at hr ho'
    refine ⟨b, n, d, w', hr, b, d, rfl, ho', (Fr.alloc w _).trans' hf ?_⟩
    intro i hi
    simp [blks] at hi
    right; omega

/-- slices.Delete, of one's own -/
theorem k_Delete (l : List Ent) (lo : Nat) (a : Option Addr) (n c i j : Nat) (w : World) (he : Own w lo 117 5 a n c (flat l)) (hlo : lo ≤ w.heap.size) (hij : i ≤ j) (hj : j ≤ n) (hn : n ≤ 1099511627776) :
    Calls prog 162 #[.slice a n c, .int .i64 i, .int .i64 j] w fun e w' => e = .returned (.slice a (n - (j - i)) c) ∧ Own w' lo 117 5 a (n - (j - i)) c (flat (l.take i ++ l.drop j)) ∧ Fr (blks a) w w' := by
  refine c162 _ _ _ _ _ _ _ ?_
  unfold N162
  have hle := he.le
  refine ⟨⟨by omega, by omega, by omega, by omega⟩, ?_⟩
  by_cases e : i = j
  · subst e
    simp only [beq_self_eq_true, cond_true, List.take_append_drop, Nat.sub_self, Nat.sub_zero]
    exact ⟨trivial, he, Fr.refl ..⟩
  · rw [show (((i : Int)) == ((j : Nat) : Int)) = false from beq_eq_false_iff_ne.2 (by omega), cond_false]
    rintro w1 rfl
    refine ⟨fun _ => True, trivial, ⟨by omega, by omega, by omega, by omega⟩, ⟨by omega, by omega, by omega, by omega⟩, ?_⟩
    have hfl := flat_length l
    have hln := he.1
    have hed := he.fr (Fr.drew w) (F := []) (by simp)
    have h1 := hed.prefix (m := i) (by omega)
    have h2 := (hed.sli (F := []) (by simp)).rest (c := c) hj hle
    obtain ⟨b, d, w', hr, ho, hf, _, hroom⟩ := append_entries (c' := c - j) h1 hlo 49 h2 (by rw [flat_drop]; exact flat_one _) (by omega)
    obtain ⟨rfl, rfl⟩ := hroom (by omega)
    simp only [Int.toNat_natCast, Nat.sub_zero, Nat.zero_mul, Addr.add_zero', Option.map_id', ite_self]
    refine ⟨_, _, _, w', hr, trivial, ⟨by omega, by omega, by omega, by omega⟩, ?_⟩
    obtain ⟨w2, hr2, ho2, hf2⟩ := clear_entries (m := n - (i + (n - j))) (c' := d - (i + (n - j))) ho 0 (by omega)
    refine ⟨w2, hr2, ?_⟩
    have e1 : n - (j - i) = i + (n - j) := by omega
    rw [e1, flat_append, ← flat_take, ← flat_drop]
    exact ⟨rfl, ho2, ((Fr.of_nil (Fr.drew w)).trans hf).trans hf2⟩
end Go.Proofs.Tryz
