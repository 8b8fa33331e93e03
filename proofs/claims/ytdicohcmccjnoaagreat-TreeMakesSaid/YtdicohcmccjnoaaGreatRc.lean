/- Slices of records, each of so many cells. Conditions: none. -/
import Derived.Test.YtdicohcmccjnoaaGreatSl
namespace Go.Topo
open Go Go.Eng

/-- how a record lies in cells -/
structure Rec (α : Type) where
  k : Nat
  enc : α → List Value
  pos : 0 < k
  len : ∀ x, (enc x).length = k
  one : ∀ x, ∀ u ∈ enc x, u.oneCell' = true

section
variable {α : Type}
def Rec.flat (E : Rec α) (l : List α) : List Value := l.flatMap E.enc
theorem Rec.flat_length (E : Rec α) (l : List α) : (E.flat l).length = l.length * E.k := by
  induction l with
  | nil => simp [Rec.flat]
  | cons x r ih => simp only [Rec.flat, List.flatMap_cons, List.length_append, List.length_cons, E.len] at *; rw [ih, Nat.add_mul]; omega
theorem Rec.flat_append (E : Rec α) (l r : List α) : E.flat (l ++ r) = E.flat l ++ E.flat r := by simp [Rec.flat]
theorem Rec.flat_take (E : Rec α) : ∀ (l : List α) (i : Nat), (E.flat l).take (i * E.k) = E.flat (l.take i)
  | [], i => by simp [Rec.flat]
  | x :: r, 0 => by simp [Rec.flat]
  | x :: r, i + 1 => by
    have := E.flat_take r i
    simp only [Rec.flat, List.flatMap_cons, List.take_succ_cons] at *
    rw [List.take_append, E.len, List.take_of_length_le (by rw [E.len, Nat.add_mul]; omega), ← this]
    congr 2
    rw [Nat.add_mul]; omega
theorem Rec.flat_drop (E : Rec α) : ∀ (l : List α) (i : Nat), (E.flat l).drop (i * E.k) = E.flat (l.drop i)
  | [], i => by simp [Rec.flat]
  | x :: r, 0 => by simp [Rec.flat]
  | x :: r, i + 1 => by
    have := E.flat_drop r i
    simp only [Rec.flat, List.flatMap_cons, List.drop_succ_cons] at *
    rw [List.drop_append, E.len, List.drop_of_length_le (by rw [E.len, Nat.add_mul]; omega), ← this, List.nil_append]
    congr 1
    rw [Nat.add_mul]; omega
theorem Rec.flat_get (E : Rec α) {l : List α} {i : Nat} {x : α} (h : l[i]? = some x) (j : Nat) (hj : j < E.k) : (E.flat l)[i * E.k + j]? = (E.enc x)[j]? := by
  rw [← List.getElem?_drop, E.flat_drop]
  have hl : i < l.length := (List.getElem?_eq_some_iff.1 h).1
  have hx : l[i] = x := (List.getElem?_eq_some_iff.1 h).2
  rw [List.drop_eq_getElem_cons hl, hx]
  simp only [Rec.flat, List.flatMap_cons]
  rw [List.getElem?_append_left (by rw [E.len]; exact hj)]
theorem Rec.flat_one (E : Rec α) (l : List α) : ∀ u ∈ E.flat l, u.oneCell' = true := by
  intro u hu
  obtain ⟨x, _, hx⟩ := List.mem_flatMap.1 hu
  exact E.one x u hx

def Recs (E : Rec α) (w : World) (F : List Nat) (a : Option Addr) (n : Nat) (l : List α) : Prop := Sli w F E.k a n (E.flat l)
def OwnR (E : Rec α) (e : TypeId) (w : World) (lo : Nat) (a : Option Addr) (n c : Nat) (l : List α) : Prop := Own w lo e E.k a n c (E.flat l)

variable {E : Rec α} {e s : TypeId} {w w' : World} {F G : List Nat} {a a' : Option Addr} {n c m c' lo : Nat} {l l' : List α}
theorem Recs.len (h : Recs E w F a n l) : n = l.length := by
  have := h.1; rw [E.flat_length] at this
  exact (Nat.eq_of_mul_eq_mul_right E.pos this).symm
theorem Recs.fr (h : Recs E w F a n l) (hf : Fr F w w') : Recs E w' F a n l := Sli.fr h hf
theorem Recs.fr0 (h : Recs E w F a n l) (hf : Fr [] w w') : Recs E w' F a n l := Sli.fr h (Fr.of_nil hf)
theorem Recs.ext (h : Recs E w F a n l) (hg : ∀ i ∈ G, i ∈ F ∨ w.heap.size ≤ i) : Recs E w G a n l := Sli.ext h hg
theorem Recs.move {F' : List Nat} (h : Recs E w F a n l) (hf : Fr G w w') (hG : ∀ i ∈ G, i ∈ F) (hg : ∀ i ∈ F', i ∈ F ∨ w.heap.size ≤ i) : Recs E w' F' a n l := Sli.move h hf hG hg
theorem Recs.nil (w : World) (F : List Nat) : Recs E w F none 0 [] := Sli.nil ..
theorem Recs.cell (h : Recs E w F a n l) {i : Nat} {x : α} (hx : l[i]? = some x) : ∃ b off, a = some ⟨b, off, none⟩ ∧ ∀ j v, (E.enc x)[j]? = some v → w.cell? ⟨b, off + i * E.k + j, none⟩ = some v := by
  have hl : i < l.length := (List.getElem?_eq_some_iff.1 hx).1
  have hn := h.len
  obtain ⟨b, off, ha, _, hr⟩ := Sli.some_of h (by omega)
  refine ⟨b, off, ha, fun j v hv => ?_⟩
  have hj : j < E.k := by rw [← E.len x]; exact (List.getElem?_eq_some_iff.1 hv).1
  have hb : i * E.k + j < (E.flat l).length := by
    rw [E.flat_length]
    have : (i + 1) * E.k ≤ l.length * E.k := Nat.mul_le_mul_right _ hl
    rw [Nat.add_mul] at this
    omega
  have := hr.cell hb
  rw [E.flat_get hx j hj, hv] at this
  rw [Nat.add_assoc]; exact this
theorem Recs.nilIff (h : Recs E w F none n l) : n = 0 ∧ l = [] := by
  have hn := h.len
  rcases h.2 with ⟨_, h0⟩ | ⟨b, off, h0, _⟩
  · exact ⟨h0, List.eq_nil_of_length_eq_zero (by omega)⟩
  · cases h0
theorem Recs.lit {b : Nat} {x : α} (h : Blk w b (E.enc x)) (hb : b ∉ F) : Recs E w F (some ⟨b, 0, none⟩) 1 [x] :=
  ⟨by rw [E.flat_length]; simp, .inr ⟨b, 0, rfl, hb, by simpa [Rec.flat] using h.row⟩⟩
theorem Recs.of_blk {b : Nat} {l : List α} (h : Blk w b (E.flat l)) (hb : b ∉ F) : Recs E w F (some ⟨b, 0, none⟩) l.length l :=
  ⟨E.flat_length l, .inr ⟨b, 0, rfl, hb, h.row⟩⟩
theorem Recs.take (h : Recs E w F a n l) {m : Nat} (hm : m ≤ n) : Recs E w F a m (l.take m) := by
  have := Sli.take h hm
  rwa [E.flat_take] at this
theorem Recs.drop (h : Recs E w F a n l) {m : Nat} (hm : m ≤ n) : Recs E w F (a.map fun y => y.add (m * E.k)) (n - m) (l.drop m) := by
  have := Sli.drop h hm
  rwa [E.flat_drop] at this
theorem Recs.rest (h : Recs E w F a n l) {m : Nat} (hm : m ≤ n) (hc : n ≤ c) : Recs E w F (if c = m then a else a.map fun y => y.add (m * E.k)) (n - m) (l.drop m) := by
  have := Sli.rest h hm hc
  rwa [E.flat_drop] at this

theorem OwnR.nil (w : World) (lo : Nat) : OwnR E e w lo none 0 0 [] := Own.nil ..
theorem OwnR.len (h : OwnR E e w lo a n c l) : n = l.length := by
  have := h.1; rw [E.flat_length] at this
  exact (Nat.eq_of_mul_eq_mul_right E.pos this).symm
theorem OwnR.fr (h : OwnR E e w lo a n c l) (hf : Fr F w w') (hF : ∀ i ∈ blks a, i ∉ F) : OwnR E e w' lo a n c l := Own.fr h hf hF
theorem OwnR.fr0 (h : OwnR E e w lo a n c l) (hf : Fr [] w w') : OwnR E e w' lo a n c l := Own.fr h hf (by simp)
theorem OwnR.mono {lo' : Nat} (h : OwnR E e w lo a n c l) (hl : lo' ≤ lo) : OwnR E e w lo' a n c l := Own.mono h hl
theorem OwnR.recs (h : OwnR E e w lo a n c l) (hF : ∀ i ∈ F, i < lo) : Recs E w F a n l := Own.sli h hF
theorem OwnR.recs0 (h : OwnR E e w lo a n c l) : Recs E w [] a n l := Own.sli h (by simp)
theorem OwnR.recsN (h : OwnR E e w lo a n c l) (hF : ∀ i ∈ blks a, i ∉ F) : Recs E w F a n l := Own.sliN h hF
theorem OwnR.le (h : OwnR E e w lo a n c l) : n ≤ c := Own.le h
theorem OwnR.blk (h : OwnR E e w lo a n c l) : ∀ i ∈ blks a, lo ≤ i ∧ i < w.heap.size := Own.blk h
theorem OwnR.prefix (h : OwnR E e w lo a n c l) {m : Nat} (hm : m ≤ n) : OwnR E e w lo a m c (l.take m) := by
  have := Own.prefix h hm
  rwa [E.flat_take] at this
theorem OwnR.lit (w : World) {l : List α} (hm : l.length ≤ maxLen) (e : TypeId) (hlo : lo ≤ w.heap.size) :
    OwnR E e (w.alloc (.cells (E.flat l).toArray e)) lo (some ⟨w.heap.size, 0, none⟩) l.length l.length l := Own.lit w _ _ hm (E.flat_length l) e hlo

/-- what a program says of a slice's elements -/
structure ElemT (P : Program) (s e : TypeId) (k : Nat) : Prop where
  u : P.underlying s = some (.slice e)
  i : ∃ i z, P.info? e = some i ∧ i.size = k ∧ i.bytes ≤ 4000 ∧ i.zero = some z ∧ z.cells.size = k
theorem ElemT.of {P : Program} {k : Nat} (hu : P.underlying s = some (.slice e)) (hi : (P.info? e).map (fun i => (i.size, decide (i.bytes ≤ 4000), i.zero.map (fun z => z.cells.size))) = some (k, true, some k)) : ElemT P s e k := by
  refine ⟨hu, ?_⟩
  cases h : P.info? e with
  | none => rw [h] at hi; cases hi
  | some i =>
    rw [h] at hi
    simp only [Option.map_some, Option.some.injEq, Prod.mk.injEq, decide_eq_true_eq, Option.map_eq_some_iff] at hi
    obtain ⟨h1, h2, z, h3, h4⟩ := hi
    exact ⟨i, z, rfl, h1, h2, h3, h4⟩

theorem OwnR.append {P : Program} (T : ElemT P s e E.k) (h : OwnR E e w lo a n c l) (hlo : lo ≤ w.heap.size) (ty : TypeId) (hx : Recs E w F a' m l') (hb : n + m ≤ 34359738368) :
    ∃ b d w', (Builtin.append_ #[s, s] ty #[.slice a n c, .slice a' m c']).run P w = .ok (.slice b (n + m) d) w' ∧ OwnR E e w' lo b (n + m) d (l ++ l') ∧ Fr (blks a) w w' ∧
      (∀ i ∈ blks b, i ∈ blks a ∨ w.heap.size ≤ i) ∧ (n + m ≤ c → b = a ∧ d = c) := by
  obtain ⟨i, z, hi, hs, hby, hz, hzs⟩ := T.i
  have := Own.append (c' := c') i z T.u hi hz hs hzs E.pos h hlo ty hx (E.flat_one l') (by
    have h1 : (n + m) * (i.bytes + 1) ≤ 34359738368 * 4001 := Nat.mul_le_mul hb (by omega)
    omega)
  rw [← E.flat_append] at this
  exact this
/-- one record more, out of a fresh block -/
theorem OwnR.push {P : Program} (T : ElemT P s e E.k) (h : OwnR E e w lo a n c l) (hlo : lo ≤ w.heap.size) (x : α) (ty t2 : TypeId) (hb : n ≤ 34359738367) :
    ∃ b d w', (Builtin.append_ #[s, s] ty #[.slice a n c, .slice (some ⟨w.heap.size, 0, none⟩) 1 1]).run P (w.alloc (.cells (E.enc x).toArray t2)) = .ok (.slice b (n + 1) d) w' ∧ OwnR E e w' lo b (n + 1) d (l ++ [x]) ∧ Fr (blks a) w w' ∧
      (∀ i ∈ blks b, i ∈ blks a ∨ w.heap.size ≤ i) := by
  have f1 := Fr.alloc w (.cells (E.enc x).toArray t2)
  obtain ⟨b, d, w', hr, ho, hf, hbl, _⟩ := OwnR.append (c' := 1) T (h.fr0 f1) (by rw [size_alloc]; omega) ty (Recs.lit (F := []) (Blk.new w (E.enc x) t2) (by simp)) (by omega)
  refine ⟨b, d, w', hr, ho, (Fr.of_nil f1).trans hf, fun i hi => (hbl i hi).imp id (fun hle => by rw [size_alloc] at hle; omega)⟩
end
end Go.Topo
