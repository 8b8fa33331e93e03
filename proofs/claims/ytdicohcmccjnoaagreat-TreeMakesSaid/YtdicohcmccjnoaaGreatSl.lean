/- Slices in plain words: such as are one's own, such as are only read; append; entries. Conditions: none. -/
import Derived.Test.YtdicohcmccjnoaaGreatMem
import Derived.Maps.AppendAt
import Derived.Deep.AppendSrc
import Derived.Laws.OwnMore
import Derived.Room.AppendUpon
namespace Go.Topo
open Go Go.Eng

theorem wr {x : Int} (h1 : -9223372036854775808 ≤ x) (h2 : x ≤ 9223372036854775807) : IntKind.wrap .i64 x = x := by
  rw [show IntKind.wrap .i64 x = IntKind.i64.wrap x from rfl, IntKind.wrap_i64]; omega

theorem Addr.add_zero' (x : Addr) : x.add 0 = x := by unfold Addr.add; split <;> simp_all
/-- what a slice's cells lie in -/
def blks : Option Addr → List Nat
  | none => []
  | some a => [a.block]

/-- a post that is not looked into on the way -/
theorem withR {X : (Ending → World → Prop) → Prop} {Q : Ending → World → Prop} (h : ∀ R : Ending → World → Prop, (∀ e w', Q e w' → R e w') → X R) : X Q := h Q (fun _ _ h => h)

theorem Fr.setCell' (w : World) (b o i : Nat) (v : Value) : Fr (blks (some ⟨b, o, none⟩)) w (w.setCell ⟨b, i, none⟩ v) := Fr.setCell w ⟨b, i, none⟩ v
theorem Fr.of_grown {w w' : World} {r : Option Nat} {F : List Nat} (h : w.grownBy w' r) (hF : ∀ i, r = some i → i ∈ F) : Fr F w w' :=
  ⟨h.size, fun b hb hn => h.block b hb (fun e => hn (hF b e.symm)), h.os, h.tape, h.output⟩

/-! ### slices that are only read -/
def Sli (w : World) (F : List Nat) (k : Nat) (a : Option Addr) (n : Nat) (xs : List Value) : Prop :=
  xs.length = n * k ∧ ((a = none ∧ n = 0) ∨ ∃ b off, a = some ⟨b, off, none⟩ ∧ b ∉ F ∧ Row w b off xs)

section
variable {w w' : World} {F G : List Nat} {k n c : Nat} {a : Option Addr} {xs ys : List Value} {lo : Nat} {e : TypeId}

theorem Sli.fr (h : Sli w F k a n xs) (hf : Fr F w w') : Sli w' F k a n xs := by
  refine ⟨h.1, ?_⟩
  rcases h.2 with h | ⟨b, off, ha, hb, hr⟩
  · exact .inl h
  · exact .inr ⟨b, off, ha, hb, hr.fr hf hb⟩
theorem Sli.ext (h : Sli w F k a n xs) (hg : ∀ i ∈ G, i ∈ F ∨ w.heap.size ≤ i) : Sli w G k a n xs := by
  refine ⟨h.1, ?_⟩
  rcases h.2 with h | ⟨b, off, ha, hb, hr⟩
  · exact .inl h
  · exact .inr ⟨b, off, ha, fun hm => (hg b hm).elim hb (fun hle => by have := hr.lt; omega), hr⟩
theorem Sli.move {F' : List Nat} (h : Sli w F k a n xs) (hf : Fr G w w') (hG : ∀ i ∈ G, i ∈ F) (hg : ∀ i ∈ F', i ∈ F ∨ w.heap.size ≤ i) : Sli w' F' k a n xs := by
  refine ⟨h.1, ?_⟩
  rcases h.2 with h | ⟨b, off, ha, hb, hr⟩
  · exact .inl h
  · exact .inr ⟨b, off, ha, fun hm => (hg b hm).elim hb (fun hle => by have := hr.lt; omega), hr.fr hf (fun hm => hb (hG b hm))⟩
theorem Sli.nil (w : World) (F : List Nat) (k : Nat) : Sli w F k none 0 [] := ⟨by simp, .inl ⟨rfl, rfl⟩⟩
theorem Sli.some_of (h : Sli w F k a n xs) (hn : 0 < n) : ∃ b off, a = some ⟨b, off, none⟩ ∧ b ∉ F ∧ Row w b off xs := by
  rcases h.2 with h | h
  · omega
  · exact h
theorem Sli.cellsAt {a' : Addr} (h : Sli w F k (some a') n xs) : ∀ j u, xs[j]? = some u → w.cell? (a'.add j) = some u := by
  rcases h.2 with ⟨h, _⟩ | ⟨b, off, ha, hb, hr⟩
  · cases h
  · cases ha
    intro j u hu
    rw [Addr.add_lit]
    rw [hr.cell (List.getElem?_eq_some_iff.1 hu).1]
    exact hu
theorem Sli.spot {a' : Addr} (h : Sli w F k (some a') n xs) : ∃ b off, a' = ⟨b, off, none⟩ := by
  rcases h.2 with ⟨h, _⟩ | ⟨b, off, ha, hb, hr⟩
  · cases h
  · cases ha; exact ⟨b, off, rfl⟩

/-! ### slices of one's own -/
def Own (w : World) (lo : Nat) (e : TypeId) (k : Nat) (a : Option Addr) (n c : Nat) (xs : List Value) : Prop := w.ownsRow lo e k (.slice a n c) n xs

theorem Own.nil (w : World) (lo : Nat) (e : TypeId) (k : Nat) : Own w lo e k none 0 0 [] := World.ownsRow_nil ..
theorem Own.data (h : Own w lo e k a n c xs) : xs.length = n * k ∧ ((a = none ∧ n = 0 ∧ c = 0) ∨
    ∃ b cur, a = some ⟨b, 0, none⟩ ∧ lo ≤ b ∧ w.heap[b]? = some (.cells cur e (0, 0)) ∧ n ≤ c ∧ c ≤ maxLen ∧ cur.size = c * k ∧ cur.toList.take (n * k) = xs) := by
  refine ⟨h.1, ?_⟩
  rcases h.2 with ⟨hv, hn⟩ | ⟨g, cap, cur, hv, r⟩
  · cases hv; exact .inl ⟨rfl, rfl, rfl⟩
  · cases hv; exact .inr ⟨g, cur, rfl, r⟩
theorem Own.mk_some {b : Nat} {cur : Array Value} (hl : xs.length = n * k) (hb : lo ≤ b) (hh : w.heap[b]? = some (.cells cur e (0, 0))) (hn : n ≤ c) (hm : c ≤ maxLen) (hs : cur.size = c * k)
    (ht : cur.toList.take (n * k) = xs) : Own w lo e k (some ⟨b, 0, none⟩) n c xs := ⟨hl, .inr ⟨b, c, cur, rfl, hb, hh, hn, hm, hs, ht⟩⟩
theorem Own.le (h : Own w lo e k a n c xs) : n ≤ c := by
  rcases h.data.2 with ⟨_, h1, h2⟩ | ⟨b, cur, _, _, _, h, _⟩ <;> omega
theorem Own.capMax (h : Own w lo e k a n c xs) : c ≤ maxLen := by
  rcases h.data.2 with ⟨_, h1, h2⟩ | ⟨b, cur, _, _, _, _, h, _⟩
  · subst h2; simp [maxLen]
  · exact h
theorem Own.blk (h : Own w lo e k a n c xs) : ∀ i ∈ blks a, lo ≤ i ∧ i < w.heap.size := by
  intro i hi
  rcases h.data.2 with ⟨rfl, _⟩ | ⟨b, cur, rfl, hb, hh, _⟩
  · simp [blks] at hi
  · simp [blks] at hi; subst hi; exact ⟨hb, lt_of_heap hh⟩
theorem Own.fr (h : Own w lo e k a n c xs) (hf : Fr F w w') (hF : ∀ i ∈ blks a, i ∉ F) : Own w' lo e k a n c xs := by
  rcases h.data with ⟨hl, ⟨rfl, rfl, rfl⟩ | ⟨b, cur, rfl, hb, hh, hn, hm, hs, ht⟩⟩
  · cases xs with
    | nil => exact Own.nil ..
    | cons x r => simp at hl
  · exact Own.mk_some hl hb ((hf.2 b (lt_of_heap hh) (hF b (by simp [blks]))).trans hh) hn hm hs ht
theorem Own.mono {lo' : Nat} (h : Own w lo e k a n c xs) (hl : lo' ≤ lo) : Own w lo' e k a n c xs := by
  rcases h.data with ⟨hl', ⟨rfl, rfl, rfl⟩ | ⟨b, cur, rfl, hb, hh, hn, hm, hs, ht⟩⟩
  · cases xs with
    | nil => exact Own.nil ..
    | cons x r => simp at hl'
  · exact Own.mk_some hl' (by omega) hh hn hm hs ht
theorem Own.sli (h : Own w lo e k a n c xs) (hF : ∀ i ∈ F, i < lo) : Sli w F k a n xs := by
  refine ⟨h.1, ?_⟩
  rcases h.data with ⟨hl, ⟨rfl, rfl, rfl⟩ | ⟨b, cur, rfl, hb, hh, hn, hm, hs, ht⟩⟩
  · exact .inl ⟨rfl, rfl⟩
  · refine .inr ⟨b, 0, rfl, fun hm => by have := hF b hm; omega, cur, e, (0, 0), hh, ?_⟩
    intro i hi
    rw [← ht, List.getElem?_take, if_pos (by omega)]
    simp
theorem Own.sliN (h : Own w lo e k a n c xs) (hF : ∀ i ∈ blks a, i ∉ F) : Sli w F k a n xs := by
  refine ⟨h.1, ?_⟩
  rcases h.data with ⟨hl, ⟨rfl, rfl, rfl⟩ | ⟨b, cur, rfl, hb, hh, hn, hm, hs, ht⟩⟩
  · exact .inl ⟨rfl, rfl⟩
  · refine .inr ⟨b, 0, rfl, hF b (by simp [blks]), cur, e, (0, 0), hh, ?_⟩
    intro i hi
    rw [← ht, List.getElem?_take, if_pos (by omega)]
    simp
theorem Own.lit (w : World) (cs : List Value) (n : Nat) (hm : n ≤ maxLen) (hs : cs.length = n * k) (e : TypeId) (hlo : lo ≤ w.heap.size) :
    Own (w.alloc (.cells cs.toArray e)) lo e k (some ⟨w.heap.size, 0, none⟩) n n cs :=
  Own.mk_some hs hlo (heap_alloc_new w _) (Nat.le_refl _) hm (by simpa using hs) (by simp [← hs])

/-- append of a slice to one's own -/
theorem Own.append {P : Program} {t : TypeId} (i : TypeInfo) (z : Value) (ht : P.underlying t = some (.slice e)) (hi : P.info? e = some i) (hz : i.zero = some z)
    (hsize : i.size = k) (hzs : z.cells.size = k) (hk : 0 < k) (h : Own w lo e k a n c xs) (hlo : lo ≤ w.heap.size) (ty : TypeId) {a' : Option Addr} {m c' : Nat} (hx : Sli w F k a' m ys) (h1 : ∀ u ∈ ys, u.oneCell' = true)
    (hb : (n + m) * (i.bytes + 1) ≤ 140737488355328) :
    ∃ b d w', (Builtin.append_ #[t, t] ty #[.slice a n c, .slice a' m c']).run P w = .ok (.slice b (n + m) d) w' ∧ Own w' lo e k b (n + m) d (xs ++ ys) ∧ Fr (blks a) w w' ∧ (∀ i ∈ blks b, i ∈ blks a ∨ w.heap.size ≤ i) ∧ (n + m ≤ c → b = a ∧ d = c) := by
  have hb' : (n + m) * i.bytes ≤ 140737488355328 := by
    have : (n + m) * i.bytes ≤ (n + m) * (i.bytes + 1) := Nat.mul_le_mul_left _ (by omega)
    omega
  have hb'' : n + m ≤ 140737488355328 := by
    have : n + m ≤ (n + m) * (i.bytes + 1) := Nat.le_mul_of_pos_right _ (by omega)
    omega
  cases a' with
  | none =>
    rcases hx.2 with ⟨_, hm⟩ | ⟨b, off, ha, _⟩
    · subst hm
      have hys : ys = [] := List.eq_nil_of_length_eq_zero (by rw [hx.1]; simp)
      subst hys
      have hsrc : Src P i.size t (.slice none 0 c') 0 [] w := by rw [hsize]; exact Src.ofNil w ht c'
      refine ⟨a, c, w, ?_, by simpa using h, Fr.refl .., fun i hi => .inl hi, fun _ => ⟨rfl, rfl⟩⟩
      rcases h.data with ⟨hl, ⟨rfl, rfl, rfl⟩ | ⟨b, cur, rfl, hb, hh, hn, hm, hs, ht'⟩⟩
      · simp [Builtin.append_, run_underlying ht, sizeOf, typeInfo, hi, hsrc.len, hsrc.cells]
      · have := run_append_room_src (P := P) w t t ty e i ht hi b 0 n c (.slice none 0 c') 0 [] hsrc (by omega) (by simp) (by simp)
        simpa [World.setCells] using this
    · cases ha
  | some a' =>
    obtain ⟨v', w', hr, ho, hg, _, hown⟩ := run_append_own_at (P := P) w lo t ty e i z k i.bytes ht hi hz hsize rfl hzs hk (.slice a n c) n xs h a' m c' ys hx.1 hx.cellsAt h1 (by simp [maxLen]; omega) hb' hlo
    have hv : ∃ b d, v' = .slice b (n + m) d := by
      rcases ho.2 with ⟨hv, hn⟩ | ⟨g, cap, cur, hv, _⟩
      · exact ⟨none, 0, by rw [hv, hn]⟩
      · exact ⟨_, _, hv⟩
    obtain ⟨b, d, rfl⟩ := hv
    refine ⟨b, d, w', hr, ho, Fr.of_grown hg ?_, ?_, ?_⟩
    · intro j hj
      cases a with
      | none => simp [Value.ownBlock] at hj
      | some a => simpa [Value.ownBlock, blks, eq_comm] using hj
    · intro j hj
      cases b with
      | none => simp [blks] at hj
      | some b =>
        simp only [blks, List.mem_singleton] at hj
        subst hj
        cases a with
        | none =>
          simp only [Value.ownBlock] at hown
          rcases hown with h | h
          · simp at h
          · simp at h; right; omega
        | some a =>
          simp only [Value.ownBlock, Option.some.injEq] at hown
          rcases hown with h | h
          · left; simp [blks, h]
          · right; omega
    · intro hroom
      have hsrc : Src P i.size t (.slice (some a') m c') m ys w := by rw [hsize]; exact Src.ofSlice w ht a' m c' ys hx.1 hx.cellsAt h1
      have := run_append_cap_room (P := P) w t t ty e i ht hi a n c (.slice (some a') m c') m ys hsrc hroom hr
      cases this
      exact ⟨rfl, rfl⟩

/-- a beginning of one's own -/
theorem Own.prefix (h : Own w lo e k a n c xs) {m : Nat} (hm : m ≤ n) : Own w lo e k a m c (xs.take (m * k)) := by
  rcases h.data with ⟨hl, ⟨rfl, rfl, rfl⟩ | ⟨b, cur, rfl, hb, hh, hn, hmx, hs, ht⟩⟩
  · obtain rfl : m = 0 := by omega
    simp only [Nat.zero_mul, List.take_zero]
    exact Own.nil ..
  · have hmk : m * k ≤ n * k := Nat.mul_le_mul_right k hm
    refine Own.mk_some (by rw [List.length_take, hl]; omega) hb hh (by omega) hmx hs ?_
    rw [← ht, List.take_take, Nat.min_eq_left hmk]

/-- a rest of one's own, to be read -/
theorem Sli.drop (h : Sli w F k a n xs) {m : Nat} (hm : m ≤ n) : Sli w F k (a.map fun y => y.add (m * k)) (n - m) (xs.drop (m * k)) := by
  refine ⟨by rw [List.length_drop, h.1, Nat.sub_mul], ?_⟩
  rcases h.2 with ⟨rfl, rfl⟩ | ⟨b, off, rfl, hb, hr⟩
  · exact .inl ⟨rfl, by omega⟩
  · exact .inr ⟨b, off + m * k, by simp [Addr.add_lit], hb, hr.drop _⟩
theorem Sli.take (h : Sli w F k a n xs) {m : Nat} (hm : m ≤ n) : Sli w F k a m (xs.take (m * k)) := by
  have hmk : m * k ≤ n * k := Nat.mul_le_mul_right k hm
  refine ⟨by rw [List.length_take, h.1]; omega, ?_⟩
  rcases h.2 with ⟨rfl, rfl⟩ | ⟨b, off, rfl, hb, hr⟩
  · exact .inl ⟨rfl, by omega⟩
  · exact .inr ⟨b, off, rfl, hb, hr.take _⟩

/-- a cell of one's own is set -/
theorem Own.setCell {b : Nat} (h : Own w lo e k (some ⟨b, 0, none⟩) n c xs) {j : Nat} (v : Value) : Own (w.setCell ⟨b, j, none⟩ v) lo e k (some ⟨b, 0, none⟩) n c (xs.set j v) := by
  rcases h.data with ⟨hl, ⟨h0, _⟩ | ⟨b', cur, hbe, hb, hh, hn, hm, hs, ht⟩⟩
  · cases h0
  · cases hbe
    refine Own.mk_some (cur := cur.setIfInBounds j v) (by simpa using hl) hb ?_ hn hm (by simpa using hs) ?_
    · simp only [World.setCell, Array.getElem?_modify, hh, Option.map_some]
      simp
    · rw [← ht, Array.toList_setIfInBounds, List.take_set]

theorem Sli.rest (h : Sli w F k a n xs) {m : Nat} (hm : m ≤ n) (hc : n ≤ c) : Sli w F k (if c = m then a else a.map fun y => y.add (m * k)) (n - m) (xs.drop (m * k)) := by
  split
  · obtain rfl : n = m := by omega
    have := h.take (m := 0) (by omega)
    simp only [Nat.zero_mul, List.take_zero] at this
    rw [Nat.sub_self, List.drop_of_length_le (by rw [h.1]; omega)]
    exact this
  · exact h.drop hm

theorem zeroCells_length (z : Array Value) (t : Nat) : (Builtin.zeroCells z t).size = t * z.size := by simp [Builtin.zeroCells]

/-- what lies behind one's own within its room is cleared -/
theorem Own.clear {P : Program} {t : TypeId} (i : TypeInfo) (z : Value) (ht : P.underlying t = some (.slice e)) (hi : P.info? e = some i) (hz : i.zero = some z)
    (hzs : z.cells.size = k) (hone : ∀ u ∈ z.cells.toList, u.oneCell' = true) (hk : 0 < k) (h : Own w lo e k a n c xs) (ty : TypeId) {m c' : Nat} (hm : n + m ≤ c) :
    ∃ w', (Builtin.clear_ #[t] ty #[.slice (if c = n then a else a.map fun y => y.add (n * k)) m c']).run P w = .ok (.tuple #[]) w' ∧ Own w' lo e k a n c xs ∧ Fr (blks a) w w' := by
  rcases h.data with ⟨hl, ⟨rfl, rfl, rfl⟩ | ⟨b, cur, rfl, hb, hh, hn, hmx, hs, ht'⟩⟩
  · obtain rfl : m = 0 := by omega
    refine ⟨w, ?_, h, Fr.refl ..⟩
    simp [Builtin.clear_, run_underlying ht]
  · cases m with
    | zero =>
      refine ⟨w, ?_, h, Fr.refl ..⟩
      split <;> simp [Builtin.clear_, run_underlying ht]
    | succ m =>
      rw [if_neg (by omega)]
      have hzl := zeroCells_length z.cells (m + 1)
      have hle : n * k + (m + 1) * k ≤ c * k := by rw [← Nat.add_mul]; exact Nat.mul_le_mul_right k hm
      have hst := run_storeCells_at (P := P) b (n * k) e (Builtin.zeroCells z.cells (m + 1)).toList 0 cur w hh (by
        rw [Array.length_toList, hzl, hs, hzs]; omega) (by
        intro v hv
        simp only [Builtin.zeroCells, Array.toList_map, List.mem_map] at hv
        obtain ⟨j, _, rfl⟩ := hv
        have hj : j % z.cells.size < z.cells.size := Nat.mod_lt _ (by omega)
        rw [getElem!_pos z.cells _ hj]
        exact hone _ (by simp))
      generalize hnw : (cur.toList.take (n * k + 0) ++ (Builtin.zeroCells z.cells (m + 1)).toList ++ cur.toList.drop (n * k + 0 + (Builtin.zeroCells z.cells (m + 1)).toList.length)).toArray = nw at hst
      refine ⟨w.setRow b nw, ?_, ?_, ?_⟩
      rotate_left
      · subst hnw
        refine Own.mk_some hl hb (setRow_heap w b cur _ e _ hh) hn hmx ?_ ?_
        · rw [List.size_toArray, List.length_append, List.length_append, List.length_take, List.length_drop, Array.length_toList, Array.length_toList, hzl, hzs, hs]; omega
        · simp only [Nat.add_zero]
          rw [← ht', List.append_assoc, List.take_append_of_le_length (by rw [List.length_take, Array.length_toList, hs]; omega), List.take_take, Nat.min_self]
      · exact ⟨by simp, fun j hj hne => setRow_other w b j _ (by simpa [blks] using hne), rfl, rfl, rfl⟩
      · simp [Builtin.clear_, run_underlying ht, zeroValue, typeInfo, hi, hz, Addr.add_lit, hst]
end
end Go.Topo
