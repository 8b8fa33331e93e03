/- The rounds of a map keyed by int: whichever key comes next. Conditions: none. -/
import Derived.Test.YtdicohcmccjnoaaGreatMem
import Derived.Maps.RangeRun
namespace Go.Topo
open Go Go.Eng
open Go.ChangeMaps (setBlock)

/-- an iterator over a map; done: the keys that have come -/
def MIter (w : World) (it b : Nat) (m : List (Int × Value)) (done : List Int) : Prop :=
  ∃ es clock seen, w.heap[b]? = some (.map es clock) ∧ w.heap[it]? = some (.mapIter (some b) clock seen clock) ∧
    es.toList.map (fun e => (e.key, e.val)) = m.map (fun p => (Value.int .i64 p.1, p.2)) ∧ (keys m).Nodup ∧ (es.toList.map (·.born)).Nodup ∧ (∀ e ∈ es.toList, e.born < clock) ∧
    ∀ e ∈ es.toList, ∀ k, e.key = .int .i64 k → (e.born ∈ seen ↔ k ∈ done)

section
variable {P : Program} {w w' : World} {it b : Nat} {m : List (Int × Value)} {done : List Int} {F : List Nat}

theorem MIter.fr (h : MIter w it b m done) (hf : Fr F w w') (h1 : it ∉ F) (h2 : b ∉ F) : MIter w' it b m done := by
  obtain ⟨es, clock, seen, hb, hi, rest⟩ := h
  exact ⟨es, clock, seen, (hf.2 b (lt_of_heap hb) h2).trans hb, (hf.2 it (lt_of_heap hi) h1).trans hi, rest⟩
theorem MIter.lt (h : MIter w it b m done) : it < w.heap.size := by
  obtain ⟨es, clock, seen, hb, hi, rest⟩ := h
  exact lt_of_heap hi

theorem IMap.range {T K E : TypeId} (hT : P.underlying T = some (.map K E)) (h : IMap w b m) :
    ∃ w', (Instr.range T (.map (some b))).run P w = .ok (.pointer (some ⟨w.heap.size, 0, none⟩)) w' ∧ MIter w' w.heap.size b m [] ∧ Fr [] w w' ∧ w'.heap.size = w.heap.size + 1 := by
  have hlt := h.lt
  obtain ⟨es, clock, hb, hm, hn, hbn, hbc⟩ := h
  refine ⟨_, run_range_map w T K E b es clock hT hb, ⟨es, clock, #[], (heap_alloc_old w _ hlt).trans hb, heap_alloc_new w _, hm, hn, hbn, hbc, ?_⟩, Fr.alloc w _, size_alloc w _⟩
  intro e _ k _
  simp

theorem key_mem {es : List MapEntry} (hm : es.map (fun e => (e.key, e.val)) = m.map (fun p => (Value.int .i64 p.1, p.2))) {e : MapEntry} (he : e ∈ es) : ∃ k, e.key = .int .i64 k ∧ (k, e.val) ∈ m := by
  have : (e.key, e.val) ∈ es.map (fun e => (e.key, e.val)) := List.mem_map_of_mem he
  rw [hm] at this
  obtain ⟨p, hp, hpe⟩ := List.mem_map.1 this
  simp only [Prod.mk.injEq] at hpe
  exact ⟨p.1, hpe.1.symm, by rw [← hpe.2]; exact hp⟩
theorem mem_key {es : List MapEntry} (hm : es.map (fun e => (e.key, e.val)) = m.map (fun p => (Value.int .i64 p.1, p.2))) {k : Int} (hk : k ∈ keys m) : ∃ e ∈ es, e.key = .int .i64 k := by
  obtain ⟨p, hp, rfl⟩ := List.mem_map.1 hk
  have : (Value.int .i64 p.1, p.2) ∈ m.map (fun p => (Value.int .i64 p.1, p.2)) := List.mem_map_of_mem (f := fun p : Int × Value => (Value.int .i64 p.1, p.2)) hp
  rw [← hm] at this
  obtain ⟨e, he, hpe⟩ := List.mem_map.1 this
  simp only [Prod.mk.injEq] at hpe
  exact ⟨e, he, hpe.1⟩
theorem alook_of_mem {β : Type} {m : List (Int × β)} (hn : (keys m).Nodup) {k : Int} {v : β} (h : (k, v) ∈ m) : alook m k = some v := by
  induction m with
  | nil => cases h
  | cons p r ih =>
    simp only [keys, List.map_cons, List.nodup_cons] at hn
    rw [alook_cons]
    rcases List.mem_cons.1 h with e | e
    · subst e; simp
    · have : p.1 ≠ k := fun e' => hn.1 (e' ▸ List.mem_map_of_mem (f := Prod.fst) e)
      rw [if_neg this]
      exact ih hn.2 e

theorem nodup_inj {α β : Type} {f : α → β} : ∀ {l : List α}, (l.map f).Nodup → ∀ {x y : α}, x ∈ l → y ∈ l → f x = f y → x = y
  | [], _, _, _, hx, _, _ => by cases hx
  | a :: r, h, x, y, hx, hy, e => by
    rw [List.map_cons, List.nodup_cons] at h
    rcases List.mem_cons.1 hx with h1 | h1 <;> rcases List.mem_cons.1 hy with h2 | h2
    · rw [h1, h2]
    · rw [h1] at e; exact absurd (e ▸ List.mem_map_of_mem (f := f) h2) h.1
    · rw [h2] at e; exact absurd (e ▸ List.mem_map_of_mem (f := f) h1) h.1
    · exact nodup_inj h.2 h1 h2 e

/-- the step: nothing is left; or some key that has not come -/
theorem MIter.next (h : MIter w it b m done) (ty : TypeId) :
    ((∀ k ∈ keys m, k ∈ done) ∧ (Instr.next (.pointer (some ⟨it, 0, none⟩)) false ty).run P w = .ok (.tuple #[.bool false]) w) ∨
    ∃ k v w', alook m k = some v ∧ k ∉ done ∧ (Instr.next (.pointer (some ⟨it, 0, none⟩)) false ty).run P w = .ok (.tuple #[.bool true, .int .i64 k, v]) w' ∧ MIter w' it b m (k :: done) ∧ Fr [it] w w' ∧
      (Instr.entry (.pointer (some ⟨it, 0, none⟩))).run P w' = .ok (.tuple #[.int .i64 k, v]) w' := by
  obtain ⟨es, clock, seen, hb, hi, hm, hn, hbn, hbc, hd⟩ := h
  rcases run_next_at (P := P) w ty it b clock clock seen es clock hi hb hbc (Nat.le_refl _) with ⟨h0, hrun⟩ | ⟨e, he, w1, hal, hrun⟩
  · left
    refine ⟨fun k hk => ?_, hrun⟩
    obtain ⟨e, he, hek⟩ := mem_key hm hk
    refine (hd e he k hek).1 ?_
    have hL : leftOf es seen = #[] := Array.eq_empty_of_size_eq_zero h0
    unfold leftOf at hL
    rw [Array.filter_eq_empty_iff] at hL
    have := hL e (by simpa using he)
    simpa using this
  · right
    have hem : e ∈ es.toList ∧ e.born ∉ seen := by
      unfold leftOf at he
      simp at he
      exact ⟨by simpa using he.1, by simpa using he.2⟩
    obtain ⟨k, hek, hkm⟩ := key_mem hm hem.1
    have hi1 : w1.heap[it]? = some (.mapIter (some b) clock seen clock) := by rcases hal with rfl | rfl <;> exact hi
    have hb1 : w1.heap[b]? = some (.map es clock) := by rcases hal with rfl | rfl <;> exact hb
    have hne : b ≠ it := by rintro rfl; rw [hb] at hi; cases hi
    have hlt := lt_of_heap hi1
    have hf1 : Fr [it] w w1 := by rcases hal with rfl | rfl; exact Fr.refl ..; exact Fr.of_nil (Fr.drew w)
    have hf2 : Fr [it] w1 (setBlock w1 it (.mapIter (some b) clock (seen.push e.born) clock)) := fr_setObj w1 it _
    have hi2 : (setBlock w1 it (.mapIter (some b) clock (seen.push e.born) clock)).heap[it]? = some (.mapIter (some b) clock (seen.push e.born) clock) := by simp [setBlock, hlt]
    have hb2 : (setBlock w1 it (.mapIter (some b) clock (seen.push e.born) clock)).heap[b]? = some (.map es clock) := (hf2.2 b (lt_of_heap hb1) (by simpa using hne)).trans hb1
    rw [hek] at hrun
    refine ⟨k, e.val, _, alook_of_mem hn hkm, fun hk => hem.2 ((hd e hem.1 k hek).2 hk), hrun, ⟨es, clock, seen.push e.born, hb2, hi2, hm, hn, hbn, hbc, ?_⟩, hf1.trans hf2, ?_⟩
    · intro x hx k' hxk
      rw [Array.mem_push, List.mem_cons, hd x hx k' hxk]
      constructor
      · rintro (h | h)
        · exact .inr h
        · left
          have hxe : x = e := by
            exact nodup_inj hbn hx hem.1 h
          subst hxe
          rw [hek] at hxk
          simpa using hxk.symm
      · rintro (h | h)
        · right
          subst h
          have hkk : x.key = e.key := by rw [hxk, hek]
          have hkn : (es.toList.map (·.key)).Nodup := by
            have e2 : es.toList.map (·.key) = (keys m).map (Value.int .i64) := by
              have := congrArg (List.map Prod.fst) hm
              simpa [keys, List.map_map, Function.comp_def] using this
            rw [e2]
            unfold List.Nodup at *
            rw [List.pairwise_map]
            exact hn.imp (fun hne e => hne (by simpa using e))
          have hxe : x = e := nodup_inj hkn hx hem.1 hkk
          rw [hxe]
        · exact .inl h
    · have := run_entry_at (P := P) _ it b clock seen es clock e hi2 hb2 hem.1 hbn
      rw [hek] at this
      exact this

/-- how many keys are still to come -/
def leftN (m : List (Int × Value)) (done : List Int) : Nat := (keys m).countP (fun k => decide (k ∉ done))
theorem leftN_lt {k : Int} {v : Value} (h : alook m k = some v) (hd : k ∉ done) : leftN m (k :: done) < leftN m done := by
  have hk : k ∈ keys m := by rw [mem_keys_iff, h]; rfl
  unfold leftN
  generalize keys m = l at hk
  have hle : ∀ r : List Int, r.countP (fun j => decide (j ∉ k :: done)) ≤ r.countP (fun j => decide (j ∉ done)) := fun r =>
    List.countP_mono_left (fun x _ hx => by simp at hx ⊢; exact hx.2)
  induction l with
  | nil => cases hk
  | cons x r ih =>
    rw [List.countP_cons, List.countP_cons]
    by_cases e : x = k
    · subst e
      have := hle r
      have e1 : (decide (x ∉ x :: done)) = false := by simp
      have e2 : (decide (x ∉ done)) = true := by simpa using hd
      rw [e1, e2]
      simp only [Bool.false_eq_true, if_false, if_true]
      omega
    · have hr : k ∈ r := by
        rcases List.mem_cons.1 hk with h' | h'
        · exact absurd h'.symm e
        · exact h'
      have := ih hr
      by_cases hx : x ∈ done
      · simp only [List.mem_cons, hx, or_true, not_true_eq_false, decide_false, Bool.false_eq_true, if_false] at this ⊢
        omega
      · simp only [List.mem_cons, hx, e, or_false, not_false_eq_true, decide_true, if_true] at this ⊢
        omega
end
end Go.Topo
