/- Memory in plain words: what a step leaves alone, blocks of cells, rows of entries, maps keyed by int. Conditions: none. -/
import Derived.Test.YtdicohcmccjnoaaGreatEng
import Derived.Test.YtdicohcmccjnoaaGreatPa
namespace Go.Topo
open Go Go.Eng

theorem loop_data (bs : ByteArray) : ∀ (k i : Nat) (r : List UInt8), bs.size - i = k → ByteArray.toList.loop bs i r = r.reverse ++ bs.data.toList.drop i := by
  intro k
  induction k with
  | zero =>
    intro i r h
    unfold ByteArray.toList.loop
    have hs : bs.size = bs.data.toList.length := (Array.length_toList (xs := bs.data)).symm
    rw [if_neg (by omega), List.drop_of_length_le (by omega), List.append_nil]
  | succ k ih =>
    intro i r h
    unfold ByteArray.toList.loop
    have hs : bs.size = bs.data.toList.length := (Array.length_toList (xs := bs.data)).symm
    rw [if_pos (by omega), ih (i + 1) _ (by omega), List.drop_eq_getElem_cons (by omega : i < bs.data.toList.length)]
    have hi : i < bs.data.size := by have := Array.length_toList (xs := bs.data); omega
    have : bs.get! i = bs.data.toList[i]'(by simpa using hi) := by
      show bs.data[i]! = _
      rw [getElem!_pos bs.data i hi]; rfl
    simp [this]
theorem toList_data' (bs : ByteArray) : bs.toList = bs.data.toList := by
  unfold ByteArray.toList
  rw [loop_data bs _ 0 [] rfl]; simp

/-! ### frames -/
/-- of the blocks that are there none turns but those of F; nor the world outside -/
structure Fr (F : List Nat) (w w' : World) : Prop where
  size : w.heap.size ≤ w'.heap.size
  block : ∀ b, b < w.heap.size → b ∉ F → w'.heap[b]? = w.heap[b]?
  same : w'.os = w.os ∧ w'.tape = w.tape ∧ w'.output = w.output

theorem Fr.refl (F : List Nat) (w : World) : Fr F w w := ⟨Nat.le_refl _, fun _ _ _ => rfl, rfl, rfl, rfl⟩
theorem same_trans {a b c : World} (h : b.os = a.os ∧ b.tape = a.tape ∧ b.output = a.output) (k : c.os = b.os ∧ c.tape = b.tape ∧ c.output = b.output) : c.os = a.os ∧ c.tape = a.tape ∧ c.output = a.output :=
  ⟨k.1.trans h.1, k.2.1.trans h.2.1, k.2.2.trans h.2.2⟩
theorem Fr.trans {F : List Nat} {a b c : World} (h : Fr F a b) (k : Fr F b c) : Fr F a c :=
  ⟨Nat.le_trans h.1 k.1, fun i hi hn => (k.2 i (Nat.lt_of_lt_of_le hi h.1) hn).trans (h.2 i hi hn), same_trans h.3 k.3⟩
theorem Fr.trans' {F G : List Nat} {a b c : World} (h : Fr F a b) (k : Fr G b c) (hg : ∀ i ∈ G, i ∈ F ∨ a.heap.size ≤ i) : Fr F a c :=
  ⟨Nat.le_trans h.1 k.1, fun i hi hn => (k.2 i (Nat.lt_of_lt_of_le hi h.1) (fun hm => (hg i hm).elim hn (fun hle => by omega))).trans (h.2 i hi hn), same_trans h.3 k.3⟩
theorem Fr.mono {F G : List Nat} {a b : World} (h : Fr F a b) (hg : ∀ i ∈ F, i ∈ G) : Fr G a b := ⟨h.1, fun i hi hn => h.2 i hi (fun hm => hn (hg i hm)), h.3⟩
theorem Fr.of_nil {G : List Nat} {a b : World} (h : Fr [] a b) : Fr G a b := h.mono (by simp)
theorem Fr.lt {F : List Nat} {a b : World} (h : Fr F a b) {i : Nat} (hi : i < a.heap.size) : i < b.heap.size := Nat.lt_of_lt_of_le hi h.1

theorem heap_alloc_old (w : World) (o : Obj) {b : Nat} (h : b < w.heap.size) : (w.alloc o).heap[b]? = w.heap[b]? := by
  show (w.heap.push o)[b]? = _
  rw [Array.getElem?_push, if_neg (by omega)]
theorem heap_alloc_new (w : World) (o : Obj) : (w.alloc o).heap[w.heap.size]? = some o := by
  show (w.heap.push o)[w.heap.size]? = _
  simp
theorem size_alloc (w : World) (o : Obj) : (w.alloc o).heap.size = w.heap.size + 1 := by
  show (w.heap.push o).size = _
  simp
theorem Fr.alloc (w : World) (o : Obj) : Fr [] w (w.alloc o) := ⟨by rw [size_alloc]; omega, fun b hb _ => heap_alloc_old w o hb, rfl, rfl, rfl⟩
theorem Fr.drew (w : World) : Fr [] w w.drew := ⟨Nat.le_refl _, fun _ _ _ => rfl, rfl, rfl, rfl⟩
theorem heap_setCell_other (w : World) (a : Addr) (v : Value) {b : Nat} (h : b ≠ a.block) : (w.setCell a v).heap[b]? = w.heap[b]? := by
  simp only [World.setCell, Array.getElem?_modify]
  rw [if_neg (by omega)]
theorem size_setCell (w : World) (a : Addr) (v : Value) : (w.setCell a v).heap.size = w.heap.size := by simp [World.setCell]
theorem Fr.setCell (w : World) (a : Addr) (v : Value) : Fr [a.block] w (w.setCell a v) :=
  ⟨by rw [size_setCell]; omega, fun b _ hn => heap_setCell_other w a v (by simpa using hn), rfl, rfl, rfl⟩

theorem lt_of_heap {w : World} {b : Nat} {o : Obj} (h : w.heap[b]? = some o) : b < w.heap.size := (Array.getElem?_eq_some_iff.1 h).1

/-! ### blocks of cells -/
def Blk (w : World) (b : Nat) (cs : List Value) : Prop := ∃ T, w.heap[b]? = some (.cells cs.toArray T (0, 0))
theorem Blk.lt {w : World} {b : Nat} {cs : List Value} (h : Blk w b cs) : b < w.heap.size := lt_of_heap h.choose_spec
theorem Blk.fr {F : List Nat} {w w' : World} {b : Nat} {cs : List Value} (h : Blk w b cs) (hf : Fr F w w') (hb : b ∉ F) : Blk w' b cs := by
  have hlt := h.lt
  obtain ⟨T, h⟩ := h
  exact ⟨T, (hf.2 b hlt hb).trans h⟩
theorem Blk.cell {w : World} {b : Nat} {cs : List Value} (h : Blk w b cs) (i : Nat) : w.cell? ⟨b, i, none⟩ = cs[i]? := by
  obtain ⟨T, h⟩ := h
  simp [World.cell?, h]
theorem Blk.frozen {w : World} {b : Nat} {cs : List Value} (h : Blk w b cs) (i : Nat) : w.frozen? ⟨b, i, none⟩ = false := by
  obtain ⟨T, h⟩ := h
  simp only [World.frozen?, h]
  simp
theorem Blk.set {w : World} {b : Nat} {cs : List Value} (h : Blk w b cs) (i : Nat) (v : Value) : Blk (w.setCell ⟨b, i, none⟩ v) b (cs.set i v) := by
  obtain ⟨T, h⟩ := h
  have hlt := lt_of_heap h
  refine ⟨T, ?_⟩
  simp only [World.setCell, Array.getElem?_modify, h, Option.map_some]
  simp
theorem Blk.new (w : World) (cs : List Value) (T : TypeId) : Blk (w.alloc (.cells cs.toArray T)) w.heap.size cs := ⟨T, heap_alloc_new w _⟩

/-! ### rows that are only read -/
def Row (w : World) (b off : Nat) (vs : List Value) : Prop :=
  ∃ (c : Array Value) (T : TypeId) (fr : Nat × Nat), w.heap[b]? = some (.cells c T fr) ∧ ∀ i, i < vs.length → c[off + i]? = vs[i]?
theorem Row.lt {w : World} {b off : Nat} {vs : List Value} (h : Row w b off vs) : b < w.heap.size := by
  obtain ⟨c, T, fr, h, _⟩ := h; exact lt_of_heap h
theorem Row.fr {F : List Nat} {w w' : World} {b off : Nat} {vs : List Value} (h : Row w b off vs) (hf : Fr F w w') (hb : b ∉ F) : Row w' b off vs := by
  have hlt := h.lt
  obtain ⟨c, T, fr, h, hc⟩ := h
  exact ⟨c, T, fr, (hf.2 b hlt hb).trans h, hc⟩
theorem Row.cell {w : World} {b off : Nat} {vs : List Value} (h : Row w b off vs) {i : Nat} (hi : i < vs.length) : w.cell? ⟨b, off + i, none⟩ = vs[i]? := by
  obtain ⟨c, T, fr, h, hc⟩ := h
  simp only [World.cell?, h]
  exact hc i hi
theorem Row.drop {w : World} {b off : Nat} {vs : List Value} (h : Row w b off vs) (k : Nat) : Row w b (off + k) (vs.drop k) := by
  obtain ⟨c, T, fr, h, hc⟩ := h
  refine ⟨c, T, fr, h, fun i hi => ?_⟩
  rw [List.length_drop] at hi
  rw [List.getElem?_drop, Nat.add_assoc]
  exact hc (k + i) (by omega)
theorem Row.take {w : World} {b off : Nat} {vs : List Value} (h : Row w b off vs) (k : Nat) : Row w b off (vs.take k) := by
  obtain ⟨c, T, fr, h, hc⟩ := h
  refine ⟨c, T, fr, h, fun i hi => ?_⟩
  rw [List.length_take] at hi
  rw [List.getElem?_take, if_pos (by omega)]
  exact hc i (by omega)
theorem Blk.row {w : World} {b : Nat} {cs : List Value} (h : Blk w b cs) : Row w b 0 cs := by
  obtain ⟨T, h⟩ := h
  exact ⟨_, T, _, h, fun i _ => by simp⟩

/-! ### maps keyed by int -/
def IMap (w : World) (b : Nat) (m : List (Int × Value)) : Prop :=
  ∃ es clock, w.heap[b]? = some (.map es clock) ∧ es.toList.map (fun e => (e.key, e.val)) = m.map (fun p => (Value.int .i64 p.1, p.2)) ∧ (keys m).Nodup ∧
    (es.toList.map (·.born)).Nodup ∧ ∀ e ∈ es.toList, e.born < clock
theorem IMap.lt {w : World} {b : Nat} {m : List (Int × Value)} (h : IMap w b m) : b < w.heap.size := by
  obtain ⟨es, c, h, _⟩ := h; exact lt_of_heap h
theorem IMap.fr {F : List Nat} {w w' : World} {b : Nat} {m : List (Int × Value)} (h : IMap w b m) (hf : Fr F w w') (hb : b ∉ F) : IMap w' b m := by
  have hlt := h.lt
  obtain ⟨es, c, h, h2⟩ := h
  exact ⟨es, c, (hf.2 b hlt hb).trans h, h2⟩
theorem IMap.new (w : World) : IMap (w.alloc (.map #[] 0)) w.heap.size [] := ⟨#[], 0, heap_alloc_new w _, rfl, by simp [keys], by simp, by simp⟩
theorem IMap.nodup {w : World} {b : Nat} {m : List (Int × Value)} (h : IMap w b m) : (keys m).Nodup := h.choose_spec.choose_spec.2.2.1

theorem findNow_int (k : Int) : ∀ (es : List MapEntry) (m : List (Int × Value)) (i : Nat), es.map (fun e => (e.key, e.val)) = m.map (fun p => (Value.int .i64 p.1, p.2)) →
    Instr.findNow (.int .i64) (.int .i64 k) es i = some ((alook m k).map fun v => (i + (m.findIdx fun p => p.1 == k), v)) := by
  intro es
  induction es with
  | nil =>
    intro m i h
    cases m with
    | nil => rfl
    | cons p r => simp at h
  | cons e es ih =>
    intro m i h
    cases m with
    | nil => simp at h
    | cons p r =>
      simp only [List.map_cons, List.cons.injEq, Prod.mk.injEq] at h
      obtain ⟨⟨h1, h2⟩, h3⟩ := h
      unfold Instr.findNow
      rw [h1]
      simp only [Instr.sameNow, if_true]
      by_cases hk : p.1 = k
      · subst hk
        simp [alook_cons, h2, List.findIdx_cons]
      · have hb : (k == p.1) = false := by simp; exact fun e => hk e.symm
        have hb' : (p.1 == k) = false := by simp [hk]
        rw [hb]
        simp only [ih r (i + 1) h3, alook_cons, if_neg hk, List.findIdx_cons, hb', cond_false]
        congr 1
        cases alook r k with
        | none => rfl
        | some v => simp; omega

section
variable {P : Program} {T K E : TypeId}

theorem run_checkKey_int (hK : P.underlying K = some (.int .i64)) (e : Bool) (n : Nat) (k : Int) (w : World) : (Instr.checkKey e (n + 1) K (.int .i64 k)).run P w = .ok () w := by
  simp [Instr.checkKey, run_underlying hK]

theorem run_findKey_int (hK : P.underlying K = some (.int .i64)) {es : List MapEntry} {m : List (Int × Value)} (h : es.map (fun e => (e.key, e.val)) = m.map (fun p => (Value.int .i64 p.1, p.2))) (k : Int) (w : World) :
    (Instr.findKey K (.int .i64 k) es).run P w = .ok ((alook m k).map fun v => ((m.findIdx fun p => p.1 == k), v)) w := by
  unfold Instr.findKey
  rw [run_bind_ok (run_underlying hK w), findNow_int k es m 0 h]
  simp

theorem getObj_map {w : World} {b : Nat} {es : Array MapEntry} {c : Nat} (h : w.heap[b]? = some (.map es c)) : (getObj b).run P w = .ok (.map es c) w := by
  simp [getObj, Sem.run, h]

theorem IMap.lookup (hT : P.underlying T = some (.map K E)) (hK : P.underlying K = some (.int .i64)) {z : Value} (hz : ∀ w, (zeroValue E).run P w = .ok z w)
    {w : World} {b : Nat} {m : List (Int × Value)} (h : IMap w b m) (k : Int) (ok : Bool) :
    (Instr.lookup T (.map (some b)) (.int .i64 k) ok).run P w = .ok (if ok then .tuple #[(alook m k).getD z, .bool (alook m k).isSome] else (alook m k).getD z) w := by
  obtain ⟨es, c, hb, hm, _⟩ := h
  have h1 := run_findKey_int (P := P) hK hm k w
  have h2 : (Instr.checkKey es.isEmpty 10000 K (.int .i64 k)).run P w = .ok () w := run_checkKey_int (P := P) hK es.isEmpty 9999 k w
  unfold Instr.lookup
  rw [run_bind_ok (run_underlying hT w)]
  dsimp only
  rw [run_bind_ok (getObj_map hb)]
  dsimp only
  rw [run_bind_ok (Sem.run_pure _ _ _), run_bind_ok h2, run_bind_ok h1]
  cases hl : alook m k with
  | none => simp [hz w]
  | some v => simp

theorem run_setObj {w : World} {b : Nat} {es : Array MapEntry} {c : Nat} (h : w.heap[b]? = some (.map es c)) (o : Obj) : (setObj b o).run P w = .ok () { w with heap := w.heap.setIfInBounds b o } := by
  simp [setObj, Sem.run, h]

theorem fr_setObj (w : World) (b : Nat) (o : Obj) : Fr [b] w { w with heap := w.heap.setIfInBounds b o } :=
  ⟨by simp, fun i _ hn => by
    have : i ≠ b := by simpa using hn
    simp only [Array.getElem?_setIfInBounds]
    rw [if_neg (by omega)], rfl, rfl, rfl⟩

theorem aput_some {m : List (Int × Value)} {k : Int} {v : Value} (h : k ∈ keys m) : aput m k v = m.modify (m.findIdx fun p => p.1 == k) fun _ => (k, v) := by
  induction m with
  | nil => simp [keys] at h
  | cons p r ih =>
    unfold aput
    by_cases hp : p.1 = k
    · simp [hp, List.findIdx_cons]
    · have hb : (p.1 == k) = false := by simp [hp]
      have hr : k ∈ keys r := by
        simp only [keys, List.map_cons, List.mem_cons] at h
        rcases h with h | h
        · exact absurd h.symm hp
        · exact h
      rw [if_neg hp, ih hr]
      simp [List.findIdx_cons, hb]

theorem aput_none {m : List (Int × Value)} {k : Int} {v : Value} (h : k ∉ keys m) : aput m k v = m ++ [(k, v)] := by
  induction m with
  | nil => rfl
  | cons p r ih =>
    simp only [keys, List.map_cons, List.mem_cons, not_or] at h
    unfold aput
    rw [if_neg (fun e => h.1 e.symm), ih h.2]
    rfl

theorem list_modify_eq_set {α : Type} (l : List α) (i : Nat) (f : α → α) (x : α) (hf : ∀ y, l[i]? = some y → f y = x) : l.modify i f = l.set i x := by
  apply List.ext_getElem?
  intro j
  rw [List.getElem?_modify, List.getElem?_set]
  by_cases hij : i = j
  · subst hij
    cases hl : l[i]? with
    | none =>
      have : ¬ i < l.length := by
        intro hlt
        rw [List.getElem?_eq_getElem hlt] at hl
        cases hl
      simp [this]
    | some y =>
      have : i < l.length := (List.getElem?_eq_some_iff.1 hl).1
      simp [this, hf y hl]
  · simp [hij]

theorem IMap.update (hT : P.underlying T = some (.map K E)) (hK : P.underlying K = some (.int .i64)) {w : World} {b : Nat} {m : List (Int × Value)} (h : IMap w b m) (k : Int) (v : Value) :
    ∃ w', (Instr.mapUpdate T (.map (some b)) (.int .i64 k) v).run P w = .ok () w' ∧ IMap w' b (aput m k v) ∧ Fr [b] w w' ∧ w'.heap.size = w.heap.size := by
  have hlt := h.lt
  obtain ⟨es, c, hb, hm, hn, hbn, hbc⟩ := h
  have h1 := run_findKey_int (P := P) hK hm k w
  have h2 : (Instr.checkKey false 10000 K (.int .i64 k)).run P w = .ok () w := run_checkKey_int (P := P) hK false 9999 k w
  have hnd := keys_nodup_aput m k v hn
  cases hl : alook m k with
  | none =>
    have hk : k ∉ keys m := by rw [mem_keys_iff, hl]; simp
    refine ⟨_, ?_, ⟨es.push ⟨.int .i64 k, v, c⟩, c + 1, ?_, ?_, hnd, ?_, ?_⟩, fr_setObj w b (.map (es.push ⟨.int .i64 k, v, c⟩) (c + 1)), by simp⟩
    · unfold Instr.mapUpdate
      rw [run_bind_ok (run_underlying hT w)]
      simp only
      rw [run_bind_ok (getObj_map hb)]
      simp only
      rw [run_bind_ok h2, run_bind_ok h1, hl]
      simp only [Option.map_none]
      exact run_setObj hb _
    · simp [hlt]
    · rw [aput_none hk]
      simp [hm]
    · simp only [Array.toList_push, List.map_append, List.map_cons, List.map_nil]
      rw [List.nodup_append]
      refine ⟨hbn, by simp, ?_⟩
      intro x hx y hy
      simp at hy
      subst hy
      obtain ⟨e, he, rfl⟩ := List.mem_map.1 hx
      have := hbc e he
      omega
    · intro e he
      simp only [Array.toList_push, List.mem_append, List.mem_singleton] at he
      rcases he with he | rfl
      · have := hbc e he; omega
      · simp
  | some u =>
    have hk : k ∈ keys m := by rw [mem_keys_iff, hl]; simp
    have hlen : es.toList.length = m.length := by have := congrArg List.length hm; simpa using this
    have hi : (m.findIdx fun p => p.1 == k) < m.length := List.findIdx_lt_length_of_exists (by
      obtain ⟨p, hp, hpk⟩ := List.mem_map.1 hk
      exact ⟨p, hp, by simp [hpk]⟩)
    have hmi : (m[m.findIdx fun p => p.1 == k]'hi).1 = k := by
      have := List.findIdx_getElem (w := hi) (p := fun p : Int × Value => p.1 == k)
      simpa using this
    generalize hidx : (m.findIdx fun p => p.1 == k) = i at *
    have hie : i < es.size := by rw [← Array.length_toList, hlen]; exact hi
    have hkey : es[i].key = .int .i64 k := by
      have e1 : (es.toList.map fun e => (e.key, e.val))[i]? = (m.map fun p => (Value.int .i64 p.1, p.2))[i]? := by rw [hm]
      rw [List.getElem?_map, List.getElem?_map, List.getElem?_eq_getElem hi] at e1
      have e2 : es.toList[i]? = some es[i] := by simp [hie]
      rw [e2] at e1
      simp [hmi] at e1
      exact e1.1
    have hsame : Instr.sameBits 10000 (.int .i64 k) (.int .i64 k) = true := by simp [Instr.sameBits]
    refine ⟨_, ?_, ⟨es.modify i fun e => { e with key := .int .i64 k, val := v }, c, ?_, ?_, hnd, ?_, ?_⟩, fr_setObj w b (.map (es.modify i fun e => { e with key := .int .i64 k, val := v }) c), by simp⟩
    · unfold Instr.mapUpdate
      rw [run_bind_ok (run_underlying hT w)]
      simp only
      rw [run_bind_ok (getObj_map hb)]
      simp only
      rw [run_bind_ok h2, run_bind_ok h1, hl]
      simp only [Option.map_some]
      have e3 : ((es[i]?).map (·.key)).getD (.int .i64 k) = .int .i64 k := by simp [hie, hkey]
      rw [run_bind_ok (a := Value.int .i64 k) (w' := w) (by rw [e3]; unfold Instr.keyThatStays; rw [hsame]; simp)]
      exact run_setObj hb _
    · simp [hlt]
    · rw [aput_some hk, hidx]
      apply List.ext_getElem?
      intro j
      have e1 : (es.toList.map fun e => (e.key, e.val))[j]? = (m.map fun p => (Value.int .i64 p.1, p.2))[j]? := by rw [hm]
      rw [List.getElem?_map, List.getElem?_map] at e1 ⊢
      rw [Array.toList_modify, List.getElem?_modify, List.getElem?_modify]
      by_cases hij : i = j
      · subst hij
        have e2 : es.toList[i]? = some es[i] := by simp [hie]
        rw [e2, List.getElem?_eq_getElem hi]
        simp
      · simp only [if_neg hij, id_map']
        exact e1
    · have : (es.modify i fun e => { e with key := .int .i64 k, val := v }).toList.map (·.born) = es.toList.map (·.born) := by
        apply List.ext_getElem?
        intro j
        rw [List.getElem?_map, List.getElem?_map, Array.toList_modify, List.getElem?_modify]
        by_cases hij : i = j
        · subst hij; simp; cases es[i]? <;> rfl
        · simp only [if_neg hij, id_map']
      rw [this]; exact hbn
    · intro e he
      rw [Array.toList_modify] at he
      obtain ⟨j, hj⟩ := List.getElem?_of_mem he
      rw [List.getElem?_modify] at hj
      cases hej : es.toList[j]? with
      | none => rw [hej] at hj; cases hj
      | some e0 =>
        rw [hej] at hj
        have h0 := hbc e0 (List.mem_of_getElem? hej)
        simp at hj
        split at hj <;> (subst hj; exact h0)

theorem adel_some {m : List (Int × Value)} {k : Int} (hn : (keys m).Nodup) (h : k ∈ keys m) : adel m k = m.eraseIdx (m.findIdx fun p => p.1 == k) := by
  induction m with
  | nil => simp [keys] at h
  | cons p r ih =>
    simp only [keys, List.map_cons, List.nodup_cons] at hn
    by_cases hp : p.1 = k
    · have hb : (p.1 == k) = true := by simp [hp]
      have hr : adel r k = r := by
        unfold adel
        rw [List.filter_eq_self]
        intro x hx
        have : x.1 ≠ k := fun e => hn.1 (hp ▸ e ▸ List.mem_map_of_mem hx)
        simp [this]
      simp only [adel, List.filter_cons, List.findIdx_cons, hb] at *
      simpa using hr
    · have hb : (p.1 == k) = false := by simp [hp]
      have hr : k ∈ keys r := by
        simp only [keys, List.map_cons, List.mem_cons] at h
        rcases h with h | h
        · exact absurd h.symm hp
        · exact h
      have := ih hn.2 hr
      simp only [adel, List.filter_cons, List.findIdx_cons, hb] at *
      simpa using this

theorem adel_none {m : List (Int × Value)} {k : Int} (h : k ∉ keys m) : adel m k = m := by
  unfold adel
  rw [List.filter_eq_self]
  intro x hx
  have : x.1 ≠ k := fun e => h (e ▸ List.mem_map_of_mem hx)
  simp [this]

theorem map_eraseIdx' {α β : Type} (f : α → β) : ∀ (l : List α) (i : Nat), (l.eraseIdx i).map f = (l.map f).eraseIdx i
  | [], _ => rfl
  | _ :: _, 0 => rfl
  | x :: r, i + 1 => by simp [map_eraseIdx' f r i]

theorem IMap.delete (hT : P.underlying T = some (.map K E)) (hK : P.underlying K = some (.int .i64)) {w : World} {b : Nat} {m : List (Int × Value)} (h : IMap w b m) (k : Int) (ty : TypeId) (at2 : TypeId) :
    ∃ w', (Builtin.delete_ #[T, at2] ty #[.map (some b), .int .i64 k]).run P w = .ok (.tuple #[]) w' ∧ IMap w' b (adel m k) ∧ Fr [b] w w' ∧ w'.heap.size = w.heap.size := by
  have hlt := h.lt
  obtain ⟨es, c, hb, hm, hn, hbn, hbc⟩ := h
  have h1 := run_findKey_int (P := P) hK hm k w
  have h2 : (Instr.checkKey es.isEmpty 10000 K (.int .i64 k)).run P w = .ok () w := run_checkKey_int (P := P) hK es.isEmpty 9999 k w
  have hnd := keys_nodup_adel m k hn
  cases hl : alook m k with
  | none =>
    have hk : k ∉ keys m := by rw [mem_keys_iff, hl]; simp
    refine ⟨_, ?_, ⟨es, c, ?_, ?_, hnd, hbn, hbc⟩, fr_setObj w b (.map es c), by simp⟩
    · unfold Builtin.delete_
      rw [show (#[T, at2] : Array TypeId)[0]? = some T from rfl, show (#[.map (some b), .int .i64 k] : Array Value)[0]? = some (.map (some b)) from rfl, show (#[.map (some b), .int .i64 k] : Array Value)[1]? = some (.int .i64 k) from rfl]
      dsimp only
      rw [run_bind_ok (run_underlying hT w)]
      dsimp only
      rw [run_bind_ok (getObj_map hb)]
      dsimp only
      rw [run_bind_ok h2, run_bind_ok h1, hl]
      simp only [Option.map_none]
      rw [run_bind_ok (run_setObj hb _)]
      exact Sem.run_pure _ _ _
    · simp [hlt]
    · rw [adel_none hk]; exact hm
  | some u =>
    have hk : k ∈ keys m := by rw [mem_keys_iff, hl]; simp
    have hlen : es.toList.length = m.length := by have := congrArg List.length hm; simpa using this
    have hi : (m.findIdx fun p => p.1 == k) < m.length := List.findIdx_lt_length_of_exists (by
      obtain ⟨p, hp, hpk⟩ := List.mem_map.1 hk
      exact ⟨p, hp, by simp [hpk]⟩)
    generalize hidx : (m.findIdx fun p => p.1 == k) = i at *
    have hie : i < es.size := by rw [← Array.length_toList, hlen]; exact hi
    have hel : (es.eraseIdxIfInBounds i).toList = es.toList.eraseIdx i := by
      unfold Array.eraseIdxIfInBounds
      rw [dif_pos hie, Array.toList_eraseIdx]
    refine ⟨_, ?_, ⟨es.eraseIdxIfInBounds i, c, ?_, ?_, hnd, ?_, ?_⟩, fr_setObj w b (.map (es.eraseIdxIfInBounds i) c), by simp⟩
    · unfold Builtin.delete_
      rw [show (#[T, at2] : Array TypeId)[0]? = some T from rfl, show (#[.map (some b), .int .i64 k] : Array Value)[0]? = some (.map (some b)) from rfl, show (#[.map (some b), .int .i64 k] : Array Value)[1]? = some (.int .i64 k) from rfl]
      dsimp only
      rw [run_bind_ok (run_underlying hT w)]
      dsimp only
      rw [run_bind_ok (getObj_map hb)]
      dsimp only
      rw [run_bind_ok h2, run_bind_ok h1, hl]
      simp only [Option.map_some]
      rw [run_bind_ok (run_setObj hb _)]
      exact Sem.run_pure _ _ _
    · simp [hlt]
    · rw [adel_some hn hk, hidx, hel, map_eraseIdx', map_eraseIdx', hm]
    · rw [hel, map_eraseIdx']
      exact hbn.sublist (List.eraseIdx_sublist _ _)
    · intro e he
      rw [hel] at he
      exact hbc e (List.mem_of_mem_eraseIdx he)

theorem IMap.len (hT : P.underlying T = some (.map K E)) {w : World} {b : Nat} {m : List (Int × Value)} (h : IMap w b m) (ty : TypeId) :
    (Builtin.len_ #[T] ty #[.map (some b)]).run P w = .ok (.int .i64 m.length) w := by
  obtain ⟨es, c, hb, hm, _⟩ := h
  have hlen : es.size = m.length := by have := congrArg List.length hm; simpa using this
  simp [Builtin.len_, run_underlying hT, getObj_map hb, goInt, hlen]

end
end Go.Topo
