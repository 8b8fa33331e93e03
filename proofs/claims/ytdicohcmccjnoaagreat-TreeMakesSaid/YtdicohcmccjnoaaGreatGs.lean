/- Maps of which every value is 1: sets of keys. Conditions: none. -/
import Derived.Test.YtdicohcmccjnoaaGreatMi
namespace Go.Topo
open Go Go.Eng

theorem ba_beq (a b : ByteArray) : (a == b) = decide (a = b) := by
  have h : (a == b) = (a.data == b.data) := by cases a; cases b; rfl
  rw [h]
  by_cases e : a = b
  · subst e; simp
  · have : a.data ≠ b.data := fun e2 => e (by cases a; cases b; simp at e2; rw [e2])
    simp [e, this]
theorem condC {b : Bool} {X Y : Prop} (h1 : b = true → X) (h2 : b = false → Y) : cond b X Y := by cases b; exact h2 rfl; exact h1 rfl
structure KeyK (P : Program) (K : TypeId) {κ : Type} (kv : κ → Value) : Prop where
  u : ∃ d, P.underlying K = some d ∧ ∀ a b, (a = b → Instr.sameNow d (kv a) (kv b) = some true) ∧ (a ≠ b → Instr.sameNow d (kv a) (kv b) = some false)
  chk : ∀ e w a, (Instr.checkKey e 10000 K (kv a)).run P w = .ok () w
  bits : ∀ a, Instr.sameBits 10000 (kv a) (kv a) = true
  inj : ∀ a b, kv a = kv b → a = b
theorem KeyK.int {P : Program} {K : TypeId} {k : IntKind} (h : P.underlying K = some (.int k)) : KeyK P K (fun x : Int => Value.int k x) where
  u := ⟨_, h, fun a b => ⟨by rintro rfl; simp [Instr.sameNow], fun e => by simp [Instr.sameNow, e]⟩⟩
  chk := by
    intro e w a
    have : ∀ n, (Instr.checkKey e (n + 1) K (Value.int k a)).run P w = .ok () w := by intro n; simp [Instr.checkKey, run_underlying h]
    exact this 9999
  bits := by intro a; simp [Instr.sameBits]
  inj := by intro a b e; cases e; rfl
theorem KeyK.str {P : Program} {K : TypeId} (h : P.underlying K = some .string) : KeyK P K (fun x : ByteArray => Value.string x) where
  u := ⟨_, h, fun a b => ⟨by rintro rfl; simp [Instr.sameNow, ba_beq], fun e => by simp [Instr.sameNow, ba_beq, e]⟩⟩
  chk := by
    intro e w a
    have : ∀ n, (Instr.checkKey e (n + 1) K (Value.string a)).run P w = .ok () w := by intro n; simp [Instr.checkKey, run_underlying h]
    exact this 9999
  bits := by intro a; simp [Instr.sameBits, ba_beq]
  inj := by intro a b e; cases e; rfl

section
variable {P : Program} {T K E : TypeId} {κ : Type} {kv : κ → Value} {w w' : World} {b : Nat} {s s' : κ → Prop} {F : List Nat}

def GSet (kv : κ → Value) (w : World) (b : Nat) (s : κ → Prop) : Prop :=
  ∃ es clock, w.heap[b]? = some (.map es clock) ∧ (∀ e ∈ es.toList, ∃ k, s k ∧ e.key = kv k ∧ e.val = .int .i64 1) ∧ (∀ k, s k → ∃ e ∈ es.toList, e.key = kv k) ∧
    (es.toList.map (·.born)).Nodup ∧ ∀ e ∈ es.toList, e.born < clock
theorem GSet.lt (h : GSet kv w b s) : b < w.heap.size := by
  obtain ⟨es, c, h, _⟩ := h; exact lt_of_heap h
theorem GSet.fr (h : GSet kv w b s) (hf : Fr F w w') (hb : b ∉ F) : GSet kv w' b s := by
  have hlt := h.lt
  obtain ⟨es, c, h, h2⟩ := h
  exact ⟨es, c, (hf.2 b hlt hb).trans h, h2⟩
theorem GSet.congr (h : GSet kv w b s) (he : ∀ k, s k ↔ s' k) : GSet kv w b s' := by
  obtain rfl : s = s' := funext fun k => propext (he k)
  exact h
theorem GSet.new (kv : κ → Value) (w : World) : GSet kv (w.alloc (.map #[] 0)) w.heap.size (fun _ => False) := ⟨#[], 0, heap_alloc_new w _, by simp, by simp, by simp, by simp⟩

theorem findNow_g {d : TypeDesc} (hd : ∀ a b, (a = b → Instr.sameNow d (kv a) (kv b) = some true) ∧ (a ≠ b → Instr.sameNow d (kv a) (kv b) = some false)) (hinj : ∀ a b, kv a = kv b → a = b) (x : κ) : ∀ (es : List MapEntry) (i : Nat), (∀ e ∈ es, ∃ k, e.key = kv k) →
    (Instr.findNow d (kv x) es i = some none ∧ ∀ e ∈ es, e.key ≠ kv x) ∨ ∃ j e, es[j]? = some e ∧ e.key = kv x ∧ Instr.findNow d (kv x) es i = some (some (i + j, e.val)) := by
  intro es
  induction es with
  | nil => intro i _; left; exact ⟨rfl, by simp⟩
  | cons e es ih =>
    intro i h
    obtain ⟨k, hk⟩ := h e (by simp)
    unfold Instr.findNow
    rw [hk]
    by_cases e1 : x = k
    · right
      rw [(hd x k).1 e1]
      exact ⟨0, e, rfl, by rw [hk, e1], rfl⟩
    · rw [(hd x k).2 e1]
      rcases ih (i + 1) (fun e' he => h e' (by simp [he])) with ⟨h1, h2⟩ | ⟨j, e', h1, h2, h3⟩
      · left
        refine ⟨h1, ?_⟩
        intro e' he
        rcases List.mem_cons.1 he with rfl | he
        · rw [hk]; exact fun e2 => e1 (hinj _ _ e2).symm
        · exact h2 e' he
      · right
        exact ⟨j + 1, e', by simpa using h1, h2, by simp only [h3]; rw [show i + 1 + j = i + (j + 1) by omega]⟩

theorem run_findKey_g (hK : KeyK P K kv) (x : κ) {es : List MapEntry} (he : ∀ e ∈ es, ∃ k, e.key = kv k) (w : World) :
    ((Instr.findKey K (kv x) es).run P w = .ok none w ∧ ∀ e ∈ es, e.key ≠ kv x) ∨ ∃ j e, es[j]? = some e ∧ e.key = kv x ∧ (Instr.findKey K (kv x) es).run P w = .ok (some (j, e.val)) w := by
  obtain ⟨d, hu, hd⟩ := hK.u
  rcases findNow_g hd hK.inj x es 0 he with ⟨h1, h2⟩ | ⟨j, e, h1, h2, h3⟩
  · left
    refine ⟨?_, h2⟩
    unfold Instr.findKey
    rw [run_bind_ok (run_underlying hu w), h1]
    rfl
  · right
    refine ⟨j, e, h1, h2, ?_⟩
    unfold Instr.findKey
    rw [run_bind_ok (run_underlying hu w), h3]
    simp

theorem GSet.lookup (hT : P.underlying T = some (.map K E)) (hK : KeyK P K kv) (hz : ∀ w, (zeroValue E).run P w = .ok (.int .i64 0) w) (h : GSet kv w b s) (x : κ) [Decidable (s x)] :
    (Instr.lookup T (.map (some b)) (kv x) false).run P w = .ok (.int .i64 (if s x then 1 else 0)) w := by
  obtain ⟨es, c, hb, h1, h2, _⟩ := h
  unfold Instr.lookup
  rw [run_bind_ok (run_underlying hT w)]
  dsimp only
  rw [run_bind_ok (getObj_map hb)]
  dsimp only
  rw [run_bind_ok (Sem.run_pure _ _ _), run_bind_ok (hK.chk es.isEmpty w x)]
  rcases run_findKey_g hK x (es := es.toList) (fun e he => by obtain ⟨k, _, hk, _⟩ := h1 e he; exact ⟨k, hk⟩) w with ⟨g1, g2⟩ | ⟨j, e, g1, g2, g3⟩
  · have : ¬ s x := by
      intro hs
      obtain ⟨e, he, hk⟩ := h2 x hs
      exact g2 e he hk
    rw [run_bind_ok g1, if_neg this]
    simp [hz w]
  · obtain ⟨k, hs, hk, hv⟩ := h1 e (List.mem_of_getElem? g1)
    have : k = x := hK.inj _ _ (hk.symm.trans g2)
    subst this
    rw [run_bind_ok g3, if_pos hs]
    simp [hv]

theorem GSet.lookupB (hT : P.underlying T = some (.map K E)) (hK : KeyK P K kv) (hz : ∀ w, (zeroValue E).run P w = .ok (.int .i64 0) w) (h : GSet kv w b s) (x : κ) (d : Bool) (hd : d = true ↔ s x) :
    (Instr.lookup T (.map (some b)) (kv x) false).run P w = .ok (.int .i64 (if d then 1 else 0)) w := by
  haveI : Decidable (s x) := decidable_of_iff (d = true) hd
  rw [GSet.lookup hT hK hz h x]
  congr 2
  by_cases e : d = true
  · rw [if_pos e, if_pos (hd.1 e)]
  · rw [if_neg e, if_neg (fun h => e (hd.2 h))]

theorem GSet.store {es : Array MapEntry} {c i : Nat} {e : MapEntry} (hb : w.heap[b]? = some (.map es c)) (hi : es[i]? = some e) (x : κ) (hx : e.key = kv x)
    (h1 : ∀ e' ∈ es.toList, e' = e ∨ ∃ k, s k ∧ e'.key = kv k ∧ e'.val = .int .i64 1) (h2 : ∀ k, s k → ∃ e ∈ es.toList, e.key = kv k) (h3 : (es.toList.map (·.born)).Nodup) (h4 : ∀ e ∈ es.toList, e.born < c) :
    ∃ w', (Instr.entryStore T (.map (some b)) (.int .i64 e.born) (.int .i64 1)).run P w = .ok () w' ∧ Fr [b] w w' ∧ w'.heap.size = w.heap.size ∧ GSet kv w' b (fun k => k = x ∨ s k) := by
  have hlt := lt_of_heap hb
  have him : e ∈ es := Array.mem_of_getElem? hi
  unfold Instr.entryStore
  cases hf : es.findIdx? (fun e' => (e'.born : Int) == (e.born : Int)) with
  | none =>
    rw [Array.findIdx?_eq_none_iff] at hf
    have := hf e him
    simp at this
  | some j =>
    rw [Array.findIdx?_eq_some_iff_getElem] at hf
    obtain ⟨hj, hp, _⟩ := hf
    have hbj : es[j].born = e.born := by have := beq_iff_eq.1 hp; omega
    have hej : es[j] = e := nodup_inj h3 (by simp) (by simpa using him) hbj
    have uniq : ∀ l (hl : l < es.size), es[l] = e → l = j := by
      intro l hl e1
      have e2 : (es.toList.map (·.born))[l]'(by simpa using hl) = (es.toList.map (·.born))[j]'(by simpa using hj) := by simp [e1, hbj]
      have hp3 := List.pairwise_iff_getElem.1 h3
      rcases Nat.lt_trichotomy l j with h5 | h5 | h5
      · exact absurd e2 (hp3 l j (by simpa using hl) (by simpa using hj) h5)
      · exact h5
      · exact absurd e2.symm (hp3 j l (by simpa using hj) (by simpa using hl) h5)
    have hm : ∀ e', e' ∈ (es.modify j fun e => { e with val := .int .i64 1 }).toList → e' = { e with val := .int .i64 1 } ∨ (e' ∈ es.toList ∧ e' ≠ e) := by
      intro e' he'
      obtain ⟨l, hl, rfl⟩ := Array.mem_iff_getElem.1 (Array.mem_toList_iff.1 he')
      rw [Array.getElem_modify]
      have hl' : l < es.size := by simpa using hl
      by_cases e1 : j = l
      · subst e1
        left; rw [if_pos rfl, hej]
      · right
        rw [if_neg e1]
        exact ⟨by simp, fun e2 => e1 (uniq l hl' e2).symm⟩
    have hm' : ∀ e', e' ∈ es.toList → ∃ e2 ∈ (es.modify j fun e => { e with val := .int .i64 1 }).toList, e2.key = e'.key := by
      intro e' he'
      obtain ⟨l, hl, rfl⟩ := Array.mem_iff_getElem.1 (Array.mem_toList_iff.1 he')
      refine ⟨(es.modify j fun e => { e with val := .int .i64 1 })[l]'(by simpa using hl), Array.mem_toList_iff.2 (Array.getElem_mem _), ?_⟩
      rw [Array.getElem_modify]
      split <;> rfl
    refine ⟨_, ?_, fr_setObj w b (.map (es.modify j fun e => { e with val := .int .i64 1 }) c), by simp, es.modify j fun e => { e with val := .int .i64 1 }, c, by simp [hlt], ?_, ?_, ?_, ?_⟩
    · dsimp only
      rw [run_bind_ok (getObj_map hb)]
      dsimp only
      rw [run_bind_ok (show (asInt (.int .i64 (e.born : Int))).run P w = .ok (e.born : Int) w from rfl)]
      have hf' : es.findIdx? (fun e' => (e'.born : Int) == (e.born : Int)) = some j := by
        rw [Array.findIdx?_eq_some_iff_getElem]; exact ⟨hj, hp, by assumption⟩
      rw [hf']
      exact run_setObj hb _
    · intro e' he'
      rcases hm e' he' with rfl | ⟨he, hne⟩
      · exact ⟨x, .inl rfl, hx, rfl⟩
      · rcases h1 e' he with e1 | ⟨k, hk, hk2, hk3⟩
        · exact absurd e1 hne
        · exact ⟨k, .inr hk, hk2, hk3⟩
    · intro k hk
      rcases hk with rfl | hk
      · obtain ⟨e2, he2, hk2⟩ := hm' e (by simpa using him)
        exact ⟨e2, he2, hk2.trans hx⟩
      · obtain ⟨e1, he1, hk1⟩ := h2 k hk
        obtain ⟨e2, he2, hk2⟩ := hm' e1 he1
        exact ⟨e2, he2, hk2.trans hk1⟩
    · have : (es.modify j fun e => { e with val := .int .i64 1 }).toList.map (·.born) = es.toList.map (·.born) := by
        apply List.ext_getElem
        · simp
        · intro l h5 h6
          simp only [List.getElem_map, Array.getElem_toList, Array.getElem_modify]
          split <;> rfl
      rw [this]; exact h3
    · intro e' he'
      rcases hm e' he' with rfl | ⟨he, _⟩
      · exact h4 e (by simpa using him)
      · exact h4 e' he

/-- a key is put in: the entry first, its value behind -/
theorem GSet.put (hT : P.underlying T = some (.map K E)) (hK : KeyK P K kv) (hz : ∀ w, (zeroValue E).run P w = .ok (.int .i64 0) w) (h : GSet kv w b s) (x : κ) :
    ∃ (v : Value) (st : Int) (w1 w2 : World), (Instr.mapEntry T (.map (some b)) (kv x)).run P w = .ok (.tuple #[v, .int .i64 st]) w1 ∧ Fr [b] w w1 ∧
      (Instr.entryStore T (.map (some b)) (.int .i64 st) (.int .i64 1)).run P w1 = .ok () w2 ∧ Fr [b] w1 w2 ∧ GSet kv w2 b (fun k => k = x ∨ s k) := by
  have hlt := h.lt
  obtain ⟨es, c, hb, h1, h2, h3, h4⟩ := h
  rcases run_findKey_g hK x (es := es.toList) (fun e he => by obtain ⟨k, _, hk, _⟩ := h1 e he; exact ⟨k, hk⟩) w with ⟨g1, g2⟩ | ⟨j, e, g1, g2, g3⟩
  · have f1 := fr_setObj w b (.map (es.push ⟨kv x, .int .i64 0, c⟩) (c + 1))
    obtain ⟨w2, hr, f2, _, hg⟩ := GSet.store (P := P) (T := T) (s := s) (w := { w with heap := w.heap.setIfInBounds b (.map (es.push ⟨kv x, .int .i64 0, c⟩) (c + 1)) }) (b := b) (es := es.push ⟨kv x, .int .i64 0, c⟩) (c := c + 1) (i := es.size) (e := ⟨kv x, .int .i64 0, c⟩) (by simp [hlt]) (by simp) x rfl
      (by
        intro e' he'
        simp only [Array.toList_push, List.mem_append, List.mem_singleton] at he'
        rcases he' with he' | rfl
        · exact .inr (h1 e' he')
        · exact .inl rfl)
      (by
        intro k hk
        obtain ⟨e1, he1, hk1⟩ := h2 k hk
        exact ⟨e1, by simp [Array.mem_toList_iff.1 he1], hk1⟩)
      (by
        simp only [Array.toList_push, List.map_append, List.map_cons, List.map_nil]
        rw [List.nodup_append]
        refine ⟨h3, by simp, ?_⟩
        intro y hy z hz'
        simp at hz'
        subst hz'
        obtain ⟨e, he, rfl⟩ := List.mem_map.1 hy
        have := h4 e he
        omega)
      (by
        intro e' he'
        simp only [Array.toList_push, List.mem_append, List.mem_singleton] at he'
        rcases he' with he' | rfl
        · have := h4 e' he'; omega
        · simp)
    refine ⟨.int .i64 0, c, _, w2, ?_, f1, hr, f2, hg⟩
    unfold Instr.mapEntry
    rw [run_bind_ok (run_underlying hT w)]
    dsimp only
    rw [run_bind_ok (getObj_map hb)]
    dsimp only
    rw [run_bind_ok (hK.chk false w x), run_bind_ok g1]
    dsimp only
    rw [run_bind_ok (hz w), run_bind_ok (run_setObj hb _)]
    rfl
  · have hje : es[j]? = some e := by rw [← Array.getElem?_toList]; exact g1
    have hmod : es.modify j (fun e => { e with key := kv x }) = es := by
      apply Array.ext
      · simp
      · intro l hl1 hl2
        rw [Array.getElem_modify]
        split
        · rename_i e1
          subst e1
          have : es[j] = e := by rw [Array.getElem?_eq_getElem hl2] at hje; simpa using hje
          rw [this]
          cases e
          simp at g2
          simp [g2]
        · rfl
    have f1 := fr_setObj w b (.map es c)
    obtain ⟨w2, hr, f2, _, hg⟩ := GSet.store (P := P) (T := T) (s := s) (w := { w with heap := w.heap.setIfInBounds b (.map es c) }) (b := b) (by simp [hlt]) hje x g2 (fun e' he' => .inr (h1 e' he')) h2 h3 h4
    refine ⟨e.val, e.born, _, w2, ?_, f1, hr, f2, hg⟩
    unfold Instr.mapEntry
    rw [run_bind_ok (run_underlying hT w)]
    dsimp only
    rw [run_bind_ok (getObj_map hb)]
    dsimp only
    rw [run_bind_ok (hK.chk false w x), run_bind_ok g3]
    dsimp only
    have e3 : ((es[j]?).map (·.key)).getD (kv x) = kv x := by simp [hje, g2]
    rw [run_bind_ok (a := kv x) (w' := w) (by rw [e3]; unfold Instr.keyThatStays; rw [hK.bits]; simp), hmod, run_bind_ok (run_setObj hb _)]
    simp [hje, goInt]
end
end Go.Topo
