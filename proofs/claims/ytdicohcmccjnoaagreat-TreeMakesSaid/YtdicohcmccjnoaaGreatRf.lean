/- The chapter's own tree: kind, List, Find, put, drop, Good, bad, above, Dirs. Conditions: none. -/
import Derived.Test.YtdicohcmccjnoaaGreatSa
namespace Go.Proofs.Tryz
open Go Go.Eng Go.Topo

def entE : Rec Ent := ⟨5, entC, by decide, fun _ => rfl, fun x u hu => flat_one [x] u (by simpa [flat] using hu)⟩
abbrev itC (x : Int × Ent) : List Value := .int .i64 x.1 :: entC x.2
def itE : Rec (Int × Ent) := ⟨6, itC, by decide, fun _ => rfl, fun x u hu => by
  rcases List.mem_cons.1 hu with rfl | h
  · rfl
  · exact entE.one x.2 u h⟩
theorem T_items : ElemT prog 27 148 itE.k := .of (by kernel_rfl) (by kernel_rfl)
theorem T_entries : ElemT prog 49 117 entE.k := .of (by kernel_rfl) (by kernel_rfl)
theorem T_ints : ElemT prog 54 3 1 := .of (by kernel_rfl) (by kernel_rfl)
def intE : Rec Int := ⟨1, fun x => [intC x], by decide, fun _ => rfl, fun x u hu => by
  obtain rfl := List.mem_singleton.1 hu; rfl⟩
theorem intE_flat (l : List Int) : intE.flat l = l.map intC := by
  induction l with
  | nil => rfl
  | cons x r ih => simp only [Rec.flat, List.flatMap_cons, List.map_cons] at *; rw [ih]; rfl
theorem OwnR.ownI {w : World} {lo n c : Nat} {a : Option Addr} {l : List Int} (h : OwnR intE 3 w lo a n c l) : OwnI w lo a n c l := by
  have h' : Own w lo 3 1 a n c (intE.flat l) := h
  rw [intE_flat] at h'
  exact h'
theorem OwnI.ownR {w : World} {lo n c : Nat} {a : Option Addr} {l : List Int} (h : OwnI w lo a n c l) : OwnR intE 3 w lo a n c l := by
  show Own w lo 3 1 a n c (intE.flat l)
  rw [intE_flat]
  exact h

/-- two cells are set -/
theorem set2 {w : World} {b : Nat} {c0 c1 : Value} (h : Blk w b [c0, c1]) (x0 x1 : Value) (K : World → Prop) (hk : ∀ w', Blk w' b [x0, x1] → Fr [b] w w' → K w') :
    (∃ u, w.cell? ⟨b, 0, none⟩ = some u) ∧ w.frozen? ⟨b, 0, none⟩ = false ∧ ∀ w1, w1 = w.setCell ⟨b, 0, none⟩ x0 →
    (∃ u, w1.cell? ⟨b, 1, none⟩ = some u) ∧ w1.frozen? ⟨b, 1, none⟩ = false ∧ ∀ w2, w2 = w1.setCell ⟨b, 1, none⟩ x1 → K w2 := by
  refine ⟨⟨_, h.cell 0⟩, h.frozen 0, ?_⟩
  rintro _ rfl
  have h1 := h.set 0 x0
  refine ⟨⟨_, h1.cell 1⟩, h1.frozen 1, ?_⟩
  rintro _ rfl
  exact hk _ (h1.set 1 x1) ((Fr.setCell' w b 0 0 x0).trans (Fr.setCell' _ b 0 1 x1))

/-- a list of items, as the chapter's tree has it -/
abbrev Its (w : World) (a : Option Addr) (n : Nat) (L : Items) : Prop := Recs itE w [] a n L
theorem Its.at {w : World} {a : Option Addr} {n : Nat} {L : Items} (h : Its w a n L) {i : Nat} {x : Int × Ent} (hx : L[i]? = some x) : ∃ b off, a = some ⟨b, off, none⟩ ∧ ∀ j v, (itC x)[j]? = some v → w.cell? ⟨b, off + i * 6 + j, none⟩ = some v := h.cell hx

theorem take_snoc {α : Type} {l : List α} {k : Nat} {x : α} (h : l[k]? = some x) : l.take (k + 1) = l.take k ++ [x] := by rw [List.take_add_one, h]; rfl

theorem kind_at {L : Items} {d : Int} {k : Nat} {x : Int × Ent} (h0 : d ≠ 0) (hx : L[k]? = some x) (hp : ∀ y ∈ L.take k, y.2.node ≠ d) (hd : x.2.node = d) : kindOf L d = if x.2.dir then 2 else 1 := by
  have hl : k < L.length := (List.getElem?_eq_some_iff.1 hx).1
  have hf : L.find? (fun y => y.2.node == d) = some x := by
    rw [← List.take_append_drop k L, List.find?_append]
    have : (L.take k).find? (fun y => y.2.node == d) = none := by
      rw [List.find?_eq_none]; intro y hy; simpa using hp y hy
    rw [this, List.drop_eq_getElem_cons hl, (List.getElem?_eq_some_iff.1 hx).2, List.find?_cons]
    simp [hd]
  unfold kindOf
  rw [if_neg h0, hf]
theorem kind_none {L : Items} {d : Int} (h0 : d ≠ 0) (hp : ∀ y ∈ L, y.2.node ≠ d) : kindOf L d = 0 := (kindOf_zero_iff L d).2 ⟨h0, hp⟩
theorem pre_step {L : Items} {k : Nat} {x : Int × Ent} {d : Int} (hx : L[k]? = some x) (hp : ∀ y ∈ L.take k, y.2.node ≠ d) (hd : x.2.node ≠ d) : ∀ y ∈ L.take (k + 1), y.2.node ≠ d := by
  rw [take_snoc hx]
  intro y hy
  rcases List.mem_append.1 hy with h | h
  · exact hp y h
  · obtain rfl := List.mem_singleton.1 h; exact hd

section
variable {w : World} {a : Option Addr} {n c : Nat} {L : Items} {t : RT}

/-- kind -/
theorem k_rkind (h : Its w a n L) (hn : n ≤ 1048576) (nx d : Int) : Calls prog 123 #[.agg #[.slice a n c, .int .i64 nx], .int .i64 d] w fun e w' => e = .returned (.int .i64 (kindOf L d)) ∧ Fr [] w w' := by
  refine c123 _ _ _ _ _ _ _ (withR (X := N123 _ _ _ _ _ _) ?_)
  intro R hR
  unfold N123
  rintro w1 rfl
  have f1 := Fr.alloc w (.cells #[.slice a n c, .int .i64 nx] 29)
  have b1 := Blk.new w [.slice a n c, .int .i64 nx] 29
  have hlen := h.len
  by_cases h0 : d = 0
  · rw [beq_iff_eq.2 h0, cond_true]
    exact hR _ _ ⟨by subst h0; simp [kindOf], f1⟩
  · rw [beq_eq_false_iff_ne.2 h0, cond_false]
    refine lp123_0 _ _ (fun m i W => ∃ k : Nat, i = k ∧ k ≤ n ∧ m = n - k ∧ Fr [] (w.alloc (.cells #[.slice a n c, .int .i64 nx] 29)) W ∧ ∀ y ∈ L.take k, y.2.node ≠ d) R ?_ n 0 _ ⟨0, rfl, by omega, by omega, Fr.refl .., by simp⟩ _
    rintro m _ ds W ⟨k, rfl, hk, rfl, hf, hp⟩
    unfold B123_0
    have b2 := b1.fr hf (by simp)
    have c0 : W.cell? ⟨w.heap.size, 0, none⟩ = some (.slice a n c) := b2.cell 0
    have fW := f1.trans hf
    refine ⟨a, n, c, c0, ?_⟩
    by_cases hkn : k < n
    · rw [decide_eq_true (by omega), cond_true]
      obtain ⟨x, hx⟩ : ∃ x, L[k]? = some x := ⟨L[k]'(by omega), List.getElem?_eq_getElem _⟩
      obtain ⟨b, off, rfl, hc⟩ := Its.at (h.fr0 fW) hx
      refine ⟨_, n, c, c0, ?_⟩
      simp only [optW, Addr.add_lit, Int.toNat_natCast]
      refine ⟨⟨by omega, by omega⟩, _, hc 2 _ rfl, ?_⟩
      by_cases hd : x.2.node = d
      · rw [beq_iff_eq.2 hd, cond_true]
        refine ⟨_, n, c, c0, ?_⟩
        simp only [optW, Addr.add_lit, Int.toNat_natCast]
        refine ⟨⟨by omega, by omega⟩, _, hc 3 _ rfl, ?_⟩
        have hkd := kind_at h0 hx hp hd
        cases hdir : x.2.dir with
        | true => rw [cond_true]; exact hR _ _ ⟨by rw [hkd, hdir]; rfl, fW⟩
        | false =>
          rw [cond_false]
          refine ⟨_, n, c, c0, ?_⟩
          simp only [optW, Addr.add_lit, Int.toNat_natCast]
          refine ⟨⟨by omega, by omega⟩, _, hc 2 _ rfl, ?_⟩
          rw [beq_iff_eq.2 hd, cond_true]
          exact hR _ _ ⟨by rw [hkd, hdir]; rfl, fW⟩
      · rw [beq_eq_false_iff_ne.2 hd, cond_false]
        refine ⟨_, n, c, c0, ?_⟩
        simp only [optW, Addr.add_lit, Int.toNat_natCast]
        refine ⟨⟨by omega, by omega⟩, _, hc 2 _ rfl, ?_⟩
        rw [beq_eq_false_iff_ne.2 hd, cond_false]
        refine ⟨_, rfl, n - (k + 1), by omega, k + 1, ?_, by omega, rfl, hf, pre_step hx hp hd⟩
        rw [wr (by omega) (by omega)]; simp
    · rw [decide_eq_false (by omega), cond_false]
      refine hR _ _ ⟨?_, fW⟩
      rw [List.take_of_length_le (by omega)] at hp
      rw [kind_none h0 hp]

/-- List -/
theorem k_rList (h : Its w a n t.L) (hI : Go.Topo.Inv t) (nx d : Int) : Calls prog 68 #[.agg #[.slice a n c, .int .i64 nx], .int .i64 d] w fun e w' =>
    ∃ a' c', e = .returned (.tuple #[.slice a' (entsOf t.L d).length c', .int .i64 (listErr t.L d)]) ∧ OwnR entE 117 w' w.heap.size a' (entsOf t.L d).length c' (entsOf t.L d) ∧ Fr [] w w' := by
  refine c68 _ _ _ _ _ _ _ (withR (X := N68 _ _ _ _ _ _) ?_)
  intro R hR
  unfold N68
  have hlen := h.len
  have hsm := len_small hI
  rintro w1 rfl
  have f1 := Fr.alloc w (.cells #[.slice a n c, .int .i64 nx] 29)
  have b1 := Blk.new w [.slice a n c, .int .i64 nx] 29
  refine ⟨_, _, _, b1.cell 0, _, b1.cell 1, ?_⟩
  refine Calls.mono (k_rkind (h.fr0 f1) (by omega) nx d) ?_
  rintro _ w2 ⟨rfl, f2⟩
  have f02 := f1.trans f2
  refine ⟨_, rfl, ?_⟩
  have none_ : kindOf t.L d ≠ 2 → entsOf t.L d = [] := fun hk => entsOf_of_kind hI hk
  by_cases k0 : kindOf t.L d = 0
  · rw [beq_iff_eq.2 k0, cond_true]
    refine hR _ _ ⟨none, 0, ?_, ?_, f02⟩
    · rw [none_ (by omega)]; simp [listErr, k0]
    · rw [none_ (by omega)]; exact OwnR.nil ..
  · rw [beq_eq_false_iff_ne.2 k0, cond_false]
    by_cases k1 : kindOf t.L d = 1
    · rw [beq_iff_eq.2 k1, cond_true]
      refine hR _ _ ⟨none, 0, ?_, ?_, f02⟩
      · rw [none_ (by omega)]; simp [listErr, k1]
      · rw [none_ (by omega)]; exact OwnR.nil ..
    · rw [beq_eq_false_iff_ne.2 k1, cond_false]
      have k2 : kindOf t.L d = 2 := by rcases kindOf_cases t.L d with h | h | h <;> omega
      have herr : listErr t.L d = 0 := by simp [listErr, k2]
      refine lp68_0 _ _ (fun m oa on oc i W => ∃ k : Nat, i = k ∧ k ≤ n ∧ m = n - k ∧ on = (entsOf (t.L.take k) d).length ∧ OwnR entE 117 W w2.heap.size oa on oc (entsOf (t.L.take k) d) ∧ Fr [] w W ∧ Fr [] w2 W) R ?_ n _ _ _ _ w2
        ⟨0, rfl, by omega, by omega, by simp [entsOf], by simp [entsOf]; exact OwnR.nil .., f02, Fr.refl ..⟩ _
      rintro m oa on oc _ ds W ⟨k, rfl, hk, rfl, hon, ho, fW, f2W⟩
      unfold B68_0
      have b2 := (b1.fr f2 (by simp)).fr f2W (by simp)
      have c0 : W.cell? ⟨w.heap.size, 0, none⟩ = some (.slice a n c) := b2.cell 0
      have hle : (entsOf (t.L.take k) d).length ≤ k := by
        unfold entsOf; rw [List.length_map]; exact Nat.le_trans (List.length_filter_le _ _) (by rw [List.length_take]; omega)
      refine ⟨a, n, c, c0, ?_⟩
      by_cases hkn : k < n
      · rw [decide_eq_true (by omega), cond_true]
        obtain ⟨x, hx⟩ : ∃ x, t.L[k]? = some x := ⟨t.L[k]'(by omega), List.getElem?_eq_getElem _⟩
        obtain ⟨b, off, rfl, hc⟩ := Its.at (h.fr0 fW) hx
        refine ⟨_, n, c, c0, ?_⟩
        simp only [optW, Addr.add_lit, Int.toNat_natCast]
        refine ⟨⟨by omega, by omega⟩, _, hc 0 _ rfl, ?_⟩
        have hst : entsOf (t.L.take (k + 1)) d = entsOf (t.L.take k) d ++ (if x.1 = d then [x.2] else []) := by
          rw [take_snoc hx]
          have := entsOf_append (t.L.take k) x.1 x.2 d
          rw [this]; split <;> simp
        by_cases hd : x.1 = d
        · rw [beq_iff_eq.2 hd, cond_true]
          rw [if_pos hd] at hst
          refine ⟨_, n, c, c0, ?_⟩
          simp only [optW, Addr.add_lit, Int.toNat_natCast]
          refine ⟨⟨by omega, by omega⟩, _, hc 1 _ rfl, _, hc 2 _ rfl, _, hc 3 _ rfl, _, hc 4 _ rfl, _, hc 5 _ rfl, ?_⟩
          rintro w3 rfl
          obtain ⟨b', d', w4, hr4, ho4, f4, hbl⟩ := OwnR.push T_entries ho f2W.1 x.2 49 117 (by omega)
          refine ⟨b', _, d', w4, hr4, _, _, _, _, rfl, n - (k + 1), by omega, k + 1, ?_, by omega, rfl, by rw [hst]; simp; omega, by rw [hst]; exact ho4, ?_, ?_⟩
          · rw [wr (by omega) (by omega)]; simp
          · exact fW.trans' f4 (fun i hi => .inr (Nat.le_trans f02.1 (ho.blk i hi).1))
          · exact f2W.trans' f4 (fun i hi => .inr (ho.blk i hi).1)
        · rw [beq_eq_false_iff_ne.2 hd, cond_false]
          rw [if_neg hd, List.append_nil] at hst
          refine ⟨_, _, _, _, rfl, n - (k + 1), by omega, k + 1, ?_, by omega, rfl, by rw [hst]; exact hon, by rw [hst]; exact ho, fW, f2W⟩
          rw [wr (by omega) (by omega)]; simp
      · rw [decide_eq_false (by omega), cond_false]
        rw [List.take_of_length_le (by omega)] at ho hon
        subst hon
        exact hR _ _ ⟨oa, oc, by rw [herr], ho.mono f02.1, fW⟩
end
end Go.Proofs.Tryz
