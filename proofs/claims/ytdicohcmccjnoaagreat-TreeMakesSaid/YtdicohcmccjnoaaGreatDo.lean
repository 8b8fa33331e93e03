/- A list of calls; Do; Few; awake. Conditions: none. -/
import Derived.Test.YtdicohcmccjnoaaGreatSa
namespace Go.Topo
structure Opr where
  kind : Int
  dir : Int
  dest : Int
  name : ByteArray
  new : ByteArray
  is : Bool
  short : Int
def RT.doOp (t : RT) (o : Opr) : RT × Int × Int :=
  if o.kind.tmod 3 = 0 then t.link o.dir o.name o.is o.short
  else if o.kind.tmod 3 = 1 then ((t.unlink o.dir o.name o.is).1, 0, (t.unlink o.dir o.name o.is).2)
  else ((t.move o.dir o.name o.dest o.new o.short).1, 0, (t.move o.dir o.name o.dest o.new o.short).2)

theorem doOp_next (t : RT) (o : Opr) : (t.doOp o).1.next ≤ t.next + 1 ∧ t.next ≤ (t.doOp o).1.next := by
  unfold RT.doOp
  split
  · unfold RT.link
    split
    · simp only; omega
    · split
      · simp only; omega
      · split
        · simp only; omega
        · split
          · simp only [RT.put]; omega
          · simp only; omega
  · split
    · unfold RT.unlink
      split
      · simp only; omega
      · split
        · simp only; omega
        · split
          · simp only; omega
          · split
            · simp only; omega
            · simp only [RT.drop]; omega
    · unfold RT.move
      split
      · simp only; omega
      · split
        · simp only; omega
        · split
          · simp only; omega
          · split
            · simp only; omega
            · split
              · simp only; omega
              · simp only [RT.put, RT.drop]; omega

/-- what goes wrong leaves a tree as it was -/
theorem doOp_err (t : RT) (o : Opr) (h : (t.doOp o).2.2 ≠ 0) : (t.doOp o).1 = t := by
  unfold RT.doOp at *
  split
  · rename_i h0
    rw [if_pos h0] at h
    unfold RT.link at *
    repeat' split
    all_goals first | rfl | skip
    all_goals simp_all
  · rename_i h0
    rw [if_neg h0] at h
    split
    · rename_i h1
      rw [if_pos h1] at h
      unfold RT.unlink at *
      repeat' split
      all_goals first | rfl | skip
      all_goals simp_all
    · rename_i h1
      rw [if_neg h1] at h
      unfold RT.move at *
      repeat' split
      all_goals first | rfl | skip
      all_goals simp_all
end Go.Topo

set_option maxRecDepth 10000
namespace Go.Proofs.Tryz
open Go Go.Eng Go.Topo
abbrev opC (o : Opr) : List Value := [.int .u8 o.kind, .int .i64 o.dir, .int .i64 o.dest, .string o.name, .string o.new, .bool o.is, .int .i64 o.short]
/-- a slice of calls, as it came in -/
def Opsl (w : World) (a : Option Addr) (n : Nat) (l : List Opr) : Prop :=
  n = l.length ∧ (n = 0 ∨ ∃ ad, a = some ad ∧ ∀ i o, l[i]? = some o → ∀ j v, (opC o)[j]? = some v → w.cell? ((ad.add (i * 7)).add j) = some v)
section
variable {w w' : World} {a : Option Addr} {n c : Nat} {l : List Opr}
theorem Opsl.len (h : Opsl w a n l) : n = l.length := h.1
theorem Opsl.fr (h : Opsl w a n l) (hf : Fr [] w w') : Opsl w' a n l :=
  ⟨h.1, h.2.imp id fun ⟨ad, ha, hc⟩ => ⟨ad, ha, fun i o ho j v hv => cell_fr hf (hc i o ho j v hv) (by simp)⟩⟩
theorem Opsl.at (h : Opsl w a n l) {i : Nat} {x : Opr} (hx : l[i]? = some x) : ∃ ad : Addr, a = some ad ∧ w.cell? (ad.add (i * 7)) = some (.int .u8 x.kind) ∧ ∀ j v, (opC x)[j]? = some v → w.cell? ((ad.add (i * 7)).add j) = some v := by
  have hl : i < l.length := (List.getElem?_eq_some_iff.1 hx).1
  rcases h.2 with h0 | ⟨ad, ha, hc⟩
  · have := h.1; omega
  · refine ⟨ad, ha, ?_, hc i x hx⟩
    have := hc i x hx 0 _ rfl
    rwa [Addr.add_zero'] at this
end

/-- Do -/
theorem k_Do {w : World} {tb : Nat} {F X : List Nat} {t : RT} (h : TreeAt w tb F X t) (hX : ∀ i ∈ X, i < w.heap.size) (hnext : t.next < 9223372036854775807) (o : Opr) :
    Calls prog 16 #[.pointer (some ⟨tb, 0, none⟩), .agg (opC o).toArray] w fun e w' =>
      e = .returned (.tuple #[.int .i64 (t.doOp o).2.1, .int .i64 (t.doOp o).2.2]) ∧ ∃ F', TreeAt w' tb F' X (t.doOp o).1 ∧ (∀ i ∈ F', i ∈ F ∨ w.heap.size ≤ i) ∧ Fr F w w' := by
  refine c16 _ _ _ _ _ _ _ _ _ _ (withR (X := N16 _ _ _ _ _ _ _ _ _) ?_)
  intro R hR
  unfold N16
  rintro w1 rfl
  have f1 := Fr.alloc w (.cells (opC o).toArray 35)
  have b1 := Blk.new w (opC o) 35
  have h1 := h.fr0 f1
  have hX1 : ∀ i ∈ X, i < (w.alloc (.cells (opC o).toArray 35)).heap.size := fun i hi => Nat.lt_of_lt_of_le (hX i hi) f1.1
  refine ⟨o.kind, b1.cell 0, ?_⟩
  by_cases k0 : o.kind.tmod 3 = 0
  · have hd : t.doOp o = t.link o.dir o.name o.is o.short := by unfold RT.doOp; rw [if_pos k0]
    rw [hd] at hR
    rw [beq_iff_eq.2 k0, cond_true]
    refine ⟨_, b1.cell 1, _, b1.cell 3, _, b1.cell 5, _, b1.cell 6, ?_⟩
    refine Calls.mono (k_Link h1 hX1 hnext o.dir o.name o.is o.short) ?_
    rintro _ w2 ⟨rfl, h2, f2⟩
    exact ⟨_, _, rfl, hR _ _ ⟨rfl, F, h2, fun _ hi => .inl hi, (Fr.of_nil f1).trans f2⟩⟩
  · rw [beq_eq_false_iff_ne.2 k0, cond_false]
    by_cases k1 : o.kind.tmod 3 = 1
    · have hd : t.doOp o = ((t.unlink o.dir o.name o.is).1, 0, (t.unlink o.dir o.name o.is).2) := by unfold RT.doOp; rw [if_neg k0, if_pos k1]
      rw [hd] at hR
      rw [beq_iff_eq.2 k1, cond_true]
      refine ⟨_, b1.cell 1, _, b1.cell 3, _, b1.cell 5, ?_⟩
      refine Calls.mono (k_Unlink h1 hX1 o.dir o.name o.is) ?_
      rintro _ w2 ⟨rfl, F', h2, hext, f2⟩
      refine ⟨_, rfl, hR _ _ ⟨rfl, F', h2, fun i hi => (hext i hi).imp id (fun hle => Nat.le_trans f1.1 hle), (Fr.of_nil f1).trans f2⟩⟩
    · have hd : t.doOp o = ((t.move o.dir o.name o.dest o.new o.short).1, 0, (t.move o.dir o.name o.dest o.new o.short).2) := by unfold RT.doOp; rw [if_neg k0, if_neg k1]
      rw [hd] at hR
      rw [beq_eq_false_iff_ne.2 k1, cond_false]
      refine ⟨_, b1.cell 1, _, b1.cell 3, _, b1.cell 2, _, b1.cell 4, _, b1.cell 6, ?_⟩
      refine Calls.mono (k_Move h1 hX1 hnext o.dir o.name o.dest o.new o.short) ?_
      rintro _ w2 ⟨rfl, h2, f2⟩
      exact ⟨_, rfl, hR _ _ ⟨rfl, F, h2, fun _ hi => .inl hi, (Fr.of_nil f1).trans f2⟩⟩

/-- Few -/
theorem k_Few (l : List Opr) (a : Option Addr) (n c : Nat) (m : Int) (w : World) (he : Opsl w a n l) :
    Calls prog 12 #[.slice a n c, .int .i64 m] w fun e w' => (∃ b, e = .returned (.bool b) ∧ (b = true → (n : Int) ≤ m ∧ (n ≤ 500 → ∀ o ∈ l, o.name.size ≤ 400 ∧ o.new.size ≤ 400))) ∧ w = w' := by
  refine c12 _ _ _ _ _ _ (withR (X := N12 _ _ _ _ _) ?_)
  intro R hR
  unfold N12
  have hlen := he.len
  have no : R (.returned (.bool false)) w := hR _ _ ⟨⟨_, rfl, by simp⟩, rfl⟩
  have yes : (n ≤ 500 → ∀ o ∈ l, o.name.size ≤ 400 ∧ o.new.size ≤ 400) → R (.returned (.bool (decide (((n : Nat) : Int) ≤ m)))) w := fun h => hR _ _ ⟨⟨_, rfl, fun e => ⟨by simpa using e, h⟩⟩, rfl⟩
  refine lp12_0 _ _ _ _ (fun q i W => ∃ k : Nat, i = k ∧ k ≤ n ∧ q = n - k ∧ w = W ∧ ∀ o ∈ l.take k, o.name.size ≤ 400 ∧ o.new.size ≤ 400) _ ?_ n 0 w ⟨0, rfl, by omega, by omega, rfl, by simp⟩ _
  rintro q _ ds W ⟨k, rfl, hk, rfl, rfl, hp⟩
  unfold B12_0
  by_cases hkn : k < n
  · rw [decide_eq_true (by omega), cond_true]
    by_cases h500 : ((k : Nat) : Int) < 500
    · rw [decide_eq_true h500, cond_true]
      obtain ⟨x, hx⟩ : ∃ x, l[k]? = some x := ⟨l[k]'(by omega), List.getElem?_eq_getElem _⟩
      obtain ⟨ad, rfl, _, hc⟩ := he.at hx
      simp only [optW, Int.toNat_natCast]
      refine ⟨⟨by omega, by omega⟩, x.name, hc 3 _ rfl, ?_⟩
      by_cases g1 : ((x.name.size : Nat) : Int) > 400
      · rw [decide_eq_true g1, cond_true]; exact no
      · rw [decide_eq_false g1, cond_false]
        refine ⟨⟨by omega, by omega⟩, x.new, hc 4 _ rfl, ?_⟩
        by_cases g2 : ((x.new.size : Nat) : Int) > 400
        · rw [decide_eq_true g2, cond_true]; exact no
        · rw [decide_eq_false g2, cond_false]
          refine ⟨_, rfl, n - (k + 1), by omega, k + 1, ?_, by omega, rfl, trivial, ?_⟩
          · rw [wr (by omega) (by omega)]; simp
          · rw [List.take_add_one, hx]
            intro o ho
            rcases List.mem_append.1 ho with h' | h'
            · exact hp o h'
            · obtain rfl := List.mem_singleton.1 h'; exact ⟨by omega, by omega⟩
    · rw [decide_eq_false h500, cond_false]
      exact yes (fun h => by omega)
  · rw [decide_eq_false (by omega), cond_false]
    rw [List.take_of_length_le (by omega)] at hp
    exact yes (fun _ => hp)
end Go.Proofs.Tryz
