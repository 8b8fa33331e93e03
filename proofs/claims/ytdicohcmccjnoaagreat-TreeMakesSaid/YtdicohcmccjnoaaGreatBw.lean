/- below: whether a node is met below another. Conditions: none. -/
import Derived.Test.YtdicohcmccjnoaaGreatTm
import Derived.Test.YtdicohcmccjnoaaGreatPc
namespace Go.Proofs.Tryz
open Go Go.Eng Go.Topo
section
variable {w : World} {tb : Nat} {F X : List Nat} {D : Int → Option (List Ent)} {fl : Int → Bool} {out : Int → Prop} {next : Int}

abbrev walkV (c2 c3 c4 : Addr) : Value := .func (.func 164) #[] #[.pointer (some c2), .pointer (some c3), .pointer (some c4)]

theorem findIdx_any (p : Ent → Bool) (l : List Ent) : decide (fidx p l ≥ 0) = l.any p := by
  unfold fidx
  cases h : l.findIdx? p with
  | none =>
    rw [List.findIdx?_eq_none_iff] at h
    have : l.any p = false := by
      rw [List.any_eq_false]
      intro x hx; simp [h x hx]
    rw [this]; rfl
  | some i =>
    rw [List.findIdx?_eq_some_iff_getElem] at h
    obtain ⟨hi, hp, _⟩ := h
    have : l.any p = true := List.any_eq_true.2 ⟨_, List.getElem_mem hi, hp⟩
    rw [this]
    simp

theorem k_walk (h : TMem w tb F X D fl out next) (node : Int) (c2 c3 c4 : Addr) (g2 : w.cell? c2 = some (.int .i64 node)) (g3 : w.cell? c3 = some (.pointer (some ⟨tb, 0, none⟩))) (g4 : w.cell? c4 = some (walkV c2 c3 c4))
    (ρ : Int → Nat) (hρ : ∀ n, ∀ x ∈ (D n).getD [], ρ x.node < ρ n) : ∀ (k : Nat) (at_ : Int), ρ at_ < k → ∀ W, Fr [] w W →
    Calls prog 164 #[.int .i64 at_, .pointer (some c2), .pointer (some c3), .pointer (some c4)] W fun e W' => e = .returned (.bool (reachB D node at_)) ∧ Fr [] W W' := by
  intro k
  induction k with
  | zero => intro at_ hk; omega
  | succ k ih =>
    intro at_ hk W hW
    refine c164 _ _ _ _ _ _ (withR (X := N164 _ _ _ _ _) ?_)
    intro R hR
    unfold N164
    have q2 := cell_fr hW g2 (by simp)
    have q3 := cell_fr hW g3 (by simp)
    refine ⟨node, q2, ?_⟩
    by_cases he : at_ = node
    · subst he
      rw [beq_self_eq_true, cond_true]
      exact hR _ _ ⟨by rw [reachB_iff.2 .here], Fr.refl ..⟩
    · rw [beq_eq_false_iff_ne.2 he, cond_false]
      obtain ⟨db, fb, pb, PF, dm, fm, rfl, hw⟩ := id (h.fr0 hW)
      obtain ⟨a, c, hents, hlen, hlk, _⟩ := hw.look at_
      have hlook := lookup_dirs hw.dmap at_ false
      rw [hlk] at hlook
      refine ⟨_, q3, ?_⟩
      simp only [optW]
      refine ⟨some db, hw.blk.cell 0, _, _, _, hlook, ?_⟩
      refine c165 _ _ _ _ _ _ _ ?_
      unfold N165
      have he0 : Ents W [] a ((D at_).getD []).length ((D at_).getD []) := hents.ext (by simp)
      refine Calls.mono (k_IndexFunc 166 #[.pointer (some c4)] (by kernel_rfl) (fun x => reachB D node x.node) _ a _ c W he0 (by omega) ?_) ?_
      · intro x hx V hV
        have := c166 x.name x.node x.dir x.cookie x.short c4 V (fun e V' => e = .returned (.bool (reachB D node x.node)) ∧ Fr [] V V') ?_
        · exact this
        · unfold N166
          rintro V1 rfl
          have hV1 := Fr.alloc V (.cells #[.string x.name, .int .i64 x.node, .bool x.dir, .int .i64 x.cookie, .int .i64 x.short] 117)
          have hwV := (hW.trans hV).trans hV1
          refine ⟨_, _, _, cell_fr hwV g4 (by simp), _, cell_alloc_new V _ _ 1, ?_⟩
          rw [show entersB prog 164 = true from by kernel_rfl, cond_true]
          refine Calls.mono (ih x.node (by have := hρ at_ x hx; omega) _ hwV) ?_
          rintro _ V2 ⟨rfl, hV2⟩
          exact ⟨_, rfl, rfl, hV1.trans hV2⟩
      · rintro _ V ⟨rfl, hV⟩
        exact ⟨_, rfl, _, rfl, hR _ _ ⟨congrArg (fun b => Ending.returned (.bool b)) ((findIdx_any _ _).trans (reachB_eq he).symm), hV⟩⟩

/-- below -/
theorem k_below (h : TMem w tb F X D fl out next) (node top : Int) (ρ : Int → Nat) (hρ : ∀ n, ∀ x ∈ (D n).getD [], ρ x.node < ρ n) :
    Calls prog 120 #[.pointer (some ⟨tb, 0, none⟩), .int .i64 node, .int .i64 top] w fun e w' => e = .returned (.bool (reachB D node top)) ∧ Fr [] w w' := by
  refine c120 _ _ _ _ _ (withR (X := N120 _ _ _ _) ?_)
  intro R hR
  unfold N120
  rintro w1 rfl
  rintro w2 rfl
  rintro w3 rfl
  have f1 := Fr.alloc w (.cells #[.pointer (some ⟨tb, 0, none⟩)] 25)
  have b1 := Blk.new w [.pointer (some ⟨tb, 0, none⟩)] 25
  generalize e1 : w.alloc (.cells #[.pointer (some ⟨tb, 0, none⟩)] 25) = w1 at *
  have f2 := Fr.alloc w1 (.cells #[.int .i64 node] 3)
  have b2 := Blk.new w1 [.int .i64 node] 3
  generalize e2 : w1.alloc (.cells #[.int .i64 node] 3) = w2 at *
  have f3 := Fr.alloc w2 (.cells #[.nilFunc] 211)
  have b3 := Blk.new w2 [.nilFunc] 211
  generalize e3 : w2.alloc (.cells #[.nilFunc] 211) = w3 at *
  refine ⟨⟨_, b3.cell 0⟩, b3.frozen 0, ?_⟩
  rintro w4 rfl
  have f4 := Fr.setCell w3 ⟨w2.heap.size, 0, none⟩ (walkV ⟨w1.heap.size, 0, none⟩ ⟨w.heap.size, 0, none⟩ ⟨w2.heap.size, 0, none⟩)
  have b4 := b3.set 0 (walkV ⟨w1.heap.size, 0, none⟩ ⟨w.heap.size, 0, none⟩ ⟨w2.heap.size, 0, none⟩)
  have s1 := f1.1
  have s2 := f2.1
  have l1 := b1.lt
  have l2 := b2.lt
  have f34 : Fr [] w _ := ((f1.trans f2).trans f3).trans' f4 (by intro i hi; simp at hi; right; omega)
  have h4 := h.fr0 f34
  have q2 : Blk _ w1.heap.size [.int .i64 node] := (b2.fr f3 (by simp)).fr f4 (by simp; omega)
  have q3 : Blk _ w.heap.size [.pointer (some ⟨tb, 0, none⟩)] := ((b1.fr f2 (by simp)).fr f3 (by simp)).fr f4 (by simp; omega)
  refine ⟨_, _, _, b4.cell 0, ?_⟩
  rw [show entersB prog 164 = true from by kernel_rfl, cond_true]
  refine Calls.mono (k_walk h4 node _ _ _ (q2.cell 0) (q3.cell 0) (b4.cell 0) ρ hρ (ρ top + 1) top (by omega) _ (Fr.refl ..)) ?_
  rintro _ w5 ⟨rfl, hf⟩
  exact ⟨_, rfl, hR _ _ ⟨rfl, f34.trans hf⟩⟩
end
end Go.Proofs.Tryz
