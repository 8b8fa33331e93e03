/- Deeds: which have bytes, their bytes, what they do. Conditions: none. -/
import Derived.Test.YtdicohcmccjnoaaGreatAk
import Derived.Test.YtdicohcmccjnoaaGreatBy
import Derived.Test.YtdicohcmccjnoaaGreatFd
set_option maxRecDepth 10000
namespace Go.Topo
open Go

/-- a deed that has bytes -/
def DForm (d : Opr) : Prop := 0 ≤ d.dir ∧ d.dir ≤ 65535 ∧ 0 ≤ d.dest ∧ d.dest ≤ 65535 ∧ d.name.size ≤ 255 ∧ d.new.size ≤ 255 ∧ 0 ≤ d.short ∧ d.short ≤ 1000000 ∧
  ((d.kind = 1 ∧ d.dest = 0 ∧ d.new = ⟨#[]⟩) ∨ (d.kind = 2 ∧ d.dest = 0 ∧ d.new = ⟨#[]⟩ ∧ d.short = 0) ∨ (d.kind = 3 ∧ d.is = false))
instance (d : Opr) : Decidable (DForm d) := by unfold DForm; infer_instance
def dformB (d : Opr) : Bool := decide (DForm d)
theorem dformB_iff {d : Opr} : dformB d = true ↔ DForm d := decide_eq_true_iff

/-- a number's bytes, the most significant first -/
def numB (v : Int) : Nat → List UInt8
  | 0 => []
  | k + 1 => u8 (v.fdiv (2 ^ (8 * k))) :: numB v k
theorem numB_length (v : Int) (k : Nat) : (numB v k).length = k := by
  induction k with
  | zero => rfl
  | succ k ih => simp [numB, ih]
def nameB (s : ByteArray) : List UInt8 := u8 s.size :: s.data.toList
/-- a deed's bytes -/
def deedB (d : Opr) : List UInt8 :=
  (([u8 d.kind] ++ numB d.dir 2) ++ nameB d.name) ++ (if d.kind = 3 then numB d.dest 2 ++ nameB d.new else if d.is then [1] else [0]) ++ (if d.kind = 2 then [] else numB d.short 4)

/-- the tree's call of a deed -/
def callOf (d : Opr) : Opr := { d with kind := d.kind - 1 }
theorem cond_cases {b : Bool} {X Y : Prop} (h1 : b = true → X) (h2 : b = false → Y) : cond b X Y := by cases b; exact h2 rfl; exact h1 rfl
end Go.Topo

namespace Go.Proofs.Tryz
open Go Go.Eng Go.Topo
abbrev ddC (o : Opr) : List Value := [.int .i64 o.kind, .int .i64 o.dir, .int .i64 o.dest, .string o.name, .string o.new, .bool o.is, .int .i64 o.short]
theorem T_bytes : ElemT prog 69 5 1 := .of (by kernel_rfl) (by kernel_rfl)
theorem u_bytes : prog.underlying 69 = some (.slice 5) := by kernel_rfl
theorem u_u8' : prog.underlying 5 = some (.int .u8) := by kernel_rfl
theorem u_str : prog.underlying 9 = some .string := by kernel_rfl
abbrev OwnB (w : World) (lo : Nat) (a : Option Addr) (n c : Nat) (l : List UInt8) : Prop := OwnR byteE 5 w lo a n c l

theorem k_formed (d : Opr) (w : World) : Calls prog 71 #[.agg (ddC d).toArray] w fun e w' => e = .returned (.bool (dformB d)) ∧ Fr [] w w' := by
  refine c71 _ _ _ _ _ _ _ _ _ (withR (X := N71 _ _ _ _ _ _ _ _) ?_)
  intro R hR
  unfold N71
  rintro w1 rfl
  have f1 := Fr.alloc w (.cells (ddC d).toArray 45)
  have b1 := Blk.new w (ddC d) 45
  have out : ∀ X : Bool, (X = true ↔ DForm d) → R (.returned (.bool X)) (w.alloc (.cells (ddC d).toArray 45)) := by
    intro X hX
    refine hR _ _ ⟨?_, f1⟩
    have : dformB d = X := by
      cases X with
      | true => exact dformB_iff.2 (hX.1 rfl)
      | false => cases h : dformB d; rfl; exact absurd (hX.2 (dformB_iff.1 h)) (by simp)
    rw [this]
  repeat' first
    | refine ⟨_, b1.cell 0, ?_⟩
    | refine ⟨_, b1.cell 1, ?_⟩
    | refine ⟨_, b1.cell 2, ?_⟩
    | refine ⟨_, b1.cell 3, ?_⟩
    | refine ⟨_, b1.cell 4, ?_⟩
    | refine ⟨_, b1.cell 5, ?_⟩
    | refine ⟨_, b1.cell 6, ?_⟩
    | (refine cond_cases (fun h => ?_) (fun h => ?_))
    | refine out _ ?_
  all_goals
    simp only [bytes_beq, decide_eq_true_eq, decide_eq_false_iff_not, beq_iff_eq, beq_eq_false_iff_ne, Bool.not_eq_true', Bool.not_eq_eq_eq_not, Bool.not_true, Bool.not_false, ne_eq] at *
    unfold DForm
    first
      | (constructor
         · intro h; cases h
         · rintro ⟨h1, h2, h3, h4, h5, h6, h7, h8, (⟨h9, h10, h11⟩ | ⟨h9, h10, h11, h12⟩ | ⟨h9, h10⟩)⟩ <;> first | omega | simp_all)
      | (constructor
         · intro h; simp_all; try omega
         · rintro ⟨h1, h2, h3, h4, h5, h6, h7, h8, (⟨h9, h10, h11⟩ | ⟨h9, h10, h11, h12⟩ | ⟨h9, h10⟩)⟩ <;> first | omega | simp_all)
theorem k_May11 (d : Opr) (w : World) : Calls prog 23 #[.agg (ddC d).toArray] w fun e w' => e = .returned (.bool (dformB d)) ∧ Fr [] w w' := by
  refine c23 _ _ _ _ _ _ _ _ _ (withR (X := N23 _ _ _ _ _ _ _ _) ?_)
  intro R hR
  unfold N23
  rintro w1 rfl
  have f1 := Fr.alloc w (.cells (ddC d).toArray 45)
  have b1 := Blk.new w (ddC d) 45
  have out : ∀ X : Bool, (X = true ↔ DForm d) → R (.returned (.bool X)) (w.alloc (.cells (ddC d).toArray 45)) := by
    intro X hX
    refine hR _ _ ⟨?_, f1⟩
    have : dformB d = X := by
      cases X with
      | true => exact dformB_iff.2 (hX.1 rfl)
      | false => cases h : dformB d; rfl; exact absurd (hX.2 (dformB_iff.1 h)) (by simp)
    rw [this]
  repeat' first
    | refine ⟨_, b1.cell 0, ?_⟩
    | refine ⟨_, b1.cell 1, ?_⟩
    | refine ⟨_, b1.cell 2, ?_⟩
    | refine ⟨_, b1.cell 3, ?_⟩
    | refine ⟨_, b1.cell 4, ?_⟩
    | refine ⟨_, b1.cell 5, ?_⟩
    | refine ⟨_, b1.cell 6, ?_⟩
    | (refine cond_cases (fun h => ?_) (fun h => ?_))
    | refine out _ ?_
  all_goals
    simp only [bytes_beq, decide_eq_true_eq, decide_eq_false_iff_not, beq_iff_eq, beq_eq_false_iff_ne, Bool.not_eq_true', Bool.not_eq_eq_eq_not, Bool.not_true, Bool.not_false, ne_eq] at *
    unfold DForm
    first
      | (constructor
         · intro h; cases h
         · rintro ⟨h1, h2, h3, h4, h5, h6, h7, h8, (⟨h9, h10, h11⟩ | ⟨h9, h10, h11, h12⟩ | ⟨h9, h10⟩)⟩ <;> first | omega | simp_all)
      | (constructor
         · intro h; simp_all; try omega
         · rintro ⟨h1, h2, h3, h4, h5, h6, h7, h8, (⟨h9, h10, h11⟩ | ⟨h9, h10, h11, h12⟩ | ⟨h9, h10⟩)⟩ <;> first | omega | simp_all)

/-- the tree's call of a deed -/
theorem k_Op11 (d : Opr) (hk : 1 ≤ d.kind ∧ d.kind ≤ 3) (w : World) : Calls prog 24 #[.agg (ddC d).toArray] w fun e w' => e = .returned (.agg (opC (callOf d)).toArray) ∧ Fr [] w w' := by
  refine c24 _ _ _ _ _ _ _ _ _ (withR (X := N24 _ _ _ _ _ _ _ _) ?_)
  intro R hR
  unfold N24
  rintro w1 rfl
  have f1 := Fr.alloc w (.cells (ddC d).toArray 45)
  have b1 := Blk.new w (ddC d) 45
  generalize hw1 : w.alloc (.cells (ddC d).toArray 45) = w1 at *
  rintro w2 rfl
  have f2 := Fr.alloc w1 (.cells #[(.int .u8 0), (.int .i64 0), (.int .i64 0), (.string ⟨#[]⟩), (.string ⟨#[]⟩), (.bool false), (.int .i64 0)] 35)
  have b2 := Blk.new w1 [(.int .u8 0), (.int .i64 0), (.int .i64 0), (.string ⟨#[]⟩), (.string ⟨#[]⟩), (.bool false), (.int .i64 0)] 35
  have b1 := b1.fr f2 (by simp)
  have f02 := f1.trans f2
  have hle := f1.1
  generalize w1.alloc (.cells #[(.int .u8 0), (.int .i64 0), (.int .i64 0), (.string ⟨#[]⟩), (.string ⟨#[]⟩), (.bool false), (.int .i64 0)] 35) = w2 at *
  refine ⟨_, b1.cell 0, _, b1.cell 1, _, b1.cell 2, _, b1.cell 3, _, b1.cell 4, _, b1.cell 5, _, b1.cell 6, ?_⟩
  have ek : IntKind.wrap .u8 (IntKind.wrap .i64 (d.kind - 1)) = d.kind - 1 := by
    rw [wr (by omega) (by omega), wrap_u8, u8_toNat]; omega
  rw [ek]
  refine ⟨⟨_, b2.cell 0⟩, b2.frozen 0, ?_⟩
  rintro _ rfl
  have h1 := b2.set 0 (.int .u8 (d.kind - 1))
  refine ⟨⟨_, h1.cell 1⟩, h1.frozen 1, ?_⟩
  rintro _ rfl
  have h2 := h1.set 1 (.int .i64 d.dir)
  refine ⟨⟨_, h2.cell 2⟩, h2.frozen 2, ?_⟩
  rintro _ rfl
  have h3 := h2.set 2 (.int .i64 d.dest)
  refine ⟨⟨_, h3.cell 3⟩, h3.frozen 3, ?_⟩
  rintro _ rfl
  have h4 := h3.set 3 (.string d.name)
  refine ⟨⟨_, h4.cell 4⟩, h4.frozen 4, ?_⟩
  rintro _ rfl
  have h5 := h4.set 4 (.string d.new)
  refine ⟨⟨_, h5.cell 5⟩, h5.frozen 5, ?_⟩
  rintro _ rfl
  have h6 := h5.set 5 (.bool d.is)
  refine ⟨⟨_, h6.cell 6⟩, h6.frozen 6, ?_⟩
  rintro _ rfl
  have h7 := h6.set 6 (.int .i64 d.short)
  refine ⟨_, h7.cell 0, _, h7.cell 1, _, h7.cell 2, _, h7.cell 3, _, h7.cell 4, _, h7.cell 5, _, h7.cell 6, ?_⟩
  refine hR _ _ ⟨rfl, f02.trans' ((((((((Fr.setCell' w2 w1.heap.size 0 0 _).trans (Fr.setCell' _ w1.heap.size 0 1 _)).trans (Fr.setCell' _ w1.heap.size 0 2 _)).trans (Fr.setCell' _ w1.heap.size 0 3 _)).trans (Fr.setCell' _ w1.heap.size 0 4 _)).trans (Fr.setCell' _ w1.heap.size 0 5 _)).trans (Fr.setCell' _ w1.heap.size 0 6 _))) ?_⟩
  intro i hi
  obtain rfl := List.mem_singleton.1 hi
  exact .inr hle

/-- a slice of deeds, as it came in -/
def Dsl (w : World) (a : Option Addr) (n : Nat) (l : List Opr) : Prop :=
  n = l.length ∧ (n = 0 ∨ ∃ ad, a = some ad ∧ ∀ i o, l[i]? = some o → ∀ j v, (ddC o)[j]? = some v → w.cell? ((ad.add (i * 7)).add j) = some v)
section
variable {w w' : World} {a : Option Addr} {n c lo : Nat} {l : List Opr}
theorem Dsl.len (h : Dsl w a n l) : n = l.length := h.1
theorem Dsl.fr (h : Dsl w a n l) (hf : Fr [] w w') : Dsl w' a n l :=
  ⟨h.1, h.2.imp id fun ⟨ad, ha, hc⟩ => ⟨ad, ha, fun i o ho j v hv => cell_fr hf (hc i o ho j v hv) (by simp)⟩⟩
theorem Dsl.at (h : Dsl w a n l) {i : Nat} {x : Opr} (hx : l[i]? = some x) : ∃ ad : Addr, a = some ad ∧ w.cell? (ad.add (i * 7)) = some (.int .i64 x.kind) ∧ ∀ j v, (ddC x)[j]? = some v → w.cell? ((ad.add (i * 7)).add j) = some v := by
  have hl : i < l.length := (List.getElem?_eq_some_iff.1 hx).1
  rcases h.2 with h0 | ⟨ad, ha, hc⟩
  · have := h.1; omega
  · refine ⟨ad, ha, ?_, hc i x hx⟩
    have := hc i x hx 0 _ rfl
    rwa [Addr.add_zero'] at this

/-- Few, of deeds -/
theorem k_Few11 (l : List Opr) (a : Option Addr) (n c : Nat) (m : Int) (w : World) (he : Dsl w a n l) :
    Calls prog 21 #[.slice a n c, .int .i64 m] w fun e w' => (∃ b, e = .returned (.bool b) ∧ (b = true → (n : Int) ≤ m ∧ (n ≤ 500 → ∀ o ∈ l, o.name.size ≤ 300 ∧ o.new.size ≤ 300))) ∧ w = w' := by
  refine c21 _ _ _ _ _ _ (withR (X := N21 _ _ _ _ _) ?_)
  intro R hR
  unfold N21
  have hlen := he.len
  have no : R (.returned (.bool false)) w := hR _ _ ⟨⟨_, rfl, by simp⟩, rfl⟩
  have yes : (n ≤ 500 → ∀ o ∈ l, o.name.size ≤ 300 ∧ o.new.size ≤ 300) → R (.returned (.bool (decide (((n : Nat) : Int) ≤ m)))) w := fun h => hR _ _ ⟨⟨_, rfl, fun e => ⟨by simpa using e, h⟩⟩, rfl⟩
  refine lp21_0 _ _ _ _ (fun q i W => ∃ k : Nat, i = k ∧ k ≤ n ∧ q = n - k ∧ w = W ∧ ∀ o ∈ l.take k, o.name.size ≤ 300 ∧ o.new.size ≤ 300) _ ?_ n 0 w ⟨0, rfl, by omega, by omega, rfl, by simp⟩ _
  rintro q _ ds W ⟨k, rfl, hk, rfl, rfl, hp⟩
  unfold B21_0
  by_cases hkn : k < n
  · rw [decide_eq_true (by omega), cond_true]
    by_cases h500 : ((k : Nat) : Int) < 500
    · rw [decide_eq_true h500, cond_true]
      obtain ⟨x, hx⟩ : ∃ x, l[k]? = some x := ⟨l[k]'(by omega), List.getElem?_eq_getElem _⟩
      obtain ⟨ad, rfl, _, hc⟩ := he.at hx
      simp only [optW, Int.toNat_natCast]
      refine ⟨⟨by omega, by omega⟩, x.name, hc 3 _ rfl, ?_⟩
      by_cases g1 : ((x.name.size : Nat) : Int) > 300
      · rw [decide_eq_true g1, cond_true]; exact no
      · rw [decide_eq_false g1, cond_false]
        refine ⟨⟨by omega, by omega⟩, x.new, hc 4 _ rfl, ?_⟩
        by_cases g2 : ((x.new.size : Nat) : Int) > 300
        · rw [decide_eq_true g2, cond_true]; exact no
        · rw [decide_eq_false g2, cond_false]
          refine ⟨_, rfl, n - (k + 1), by omega, k + 1, ?_, by omega, rfl, trivial, ?_⟩
          · rw [wr (by omega) (by omega)]; simp
          · rw [List.take_add_one, hx]
            intro o ho
            rcases List.mem_append.1 ho with h' | h'
            · exact hp o h'
            · obtain rfl := List.mem_singleton.1 h'; exact ⟨by omega, by omega⟩
    · rw [decide_eq_false h500, cond_false]
      exact yes (fun h => by omega)
  · rw [decide_eq_false (by omega), cond_false]
    rw [List.take_of_length_le (by omega)] at hp
    exact yes (fun _ => hp)

/-- a number is put behind bytes -/
theorem k_deedNumber {l : List UInt8} (h : OwnB w lo a n c l) (hlo : lo ≤ w.heap.size) (hn : n ≤ 8589934592) (v : Int) (k : Nat) (hk : 1 ≤ k ∧ k ≤ 8) :
    Calls prog 158 #[.slice a n c, .int .i64 v, .int .i64 k] w fun e w' => ∃ b d, e = .returned (.slice b (n + k) d) ∧ OwnB w' lo b (n + k) d (l ++ numB v k) ∧ Fr (blks a) w w' ∧ ∀ i ∈ blks b, i ∈ blks a ∨ w.heap.size ≤ i := by
  refine c158 _ _ _ _ _ _ _ (withR (X := N158 _ _ _ _ _ _) ?_)
  intro R hR
  unfold N158
  have e0 : IntKind.wrap .i64 (8 * IntKind.wrap .i64 ((k : Int) - 1)) = 8 * (k : Int) - 8 := by
    rw [wr (x := (k : Int) - 1) (by omega) (by omega), wr (by omega) (by omega)]; omega
  rw [e0]
  refine lp158_0 _ (fun m oa on oc i W => ∃ (j : Nat) (done : List UInt8), i = 8 * (j : Int) - 8 ∧ j ≤ k ∧ m = j ∧ on = n + (k - j) ∧ done ++ numB v j = numB v k ∧ OwnB W lo oa on oc (l ++ done) ∧ Fr (blks a) w W ∧ ∀ i ∈ blks oa, i ∈ blks a ∨ w.heap.size ≤ i) R ?_ k _ _ _ _ w
    ⟨k, [], rfl, by omega, rfl, by omega, rfl, by simpa using h, Fr.refl .., fun i hi => .inl hi⟩ _
  rintro m oa on oc _ ds W ⟨j, done, rfl, hj, rfl, rfl, hd, ho, hf, hb⟩
  unfold B158_0
  by_cases h0 : 1 ≤ m
  · obtain ⟨q, rfl⟩ : ∃ q, m = q + 1 := ⟨m - 1, by omega⟩
    rw [decide_eq_true (by omega), cond_true]
    refine ⟨by omega, ?_⟩
    have e1 : (8 * ((q + 1 : Nat) : Int) - 8).toNat = 8 * q := by omega
    have e2 : min (8 * q) (IntKind.bits .i64) = 8 * q := by
      have : IntKind.bits .i64 = 64 := rfl
      rw [this]; omega
    rw [e1, e2, byteC_u8]
    rintro W1 rfl
    obtain ⟨b', d', W2, hr2, ho2, f2, hbl⟩ := OwnR.push (E := byteE) T_bytes ho (Nat.le_trans hlo hf.1) (u8 (v.fdiv (2 ^ (8 * q)))) 69 5 (by omega)
    refine ⟨b', _, d', W2, hr2, _, _, _, _, rfl, q, by omega, q, done ++ [u8 (v.fdiv (2 ^ (8 * q)))], ?_, by omega, rfl, by omega, ?_, ?_, ?_, ?_⟩
    · rw [wr (by omega) (by omega)]; omega
    · rw [← hd]; simp [numB]
    · rw [← List.append_assoc]; exact ho2
    · refine hf.trans' f2 (fun i hi => hb i hi)
    · intro i hi
      rcases hbl i hi with h' | h'
      · exact hb i h'
      · right; exact Nat.le_trans hf.1 h'
  · obtain rfl : m = 0 := by omega
    rw [decide_eq_false (by omega), cond_false]
    have hdn : done = numB v k := by rw [← hd]; simp [numB]
    subst hdn
    exact hR _ _ ⟨oa, oc, rfl, ho, hf, hb⟩

/-- a name is put behind bytes -/
theorem k_deedName {l : List UInt8} (h : OwnB w lo a n c l) (hlo : lo ≤ w.heap.size) (hn : n ≤ 4294967296) (s : ByteArray) (hs : s.size ≤ 4294967296) :
    Calls prog 157 #[.slice a n c, .string s] w fun e w' => ∃ b d, e = .returned (.slice b (n + 1 + s.size) d) ∧ OwnB w' lo b (n + 1 + s.size) d (l ++ nameB s) ∧ Fr (blks a) w w' ∧ ∀ i ∈ blks b, i ∈ blks a ∨ w.heap.size ≤ i := by
  refine c157 _ _ _ _ _ _ (withR (X := N157 _ _ _ _ _) ?_)
  intro R hR
  unfold N157
  rw [byteC_u8]
  rintro w1 rfl
  obtain ⟨b', d', W2, hr2, ho2, f2, hbl⟩ := OwnR.push (E := byteE) T_bytes h hlo (u8 s.size) 69 5 (by omega)
  refine ⟨b', _, d', W2, hr2, ?_⟩
  have ho2' : Own W2 lo 5 1 b' (n + 1) d' (byteE.flat (l ++ [u8 s.size])) := ho2
  obtain ⟨b3, d3, W3, hr3, ho3, f3, hbl3⟩ := Own.appendStr T_bytes u_str ho2' (Nat.le_trans hlo f2.1) 69 s (by omega)
  refine ⟨b3, _, d3, W3, hr3, hR _ _ ⟨b3, d3, rfl, ?_, ?_, ?_⟩⟩
  · have : l ++ nameB s = (l ++ [u8 s.size]) ++ s.data.toList := by simp [nameB]
    rw [this]
    show Own W3 lo 5 1 b3 (n + 1 + s.size) d3 (byteE.flat _)
    rw [byteE.flat_append, ← byteCells_eq]
    exact ho3
  · exact f2.trans' f3 (fun i hi => hbl i hi)
  · intro i hi
    rcases hbl3 i hi with h' | h'
    · exact hbl i h'
    · right; exact Nat.le_trans f2.1 h'
end

/-- a deed's bytes -/
theorem k_deedBytes (d : Opr) (hs : d.name.size ≤ 1048576 ∧ d.new.size ≤ 1048576) (w : World) : Calls prog 103 #[.agg (ddC d).toArray] w fun e w' => e = .returned (.string ⟨(deedB d).toArray⟩) ∧ Fr [] w w' := by
  refine c103 _ _ _ _ _ _ _ _ _ (withR (X := N103 _ _ _ _ _ _ _ _) ?_)
  intro R hR
  unfold N103
  rintro w1 rfl
  have f1 := Fr.alloc w (.cells (ddC d).toArray 45)
  have b1 := Blk.new w (ddC d) 45
  generalize w.alloc (.cells (ddC d).toArray 45) = w1 at *
  rintro w2 rfl
  have f2 := Fr.drew w1
  have b2 := b1.fr f2 (by simp)
  have f02 := f1.trans f2
  generalize w1.drew = w2 at *
  have sub : ∀ {cs : List Value} {b : Nat}, Blk w2 b cs → ∀ W, Fr [] w2 W → Blk W b cs := fun hb W hW => hb.fr hW (by simp)
  refine ⟨fun U => Fr [] w2 U, Fr.refl .., _, fun U hU => (sub b2 U hU).cell 0, _, fun U hU => (sub b2 U hU).cell 1, _, fun U hU => (sub b2 U hU).cell 3, ?_⟩
  rw [byteC_u8]
  rintro w3 rfl
  have f3 := Fr.alloc w2 (.cells #[byteC (u8 d.kind)] 5)
  have o3 : OwnB (w2.alloc (.cells #[byteC (u8 d.kind)] 5)) w2.heap.size (some ⟨w2.heap.size, 0, none⟩) 1 1 [u8 d.kind] := OwnR.lit w2 (l := [u8 d.kind]) (by simp [maxLen]) 5 (Nat.le_refl _)
  refine ⟨f3, ?_⟩
  refine Calls.mono (k_deedNumber o3 (by rw [size_alloc]; omega) (by omega) d.dir 2 (by omega)) ?_
  rintro _ w4 ⟨a4, c4, rfl, o4, g4, _⟩
  have f4 : Fr [] w2 w4 := f3.trans' g4 (fun i hi => .inr (o3.blk i hi).1)
  refine ⟨_, _, _, rfl, f4, ?_⟩
  refine Calls.mono (k_deedName o4 f4.1 (by omega) d.name (by omega)) ?_
  rintro _ w5 ⟨a5, c5, rfl, o5, g5, _⟩
  have f5 : Fr [] w2 w5 := f4.trans' g5 (fun i hi => .inr (o4.blk i hi).1)
  refine ⟨_, _, _, rfl, f5, ?_⟩
  -- the end
  have last : ∀ (W : World) (oa : Option Addr) (on oc : Nat) (l : List UInt8), Fr [] w2 W → OwnB W w2.heap.size oa on oc l → on ≤ 8388608 → deedB d = l ++ (if d.kind = 2 then [] else numB d.short 4) →
      ∃ x : Int, W.cell? ⟨w.heap.size, 0, none⟩ = some (.int .i64 x) ∧ cond ((x : Int) != 2) (∃ y : Int, W.cell? ⟨w.heap.size, 6, none⟩ = some (.int .i64 y) ∧ Calls prog 158 #[.slice oa on oc, .int .i64 y, .int .i64 4] W fun e V => ∃ (za : Option Addr) (zn zc : Nat), e = .returned (.slice za zn zc) ∧
        ∃ s : ByteArray, ∃ V2, (convert 69 9 (.slice za zn zc)).run prog V = .ok (.string s) V2 ∧ R (.returned (.string s)) V2) (∃ s : ByteArray, ∃ V2, (convert 69 9 (.slice oa on oc)).run prog W = .ok (.string s) V2 ∧ R (.returned (.string s)) V2) := by
    intro W oa on oc l hW ho hon hd
    have bW := sub b2 W hW
    refine ⟨_, bW.cell 0, ?_⟩
    by_cases hk : d.kind = 2
    · rw [hk, bne_self_eq_false, cond_false]
      refine ⟨_, W, run_str u_bytes u_u8' u_str ho.recs0, hR _ _ ⟨?_, f02.trans hW⟩⟩
      rw [hd, if_pos hk, List.append_nil]
    · rw [bne_iff_ne.2 hk, cond_true]
      refine ⟨_, bW.cell 6, ?_⟩
      refine Calls.mono (k_deedNumber ho hW.1 (by omega) d.short 4 (by omega)) ?_
      rintro _ V ⟨za, zc, rfl, oV, gV, _⟩
      refine ⟨_, _, _, rfl, _, V, run_str u_bytes u_u8' u_str oV.recs0, hR _ _ ⟨?_, (f02.trans hW).trans' gV (fun i hi => .inr (by have := (ho.blk i hi).1; have := f02.1; omega))⟩⟩
      rw [hd, if_neg hk]
  have b5 := sub b2 w5 f5
  refine ⟨_, b5.cell 0, ?_⟩
  by_cases hk3 : d.kind = 3
  · rw [beq_iff_eq.2 hk3, cond_true]
    rintro w6 rfl
    have f6 := f5.trans (Fr.drew w5)
    have low : ∀ {U : World}, Fr [] w5.drew U → Fr [] w2 U := fun hU => f6.trans hU
    refine ⟨fun U => Fr [] w2 U, f6, _, fun U hU => (sub b2 U hU).cell 2, _, fun U hU => (sub b2 U hU).cell 4, ?_⟩
    have o6 := o5.fr0 (Fr.drew w5)
    refine Calls.mono (k_deedNumber o6 f6.1 (by omega) d.dest 2 (by omega)) ?_
    rintro _ w7 ⟨a7, c7, rfl, o7, g7, _⟩
    have f7 : Fr [] w2 w7 := f6.trans' g7 (fun i hi => .inr (o6.blk i hi).1)
    refine ⟨_, _, _, rfl, f7, ?_⟩
    refine Calls.mono (k_deedName o7 f7.1 (by omega) d.new (by omega)) ?_
    rintro _ w8 ⟨a8, c8, rfl, o8, g8, _⟩
    have f8 : Fr [] w2 w8 := f7.trans' g8 (fun i hi => .inr (o7.blk i hi).1)
    refine ⟨_, _, _, rfl, f8, ?_⟩
    exact last w8 a8 _ c8 _ f8 o8 (by omega) (by unfold deedB; rw [if_pos hk3]; simp)
  · rw [beq_eq_false_iff_ne.2 hk3, cond_false]
    refine ⟨_, b5.cell 5, ?_⟩
    cases hi : d.is with
    | true =>
      rw [cond_true]
      rintro w6 rfl
      obtain ⟨b', d', W2, hr2, ho2, g2, hbl⟩ := OwnR.push (E := byteE) T_bytes o5 f5.1 1 69 5 (by omega)
      refine ⟨b', _, d', W2, hr2, ?_⟩
      exact last W2 b' _ d' _ (f5.trans' g2 (fun i hi => .inr (o5.blk i hi).1)) ho2 (by omega) (by unfold deedB; rw [if_neg hk3, hi]; simp)
    | false =>
      rw [cond_false]
      rintro w6 rfl
      obtain ⟨b', d', W2, hr2, ho2, g2, hbl⟩ := OwnR.push (E := byteE) T_bytes o5 f5.1 0 69 5 (by omega)
      refine ⟨b', _, d', W2, hr2, ?_⟩
      exact last W2 b' _ d' _ (f5.trans' g2 (fun i hi => .inr (o5.blk i hi).1)) ho2 (by omega) (by unfold deedB; rw [if_neg hk3, hi]; simp)

/-- Encode -/
theorem k_deedEncode (d : Opr) (hs : d.name.size ≤ 1048576 ∧ d.new.size ≤ 1048576) (w : World) : Calls prog 70 #[.agg (ddC d).toArray] w fun e w' =>
    e = .returned (if dformB d then .tuple #[.string ⟨(deedB d).toArray⟩, .int .i64 0] else .tuple #[.string ⟨#[]⟩, .int .i64 1]) ∧ Fr [] w w' := by
  refine c70 _ _ _ _ _ _ _ _ _ (withR (X := N70 _ _ _ _ _ _ _ _) ?_)
  intro R hR
  unfold N70
  rintro w1 rfl
  have f1 := Fr.alloc w (.cells (ddC d).toArray 45)
  have b1 := Blk.new w (ddC d) 45
  generalize w.alloc (.cells (ddC d).toArray 45) = w1 at *
  refine ⟨_, b1.cell 0, _, b1.cell 1, _, b1.cell 2, _, b1.cell 3, _, b1.cell 4, _, b1.cell 5, _, b1.cell 6, ?_⟩
  refine Calls.mono (k_formed d w1) ?_
  rintro _ w2 ⟨rfl, f2⟩
  refine ⟨_, rfl, ?_⟩
  have b2 := b1.fr f2 (by simp)
  cases hf : dformB d with
  | false =>
    rw [Bool.not_false, cond_true]
    exact hR _ _ ⟨by rw [hf]; rfl, f1.trans f2⟩
  | true =>
    rw [Bool.not_true, cond_false]
    refine ⟨_, b2.cell 0, _, b2.cell 1, _, b2.cell 2, _, b2.cell 3, _, b2.cell 4, _, b2.cell 5, _, b2.cell 6, ?_⟩
    refine Calls.mono (k_deedBytes d hs w2) ?_
    rintro _ w3 ⟨rfl, f3⟩
    exact ⟨_, rfl, hR _ _ ⟨by rw [hf]; rfl, (f1.trans f2).trans f3⟩⟩

/-- what a deed does to a tree -/
def doDeed (t : RT) (d : Opr) : RT × Int × Int := if dformB d then t.doOp (callOf d) else (t, 0, 1)

theorem form_kind {d : Opr} (h : DForm d) : d.kind = 1 ∨ d.kind = 2 ∨ d.kind = 3 := by
  obtain ⟨_, _, _, _, _, _, _, _, h⟩ := h
  rcases h with h | h | h
  · exact .inl h.1
  · exact .inr (.inl h.1)
  · exact .inr (.inr h.1)

/-- Do -/
theorem k_deedDo {w : World} {tb : Nat} {F X : List Nat} {t : RT} (h : TreeAt w tb F X t) (hX : ∀ i ∈ X, i < w.heap.size) (hnext : t.next < 9223372036854775807) (d : Opr) :
    Calls prog 22 #[.pointer (some ⟨tb, 0, none⟩), .agg (ddC d).toArray] w fun e w' =>
      e = .returned (.tuple #[.int .i64 (doDeed t d).2.1, .int .i64 (doDeed t d).2.2]) ∧ ∃ F', TreeAt w' tb F' X (doDeed t d).1 ∧ (∀ i ∈ F', i ∈ F ∨ w.heap.size ≤ i) ∧ Fr F w w' := by
  refine c22 _ _ _ _ _ _ _ _ _ _ (withR (X := N22 _ _ _ _ _ _ _ _ _) ?_)
  intro R hR
  unfold N22
  rintro w1 rfl
  have f1 := Fr.alloc w (.cells (ddC d).toArray 45)
  have b1 := Blk.new w (ddC d) 45
  generalize w.alloc (.cells (ddC d).toArray 45) = w1 at *
  refine ⟨_, b1.cell 0, _, b1.cell 1, _, b1.cell 2, _, b1.cell 3, _, b1.cell 4, _, b1.cell 5, _, b1.cell 6, ?_⟩
  refine Calls.mono (k_formed d w1) ?_
  rintro _ w2 ⟨rfl, f2⟩
  refine ⟨_, rfl, ?_⟩
  have b2 := b1.fr f2 (by simp)
  have f02 := f1.trans f2
  have h2 := h.fr0 f02
  have hX2 : ∀ i ∈ X, i < w2.heap.size := fun i hi => Nat.lt_of_lt_of_le (hX i hi) f02.1
  unfold doDeed at hR
  cases hf : dformB d with
  | false =>
    rw [Bool.not_false, cond_true]
    rw [hf] at hR
    exact hR _ _ ⟨rfl, F, h2, fun _ hi => .inl hi, Fr.of_nil f02⟩
  | true =>
    rw [Bool.not_true, cond_false]
    rw [hf, if_pos rfl] at hR
    have hkind := form_kind (dformB_iff.1 hf)
    refine ⟨_, b2.cell 0, ?_⟩
    have hck : (callOf d).kind = d.kind - 1 := rfl
    by_cases k1 : d.kind = 1
    · have hd : t.doOp (callOf d) = t.link d.dir d.name d.is d.short := by unfold RT.doOp; rw [hck, if_pos (by rw [k1]; rfl)]; rfl
      rw [hd] at hR
      rw [beq_iff_eq.2 k1, cond_true]
      refine ⟨_, b2.cell 1, _, b2.cell 3, _, b2.cell 5, _, b2.cell 6, ?_⟩
      refine Calls.mono (k_Link h2 hX2 hnext d.dir d.name d.is d.short) ?_
      rintro _ w3 ⟨rfl, h3, f3⟩
      exact ⟨_, _, rfl, hR _ _ ⟨rfl, F, h3, fun _ hi => .inl hi, (Fr.of_nil f02).trans f3⟩⟩
    · rw [beq_eq_false_iff_ne.2 k1, cond_false]
      by_cases k2 : d.kind = 2
      · have hd : t.doOp (callOf d) = ((t.unlink d.dir d.name d.is).1, 0, (t.unlink d.dir d.name d.is).2) := by
          unfold RT.doOp; rw [hck, if_neg (by rw [k2]; decide), if_pos (by rw [k2]; rfl)]; rfl
        rw [hd] at hR
        rw [beq_iff_eq.2 k2, cond_true]
        refine ⟨_, b2.cell 1, _, b2.cell 3, _, b2.cell 5, ?_⟩
        refine Calls.mono (k_Unlink h2 hX2 d.dir d.name d.is) ?_
        rintro _ w3 ⟨rfl, F', h3, hext, f3⟩
        exact ⟨_, rfl, hR _ _ ⟨rfl, F', h3, fun i hi => (hext i hi).imp id (fun hle => Nat.le_trans f02.1 hle), (Fr.of_nil f02).trans f3⟩⟩
      · have k3 : d.kind = 3 := by omega
        have hd : t.doOp (callOf d) = ((t.move d.dir d.name d.dest d.new d.short).1, 0, (t.move d.dir d.name d.dest d.new d.short).2) := by
          unfold RT.doOp; rw [hck, if_neg (by rw [k3]; decide), if_neg (by rw [k3]; decide)]; rfl
        rw [hd] at hR
        rw [beq_eq_false_iff_ne.2 k2, cond_false]
        refine ⟨_, b2.cell 1, _, b2.cell 3, _, b2.cell 2, _, b2.cell 4, _, b2.cell 6, ?_⟩
        refine Calls.mono (k_Move h2 hX2 hnext d.dir d.name d.dest d.new d.short) ?_
        rintro _ w3 ⟨rfl, h3, f3⟩
        exact ⟨_, rfl, hR _ _ ⟨rfl, F, h3, fun _ hi => .inl hi, (Fr.of_nil f02).trans f3⟩⟩

/-- awake -/
theorem k_awake11 (w : World) : Calls prog 20 #[] w fun e w' => e = .returned (.bool true) ∧ Fr [] w w' := by
  refine c20 _ _ (withR (X := N20 _) ?_)
  intro R hR
  unfold N20
  have hd : deedB ⟨1, 0, 0, ⟨#[97]⟩, ⟨#[]⟩, false, 0⟩ = [1, 0, 0, 1, 97, 0, 0, 0, 0, 0] := by
    unfold deedB nameB numB u8; rfl
  have hf : dformB ⟨1, 0, 0, ⟨#[97]⟩, ⟨#[]⟩, false, 0⟩ = true := by
    rw [dformB_iff]
    refine ⟨by simp, by simp, by simp, by simp, ?_, ?_, by simp, by simp, .inl ⟨rfl, rfl, rfl⟩⟩ <;> (show _ ≤ _; decide)
  refine Calls.mono (k_deedEncode ⟨1, 0, 0, ⟨#[97]⟩, ⟨#[]⟩, false, 0⟩ ⟨by show (1 : Nat) ≤ _; omega, by show (0 : Nat) ≤ _; omega⟩ w) ?_
  rintro _ w1 ⟨rfl, f1⟩
  rw [hf, if_pos rfl, hd]
  refine ⟨_, _, rfl, ?_⟩
  rw [show ((0 : Int) == 0) = true from rfl, cond_true]
  rw [show (((((⟨([1, 0, 0, 1, 97, 0, 0, 0, 0, 0] : List UInt8).toArray⟩ : ByteArray).size : Nat) : Int)) == 10) = true from rfl, cond_true]
  exact ⟨by omega, 97, rfl, hR _ _ ⟨rfl, f1⟩⟩
end Go.Proofs.Tryz
