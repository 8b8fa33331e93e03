/- Same: two lists of entries. Conditions: none. -/
import Derived.Test.YtdicohcmccjnoaaGreatDr
import Derived.Test.YtdicohcmccjnoaaGreatFr
namespace Go.Proofs.Tryz
open Go Go.Eng Go.Topo

theorem entry_fields0 : (match prog.underlying 117 with | some (.struct fs) => some (fs.toList.map (fun f => (f.name, f.type, f.offset))) | _ => none) =
    some [("Name", 9, 0), ("Node", 3, 1), ("Dir", 4, 2), ("Cookie", 2, 3), ("Short", 3, 4)] := by kernel_rfl
theorem u_bool : prog.underlying 4 = some .bool := by kernel_rfl
theorem u_int64 : prog.underlying 2 = some (.int .i64) := by kernel_rfl
theorem stood_entry : prog.stoodInHeld 117 = false := by kernel_rfl
theorem guard_entry : prog.eqGuardType prog.depth 117 = false := by kernel_rfl

theorem sz_string : sizeIs prog 9 1 = true := by kernel_rfl
theorem sz_int : sizeIs prog 3 1 = true := by kernel_rfl
theorem sz_bool : sizeIs prog 4 1 = true := by kernel_rfl
theorem sz_int64 : sizeIs prog 2 1 = true := by kernel_rfl

theorem run_part1 {ty : TypeId} {d : TypeDesc} (hu : prog.underlying ty = some d) (hag : isAggB prog ty = false) (cs : Array Value) (i : Nat) (v : Value) (h : cs[i]? = some v) (w : World) :
    (part ty cs i).run prog w = .ok v w := by
  unfold part
  rw [run_bind_ok (Go.Eng.run_isAgg hu w), hag]
  simp [h]

theorem ag_string : isAggB prog 9 = false := by kernel_rfl
theorem ag_int : isAggB prog 3 = false := by kernel_rfl
theorem ag_bool : isAggB prog 4 = false := by kernel_rfl
theorem ag_int64 : isAggB prog 2 = false := by kernel_rfl

def entEq (x y : Ent) : Bool := (x.name == y.name) && (x.node == y.node) && (x.dir == y.dir) && (x.cookie == y.cookie) && (x.short == y.short)

theorem eq_entry (x y : Ent) (d : Nat) (w : World) : (Op.equalIn (d + 2) 117 (entV x) (entV y)).run prog w = .ok (entEq x y) w := by
  have h0 := entry_fields0
  cases hu : prog.underlying 117 with
  | none => rw [hu] at h0; cases h0
  | some ds =>
    rw [hu] at h0
    cases ds <;> first | (simp at h0; done) | skip
    case struct fs =>
      simp only [Option.some.injEq] at h0
      obtain ⟨l, hl⟩ : ∃ l, fs.toList = l := ⟨_, rfl⟩
      rw [hl] at h0
      match l, h0 with
      | [f0, f1, f2, f3, f4], h0 =>
        simp only [List.map_cons, List.map_nil, List.cons.injEq, Prod.mk.injEq, and_true] at h0
        obtain ⟨⟨n0, t0, o0⟩, ⟨n1, t1, o1⟩, ⟨n2, t2, o2⟩, ⟨n3, t3, o3⟩, ⟨n4, t4, o4⟩⟩ := h0
        have hfs : fs = #[f0, f1, f2, f3, f4] := Array.ext' (by rw [hl])
        subst hfs
        have p0 : ∀ z : Ent, (part 9 (entC z).toArray 0).run prog w = .ok (.string z.name) w := fun z => run_part1 u_string ag_string _ _ _ rfl w
        have p1 : ∀ z : Ent, (part 3 (entC z).toArray 1).run prog w = .ok (.int .i64 z.node) w := fun z => run_part1 u_int ag_int _ _ _ rfl w
        have p2 : ∀ z : Ent, (part 4 (entC z).toArray 2).run prog w = .ok (.bool z.dir) w := fun z => run_part1 u_bool ag_bool _ _ _ rfl w
        have p3 : ∀ z : Ent, (part 2 (entC z).toArray 3).run prog w = .ok (.int .i64 z.cookie) w := fun z => run_part1 u_int64 ag_int64 _ _ _ rfl w
        have p4 : ∀ z : Ent, (part 3 (entC z).toArray 4).run prog w = .ok (.int .i64 z.short) w := fun z => run_part1 u_int ag_int _ _ _ rfl w
        have q0 : (Op.equalIn (d + 1) 9 (.string x.name) (.string y.name)).run prog w = .ok (x.name == y.name) w := by simp [Op.equalIn, run_underlying u_string]
        have q1 : (Op.equalIn (d + 1) 3 (.int .i64 x.node) (.int .i64 y.node)).run prog w = .ok (x.node == y.node) w := by simp [Op.equalIn, run_underlying u_int]
        have q2 : (Op.equalIn (d + 1) 4 (.bool x.dir) (.bool y.dir)).run prog w = .ok (x.dir == y.dir) w := by simp [Op.equalIn, run_underlying u_bool]
        have q3 : (Op.equalIn (d + 1) 2 (.int .i64 x.cookie) (.int .i64 y.cookie)).run prog w = .ok (x.cookie == y.cookie) w := by simp [Op.equalIn, run_underlying u_int64]
        have q4 : (Op.equalIn (d + 1) 3 (.int .i64 x.short) (.int .i64 y.short)).run prog w = .ok (x.short == y.short) w := by simp [Op.equalIn, run_underlying u_int]
        unfold Op.equalIn
        rw [run_bind_ok (run_underlying hu w)]
        dsimp only
        rw [run_bind_ok (a := prog) (w' := w) (by simp [program, Sem.run])]
        rw [stood_entry]
        simp [n0, t0, o0, n1, t1, o1, n2, t2, o2, n3, t3, o3, n4, t4, o4, p0, p1, p2, p3, p4, q0, q1, q2, q3, q4, entEq]
        cases (x.name == y.name) <;> by_cases a1 : x.node = y.node <;> by_cases a2 : x.dir = y.dir <;> by_cases a3 : x.cookie = y.cookie <;> by_cases a4 : x.short = y.short <;> simp [a1, a2, a3, a4]
      | [], h0 => simp at h0
      | [_], h0 => simp at h0
      | [_, _], h0 => simp at h0
      | [_, _, _], h0 => simp at h0
      | [_, _, _, _], h0 => simp at h0
      | _ :: _ :: _ :: _ :: _ :: _ :: _, h0 => simp at h0

theorem bytes_self (x : ByteArray) : (x == x) = true := by show (x.data == x.data) = true; exact beq_self_eq_true _
theorem entEq_self (x : Ent) : entEq x x = true := by simp [entEq, bytes_self]

theorem neq_entry (x y : Ent) (w : World) : (binOp .neq 117 (entV x) (entV y)).run prog w = .ok (.bool (!entEq x y)) w := by
  have h : (Op.equal 117 (entV x) (entV y)).run prog w = .ok (entEq x y) w := eq_entry x y 9998 w
  show ((Op.equal 117 (entV x) (entV y)) >>= fun b => (pure (.bool (!b)) : Sem Value)).run prog w = _
  rw [run_bind_ok h]; rfl
theorem grd_entry (x y : Ent) (a b : Operand) (w : World) : (eqGuard .neq 117 a b (entV x) (entV y)).run prog w = .ok () w := by
  unfold eqGuard
  dsimp only
  rw [if_neg (by simp)]
  simp [program, Sem.run, guard_entry]

/-- Same, of the same -/
theorem k_rSame (l : List Ent) (a b : Option Addr) (n ca cb : Nat) (w : World) (ha : Ents w [] a n l) (hb : Ents w [] b n l) (hn : n ≤ 1048576) :
    Calls prog 69 #[.slice a n ca, .slice b n cb] w fun e w' => e = .returned (.bool true) ∧ Fr [] w w' := by
  refine c69 _ _ _ _ _ _ _ _ (withR (X := N69 _ _ _ _ _ _ _) ?_)
  intro R hR
  unfold N69
  have hlen := ha.len
  rw [show (((n : Nat) : Int) != ((n : Nat) : Int)) = false by simp, cond_false]
  refine lp69_0 _ _ _ _ _ _ (fun m i W => ∃ k : Nat, i = k ∧ k ≤ n ∧ m = n - k ∧ Fr [] w W) _ ?_ n 0 w ⟨0, rfl, by omega, by omega, Fr.refl ..⟩ _
  rintro m _ ds W ⟨k, rfl, hk, rfl, hf⟩
  unfold B69_0
  by_cases hkn : k < n
  · rw [decide_eq_true (by omega), cond_true]
    rintro W1 rfl
    have hf1 := hf.trans (Fr.drew W)
    obtain ⟨x, hx⟩ : ∃ x, l[k]? = some x := ⟨l[k]'(by omega), List.getElem?_eq_getElem _⟩
    obtain ⟨b1, o1, rfl, d0, d1, d2, d3, d4⟩ := (ha.fr hf1).at hx
    obtain ⟨b2, o2, rfl, e0, e1, e2, e3, e4⟩ := (hb.fr hf1).at hx
    simp only [optW, Addr.add_lit, Int.toNat_natCast]
    refine ⟨fun V => V = W.drew, rfl, ⟨by omega, by omega⟩, _, fun V hV => by rw [hV]; exact d0, _, fun V hV => by rw [hV]; exact d1, _, fun V hV => by rw [hV]; exact d2, _, fun V hV => by rw [hV]; exact d3, _, fun V hV => by rw [hV]; exact d4,
      ⟨by omega, by omega⟩, _, fun V hV => by rw [hV]; exact e0, _, fun V hV => by rw [hV]; exact e1, _, fun V hV => by rw [hV]; exact e2, _, fun V hV => by rw [hV]; exact e3, _, fun V hV => by rw [hV]; exact e4,
      !entEq x x, fun V => neq_entry x x V, fun V => grd_entry x x _ _ V, ?_⟩
    rw [entEq_self, Bool.not_true, cond_false]
    refine ⟨_, rfl, n - (k + 1), by omega, k + 1, ?_, by omega, rfl, hf1⟩
    rw [wr (by omega) (by omega)]; simp
  · rw [decide_eq_false (by omega), cond_false]
    exact hR _ _ ⟨rfl, hf⟩
end Go.Proofs.Tryz
