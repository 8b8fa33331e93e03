/- The row of CursorReads: for every input it returns true, and the arguments read as they did. Conditions: none. -/
import Derived.Test.YtmnhbjoamnjppaaLw
import Derived.Test.YtmnhbjoamnjppaaRows
import Derived.WalkKit
import Derived.ProofKit
import Derived.OpenShut
import Derived.ShutString
import Derived.ChangeOld
import Derived.Below
import Derived.SizedLaws
import Derived.Deep.Slices
import Derived.Carry
namespace Go.Proofs.Try
open Go Go.Eng Go.Topo
section
variable {H : Type} {enc : TypeId × Value → H} {w : World} {base : Nat} {sp : Nat → Bool} {held : Bool} {n : Nat} {ft : TypeId} {v : Value} {y : DataW H × List MemPlace}
theorem tr_int {k : IntKind} (hu : prog.underlying ft = some (.int k)) (h : DataW.trod enc prog w base sp held n ft [v] = some y) : ∃ x, v = .int k x := by
  cases n with
  | zero => simp [DataW.trod] at h
  | succ n =>
    unfold DataW.trod at h
    rw [hu] at h
    cases v <;> simp at h
    exact ⟨_, by rw [h.1.1]⟩
theorem tr_string (hu : prog.underlying ft = some .string) (h : DataW.trod enc prog w base sp held n ft [v] = some y) : ∃ x, v = .string x := by
  cases n with
  | zero => simp [DataW.trod] at h
  | succ n =>
    unfold DataW.trod at h
    rw [hu] at h
    cases v <;> simp at h
    exact ⟨_, rfl⟩
theorem tr_bool (hu : prog.underlying ft = some .bool) (h : DataW.trod enc prog w base sp held n ft [v] = some y) : ∃ x, v = .bool x := by
  cases n with
  | zero => simp [DataW.trod] at h
  | succ n =>
    unfold DataW.trod at h
    rw [hu] at h
    cases v <;> simp at h
    exact ⟨_, rfl⟩

theorem op_fields0 : (match prog.underlying 31 with | some (.struct fs) => some (fs.toList.map (fun f => (f.type, f.offset))) | _ => none) =
    some [(5, 0), (3, 1), (3, 2), (9, 3), (9, 4), (4, 5), (3, 6)] := by kernel_rfl
theorem u_u8 : prog.underlying 5 = some (.int .u8) := by kernel_rfl
theorem u_ops : prog.underlying 22 = some (.slice 31) := by kernel_rfl
theorem cells_op : prog.cellsOf 31 = 7 := by kernel_rfl
theorem cells_u8 : prog.cellsOf 5 = 1 := by kernel_rfl
theorem cells_int : prog.cellsOf 3 = 1 := by kernel_rfl
theorem cells_string : prog.cellsOf 9 = 1 := by kernel_rfl
theorem cells_bool : prog.cellsOf 4 = 1 := by kernel_rfl

theorem list7 {α : Type} (l : List α) (h : l.length = 7) : ∃ a b c d e f g, l = [a, b, c, d, e, f, g] := by
  match l with
  | [a, b, c, d, e, f, g] => exact ⟨a, b, c, d, e, f, g, rfl⟩
  | [] => simp at h
  | [_] => simp at h
  | [_, _] => simp at h
  | [_, _, _] => simp at h
  | [_, _, _, _] => simp at h
  | [_, _, _, _, _] => simp at h
  | [_, _, _, _, _, _] => simp at h
  | _ :: _ :: _ :: _ :: _ :: _ :: _ :: _ :: _ => simp at h

set_option maxRecDepth 100000 in
theorem open_op {cs : List Value} (h : DataW.trod enc prog w base sp held n 31 cs = some y) : ∃ o : Opr, cs = opC o := by
  have h0 := op_fields0
  cases hu : prog.underlying 31 with
  | none => rw [hu] at h0; cases h0
  | some ds =>
    rw [hu] at h0
    cases ds <;> first | (simp at h0; done) | skip
    case struct fs =>
      simp only [Option.some.injEq] at h0
      obtain ⟨xs, k, _, _, hlen, _, hf⟩ := DataW.trod_struct hu h
      rw [cells_op] at hlen
      obtain ⟨l, hl⟩ : ∃ l, fs.toList = l := ⟨_, rfl⟩
      rw [hl] at h0
      match l, h0 with
      | [f0, f1, f2, f3, f4, f5, f6], h0 =>
        simp only [List.map_cons, List.map_nil, List.cons.injEq, Prod.mk.injEq, and_true] at h0
        obtain ⟨⟨t0, o0⟩, ⟨t1, o1⟩, ⟨t2, o2⟩, ⟨t3, o3⟩, ⟨t4, o4⟩, ⟨t5, o5⟩, ⟨t6, o6⟩⟩ := h0
        have hfs : fs = #[f0, f1, f2, f3, f4, f5, f6] := Array.ext' (by rw [hl])
        subst hfs
        have hx : ∀ i, i < 7 → ∃ y, xs[i]? = some y := by
          intro i hi
          have : xs.length = 7 := by simp_all
          exact ⟨_, List.getElem?_eq_getElem (by omega)⟩
        obtain ⟨v0, v1, v2, v3, v4, v5, v6, rfl⟩ := list7 cs hlen
        obtain ⟨y0, e0⟩ := hx 0 (by omega)
        obtain ⟨y1, e1⟩ := hx 1 (by omega)
        obtain ⟨y2, e2⟩ := hx 2 (by omega)
        obtain ⟨y3, e3⟩ := hx 3 (by omega)
        obtain ⟨y4, e4⟩ := hx 4 (by omega)
        obtain ⟨y5, e5⟩ := hx 5 (by omega)
        obtain ⟨y6, e6⟩ := hx 6 (by omega)
        have g0 := hf 0 f0 rfl
        have g1 := hf 1 f1 rfl
        have g2 := hf 2 f2 rfl
        have g3 := hf 3 f3 rfl
        have g4 := hf 4 f4 rfl
        have g5 := hf 5 f5 rfl
        have g6 := hf 6 f6 rfl
        rw [t0, o0, cells_u8, e0] at g0
        rw [t1, o1, cells_int, e1] at g1
        rw [t2, o2, cells_int, e2] at g2
        rw [t3, o3, cells_string, e3] at g3
        rw [t4, o4, cells_string, e4] at g4
        rw [t5, o5, cells_bool, e5] at g5
        rw [t6, o6, cells_int, e6] at g6
        obtain ⟨a0, rfl⟩ := tr_int u_u8 g0
        obtain ⟨a1, rfl⟩ := tr_int u_int g1
        obtain ⟨a2, rfl⟩ := tr_int u_int g2
        obtain ⟨a3, rfl⟩ := tr_string u_string g3
        obtain ⟨a4, rfl⟩ := tr_string u_string g4
        obtain ⟨a5, rfl⟩ := tr_bool u_bool g5
        obtain ⟨a6, rfl⟩ := tr_int u_int g6
        exact ⟨⟨a0, a1, a2, a3, a4, a5, a6⟩, rfl⟩
      | [], h0 => simp at h0
      | [_], h0 => simp at h0
      | [_, _], h0 => simp at h0
      | [_, _, _], h0 => simp at h0
      | [_, _, _, _], h0 => simp at h0
      | [_, _, _, _, _], h0 => simp at h0
      | [_, _, _, _, _, _], h0 => simp at h0
      | _ :: _ :: _ :: _ :: _ :: _ :: _ :: _ :: _, h0 => simp at h0

/-- a slice of calls is opened -/
theorem open_ops {a : Option Addr} {len cap : Nat} (h : DataW.trod enc prog w base sp held n 22 [.slice a len cap] = some y) : ∃ l, Opsl w a len l := by
  rcases Go.Deep.open_slice u_ops h with ⟨hc, _⟩ | ⟨ad, len', cap', m, k, D, Pl, hc, _, hl, hm, hmm, _, hx⟩
  · simp at hc
    exact ⟨[], by simp [hc.2.1], .inl hc.2.1⟩
  · simp at hc
    obtain ⟨rfl, rfl, rfl⟩ := hc
    have hlm : len ≤ m := by rw [hmm]; split <;> omega
    have each : ∀ i, i < len → ∃ o : Opr, ∀ j v, (opC o)[j]? = some v → w.cell? ((ad.add (i * 7)).add j) = some v := by
      intro i hi
      obtain ⟨cs', h1, h2⟩ := hx i (by omega)
      obtain ⟨o, rfl⟩ := open_op h2
      rw [cells_op] at h1
      obtain ⟨_, hlen, hcell⟩ := World.cells?_some h1
      refine ⟨o, fun j v hv => ?_⟩
      have hj : j < 7 := by have := (List.getElem?_eq_some_iff.1 hv).1; simpa using this
      have := hcell j hj
      rw [this]
      simpa using hv
    haveI : Inhabited Opr := ⟨⟨0, 0, 0, ⟨#[]⟩, ⟨#[]⟩, false, 0⟩⟩
    obtain ⟨f, hf⟩ := Go.Deep.choose_lt each
    refine ⟨(List.range len).map f, by simp, .inr ⟨ad, rfl, ?_⟩⟩
    intro i o ho j v hv
    have hi : i < len := by have := (List.getElem?_eq_some_iff.1 ho).1; simpa using this
    rw [List.getElem?_map, List.getElem?_range hi] at ho
    simp at ho
    subst ho
    exact hf i hi j v hv
end
end Go.Proofs.Try

namespace Go.Proofs.Ytmnhbjoamnjppaa.cursorReads
open Go Go.ChangeShapes Go.WideShapes Go.ChangeAt Go.RowKit
open Go.Proofs.Try (k_CursorReads open_ops u_ops)
open Go.ChangeMaps (open_string shut_string)
theorem own : ownKnob Try.prog.godebug = none := by kernel_rfl
theorem laidOut : laidOutB Try.prog = true := by kernel_rfl

set_option maxRecDepth 100000 in
theorem lifted (os : Os) (started : os.Started) (H : Type) (enc : TypeId × Value → H) :
    ReturnsInHanded {} Try.checked os 3 .any (Rows.cursorReadsSpec.pre6 enc Try.prog Try.f3 Rows.cursorReadsRow.domain false) (Rows.cursorReadsSpec.post enc Try.prog Try.f3 false true false false) := by
  refine returnsInHanded_of_change_sized (C := Try.checked) own started (by kernel_rfl) Try.func3
    (ChangeSpec.witness6 (enc := enc) (C := Try.checked) false ⟨#[], #[.slice none 0 0, .int .i64 0, .int .i64 0], []⟩ 8 (by kernel_rfl) (by kernel_rfl) (by kernel_rfl) (by kernel_rfl)) ?_
  intro W base args ds gs before hval0 hW hcnd hsz0 _
  have hval : ∀ (j : Nat) t v, Try.f3.params[j]? = some t → args[j]? = some v → Value.okWide Try.prog W .any base t v := hval0
  have hW' := hW
  obtain ⟨p, q, hA0, hV, rfl, hfz, hnd⟩ := hW
  have hA : DataW.TrodAll enc Try.prog W 0 (fun _ => true) true Try.f3.params.toList args.toList ds p := hA0
  rw [Try.params3] at hA hval
  obtain ⟨v0, vs0, d0, ds0, p0, q0, hargs, rfl, rfl, h0, r0⟩ := trodAll_cons hA
  obtain ⟨v1, vs1, d1, ds1, p1, q1, rfl, rfl, rfl, h1, r1⟩ := trodAll_cons r0
  obtain ⟨v2, vs2, d2, ds2, p2, q2, rfl, rfl, rfl, h2, r2⟩ := trodAll_cons r1
  obtain ⟨rfl, rfl, rfl⟩ := trodAll_nil r2
  obtain rfl : args = #[v0, v1, v2] := by cases args; simp_all
  obtain ⟨rfl, rfl⟩ := trodVars_none hV
  obtain ⟨a0, len0, cap0, rfl⟩ := okWide_slice u_ops (hval 0 22 v0 rfl rfl)
  have k0 := h0
  have lt0 : ∀ x ∈ p0, x.block < W.heap.size := by obtain ⟨m, hm⟩ := k0; exact DataW.trod_lt m _ _ _ hm
  obtain ⟨l, hl⟩ : ∃ l, Go.Proofs.Try.Opsl W a0 len0 l := by
    obtain ⟨fuel, hf⟩ := h0
    exact open_ops (by simpa [Value.cells] using hf)
  obtain ⟨a1, rfl, rfl, rfl, w1⟩ := open_int Try.underlying2 (hval 1 2 v1 rfl rfl) h1
  obtain ⟨a2, rfl, rfl, rfl, w2⟩ := open_int Try.underlying3 (hval 2 3 v2 rfl rfl) h2
  refine (k_CursorReads l a0 len0 cap0 a1 a2 W hl).mono fun e W' ⟨he, hf⟩ => ?_
  subst he
  have bel : Below W.heap.size W W' := ⟨hf.same.1, hf.same.2.1, hf.same.2.2, hf.size, fun k hk => hf.block k hk (by simp)⟩
  exact ⟨_, rfl, _, _, _, [], _, [], hW', trodAll_mk1 (shut_bool Try.underlying4 _), (trodAll_cons_mk (Below.trod laidOut (by kernel_rfl) (of_decide_eq_true (by kernel_rfl)) k0 bel lt0) (trodAll_cons_mk (shut_int Try.underlying2 w1) (trodAll_cons_mk (shut_int Try.underlying3 w2) trodAll_mk0))), rfl, bel.frame _, fun h => by cases h⟩

theorem over : Rows.cursorReadsRow.holds Try.pinned (OpenSpec.ofChange Rows.cursorReadsSpec) :=
  OpenClaim.holds_of_wide 3 Try.f3 rfl rfl rfl rfl rfl rfl rfl ⟨rfl, rfl, rfl, rfl, rfl⟩ rfl rfl rfl rfl rfl (by kernel_rfl) Try.func3 (by kernel_rfl)
    (of_decide_eq_true (by kernel_rfl)) (by unfold Func.isWrapper; first | (rw [if_pos (by decide +kernel)]; kernel_rfl) | (rw [if_neg (by decide +kernel)]; exact ⟨rfl, rfl⟩))
    (fun os started H enc _ => lifted os started H enc)
theorem proved : Rows.CursorReadsSaid := over
#print axioms proved
end Go.Proofs.Ytmnhbjoamnjppaa.cursorReads
namespace Go.Proofs.Ytmnhbjoamnjppaa
/-- The row, under a short name, for the claim. -/
theorem cursorReads_holds : Rows.CursorReadsSaid := cursorReads.proved
end Go.Proofs.Ytmnhbjoamnjppaa
