/- Calls that came in are opened. Conditions: none. -/
import Derived.Test.YtdicohcmccjnoaaGreatDo
import Derived.Test.YtdicohcmccjnoaaGreatRows
import Derived.WalkKit
import Derived.ProofKit
import Derived.OpenShut
import Derived.ShutString
import Derived.ChangeOld
import Derived.Below
import Derived.SizedLaws
import Derived.Deep.Slices
import Derived.Carry
namespace Go.Proofs.Tryz
open Go Go.Eng Go.Topo
section
variable {H : Type} {enc : TypeId × Value → H} {w : World} {base : Nat} {sp : Nat → Bool} {held : Bool} {n : Nat} {ft : TypeId} {v : Value} {y : DataW H × List MemPlace}
theorem tr_int {k : IntKind} (hu : prog.underlying ft = some (.int k)) (h : DataW.trod enc prog w base sp held n ft [v] = some y) : ∃ x, v = .int k x := by
  cases n with
  | zero => simp [DataW.trod] at h
  | succ n =>
    unfold DataW.trod at h
    rw [hu] at h
    cases v <;> simp at h
    exact ⟨_, by rw [h.1.1]⟩
theorem tr_string (hu : prog.underlying ft = some .string) (h : DataW.trod enc prog w base sp held n ft [v] = some y) : ∃ x, v = .string x := by
  cases n with
  | zero => simp [DataW.trod] at h
  | succ n =>
    unfold DataW.trod at h
    rw [hu] at h
    cases v <;> simp at h
    exact ⟨_, rfl⟩
theorem tr_bool (hu : prog.underlying ft = some .bool) (h : DataW.trod enc prog w base sp held n ft [v] = some y) : ∃ x, v = .bool x := by
  cases n with
  | zero => simp [DataW.trod] at h
  | succ n =>
    unfold DataW.trod at h
    rw [hu] at h
    cases v <;> simp at h
    exact ⟨_, rfl⟩

theorem op_fields0 : (match prog.underlying 35 with | some (.struct fs) => some (fs.toList.map (fun f => (f.type, f.offset))) | _ => none) =
    some [(5, 0), (3, 1), (3, 2), (9, 3), (9, 4), (4, 5), (3, 6)] := by kernel_rfl
theorem u_u8 : prog.underlying 5 = some (.int .u8) := by kernel_rfl
theorem u_ops : prog.underlying 22 = some (.slice 35) := by kernel_rfl
theorem cells_op : prog.cellsOf 35 = 7 := by kernel_rfl
theorem cells_u8 : prog.cellsOf 5 = 1 := by kernel_rfl
theorem cells_int : prog.cellsOf 3 = 1 := by kernel_rfl
theorem cells_string : prog.cellsOf 9 = 1 := by kernel_rfl
theorem cells_bool : prog.cellsOf 4 = 1 := by kernel_rfl

theorem list7 {α : Type} (l : List α) (h : l.length = 7) : ∃ a b c d e f g, l = [a, b, c, d, e, f, g] := by
  match l with
  | [a, b, c, d, e, f, g] => exact ⟨a, b, c, d, e, f, g, rfl⟩
  | [] => simp at h
  | [_] => simp at h
  | [_, _] => simp at h
  | [_, _, _] => simp at h
  | [_, _, _, _] => simp at h
  | [_, _, _, _, _] => simp at h
  | [_, _, _, _, _, _] => simp at h
  | _ :: _ :: _ :: _ :: _ :: _ :: _ :: _ :: _ => simp at h

set_option maxRecDepth 100000 in
theorem open_op {cs : List Value} (h : DataW.trod enc prog w base sp held n 35 cs = some y) : ∃ o : Opr, cs = opC o := by
  have h0 := op_fields0
  cases hu : prog.underlying 35 with
  | none => rw [hu] at h0; cases h0
  | some ds =>
    rw [hu] at h0
    cases ds <;> first | (simp at h0; done) | skip
    case struct fs =>
      simp only [Option.some.injEq] at h0
      obtain ⟨xs, k, _, _, hlen, _, hf⟩ := DataW.trod_struct hu h
      rw [cells_op] at hlen
      obtain ⟨l, hl⟩ : ∃ l, fs.toList = l := ⟨_, rfl⟩
      rw [hl] at h0
      match l, h0 with
      | [f0, f1, f2, f3, f4, f5, f6], h0 =>
        simp only [List.map_cons, List.map_nil, List.cons.injEq, Prod.mk.injEq, and_true] at h0
        obtain ⟨⟨t0, o0⟩, ⟨t1, o1⟩, ⟨t2, o2⟩, ⟨t3, o3⟩, ⟨t4, o4⟩, ⟨t5, o5⟩, ⟨t6, o6⟩⟩ := h0
        have hfs : fs = #[f0, f1, f2, f3, f4, f5, f6] := Array.ext' (by rw [hl])
        subst hfs
        have hx : ∀ i, i < 7 → ∃ y, xs[i]? = some y := by
          intro i hi
          have : xs.length = 7 := by simp_all
          exact ⟨_, List.getElem?_eq_getElem (by omega)⟩
        obtain ⟨v0, v1, v2, v3, v4, v5, v6, rfl⟩ := list7 cs hlen
        obtain ⟨y0, e0⟩ := hx 0 (by omega)
        obtain ⟨y1, e1⟩ := hx 1 (by omega)
        obtain ⟨y2, e2⟩ := hx 2 (by omega)
        obtain ⟨y3, e3⟩ := hx 3 (by omega)
        obtain ⟨y4, e4⟩ := hx 4 (by omega)
        obtain ⟨y5, e5⟩ := hx 5 (by omega)
        obtain ⟨y6, e6⟩ := hx 6 (by omega)
        have g0 := hf 0 f0 rfl
        have g1 := hf 1 f1 rfl
        have g2 := hf 2 f2 rfl
        have g3 := hf 3 f3 rfl
        have g4 := hf 4 f4 rfl
        have g5 := hf 5 f5 rfl
        have g6 := hf 6 f6 rfl
        rw [t0, o0, cells_u8, e0] at g0
        rw [t1, o1, cells_int, e1] at g1
        rw [t2, o2, cells_int, e2] at g2
        rw [t3, o3, cells_string, e3] at g3
        rw [t4, o4, cells_string, e4] at g4
        rw [t5, o5, cells_bool, e5] at g5
        rw [t6, o6, cells_int, e6] at g6
        obtain ⟨a0, rfl⟩ := tr_int u_u8 g0
        obtain ⟨a1, rfl⟩ := tr_int u_int g1
        obtain ⟨a2, rfl⟩ := tr_int u_int g2
        obtain ⟨a3, rfl⟩ := tr_string u_string g3
        obtain ⟨a4, rfl⟩ := tr_string u_string g4
        obtain ⟨a5, rfl⟩ := tr_bool u_bool g5
        obtain ⟨a6, rfl⟩ := tr_int u_int g6
        exact ⟨⟨a0, a1, a2, a3, a4, a5, a6⟩, rfl⟩
      | [], h0 => simp at h0
      | [_], h0 => simp at h0
      | [_, _], h0 => simp at h0
      | [_, _, _], h0 => simp at h0
      | [_, _, _, _], h0 => simp at h0
      | [_, _, _, _, _], h0 => simp at h0
      | [_, _, _, _, _, _], h0 => simp at h0
      | _ :: _ :: _ :: _ :: _ :: _ :: _ :: _ :: _, h0 => simp at h0

/-- a slice of calls is opened -/
theorem open_ops {a : Option Addr} {len cap : Nat} (h : DataW.trod enc prog w base sp held n 22 [.slice a len cap] = some y) : ∃ l, Opsl w a len l := by
  rcases Go.Deep.open_slice u_ops h with ⟨hc, _⟩ | ⟨ad, len', cap', m, k, D, Pl, hc, _, hl, hm, hmm, _, hx⟩
  · simp at hc
    exact ⟨[], by simp [hc.2.1], .inl hc.2.1⟩
  · simp at hc
    obtain ⟨rfl, rfl, rfl⟩ := hc
    have hlm : len ≤ m := by rw [hmm]; split <;> omega
    have each : ∀ i, i < len → ∃ o : Opr, ∀ j v, (opC o)[j]? = some v → w.cell? ((ad.add (i * 7)).add j) = some v := by
      intro i hi
      obtain ⟨cs', h1, h2⟩ := hx i (by omega)
      obtain ⟨o, rfl⟩ := open_op h2
      rw [cells_op] at h1
      obtain ⟨_, hlen, hcell⟩ := World.cells?_some h1
      refine ⟨o, fun j v hv => ?_⟩
      have hj : j < 7 := by have := (List.getElem?_eq_some_iff.1 hv).1; simpa using this
      have := hcell j hj
      rw [this]
      simpa using hv
    haveI : Inhabited Opr := ⟨⟨0, 0, 0, ⟨#[]⟩, ⟨#[]⟩, false, 0⟩⟩
    obtain ⟨f, hf⟩ := Go.Deep.choose_lt each
    refine ⟨(List.range len).map f, by simp, .inr ⟨ad, rfl, ?_⟩⟩
    intro i o ho j v hv
    have hi : i < len := by have := (List.getElem?_eq_some_iff.1 ho).1; simpa using this
    rw [List.getElem?_map, List.getElem?_range hi] at ho
    simp at ho
    subst ho
    exact hf i hi j v hv
end
end Go.Proofs.Tryz

