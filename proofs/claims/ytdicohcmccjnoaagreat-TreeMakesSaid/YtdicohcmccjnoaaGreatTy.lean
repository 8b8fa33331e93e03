/- Facts of the types that the trees use. Conditions: none. -/
import Derived.Test.YtdicohcmccjnoaaGreatProg
import Derived.Test.YtdicohcmccjnoaaGreatSl
import Derived.KernelRfl
namespace Go.Proofs.Tryz
open Go Go.Eng Go.Topo

theorem u_entries : prog.underlying 49 = some (.slice 117) := by kernel_rfl
theorem u_ints : prog.underlying 201 = some (.slice 3) := by kernel_rfl
theorem u_int : prog.underlying 3 = some (.int .i64) := by kernel_rfl
theorem u_dirs : prog.underlying 53 = some (.map 3 49) := by kernel_rfl
theorem u_files : prog.underlying 108 = some (.map 3 3) := by kernel_rfl

theorem i_entry0 : (prog.info? 117).map (fun i => (i.size, i.bytes, i.zero)) = some (5, 48, some (.agg #[.string ⟨#[]⟩, .int .i64 0, .bool false, .int .i64 0, .int .i64 0])) := by kernel_rfl
theorem i_int0 : (prog.info? 3).map (fun i => (i.size, i.bytes, i.zero)) = some (1, 8, some (.int .i64 0)) := by kernel_rfl
theorem i_entries0 : (prog.info? 49).map (fun i => (i.size, i.bytes, i.zero)) = some (1, 24, some (.slice none 0 0)) := by kernel_rfl

theorem i_entry : ∃ i, prog.info? 117 = some i ∧ i.size = 5 ∧ i.bytes = 48 ∧ i.zero = some (.agg #[.string ⟨#[]⟩, .int .i64 0, .bool false, .int .i64 0, .int .i64 0]) := by
  have h := i_entry0
  cases hi : prog.info? 117 with
  | none => rw [hi] at h; cases h
  | some i => rw [hi] at h; simp at h; exact ⟨i, rfl, h.1, h.2.1, h.2.2⟩
theorem i_int : ∃ i, prog.info? 3 = some i ∧ i.size = 1 ∧ i.bytes = 8 ∧ i.zero = some (.int .i64 0) := by
  have h := i_int0
  cases hi : prog.info? 3 with
  | none => rw [hi] at h; cases h
  | some i => rw [hi] at h; simp at h; exact ⟨i, rfl, h.1, h.2.1, h.2.2⟩
theorem z_int (w : World) : (zeroValue 3).run prog w = .ok (.int .i64 0) w := by
  obtain ⟨i, hi, _, _, hz⟩ := i_int
  simp [zeroValue, typeInfo, hi, hz]
theorem z_entries (w : World) : (zeroValue 49).run prog w = .ok (.slice none 0 0) w := by
  have h := i_entries0
  cases hi : prog.info? 49 with
  | none => rw [hi] at h; cases h
  | some i => rw [hi] at h; simp at h; simp [zeroValue, typeInfo, hi, h.2.2]

section
variable {w : World} {F : List Nat} {n c m c' lo : Nat} {a a' : Option Addr} {xs ys : List Value} {b : Nat}

theorem append_entries (h : Own w lo 117 5 a n c xs) (hlo : lo ≤ w.heap.size) (ty : TypeId) (hx : Sli w F 5 a' m ys) (h1 : ∀ u ∈ ys, u.oneCell' = true) (hb : n + m ≤ 1099511627776) :
    ∃ b d w', (Builtin.append_ #[49, 49] ty #[.slice a n c, .slice a' m c']).run prog w = .ok (.slice b (n + m) d) w' ∧ Own w' lo 117 5 b (n + m) d (xs ++ ys) ∧ Fr (blks a) w w' ∧
      (∀ i ∈ blks b, i ∈ blks a ∨ w.heap.size ≤ i) ∧ (n + m ≤ c → b = a ∧ d = c) := by
  obtain ⟨i, hi, hs, hby, hz⟩ := i_entry
  exact Own.append i _ u_entries hi hz hs rfl (Nat.succ_pos _) h hlo ty hx h1 (by rw [hby]; omega)
theorem append_ints (h : Own w lo 3 1 a n c xs) (hlo : lo ≤ w.heap.size) (ty : TypeId) (hx : Sli w F 1 a' m ys) (h1 : ∀ u ∈ ys, u.oneCell' = true) (hb : n + m ≤ 1099511627776) :
    ∃ b d w', (Builtin.append_ #[201, 201] ty #[.slice a n c, .slice a' m c']).run prog w = .ok (.slice b (n + m) d) w' ∧ Own w' lo 3 1 b (n + m) d (xs ++ ys) ∧ Fr (blks a) w w' ∧
      (∀ i ∈ blks b, i ∈ blks a ∨ w.heap.size ≤ i) ∧ (n + m ≤ c → b = a ∧ d = c) := by
  obtain ⟨i, hi, hs, hby, hz⟩ := i_int
  exact Own.append i _ u_ints hi hz hs rfl (Nat.succ_pos _) h hlo ty hx h1 (by rw [hby]; omega)
theorem clear_entries (h : Own w lo 117 5 a n c xs) (ty : TypeId) (hm : n + m ≤ c) :
    ∃ w', (Builtin.clear_ #[49] ty #[.slice (if c = n then a else a.map fun y => y.add (n * 5)) m c']).run prog w = .ok (.tuple #[]) w' ∧ Own w' lo 117 5 a n c xs ∧ Fr (blks a) w w' := by
  obtain ⟨i, hi, _, _, hz⟩ := i_entry
  refine Own.clear i _ u_entries hi hz rfl ?_ (Nat.succ_pos _) h ty hm
  intro u hu
  simp [Value.cells] at hu
  rcases hu with rfl | rfl | rfl | rfl | rfl <;> rfl

theorem lookup_dirs {m : List (Int × Value)} (h : IMap w b m) (k : Int) (ok : Bool) :
    (Instr.lookup 53 (.map (some b)) (.int .i64 k) ok).run prog w = .ok (if ok then .tuple #[(alook m k).getD (.slice none 0 0), .bool (alook m k).isSome] else (alook m k).getD (.slice none 0 0)) w :=
  IMap.lookup u_dirs u_int z_entries h k ok
theorem lookup_files {m : List (Int × Value)} (h : IMap w b m) (k : Int) (ok : Bool) :
    (Instr.lookup 108 (.map (some b)) (.int .i64 k) ok).run prog w = .ok (if ok then .tuple #[(alook m k).getD (.int .i64 0), .bool (alook m k).isSome] else (alook m k).getD (.int .i64 0)) w :=
  IMap.lookup u_files u_int z_int h k ok
end
end Go.Proofs.Tryz
