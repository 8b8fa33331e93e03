/- How the heap's methods are reached through its interface value. Conditions: none. -/
import Derived.Test.YtdicohcmccjnoaaGreatTy
import Derived.Test.YtdicohcmccjnoaaGreatFn
namespace Go.Proofs.Tryz
open Go Go.Eng Go.Topo

theorem back_struct0 : (match prog.underlying 203 with | some (.struct fs) => (fs[0]?).map (fun f => (f.type, f.offset)) | _ => none) = some (201, 0) := by kernel_rfl
theorem back_struct : ∃ fs f, prog.underlying 203 = some (.struct fs) ∧ fs[0]? = some f ∧ f.type = 201 ∧ f.offset = 0 := by
  have h := back_struct0
  split at h
  · rename_i fs hfs
    cases hf : fs[0]? with
    | none => rw [hf] at h; cases h
    | some f => rw [hf] at h; simp at h; exact ⟨fs, f, hfs, hf, h.1, h.2⟩
  · cases h
theorem u_pback0 : (match prog.underlying 222 with | some (.pointer _) => true | _ => false) = true := by kernel_rfl
theorem u_pback : ∃ e, prog.underlying 222 = some (.pointer e) := by
  have h := u_pback0
  split at h
  · rename_i e he; exact ⟨e, he⟩
  · cases h

theorem row0_Len : (prog.info? 222).bind (fun i => (i.methods.find? (·.name == "Len")).map fun m => (m.func, m.path.toList)) = some (some (136, false), [⟨203, 0, true⟩]) := by kernel_rfl
theorem row0_Less : (prog.info? 222).bind (fun i => (i.methods.find? (·.name == "Less")).map fun m => (m.func, m.path.toList)) = some (some (240, false), [⟨203, 0, true⟩]) := by kernel_rfl
theorem row0_Swap : (prog.info? 222).bind (fun i => (i.methods.find? (·.name == "Swap")).map fun m => (m.func, m.path.toList)) = some (some (242, false), [⟨203, 0, true⟩]) := by kernel_rfl
theorem row0_Push : (prog.info? 222).bind (fun i => (i.methods.find? (·.name == "Push")).map fun m => (m.func, m.path.toList)) = some (some (244, true), []) := by kernel_rfl
theorem row0_Pop : (prog.info? 222).bind (fun i => (i.methods.find? (·.name == "Pop")).map fun m => (m.func, m.path.toList)) = some (some (243, true), []) := by kernel_rfl

theorem row_of {name : String} {r : Option (FuncId × Bool) × List FieldStep} (h : (prog.info? 222).bind (fun i => (i.methods.find? (·.name == name)).map fun m => (m.func, m.path.toList)) = some r) :
    ∃ i m, prog.info? 222 = some i ∧ i.methods.find? (·.name == name) = some m ∧ m.func = r.1 ∧ m.path.toList = r.2 := by
  cases hi : prog.info? 222 with
  | none => rw [hi] at h; cases h
  | some i =>
    rw [hi] at h
    simp only [Option.bind_some] at h
    cases hm : i.methods.find? (·.name == name) with
    | none => rw [hm] at h; cases h
    | some m => rw [hm] at h; simp at h; exact ⟨i, m, rfl, hm, by rw [← h], by rw [← h]⟩

theorem sz_ints : sizeIs prog 201 1 = true := by kernel_rfl
theorem ag_ints : isAggB prog 201 = false := by kernel_rfl

/-- a method of the embedded slice, by value -/
theorem m_value {name : String} {f : FuncId} (h : (prog.info? 222).bind (fun i => (i.methods.find? (·.name == name)).map fun m => (m.func, m.path.toList)) = some (some (f, false), [⟨203, 0, true⟩]))
    (he : entersB prog f = true) (pa : Addr) (w : World) (v : Value) (hc : w.cell? pa = some v) (args : Array Value) :
    (callMethod (.iface 222 (.pointer (some pa))) name args).run prog w = .ok (.enter f (#[v] ++ args)) w := by
  obtain ⟨i, m, hi, hm, hf, hp⟩ := row_of h
  obtain ⟨fs, fd, hs, hfd, ht, ho⟩ := back_struct
  obtain ⟨k, hk⟩ : ∃ k, prog.types.size + Made.depth = k + 1 := ⟨prog.types.size + 99, by generalize prog.types.size = n; rfl⟩
  have h1 : (method (k + 1) 222 (.pointer (some pa)) name).run prog w = .ok (f, v) w := by
    unfold method
    have hpe : m.path.isEmpty = false := by
      rw [← Array.isEmpty_toList, hp]; rfl
    have hti : (typeInfo 222).run prog w = .ok i w := by simp [typeInfo, hi]
    rw [run_bind_ok hti]
    dsimp only
    rw [hm]
    dsimp only
    have hfp : (fieldPlace pa fd).run prog w = .ok pa w := by
      unfold fieldPlace
      rw [ht, run_bind_ok (Go.Eng.run_sizeOf sz_ints w), ho]
      simp [Addr.add_zero']
    have hfol : (follow m.path.toList 222 (.val (.pointer (some pa)))).run prog w = .ok (201, .var pa) w := by
      rw [hp]
      unfold follow
      rw [run_bind_ok (run_underlying hs w)]
      dsimp only
      rw [hfd]
      dsimp only
      simp only [if_true, Place.get]
      have ha : (asAddr (.pointer (some pa))).run prog w = .ok pa w := by simp [asAddr]
      rw [run_bind_ok (Sem.run_pure _ _ _), run_bind_ok ha, run_bind_ok hfp, ht]
      rfl
    rw [run_bind_ok hfol]
    dsimp only
    rw [hf]
    dsimp only
    have hr : (receiverAt 201 (.var pa) false (if m.path.isEmpty then some ((name.splitOn ".").getLastD name) else none)).run prog w = .ok v w := by
      rw [hpe]
      unfold receiverAt
      rw [run_bind_ok (run_underlying u_ints w)]
      dsimp only
      unfold Place.get loadVar
      dsimp only
      rw [run_bind_ok (Go.Eng.run_isAgg u_ints w), ag_ints]
      simp [hc]
    rw [run_bind_ok hr]
    exact Sem.run_pure _ _ _
  unfold callMethod
  dsimp only
  rw [run_bind_ok (a := prog) (w' := w) (by simp [program, Sem.run])]
  rw [hk, run_bind_ok h1]
  exact enters_of_B he _ _

/-- a method by pointer -/
theorem m_pointer {name : String} {f : FuncId} (h : (prog.info? 222).bind (fun i => (i.methods.find? (·.name == name)).map fun m => (m.func, m.path.toList)) = some (some (f, true), []))
    (he : entersB prog f = true) (pa : Addr) (w : World) (args : Array Value) :
    (callMethod (.iface 222 (.pointer (some pa))) name args).run prog w = .ok (.enter f (#[.pointer (some pa)] ++ args)) w := by
  obtain ⟨i, m, hi, hm, hf, hp⟩ := row_of h
  obtain ⟨e, hpb⟩ := u_pback
  obtain ⟨k, hk⟩ : ∃ k, prog.types.size + Made.depth = k + 1 := ⟨prog.types.size + 99, by generalize prog.types.size = n; rfl⟩
  have h1 : (method (k + 1) 222 (.pointer (some pa)) name).run prog w = .ok (f, .pointer (some pa)) w := by
    unfold method
    have hti : (typeInfo 222).run prog w = .ok i w := by simp [typeInfo, hi]
    rw [run_bind_ok hti]
    dsimp only
    rw [hm]
    dsimp only
    have hfol : (follow m.path.toList 222 (.val (.pointer (some pa)))).run prog w = .ok (222, .val (.pointer (some pa))) w := by
      rw [hp]
      unfold follow
      exact Sem.run_pure _ _ _
    rw [run_bind_ok hfol]
    dsimp only
    rw [hf]
    dsimp only
    have hr : ∀ wr, (receiverAt 222 (.val (.pointer (some pa))) true wr).run prog w = .ok (.pointer (some pa)) w := by
      intro wr
      unfold receiverAt
      rw [run_bind_ok (run_underlying hpb w)]
      exact Sem.run_pure _ _ _
    rw [run_bind_ok (hr _)]
    exact Sem.run_pure _ _ _
  unfold callMethod
  dsimp only
  rw [run_bind_ok (a := prog) (w' := w) (by simp [program, Sem.run])]
  rw [hk, run_bind_ok h1]
  exact enters_of_B he _ _
end Go.Proofs.Tryz
