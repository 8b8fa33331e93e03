/- TreeMakes, of whatever calls and whatever entry: true. Conditions: none. -/
import Derived.Test.YtdicohcmccjnoaaGreatLg
set_option maxRecDepth 10000
namespace Go.Topo
open Go
theorem flat_le {α : Type} {f : Int → List α} {B : Nat} (h : ∀ n, (f n).length ≤ B) : ∀ l : List Int, (l.flatMap f).length ≤ l.length * B
  | [] => by simp
  | x :: r => by
    rw [List.flatMap_cons, List.length_append, List.length_cons, Nat.add_mul]
    have := flat_le h r
    have := h x
    omega
theorem made_own {t : RT} (hI : Inv t) {K : List Int} (hK : K.Nodup) (hm : ∀ n, n ∈ K ↔ kindOf t.L n = 2) : madeL (Dt t.L) K = t.L := by
  have hF := formed_own hI hK hm
  refine sorted_ext (fun x : Int × Ent => x.2.cookie) (madeL_cookies hF) hI.cookies (fun x => ?_)
  rw [mem_madeL, mem_dlt hI]
  exact ⟨fun h => h.2, fun h => ⟨(hm _).2 (hI.parent x h), h⟩⟩
theorem dl_put (D : DMap) (n node : Int) (bl : List Ent) : dl (fun m => if m = node then some bl else D m) n = if n = node then bl else dl D n := by
  unfold dl; by_cases e : n = node <;> simp [e]
theorem dl_del (D : DMap) (n node : Int) : dl (fun m => if m = node then none else D m) n = if n = node then [] else dl D n := by
  unfold dl; by_cases e : n = node <;> simp [e]
theorem keysOf_length (dL : List Int) (o : Int) : (keysOf dL o).length ≤ dL.length + 1 := by unfold keysOf; split <;> simp
theorem keysOf_nodup {dL : List Int} (h : dL.Nodup) (o : Int) : (keysOf dL o).Nodup := by
  unfold keysOf
  split
  · exact h
  · rename_i ho
    rw [List.nodup_append]
    refine ⟨h, by simp, ?_⟩
    rintro x hx y hy rfl
    obtain rfl := List.mem_singleton.1 hy
    exact ho hx
theorem mem_keysOf {dL : List Int} {o n : Int} : n ∈ keysOf dL o ↔ n ∈ dL ∨ n = o := by
  unfold keysOf
  split
  · rename_i ho
    exact ⟨.inl, fun h => h.elim id (fun e => e ▸ ho)⟩
  · rw [List.mem_append, List.mem_singleton]
end Go.Topo

namespace Go.Proofs.Tryz
open Go Go.Eng Go.Topo

/-- a map of directories that is under way -/
def DMx (w : World) (F : List Nat) (db : Nat) (dm : List (Int × Value)) (D : DMap) : Prop :=
  IMap w db dm ∧ ∀ n, match D n with
    | some l => l.length ≤ 1048576 ∧ ∃ a c, alook dm n = some (.slice a l.length c) ∧ Ents w F a l.length l
    | none => alook dm n = none
section
variable {w w' : World} {F F' G : List Nat} {db : Nat} {dm : List (Int × Value)} {D D' : DMap}
theorem DMx.at (h : DMx w F db dm D) : DMAt w [] db dm D := by
  refine ⟨h.1, by simp, fun n => ?_⟩
  have := h.2 n
  split
  · rename_i l hl
    rw [hl] at this
    obtain ⟨h1, a, c, h2, h3⟩ := this
    exact ⟨h1, a, c, h2, h3.ext (by simp)⟩
  · rename_i hl
    rw [hl] at this
    exact this
theorem DMx.congr (h : DMx w F db dm D) (he : ∀ n, D n = D' n) : DMx w F db dm D' := by
  obtain rfl : D = D' := funext he
  exact h
theorem DMx.fr (h : DMx w F db dm D) (hf : Fr G w w') (hG : ∀ i ∈ G, i ∈ F) (hm : db ∉ G) (hF : ∀ i ∈ F', i ∈ F ∨ w.heap.size ≤ i) : DMx w' F' db dm D := by
  refine ⟨h.1.fr hf hm, fun n => ?_⟩
  have := h.2 n
  split
  · rename_i l hl
    rw [hl] at this
    obtain ⟨h1, a, c, h2, h3⟩ := this
    exact ⟨h1, a, c, h2, Sli.move h3 hf hG hF⟩
  · rename_i hl
    rw [hl] at this
    exact this
theorem DMx.fr0 (h : DMx w F db dm D) (hf : Fr [] w w') : DMx w' F db dm D := h.fr hf (by simp) (by simp) (fun _ hi => .inl hi)
theorem DMx.put (h : DMx w F db dm D) (hF : db ∈ F) (n : Int) (a : Option Addr) (c : Nat) (l : List Ent) (hl : l.length ≤ 1048576) (he : Ents w F a l.length l) :
    ∃ w' dm', (Instr.mapUpdate 53 (.map (some db)) (.int .i64 n) (.slice a l.length c)).run prog w = .ok () w' ∧ DMx w' F db dm' (fun m => if m = n then some l else D m) ∧ Fr [db] w w' := by
  obtain ⟨w', hr, hm, hf, _⟩ := IMap.update (P := prog) u_dirs u_int h.1 n (.slice a l.length c)
  have hfF : Fr F w w' := hf.mono (by intro i hi; simp at hi; subst hi; exact hF)
  refine ⟨w', aput dm n (.slice a l.length c), hr, ⟨hm, fun m => ?_⟩, hf⟩
  by_cases e : m = n
  · subst e
    simp only [if_true]
    exact ⟨hl, a, c, by rw [alook_aput, if_pos rfl], he.fr hfF⟩
  · simp only [if_neg e]
    have hd := h.2 m
    split
    · rename_i l' hl'
      rw [hl'] at hd
      obtain ⟨h1, a', c', ha, he'⟩ := hd
      exact ⟨h1, a', c', by rw [alook_aput, if_neg (fun e' => e e'.symm)]; exact ha, he'.fr hfF⟩
    · rename_i hl'
      rw [hl'] at hd
      rw [alook_aput, if_neg (fun e' => e e'.symm)]; exact hd
theorem DMx.del (h : DMx w F db dm D) (hF : db ∈ F) (n : Int) (ty t2 : TypeId) :
    ∃ w' dm', (Builtin.delete_ #[53, t2] ty #[.map (some db), .int .i64 n]).run prog w = .ok (.tuple #[]) w' ∧ DMx w' F db dm' (fun m => if m = n then none else D m) ∧ Fr [db] w w' := by
  obtain ⟨w', hr, hm, hf, _⟩ := IMap.delete (P := prog) u_dirs u_int h.1 n ty t2
  have hfF : Fr F w w' := hf.mono (by intro i hi; simp at hi; subst hi; exact hF)
  refine ⟨w', adel dm n, hr, ⟨hm, fun m => ?_⟩, hf⟩
  by_cases e : m = n
  · subst e
    simp only [if_true]
    rw [alook_adel, if_pos rfl]
  · simp only [if_neg e]
    have hd := h.2 m
    split
    · rename_i l' hl'
      rw [hl'] at hd
      obtain ⟨h1, a', c', ha, he'⟩ := hd
      exact ⟨h1, a', c', by rw [alook_adel, if_neg (fun e' => e e'.symm)]; exact ha, he'.fr hfF⟩
    · rename_i hl'
      rw [hl'] at hd
      rw [alook_adel, if_neg (fun e' => e e'.symm)]; exact hd
theorem DMAt.bounds (h : DMAt w [] db dm D) {ks : List Int} (hks : ks.length ≤ 202) (hall : ∀ n, (D n).isSome → n ∈ ks) (hlen : ∀ n, (dl D n).length ≤ 200) :
    (∀ n, n ∈ keys dm ↔ (D n).isSome) ∧ ((keys dm).flatMap (allNodes D)).length ≤ 1000000 ∧ dm.length ≤ 1000000 ∧ (itemsOf D ks).length ≤ 1000000 := by
  have hm : ∀ n, n ∈ keys dm ↔ (D n).isSome := by
    intro n
    rw [mem_keys_iff]
    obtain ⟨_, _, _, _, _, h⟩ := h.look n
    rw [h]
  have h1 : (keys dm).length ≤ ks.length := nodup_le h.1.nodup (fun x hx => hall x ((hm x).1 hx))
  have h2 := flat_le (f := allNodes D) (B := 200) (fun n => by unfold allNodes; rw [List.length_map]; exact hlen n) (keys dm)
  have h3 := flat_le (f := fun n => (dl D n).map (fun e => (n, e))) (B := 200) (fun n => by rw [List.length_map]; exact hlen n) ks
  have h4 : (keys dm).length = dm.length := by simp [keys]
  refine ⟨hm, by omega, by omega, ?_⟩
  unfold itemsOf
  omega
end

/-- the bent entries: made, and looked at -/
theorem tm_end {w W : World} {db bb hb : Nat} {dm : List (Int × Value)} {D : DMap} {R : Ending → World → Prop} (hR : ∀ e w', (e = .returned (.bool true) ∧ Fr [] w w') → R e w') (fW : Fr [] w W) (hd : DMAt W [] db dm D)
    {ba : Option Addr} {bn bc : Nat} {node how0 how1 how2 how3 : Int} (hbb : Blk W bb [.int .i64 node, .slice ba bn bc]) (hhb : Blk W hb [.int .u8 how0, .int .u8 how1, .int .u8 how2, .int .u8 how3]) (h1 : 0 ≤ how1 ∧ how1 ≤ 255)
    {dL : List Int} {da : Option Addr} {dn dc : Nat} (hdL : Sli W [] 1 da dn (dL.map intC)) (hdn : dL.length ≤ 201) (hdN : dL.Nodup) (hall : ∀ n, (D n).isSome → n ∈ keysOf dL node) (hlen : ∀ n, (dl D n).length ≤ 200)
    (hnm : ∀ n, ∀ e ∈ dl D n, e.name.size ≤ 9223372036854775807) :
    (0 ≤ (1 : Int) ∧ (1 : Int) < 4) ∧ ∃ x_184 : Int, W.cell? ⟨hb, (1 : Int).toNat * 1, none⟩ = some (.int .u8 x_184) ∧ Calls prog 27 #[.int .i64 (IntKind.wrap .i64 x_184), .map (some db)] W fun e W1 => ∃ (y : Option Addr) (h : Int), e = .returned (.tuple #[.pointer y, .int .i64 h]) ∧
      (0 ≤ (1 : Int) ∧ (1 : Int) < 4) ∧ ∃ x_189 : Int, W1.cell? ⟨hb, (1 : Int).toNat * 1, none⟩ = some (.int .u8 x_189) ∧ ∃ x_190 : Int, W1.cell? ⟨bb, 0, none⟩ = some (.int .i64 x_190) ∧ Calls prog 31 #[.int .i64 (IntKind.wrap .i64 x_189), .map (some db), .slice da dn dc, .int .i64 x_190] W1 fun e W2 => ∃ b : Bool, e = .returned (.bool b) ∧
        cond (!b) (cond (h == 2) (R (.returned (.bool y.isNone)) W2) (R (.returned (.bool false)) W2)) (∀ W3, W3 = W2.drew → ∃ S : World → Prop, S W3 ∧ cond (h == 0) ((0 ≤ (1 : Int) ∧ (1 : Int) < 4) ∧ ∃ x_202 : Int, (∀ V, S V → V.cell? ⟨hb, (1 : Int).toNat * 1, none⟩ = some (.int .u8 x_202)) ∧
          Calls prog 28 #[.pointer y] W3 fun e W4 => ∃ x_206 : Int, e = .returned (.int .i64 x_206) ∧ S W4 ∧ R (.returned (.bool (x_206 == IntKind.wrap .i64 x_202))) W4) (R (.returned (.bool false)) W3)) := by
  have hwr : IntKind.wrap .i64 how1 = how1 := wr (by omega) (by omega)
  have hcell : ∀ Y, Fr [] W Y → Y.cell? ⟨hb, (1 : Int).toNat * 1, none⟩ = some (.int .u8 how1) := fun Y hY => (hhb.fr hY (by simp)).cell 1
  have hdl : dL.length = dn := by have := hdL.1; simp at this; omega
  have hkl := keysOf_length dL node
  obtain ⟨hkm, b1, b2, b3⟩ := hd.bounds (ks := keysOf dL node) (by omega) hall hlen
  have hnm' : ∀ x ∈ itemsOf D (keysOf dL node), x.2.name.size ≤ 9223372036854775807 := fun x hx => hnm x.1 x.2 (mem_itemsOf.1 hx).2
  refine ⟨⟨by omega, by omega⟩, how1, hcell W (Fr.refl ..), ?_⟩
  rw [hwr]
  refine Calls.mono (k_Make hd (by omega) (by omega) (by omega)) ?_
  rintro _ W1 ⟨f1, hcase⟩
  have both : LF D (keysOf dL node) how1 ↔ Formed D (keys dm) how1 := by
    rw [lf_formed (keysOf_nodup hdN node) hall]
    have hTm : ∀ n, n ∈ thereOf D (keysOf dL node) ↔ (D n).isSome := by
      intro n
      unfold thereOf
      rw [List.mem_filter]
      exact ⟨fun h => h.2, fun h => ⟨hall n h, h⟩⟩
    exact ⟨fun h => h.perm hd.1.nodup (fun n => (hkm n).trans (hTm n).symm), fun h => h.perm ((keysOf_nodup hdN node).filter _) (fun n => (hTm n).trans (hkm n).symm)⟩
  have hd1 : DMAt W1 [] db dm D := hd.fr f1
  have look := k_lformed hd1 dL node how1 da dn dc (hdL.fr f1) (by omega) b3 hnm'
  rcases hcase with ⟨hF, tb, F, rfl, hT, _, _⟩ | ⟨hF, rfl⟩
  · refine ⟨_, _, rfl, ⟨by omega, by omega⟩, how1, hcell W1 f1, node, (hbb.fr f1 (by simp)).cell 0, ?_⟩
    rw [hwr]
    refine Calls.mono look ?_
    rintro _ W2 ⟨⟨b, rfl, hb'⟩, f2⟩
    have : b = true := hb'.2 (both.2 hF)
    subst this
    refine ⟨_, rfl, ?_⟩
    rw [Bool.not_true, cond_false]
    rintro W3 rfl
    have f3 := Fr.drew W2
    refine ⟨fun V => Fr [] W2.drew V, Fr.refl .., ?_⟩
    rw [show ((0 : Int) == 0) = true from rfl, cond_true]
    refine ⟨⟨by omega, by omega⟩, how1, fun V hV => hcell V (((f1.trans f2).trans f3).trans hV), ?_⟩
    refine Calls.mono (k_Cookie ((hT [] (by simp)).fr0 (f2.trans f3))) ?_
    rintro _ W4 ⟨rfl, rfl⟩
    refine ⟨_, rfl, Fr.refl .., hR _ _ ⟨?_, fW.trans ((f1.trans f2).trans f3)⟩⟩
    rw [hwr, beq_self_eq_true]
  · refine ⟨_, _, rfl, ⟨by omega, by omega⟩, how1, hcell W1 f1, node, (hbb.fr f1 (by simp)).cell 0, ?_⟩
    rw [hwr]
    refine Calls.mono look ?_
    rintro _ W2 ⟨⟨b, rfl, hb'⟩, f2⟩
    have : b = false := by cases b with
      | false => rfl
      | true => exact absurd (both.1 (hb'.1 rfl)) hF
    subst this
    refine ⟨_, rfl, ?_⟩
    rw [Bool.not_false, cond_true, show ((2 : Int) == 2) = true from rfl, cond_true]
    exact hR _ _ ⟨rfl, fW.trans (f1.trans f2)⟩
end Go.Proofs.Tryz
