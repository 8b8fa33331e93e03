/- The law's own look at entries: has, reached. Conditions: none. -/
import Derived.Test.YtdicohcmccjnoaaGreatLq
import Derived.Test.YtdicohcmccjnoaaGreatMp
import Derived.Test.YtdicohcmccjnoaaGreatFk
set_option maxRecDepth 10000
namespace Go.Proofs.Tryz
open Go Go.Eng Go.Topo

theorem k_has (l : List Int) (v : Int) (a : Option Addr) (n c : Nat) (w : World) (he : Sli w [] 1 a n (l.map intC)) (hn : n ≤ 4194304) :
    Calls prog 81 #[.slice a n c, .int .i64 v] w fun e w' => e = .returned (.bool (decide (v ∈ l))) ∧ w = w' := by
  refine c81 _ _ _ _ _ _ (withR (X := N81 _ _ _ _ _) ?_)
  intro R hR
  unfold N81
  have hlen : l.length = n := by have := he.1; simp at this; omega
  refine lp81_0 _ _ _ _ (fun q i W => ∃ k : Nat, i = k ∧ k ≤ n ∧ q = n - k ∧ w = W ∧ v ∉ l.take k) _ ?_ n 0 w ⟨0, rfl, by omega, by omega, rfl, by simp⟩ _
  rintro q _ ds W ⟨k, rfl, hk, rfl, rfl, hp⟩
  unfold B81_0
  by_cases hkn : k < n
  · rw [decide_eq_true (by omega), cond_true]
    obtain ⟨x, hx⟩ : ∃ x, l[k]? = some x := ⟨l[k]'(by omega), List.getElem?_eq_getElem _⟩
    obtain ⟨b, off, rfl, _, hr⟩ := he.some_of (by omega)
    have hc : w.cell? ⟨b, off + k, none⟩ = some (.int .i64 x) := by
      rw [hr.cell (by simp; omega)]; simp [hx]
    simp only [optW, Addr.add_lit, Int.toNat_natCast, Nat.mul_one]
    refine ⟨⟨by omega, by omega⟩, x, hc, ?_⟩
    by_cases e : x = v
    · subst e
      rw [beq_self_eq_true, cond_true]
      exact hR _ _ ⟨by rw [decide_eq_true (List.mem_of_getElem? hx)], rfl⟩
    · rw [beq_eq_false_iff_ne.2 e, cond_false]
      refine ⟨_, rfl, n - (k + 1), by omega, k + 1, ?_, by omega, rfl, trivial, ?_⟩
      · rw [wr (by omega) (by omega)]; simp
      · rw [take_snoc hx, List.mem_append, List.mem_singleton]
        rintro (h | h)
        · exact hp h
        · exact e h.symm
  · rw [decide_eq_false (by omega), cond_false]
    rw [List.take_of_length_le (by omega)] at hp
    exact hR _ _ ⟨by rw [decide_eq_false hp], rfl⟩

/-- reached: is each directory met from the root? -/
theorem k_reached (A : Items) (T : List Int) (aa ta : Option Addr) (an ac tn tc : Nat) (w : World) (hA : Recs itE w [] aa an A) (hT : Sli w [] 1 ta tn (T.map intC)) (han : an ≤ 1048576) (htn : tn ≤ 1048576) :
    Calls prog 82 #[.slice aa an ac, .slice ta tn tc] w fun e w' => (∃ b, e = .returned (.bool b) ∧ (b = true ↔ ∀ v ∈ T, DReach A v)) ∧ Fr [] w w' := by
  refine c82 _ _ _ _ _ _ _ _ (withR (X := N82 _ _ _ _ _ _ _) ?_)
  intro R hR
  unfold N82
  have hAl := hA.len
  have hTl : T.length = tn := by have := hT.1; simp at this; omega
  rintro w1 rfl
  have f1 := Fr.alloc w (.cells #[(.int .i64 (0))] 3)
  have o1 : OwnR intE 3 (w.alloc (.cells #[(.int .i64 (0))] 3)) w.heap.size (some ⟨w.heap.size, 0, none⟩) 1 1 [0] := OwnR.lit w (l := [0]) (by simp [maxLen]) 3 (Nat.le_refl _)
  have hle0 := f1.1
  -- met: no number twice; each is the root or a node of the entries
  let Ok : World → Option Addr → Nat → Nat → List Int → Prop := fun W a n c M => OwnR intE 3 W w.heap.size a n c M ∧ M.Nodup ∧ (∀ x ∈ M, x = 0 ∨ x ∈ A.map (fun y => y.2.node)) ∧ (∀ x ∈ M, DReach A x) ∧ 0 ∈ M ∧ Fr [] w W
  have bound : ∀ {W : World} {a : Option Addr} {n c : Nat} {M : List Int}, Ok W a n c M → n ≤ an + 1 := by
    rintro W a n c M ⟨ho, hnd, hin, _, _, _⟩
    rw [ho.len, hAl]
    have := nodup_le (r := 0 :: A.map (fun y => y.2.node)) hnd (fun x hx => by
      rcases hin x hx with h | h
      · exact h ▸ List.mem_cons_self ..
      · exact List.mem_cons_of_mem _ h)
    simpa using this
  -- the last round
  have last : ∀ (ds : List Value) (V : World) (ma : Option Addr) (mn mc : Nat) (M : List Int), Ok V ma mn mc M → (∀ m ∈ M, ∀ x ∈ A, x.1 = m → x.2.dir = true → x.2.node ∈ M) → L82_2 ta tn tc ma mn mc 0 ds V R := by
    intro ds V ma mn mc M hM hcl
    have hb := bound hM
    obtain ⟨ho, hnd, hin, hrc, h0, fV⟩ := hM
    have hsub : ∀ v, DReach A v → v ∈ M := by
      intro v hv
      induction hv with
      | root => exact h0
      | step x hx hd r ih => exact hcl x.1 ih x hx rfl hd
    refine lp82_2 _ _ _ _ _ _ (fun q i U => ∃ k : Nat, i = k ∧ k ≤ tn ∧ q = tn - k ∧ V = U ∧ ∀ v ∈ T.take k, v ∈ M) _ ?_ tn 0 V ⟨0, rfl, by omega, by omega, rfl, by simp⟩ _
    rintro q _ ds U ⟨k, rfl, hk, rfl, rfl, hp⟩
    unfold B82_2
    by_cases hkn : k < tn
    · rw [decide_eq_true (by omega), cond_true]
      obtain ⟨x, hx⟩ : ∃ x, T[k]? = some x := ⟨T[k]'(by omega), List.getElem?_eq_getElem _⟩
      obtain ⟨b, off, rfl, _, hr⟩ := (hT.fr fV).some_of (by omega)
      have hc : V.cell? ⟨b, off + k, none⟩ = some (.int .i64 x) := by
        rw [hr.cell (by simp; omega)]; simp [hx]
      simp only [optW, Addr.add_lit, Int.toNat_natCast, Nat.mul_one]
      refine ⟨⟨by omega, by omega⟩, x, hc, ?_⟩
      refine Calls.mono (k_has M x ma mn mc V (by have := ho.recs0; unfold Recs at this; rw [intE_flat] at this; exact this) (by omega)) ?_
      rintro _ _ ⟨rfl, rfl⟩
      refine ⟨_, rfl, ?_⟩
      by_cases hxm : x ∈ M
      · rw [decide_eq_true hxm, Bool.not_true, cond_false]
        refine ⟨_, rfl, tn - (k + 1), by omega, k + 1, ?_, by omega, rfl, rfl, ?_⟩
        · rw [wr (by omega) (by omega)]; simp
        · rw [take_snoc hx]
          intro v hv
          rcases List.mem_append.1 hv with hv | hv
          · exact hp v hv
          · obtain rfl := List.mem_singleton.1 hv; exact hxm
      · rw [decide_eq_false hxm, Bool.not_false, cond_true]
        refine hR _ _ ⟨⟨false, rfl, ?_⟩, fV⟩
        constructor
        · intro h; cases h
        · intro h; exact absurd (hsub x (h x (List.mem_of_getElem? hx))) hxm
    · rw [decide_eq_false (by omega), cond_false]
      rw [List.take_of_length_le (by omega)] at hp
      exact hR _ _ ⟨⟨true, rfl, fun _ v hv => hrc v (hp v hv), fun _ => rfl⟩, fV⟩
  refine lp82_0 _ _ _ _ _ _ (fun q ma mn mc i U => ∃ (k : Nat) (M : List Int), i = k ∧ k ≤ mn ∧ q = an + 2 - k ∧ Ok U ma mn mc M ∧ ∀ m ∈ M.take k, ∀ x ∈ A, x.1 = m → x.2.dir = true → x.2.node ∈ M) _ ?_ (an + 2) _ 1 1 0 _
    ⟨0, [0], rfl, by omega, by omega, ⟨o1, by simp, by simp, by simp; exact .root, by simp, f1⟩, by simp⟩ _
  rintro q ma mn mc _ ds U ⟨k, M, rfl, hk, rfl, hM, hcl⟩
  unfold B82_0
  have hb := bound hM
  by_cases hkn : k < mn
  · rw [decide_eq_true (by omega), cond_true]
    obtain ⟨m, hm⟩ : ∃ m, M[k]? = some m := by have := hM.1.len; exact ⟨M[k]'(by omega), List.getElem?_eq_getElem _⟩
    refine lp82_1 _ _ _ _ _ _ _ (fun q ma mn mc j V => ∃ (i : Nat) (M' : List Int), j = i ∧ i ≤ an ∧ q = an - i ∧ Ok V ma mn mc M' ∧ k < mn ∧ M'[k]? = some m ∧ (∀ x ∈ M, x ∈ M') ∧ M'.take k = M.take k ∧
      ∀ x ∈ A.take i, x.1 = m → x.2.dir = true → x.2.node ∈ M') _ _ _ _ _ _ _ _ ?_ an ma mn mc 0 U
      ⟨0, M, rfl, by omega, by omega, hM, hkn, hm, fun _ h => h, rfl, by simp⟩ _
    clear hM hb hk
    rintro q ma mn mc _ ds V ⟨i, M', rfl, hi, rfl, hM', hkn', hm', hsub, htk, hdone⟩
    unfold B82_1
    have hb := bound hM'
    by_cases hin : i < an
    · rw [decide_eq_true (by omega), cond_true]
      rintro V1 rfl
      obtain ⟨ho, hnd, hinM, hrc, h0, fV⟩ := hM'
      have fd := Fr.drew V
      have fV1 := fV.trans fd
      have ho1 := ho.fr0 fd
      have hM1 : Ok V.drew ma mn mc M' := ⟨ho1, hnd, hinM, hrc, h0, fV1⟩
      generalize V.drew = V1 at *
      obtain ⟨x, hx⟩ : ∃ x, A[i]? = some x := ⟨A[i]'(by omega), List.getElem?_eq_getElem _⟩
      obtain ⟨b, off, rfl, hc⟩ := (hA.fr0 fV1).cell hx
      obtain ⟨b2, off2, rfl, hc2⟩ := ho1.recs0.cell hm'
      have c0 : V1.cell? ⟨b, off + i * 6, none⟩ = some (.int .i64 x.1) := hc 0 _ rfl
      have c2 : V1.cell? ⟨b, off + i * 6 + 1 + 1, none⟩ = some (.int .i64 x.2.node) := hc 2 _ rfl
      have c3 : V1.cell? ⟨b, off + i * 6 + 1 + 2, none⟩ = some (.bool x.2.dir) := hc 3 _ rfl
      have cm : V1.cell? ⟨b2, off2 + k, none⟩ = some (.int .i64 m) := by have := hc2 0 _ rfl; simpa [intE] using this
      simp only [optW, Addr.add_lit, Int.toNat_natCast, Nat.mul_one]
      have hwi : IntKind.wrap .i64 ((i : Int) + 1) = ((i + 1 : Nat) : Int) := by rw [wr (by omega) (by omega)]; simp
      -- nothing is put
      have skip : (x.1 = m → x.2.dir = true → x.2.node ∈ M') → ∃ q, q < an - i ∧ ∃ (i' : Nat) (M2 : List Int), IntKind.wrap .i64 ((i : Int) + 1) = i' ∧ i' ≤ an ∧ q = an - i' ∧ Ok V1 (some ⟨b2, off2, none⟩) mn mc M2 ∧ k < mn ∧ M2[k]? = some m ∧ (∀ x ∈ M, x ∈ M2) ∧ M2.take k = M.take k ∧
          ∀ x ∈ A.take i', x.1 = m → x.2.dir = true → x.2.node ∈ M2 := by
        intro hs
        refine ⟨an - (i + 1), by omega, i + 1, M', hwi, by omega, rfl, hM1, hkn', hm', hsub, htk, ?_⟩
        rw [take_snoc hx]
        intro y hy
        rcases List.mem_append.1 hy with hy | hy
        · exact hdone y hy
        · obtain rfl := List.mem_singleton.1 hy; exact hs
      refine ⟨fun U => U = V1, rfl, ⟨by omega, by omega⟩, x.1, fun U hU => by rw [hU]; exact c0, ⟨by omega, by omega⟩, m, fun U hU => by rw [hU]; exact cm, ?_⟩
      by_cases e1 : x.1 = m
      · rw [beq_iff_eq.2 e1, cond_true]
        refine ⟨⟨by omega, by omega⟩, x.2.dir, fun U hU => by rw [hU]; exact c3, ?_⟩
        cases hxd : x.2.dir with
        | true =>
          rw [cond_true]
          refine ⟨⟨by omega, by omega⟩, x.2.node, fun U hU => by rw [hU]; exact c2, ?_⟩
          refine Calls.mono (k_has M' x.2.node _ mn mc V1 (by have := ho1.recs0; unfold Recs at this; rw [intE_flat] at this; exact this) (by omega)) ?_
          rintro _ _ ⟨rfl, rfl⟩
          refine ⟨_, rfl, rfl, ?_⟩
          by_cases hxm : x.2.node ∈ M'
          · rw [decide_eq_true hxm, Bool.not_true, cond_false]
            exact ⟨_, _, _, _, rfl, skip (fun _ _ => hxm)⟩
          · rw [decide_eq_false hxm, Bool.not_false, cond_true]
            refine ⟨⟨by omega, by omega⟩, _, c2, ?_⟩
            rintro V2 rfl
            obtain ⟨b3, d3, V3, hr3, ho3, f3, hbl⟩ := OwnR.push (E := intE) T_ints ho1 fV1.1 x.2.node 54 3 (by omega)
            have fV3 : Fr [] w V3 := fV1.trans' f3 (fun j hj => .inr (ho1.blk j hj).1)
            refine ⟨b3, _, d3, V3, hr3, _, _, _, _, rfl, an - (i + 1), by omega, i + 1, M' ++ [x.2.node], hwi, by omega, rfl, ⟨ho3, ?_, ?_, ?_, by simp [h0], fV3⟩, by omega, ?_, fun y hy => List.mem_append_left _ (hsub y hy), ?_, ?_⟩
            · rw [List.nodup_append]
              refine ⟨hnd, by simp, ?_⟩
              rintro y hy z hz rfl
              obtain rfl := List.mem_singleton.1 hz
              exact hxm hy
            · intro y hy
              rcases List.mem_append.1 hy with hy | hy
              · exact hinM y hy
              · obtain rfl := List.mem_singleton.1 hy
                exact .inr (List.mem_map_of_mem (f := fun y : Int × Ent => y.2.node) (List.mem_of_getElem? hx))
            · intro y hy
              rcases List.mem_append.1 hy with hy | hy
              · exact hrc y hy
              · obtain rfl := List.mem_singleton.1 hy
                exact .step x (List.mem_of_getElem? hx) hxd (e1 ▸ hrc m (List.mem_of_getElem? hm'))
            · rw [List.getElem?_append_left (List.getElem?_eq_some_iff.1 hm').1]; exact hm'
            · have hlk : k < M'.length := (List.getElem?_eq_some_iff.1 hm').1
              rw [List.take_append_of_le_length (by omega)]; exact htk
            · rw [take_snoc hx]
              intro y hy h1 h2
              rcases List.mem_append.1 hy with hy | hy
              · exact List.mem_append_left _ (hdone y hy h1 h2)
              · obtain rfl := List.mem_singleton.1 hy
                exact List.mem_append_right _ (List.mem_singleton.2 rfl)
        | false =>
          rw [cond_false]
          exact ⟨_, _, _, _, rfl, skip (fun _ h => by rw [hxd] at h; cases h)⟩
      · rw [beq_eq_false_iff_ne.2 e1, cond_false]
        exact ⟨_, _, _, _, rfl, skip (fun h => absurd h e1)⟩
    · rw [decide_eq_false (by omega), cond_false]
      rw [List.take_of_length_le (by omega)] at hdone
      refine ⟨_, _, _, _, rfl, an + 2 - (k + 1), by omega, k + 1, M', ?_, by omega, rfl, hM', ?_⟩
      · rw [wr (by omega) (by omega)]; simp
      · rw [take_snoc hm', htk]
        intro y hy x hx h1 h2
        rcases List.mem_append.1 hy with hy | hy
        · exact hsub _ (hcl y hy x hx h1 h2)
        · obtain rfl := List.mem_singleton.1 hy
          exact hdone x hx h1 h2
  · rw [decide_eq_false (by omega), cond_false]
    have := hM.1.len
    rw [List.take_of_length_le (by omega)] at hcl
    exact last _ U ma mn mc M hM hcl
end Go.Proofs.Tryz
