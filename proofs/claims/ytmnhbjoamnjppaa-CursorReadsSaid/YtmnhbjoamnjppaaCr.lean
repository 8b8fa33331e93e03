/- The chapter's own Read; Same of two lists. Conditions: none. -/
import Derived.Test.YtmnhbjoamnjppaaCu
namespace Go.Topo
/-- as far as k -/
def outTo (l : List Ent) (c : Int) (q k : Nat) : List Ent := ((l.take k).filter (fun e => decide (e.cookie > c))).take q

theorem outTo_all (l : List Ent) (c : Int) (q : Nat) {k : Nat} (h : l.length ≤ k) : outTo l c q k = (l.filter (fun e => decide (e.cookie > c))).take q := by
  unfold outTo; rw [List.take_of_length_le h]
theorem outTo_full (l : List Ent) (c : Int) (q : Nat) {k : Nat} (h : (outTo l c q k).length = q) : outTo l c q k = (l.filter (fun e => decide (e.cookie > c))).take q := by
  unfold outTo at *
  conv => rhs; rw [← List.take_append_drop k l, List.filter_append]
  rw [List.length_take] at h
  rw [List.take_append_of_le_length (by omega)]
theorem outTo_step {l : List Ent} (hr : Rising l) (c : Int) (q : Nat) {k : Nat} {x : Ent} (hx : l[k]? = some x) (h : (outTo l c q k).length < q) :
    (x.cookie > nextCur (outTo l c q k) c ↔ x.cookie > c) ∧ (x.cookie > c → outTo l c q (k + 1) = outTo l c q k ++ [x]) ∧ (¬ x.cookie > c → outTo l c q (k + 1) = outTo l c q k) := by
  have hk : k < l.length := (List.getElem?_eq_some_iff.1 hx).1
  have hfull : outTo l c q k = (l.take k).filter (fun e => decide (e.cookie > c)) := by
    unfold outTo at *
    rw [List.length_take] at h
    rw [List.take_of_length_le (by omega)]
  have htk : l.take (k + 1) = l.take k ++ [x] := by rw [List.take_add_one, hx]; rfl
  refine ⟨?_, ?_, ?_⟩
  · unfold nextCur
    cases hl : (outTo l c q k).getLast? with
    | none => simp
    | some y =>
      have hm : y ∈ outTo l c q k := List.mem_of_getLast? hl
      rw [hfull, List.mem_filter] at hm
      have h1 : y.cookie > c := by simpa using hm.2
      obtain ⟨j, hj, hy⟩ := List.mem_take_iff_getElem.1 hm.1
      have h2 := List.pairwise_iff_getElem.1 hr j k (by omega) hk (by omega)
      rw [hy, (List.getElem?_eq_some_iff.1 hx).2] at h2
      simp only
      omega
  · intro hc
    have hl : ((l.take k).filter (fun e => decide (e.cookie > c))).length < q := by rw [← hfull]; exact h
    rw [hfull]
    have : [x].filter (fun e => decide (e.cookie > c)) = [x] := by simp [hc]
    unfold outTo
    rw [htk, List.filter_append, this, List.take_of_length_le (by rw [List.length_append]; simp only [List.length_cons, List.length_nil]; omega)]
  · intro hc
    unfold outTo
    rw [htk, List.filter_append]
    have : [x].filter (fun e => decide (e.cookie > c)) = [] := by simp at hc ⊢; exact hc
    rw [this, List.append_nil]
end Go.Topo

namespace Go.Proofs.Try
open Go Go.Eng Go.Topo

theorem k_r16Read (l : List Ent) (hr : Rising l) (a : Option Addr) (n cc : Nat) (c nv : Int) (w : World) (he : Ents w [] a n l) (hn : n ≤ 1048576) :
    Calls prog 11 #[.slice a n cc, .int .i64 c, .int .i64 nv] w fun e w' => ∃ a' c', e = .returned (.tuple #[.slice a' (rOut l c nv).length c', .int .i64 (rCur l c nv), .int .i64 (readErr c nv)]) ∧ Ents w' [] a' (rOut l c nv).length (rOut l c nv) ∧ Fr [] w w' := by
  refine c11 _ _ _ _ _ _ _ (withR (X := N11 _ _ _ _ _ _) ?_)
  intro R hR
  unfold N11
  have hlen := he.len
  have bad : ∀ W er, Fr [] w W → readErr c nv = er → er ≠ 0 → R (.returned (.tuple #[(.slice none 0 0), (.int .i64 (0)), (.int .i64 er)])) W := by
    intro W er hf h1 h2
    have ho : rOut l c nv = [] := by unfold rOut; rw [if_neg (by rw [h1]; exact h2)]
    have hc0 : rCur l c nv = 0 := by unfold rCur; rw [if_neg (by rw [h1]; exact h2)]
    refine hR _ _ ⟨none, 0, ?_, ?_, hf⟩
    · rw [ho, hc0, h1]; rfl
    · rw [ho]; exact Sli.nil ..
  by_cases h1 : nv < 1
  · rw [decide_eq_true h1, cond_true]
    exact bad w 1 (Fr.refl ..) (by unfold readErr; rw [if_pos (.inl h1)]) (by decide)
  · rw [decide_eq_false h1, cond_false]
    by_cases h64 : nv > 64
    · rw [decide_eq_true h64, cond_true]
      exact bad w 1 (Fr.refl ..) (by unfold readErr; rw [if_pos (.inr h64)]) (by decide)
    · rw [decide_eq_false h64, cond_false]
      by_cases hc0 : c < 0
      · rw [decide_eq_true hc0, cond_true]
        exact bad w 14 (Fr.refl ..) (by unfold readErr; rw [if_neg (by omega), if_pos hc0]) (by decide)
      · rw [decide_eq_false hc0, cond_false]
        have herr : readErr c nv = 0 := by unfold readErr; rw [if_neg (by omega), if_neg hc0]
        obtain ⟨q, rfl⟩ : ∃ q : Nat, nv = q := ⟨nv.toNat, by omega⟩
        have hro : rOut l c ((q : Nat) : Int) = (l.filter (fun e => decide (e.cookie > c))).take q := by unfold rOut readOut; rw [if_pos herr, Int.toNat_natCast]
        have hrc : rCur l c ((q : Nat) : Int) = nextCur (rOut l c ((q : Nat) : Int)) c := by unfold rCur; rw [if_pos herr]; unfold rOut; rw [if_pos herr]
        have fin : ∀ W oa oc k, Fr [] w W → Own W w.heap.size 43 5 oa (outTo l c q k).length oc (flat (outTo l c q k)) → outTo l c q k = rOut l c ((q : Nat) : Int) →
            R (.returned (.tuple #[(.slice oa (outTo l c q k).length oc), (.int .i64 (nextCur (outTo l c q k) c)), (.int .i64 (0))])) W := by
          intro W oa oc k hf ho he'
          rw [he'] at ho ⊢
          refine hR _ _ ⟨oa, oc, ?_, ho.sli (by simp), hf⟩
          rw [herr, hrc]
        refine lp11_0 _ _ _ _ (fun m cur oa on oc i W => ∃ k : Nat, i = k ∧ k ≤ n ∧ m = n - k ∧ cur = nextCur (outTo l c q k) c ∧ on = (outTo l c q k).length ∧ Own W w.heap.size 43 5 oa (outTo l c q k).length oc (flat (outTo l c q k)) ∧ Fr [] w W) _ ?_ n _ _ _ _ _ w
          ⟨0, rfl, by omega, by omega, by simp [outTo, nextCur], by simp [outTo], by simp [outTo]; exact Own.nil .., Fr.refl ..⟩ _
        rintro m _ oa _ oc _ ds W ⟨k, rfl, hk, rfl, rfl, rfl, ho, hf⟩
        unfold B11_0
        have holen : (outTo l c q k).length ≤ q := by unfold outTo; rw [List.length_take]; omega
        by_cases hkn : k < n
        · rw [decide_eq_true (by omega), cond_true]
          obtain ⟨x, hx⟩ : ∃ x, l[k]? = some x := ⟨l[k]'(by omega), List.getElem?_eq_getElem _⟩
          obtain ⟨b, off, rfl, e0, e1, e2, e3, e4⟩ := (he.fr hf).at hx
          have ek : IntKind.wrap .i64 (((k : Nat) : Int) + 1) = ((k + 1 : Nat) : Int) := by rw [wr (by omega) (by omega)]; omega
          simp only [optW, Addr.add_lit, Int.toNat_natCast, ek]
          refine ⟨⟨by omega, by omega⟩, x.cookie, e3, ?_⟩
          by_cases hfull : (outTo l c q k).length = q
          · have heq := (outTo_full l c q hfull).trans hro.symm
            have stop := fin W oa oc k hf ho heq
            by_cases hgt : x.cookie > nextCur (outTo l c q k) c
            · rw [decide_eq_true hgt, cond_true, decide_eq_false (by omega), cond_false, beq_iff_eq.2 (by omega), cond_true]
              exact stop
            · rw [decide_eq_false hgt, cond_false, beq_iff_eq.2 (by omega), cond_true]
              exact stop
          · obtain ⟨s1, s2, s3⟩ := outTo_step hr c q hx (by omega)
            by_cases hgt : x.cookie > c
            · rw [decide_eq_true (s1.2 hgt), cond_true, decide_eq_true (by omega), cond_true]
              refine ⟨⟨by omega, by omega⟩, _, e0, _, e1, _, e2, _, e3, _, e4, ?_⟩
              rintro W1 rfl
              have f1 := Fr.alloc W (.cells (entC x).toArray 43)
              have hx1 : Sli _ [] 5 (some ⟨W.heap.size, 0, none⟩) 1 (flat [x]) := ⟨rfl, .inr ⟨W.heap.size, 0, rfl, by simp, (Blk.new W (entC x) 43).row⟩⟩
              obtain ⟨b2, d2, W2, hr2, ho2, f2, _, _⟩ := append_entries (c' := 1) (ho.fr f1 (by simp)) (by have := hf.1; have := f1.1; omega) 34 hx1 (flat_one _) (by omega)
              have hf2 : Fr [] w W2 := (hf.trans f1).trans' f2 (fun i hi => .inr (ho.blk i hi).1)
              obtain ⟨b', off', hbb, _, _, _, e3', _⟩ := (he.fr hf2).at hx
              cases hbb
              refine ⟨b2, _, d2, W2, hr2, ⟨by omega, by omega⟩, x.cookie, e3', ?_⟩
              refine ⟨_, _, _, _, _, rfl, n - (k + 1), by omega, k + 1, rfl, by omega, rfl, ?_, ?_, ?_, hf2⟩
              · rw [s2 hgt]; simp [nextCur]
              · rw [s2 hgt]; simp
              · rw [s2 hgt, List.length_append, flat_append]; exact ho2
            · rw [decide_eq_false (fun h => hgt (s1.1 h)), cond_false, beq_eq_false_iff_ne.2 (by omega), cond_false]
              refine ⟨_, _, _, _, _, rfl, n - (k + 1), by omega, k + 1, rfl, by omega, rfl, ?_, ?_, ?_, hf⟩
              · rw [s3 hgt]
              · rw [s3 hgt]
              · rw [s3 hgt]; exact ho
        · rw [decide_eq_false (by omega), cond_false]
          exact fin W oa oc k hf ho ((outTo_all l c q (by omega)).trans hro.symm)
end Go.Proofs.Try
