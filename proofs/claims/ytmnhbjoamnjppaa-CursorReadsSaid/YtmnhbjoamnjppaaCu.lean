/- cursor.Read and the chapter's own. Conditions: none. -/
import Derived.Test.YtmnhbjoamnjppaaDr
namespace Go.Topo
/-- what comes behind a cursor, the next cursor, the error -/
def readOut (l : List Ent) (c n : Int) : List Ent := (l.filter (fun e => decide (e.cookie > c))).take n.toNat
def nextCur (o : List Ent) (c : Int) : Int := match o.getLast? with | some e => e.cookie | none => c
def readErr (c n : Int) : Int := if n < 1 ∨ n > 64 then 1 else if c < 0 then 14 else 0
def Rising (l : List Ent) : Prop := l.Pairwise (fun x y => x.cookie < y.cookie)

theorem rising_ents {t : RT} (hI : Inv t) (d : Int) : Rising (entsOf t.L d) := by
  unfold Rising entsOf
  rw [List.pairwise_map]
  exact hI.cookies.filter _

/-- the first that is behind the cursor -/
theorem filter_drop : ∀ {l : List Ent} {c : Int} {i : Nat}, i ≤ l.length → (∀ k, k < i → ∀ x, l[k]? = some x → ¬ x.cookie > c) → (∀ k, i ≤ k → ∀ x, l[k]? = some x → x.cookie > c) →
    l.filter (fun e => decide (e.cookie > c)) = l.drop i
  | [], c, i, _, _, _ => by simp
  | x :: r, c, 0, h, h1, h2 => by
    rw [List.drop_zero, List.filter_eq_self]
    intro y hy
    obtain ⟨k, hk⟩ := List.getElem?_of_mem hy
    simpa using h2 k (Nat.zero_le _) y hk
  | x :: r, c, i + 1, h, h1, h2 => by
    rw [List.drop_succ_cons, List.filter_cons]
    have hx := h1 0 (by omega) x rfl
    rw [if_neg (by simpa using hx)]
    exact filter_drop (by simpa using h) (fun k hk y hy => h1 (k + 1) (by omega) y (by simpa using hy)) (fun k hk y hy => h2 (k + 1) (by omega) y (by simpa using hy))
end Go.Topo

namespace Go.Proofs.Try
open Go Go.Eng Go.Topo

theorem wru {x : Int} (h1 : 0 ≤ x) (h2 : x ≤ 9223372036854775807) : IntKind.wrap .u64 x = x := by
  show IntKind.u64.wrap x = x
  simp [IntKind.wrap, IntKind.bits, IntKind.signed]
  omega

/-- sort.Search: the first at which a test that turns once says yes -/
theorem k_Search (g : Nat) (cap : Array Value) (hg : entersB prog g = true) (p : Nat → Bool) (n : Nat) (w : World) (hn : n < 2 ^ 60) (hmono : ∀ i j, i ≤ j → j < n → p i = true → p j = true)
    (hf : ∀ i, i < n → ∀ W, Fr [] w W → Calls prog g (#[.int .i64 i] ++ cap) W fun e W' => e = .returned (.bool (p i)) ∧ Fr [] W W') :
    Calls prog 21 #[.int .i64 n, .func (.func g) #[] cap] w fun e w' => ∃ i : Nat, e = .returned (.int .i64 i) ∧ i ≤ n ∧ (∀ k, k < i → p k = false) ∧ (∀ k, i ≤ k → k < n → p k = true) ∧ Fr [] w w' := by
  refine c21 _ _ _ _ _ (withR (X := N21 _ _ _ _) ?_)
  intro R hR
  unfold N21
  refine lp21_0 g cap (fun m i j W => ∃ a b : Nat, i = a ∧ j = b ∧ a ≤ b ∧ b ≤ n ∧ m = b - a ∧ (∀ k, k < a → p k = false) ∧ (∀ k, b ≤ k → k < n → p k = true) ∧ Fr [] w W) _ ?_ n 0 _ w ⟨0, n, rfl, rfl, by omega, by omega, by omega, by intro k hk; omega, by intro k h1 h2; omega, Fr.refl ..⟩ _
  rintro m _ _ ds W ⟨a, b, rfl, rfl, hab, hbn, rfl, hlo, hhi, hfr⟩
  unfold B21_0
  by_cases hlt : a < b
  · rw [decide_eq_true (by omega), cond_true, hg, cond_true]
    have e1 : IntKind.wrap .i64 ((a : Int) + (b : Int)) = ((a + b : Nat) : Int) := by rw [wr (by omega) (by omega)]; omega
    have e2 : IntKind.wrap .i64 (((IntKind.wrap .u64 ((a + b : Nat) : Int)) : Int).fdiv (2 ^ 1)) = (((a + b) / 2 : Nat) : Int) := by
      rw [wru (by omega) (by omega)]
      have : (((a + b : Nat) : Int)).fdiv (2 ^ 1) = (((a + b) / 2 : Nat) : Int) := by
        rw [Int.fdiv_eq_ediv_of_nonneg _ (by decide)]; omega
      rw [this, wr (by omega) (by omega)]
    rw [e1, e2]
    have ea : (([] : List Value) ++ ([Value.int .i64 (((a + b) / 2 : Nat) : Int)] ++ cap.toList)).toArray = #[Value.int .i64 (((a + b) / 2 : Nat) : Int)] ++ cap := by apply Array.ext'; simp
    rw [ea]
    refine Calls.mono (hf ((a + b) / 2) (by omega) W hfr) ?_
    rintro _ W' ⟨rfl, hW⟩
    refine ⟨_, rfl, ?_⟩
    cases hp : p ((a + b) / 2) with
    | false =>
      rw [Bool.not_false, cond_true]
      refine ⟨_, _, rfl, b - ((a + b) / 2 + 1), by omega, (a + b) / 2 + 1, b, ?_, rfl, by omega, hbn, rfl, ?_, hhi, hfr.trans hW⟩
      · rw [wr (by omega) (by omega)]; simp
      · intro k hk
        cases hpk : p k with
        | false => rfl
        | true =>
          have := hmono k ((a + b) / 2) (by omega) (by omega) hpk
          rw [hp] at this; cases this
    | true =>
      rw [Bool.not_true, cond_false]
      exact ⟨_, _, rfl, (a + b) / 2 - a, by omega, a, (a + b) / 2, rfl, rfl, by omega, by omega, rfl, hlo, fun k h1 h2 => hmono _ k h1 h2 hp, hfr.trans hW⟩
  · rw [decide_eq_false (by omega), cond_false]
    have : a = b := by omega
    subst this
    exact hR _ _ ⟨a, rfl, hbn, hlo, hhi, hfr⟩

theorem k_Valid (c : Int) (w : World) : Calls prog 13 #[.int .i64 c] w fun e w' => e = .returned (.bool (decide (c ≥ 0))) ∧ w = w' := by
  refine c13 _ _ _ ?_
  exact ⟨rfl, rfl⟩

/-- what Read gives: the entries, the cursor -/
def rOut (l : List Ent) (c n : Int) : List Ent := if readErr c n = 0 then readOut l c n else []
def rCur (l : List Ent) (c n : Int) : Int := if readErr c n = 0 then nextCur (readOut l c n) c else 0

def pOf (l : List Ent) (c : Int) (i : Nat) : Bool := match l[i]? with | some x => decide (x.cookie > c) | none => false

theorem k_cRead1 (l : List Ent) (a : Option Addr) (n cc : Nat) (c : Int) (c2 c3 : Addr) (i : Nat) (hi : i < n) (w : World) (he : Ents w [] a n l) (g2 : w.cell? c2 = some (.slice a n cc)) (g3 : w.cell? c3 = some (.int .i64 c)) :
    Calls prog 22 #[.int .i64 i, .pointer (some c2), .pointer (some c3)] w fun e w' => e = .returned (.bool (pOf l c i)) ∧ Fr [] w w' := by
  refine c22 _ _ _ _ _ ?_
  unfold N22
  rintro _ rfl
  have hlen := he.len
  obtain ⟨x, hx⟩ : ∃ x, l[i]? = some x := ⟨l[i]'(by omega), List.getElem?_eq_getElem _⟩
  obtain ⟨b, off, rfl, e0, e1, e2, e3, e4⟩ := he.at hx
  refine ⟨fun W => W = w.drew, rfl, _, _, _, fun W hW => by rw [hW]; exact g2, ?_⟩
  simp only [optW, Addr.add_lit, Int.toNat_natCast]
  refine ⟨⟨by omega, by omega⟩, x.cookie, fun W hW => by rw [hW]; exact e3, c, fun W hW => by rw [hW]; exact g3, ?_, Fr.drew w⟩
  simp [pOf, hx]

theorem k_cRead (l : List Ent) (hr : Rising l) (a : Option Addr) (n cc : Nat) (hcc : n ≤ cc) (c nv : Int) (w : World) (he : Ents w [] a n l) (hn : n ≤ 1048576) :
    Calls prog 10 #[.slice a n cc, .int .i64 c, .int .i64 nv] w fun e w' => ∃ a' c', e = .returned (.tuple #[.slice a' (rOut l c nv).length c', .int .i64 (rCur l c nv), .int .i64 (readErr c nv)]) ∧ Ents w' [] a' (rOut l c nv).length (rOut l c nv) ∧ Fr [] w w' := by
  refine c10 _ _ _ _ _ _ _ (withR (X := N10 _ _ _ _ _ _) ?_)
  intro R hR
  unfold N10
  rintro w1 rfl
  rintro w2 rfl
  have hlen := he.len
  have f1 := Fr.alloc w (.cells #[.slice a n cc] 34)
  have b1 := Blk.new w [.slice a n cc] 34
  generalize w.alloc (.cells #[.slice a n cc] 34) = w1 at *
  have f2 := Fr.alloc w1 (.cells #[.int .i64 c] 2)
  have b2 := Blk.new w1 [.int .i64 c] 2
  have b1' := b1.fr f2 (by simp)
  generalize w1.alloc (.cells #[.int .i64 c] 2) = w2 at *
  have f02 := f1.trans f2
  have bad : ∀ W er, Fr [] w W → readErr c nv = er → er ≠ 0 → R (.returned (.tuple #[(.slice none 0 0), (.int .i64 (0)), (.int .i64 er)])) W := by
    intro W er hf h1 h2
    have ho : rOut l c nv = [] := by unfold rOut; rw [if_neg (by rw [h1]; exact h2)]
    have hc0 : rCur l c nv = 0 := by unfold rCur; rw [if_neg (by rw [h1]; exact h2)]
    refine hR _ _ ⟨none, 0, ?_, ?_, hf⟩
    · rw [ho, hc0, h1]; rfl
    · rw [ho]; exact Sli.nil ..
  by_cases h1 : nv < 1
  · rw [decide_eq_true h1, cond_true]
    exact bad w2 1 f02 (by unfold readErr; rw [if_pos (.inl h1)]) (by decide)
  · rw [decide_eq_false h1, cond_false]
    by_cases h64 : nv > 64
    · rw [decide_eq_true h64, cond_true]
      exact bad w2 1 f02 (by unfold readErr; rw [if_pos (.inr h64)]) (by decide)
    · rw [decide_eq_false h64, cond_false]
      refine ⟨c, b2.cell 0, ?_⟩
      refine Calls.mono (k_Valid c w2) ?_
      rintro _ _ ⟨rfl, rfl⟩
      refine ⟨_, rfl, ?_⟩
      by_cases hc0 : c ≥ 0
      · rw [decide_eq_true hc0, Bool.not_true, cond_false]
        have herr : readErr c nv = 0 := by unfold readErr; rw [if_neg (by omega), if_neg (by omega)]
        refine ⟨a, n, cc, b1'.cell 0, ?_⟩
        have hmono : ∀ i j, i ≤ j → j < n → pOf l c i = true → pOf l c j = true := by
          intro i j hij hj hp
          unfold pOf at *
          rw [List.getElem?_eq_getElem (by omega)] at hp ⊢
          simp only [decide_eq_true_eq] at hp ⊢
          by_cases e : i = j
          · subst e; exact hp
          · have := List.pairwise_iff_getElem.1 hr i j (by omega) (by omega) (by omega)
            omega
        refine Calls.mono (k_Search 22 _ (by kernel_rfl) (pOf l c) n w2 (by omega) hmono ?_) ?_
        · intro i hi W hW
          exact k_cRead1 l a n cc c _ _ i hi W ((he.fr f02).fr hW) ((b1'.fr hW (by simp)).cell 0) ((b2.fr hW (by simp)).cell 0)
        · rintro _ w3 ⟨fr, rfl, hfn, hlo, hhi, f3⟩
          have f03 := f02.trans f3
          have b13 := b1'.fr f3 (by simp)
          have b23 := b2.fr f3 (by simp)
          have he3 := he.fr f03
          have hout : readOut l c nv = (l.drop fr).take nv.toNat := by
            have hfil := filter_drop (l := l) (c := c) (i := fr) (by omega)
              (fun k hk x hx => by have := hlo k hk; unfold pOf at this; rw [hx] at this; simpa using this)
              (fun k hk x hx => by
                have hkl : k < l.length := (List.getElem?_eq_some_iff.1 hx).1
                have := hhi k hk (by omega); unfold pOf at this; rw [hx] at this; simpa using this)
            unfold readOut
            rw [hfil]
          have hnv : nv = ((nv.toNat : Nat) : Int) := by omega
          generalize nv.toNat = q at *
          subst hnv
          refine ⟨_, rfl, a, n, cc, b13.cell 0, a, n, cc, b13.cell 0, ?_⟩
          have ew : IntKind.wrap .i64 (((fr : Nat) : Int) + ((q : Nat) : Int)) = ((fr + q : Nat) : Int) := by rw [wr (by omega) (by omega)]; omega
          have emin : (if ((n : Nat) : Int) < ((fr + q : Nat) : Int) then ((n : Nat) : Int) else ((fr + q : Nat) : Int)) = ((min n (fr + q) : Nat) : Int) := by
            split <;> omega
          simp only [ew, emin, Int.toNat_natCast]
          refine ⟨⟨by omega, by omega, by omega, by omega⟩, ?_⟩
          have hhi2 : min n (fr + q) - fr ≤ n - fr := by omega
          have hsl := (Sli.rest he3 (m := fr) (c := cc) hfn hcc).take (m := min n (fr + q) - fr) hhi2
          have hfl : ((flat l).drop (fr * 5)).take ((min n (fr + q) - fr) * 5) = flat (readOut l c ((q : Nat) : Int)) := by
            rw [hout, flat_drop, flat_take]
            congr 1
            rw [List.take_eq_take_iff, List.length_drop]
            omega
          rw [hfl] at hsl
          have hol : (readOut l c ((q : Nat) : Int)).length = min n (fr + q) - fr := by
            rw [hout, List.length_take, List.length_drop]; omega
          refine Calls.mono (k_Clone _ _ (flat_one _) _ _ (cc - fr) w3 hsl (by omega)) ?_
          rintro _ w4 ⟨a4, c4, rfl, ho4, f4⟩
          have f04 := f03.trans f4
          have b14 := b13.fr f4 (by simp)
          have b24 := b23.fr f4 (by simp)
          refine ⟨a4, _, c4, rfl, ?_⟩
          have hro : rOut l c ((q : Nat) : Int) = readOut l c ((q : Nat) : Int) := by unfold rOut; rw [if_pos herr]
          have hrc : rCur l c ((q : Nat) : Int) = nextCur (readOut l c ((q : Nat) : Int)) c := by unfold rCur; rw [if_pos herr]
          have he4 : Ents w4 [] a4 (min n (fr + q) - fr) (readOut l c ((q : Nat) : Int)) := ho4.sli (by simp)
          have fin : ∀ W v, Fr [] w W → Ents W [] a4 (min n (fr + q) - fr) (readOut l c ((q : Nat) : Int)) → v = nextCur (readOut l c ((q : Nat) : Int)) c →
              R (.returned (.tuple #[(.slice a4 (min n (fr + q) - fr) c4), (.int .i64 v), (.int .i64 (0))])) W := by
            intro W v hf hW hv
            refine hR _ _ ⟨a4, c4, ?_, ?_, hf⟩
            · rw [hro, hrc, herr, hol, hv]
            · rw [hro, hol]; exact hW
          by_cases hpos : 0 < min n (fr + q) - fr
          · rw [decide_eq_true (by omega), cond_true]
            have hlast : ∃ x, (readOut l c ((q : Nat) : Int))[min n (fr + q) - fr - 1]? = some x := ⟨_, List.getElem?_eq_getElem (by omega)⟩
            obtain ⟨x, hx⟩ := hlast
            obtain ⟨b, off, rfl, e0, e1, e2, e3, e4⟩ := he4.at hx
            have ew2 : IntKind.wrap .i64 (((min n (fr + q) - fr : Nat) : Int) - 1) = ((min n (fr + q) - fr - 1 : Nat) : Int) := by rw [wr (by omega) (by omega)]; omega
            simp only [optW, ew2, Addr.add_lit, Int.toNat_natCast]
            refine ⟨⟨by omega, by omega⟩, x.cookie, e3, ⟨_, b24.cell 0⟩, b24.frozen 0, ?_⟩
            rintro w5 rfl
            rintro w6 rfl
            have b25 := (b24.set 0 (.int .i64 x.cookie))
            have f5 := Fr.setCell w4 ⟨w1.heap.size, 0, none⟩ (.int .i64 x.cookie)
            have hw1 : w.heap.size ≤ w1.heap.size := f1.1
            have f05 : Fr [] w _ := f04.trans' f5 (by intro i hi; simp at hi; right; omega)
            have f06 := f05.trans (Fr.drew _)
            refine ⟨fun W => W = _, rfl, x.cookie, fun W hW => by rw [hW]; exact b25.cell 0, fin _ _ f06 ?_ ?_⟩
            · have hown : Own w4 w3.heap.size 43 5 (some ⟨b, off, none⟩) _ c4 _ := ho4
              have hne : ∀ i ∈ blks (some ⟨b, off, none⟩), i ∉ [w1.heap.size] := by
                intro i hi
                have := (ho4.blk i hi).1
                have h23 := b23.lt
                simp only [List.mem_singleton]
                rintro rfl
                omega
              exact ((ho4.fr f5 hne).fr (Fr.drew _) (by simp)).sli (by simp)
            · unfold nextCur
              rw [List.getLast?_eq_getElem?, hol, hx]
          · rw [decide_eq_false (by omega), cond_false]
            rintro w5 rfl
            refine ⟨fun W => W = _, rfl, c, fun W hW => by rw [hW]; exact b24.cell 0, fin _ _ (f04.trans (Fr.drew _)) (he4.fr (Fr.drew _)) ?_⟩
            have : readOut l c ((q : Nat) : Int) = [] := List.eq_nil_of_length_eq_zero (by omega)
            rw [this]; rfl
      · rw [decide_eq_false hc0, Bool.not_false, cond_true]
        exact bad w2 14 f02 (by unfold readErr; rw [if_neg (by omega), if_pos (by omega)]) (by decide)
end Go.Proofs.Try
