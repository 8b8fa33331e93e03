/- The heap of numbers given back: Less, Swap, Push, Pop, up, down. Conditions: none. -/
import Derived.Test.YtdicohcmccjnoaaGreatMe
import Derived.Test.YtdicohcmccjnoaaGreatCa
namespace Go.Topo
/-! ### heaps, plainly -/
def HeapTo (f : Nat → Int) (n : Nat) : Prop := ∀ k, 0 < k → k < n → f ((k - 1) / 2) ≤ f k
def UpInv (f : Nat → Int) (n j : Nat) : Prop :=
  (∀ k, 0 < k → k < n → k ≠ j → f ((k - 1) / 2) ≤ f k) ∧ (∀ k, 0 < k → k < n → (k - 1) / 2 = j → 0 < j → f ((j - 1) / 2) ≤ f k)
def DownInv (f : Nat → Int) (n i : Nat) : Prop :=
  (∀ k, 0 < k → k < n → (k - 1) / 2 ≠ i → f ((k - 1) / 2) ≤ f k) ∧ (∀ k, 0 < k → k < n → (k - 1) / 2 = i → 0 < i → f ((i - 1) / 2) ≤ f k)
def sw (f : Nat → Int) (i j : Nat) : Nat → Int := fun k => if k = i then f j else if k = j then f i else f k

theorem up_stop {f : Nat → Int} {n j : Nat} (h : UpInv f n j) (hs : j = 0 ∨ f ((j - 1) / 2) ≤ f j) : HeapTo f n := by
  intro k h0 hk
  by_cases e : k = j
  · subst e
    rcases hs with hs | hs
    · omega
    · exact hs
  · exact h.1 k h0 hk e

theorem up_step {f : Nat → Int} {n j : Nat} (h : UpInv f n j) (hj : 0 < j) (_hn : j < n) (hs : f j < f ((j - 1) / 2)) : UpInv (sw f ((j - 1) / 2) j) n ((j - 1) / 2) := by
  obtain ⟨h1, h2⟩ := h
  generalize hp : (j - 1) / 2 = p at *
  have hpj : p < j := by omega
  constructor
  · intro k h0 hk hkp
    unfold sw
    by_cases ekj : k = j
    · subst ekj
      rw [if_neg (by omega : ¬ k = p), if_pos rfl, hp, if_pos rfl]
      omega
    · rw [if_neg hkp, if_neg ekj]
      by_cases e1 : (k - 1) / 2 = p
      · rw [if_pos e1]
        have := h1 k h0 hk ekj
        rw [e1] at this
        omega
      · rw [if_neg e1]
        by_cases e2 : (k - 1) / 2 = j
        · rw [if_pos e2]
          exact h2 k h0 hk e2 hj
        · rw [if_neg e2]
          exact h1 k h0 hk ekj
  · intro k h0 hk e hp0
    unfold sw
    have hpp : (p - 1) / 2 < p := by omega
    rw [if_neg (by omega : ¬ (p - 1) / 2 = p), if_neg (by omega : ¬ (p - 1) / 2 = j)]
    have hpar := h1 p hp0 (by omega) (by omega)
    by_cases ekj : k = j
    · subst ekj
      rw [if_neg (by omega), if_pos rfl]
      exact hpar
    · rw [if_neg (by omega), if_neg ekj]
      have := h1 k h0 hk ekj
      rw [e] at this
      omega

theorem down_stop {f : Nat → Int} {n i : Nat} (h : DownInv f n i) (hs : ∀ k, 0 < k → k < n → (k - 1) / 2 = i → f i ≤ f k) : HeapTo f n := by
  intro k h0 hk
  by_cases e : (k - 1) / 2 = i
  · rw [e]; exact hs k h0 hk e
  · exact h.1 k h0 hk e

theorem down_step {f : Nat → Int} {n i j : Nat} (h : DownInv f n i) (hj : j < n) (hij : (j - 1) / 2 = i) (h0 : 0 < j) (hlt : f j < f i) (hmin : ∀ k, 0 < k → k < n → (k - 1) / 2 = i → f j ≤ f k) : DownInv (sw f i j) n j := by
  obtain ⟨h1, h2⟩ := h
  have hlt' : i < j := by omega
  constructor
  · intro k hk0 hk hkj
    unfold sw
    by_cases e1 : (k - 1) / 2 = i
    · rw [if_pos e1]
      by_cases ekj : k = j
      · subst ekj
        rw [if_neg (by omega), if_pos rfl]
        omega
      · rw [if_neg (by omega), if_neg ekj]
        exact hmin k hk0 hk e1
    · rw [if_neg e1, if_neg hkj]
      by_cases ek : k = i
      · rw [if_pos ek]
        subst ek
        exact h2 j h0 hj hij hk0
      · rw [if_neg ek, if_neg (by intro e; subst e; exact e1 hij)]
        exact h1 k hk0 hk e1
  · intro k hk0 hk hkj _
    unfold sw
    rw [hij, if_pos rfl, if_neg (by omega), if_neg (by omega)]
    have := h1 k hk0 hk (by omega)
    rw [hkj] at this
    exact this

theorem sw_eq (f g : Nat → Int) (i j n : Nat) (h : ∀ k, k < n → g k = sw f i j k) {P : (Nat → Int) → Nat → Prop} (hP : ∀ a b : Nat → Int, (∀ k, k < n → a k = b k) → P a n → P b n) (hx : P (sw f i j) n) : P g n :=
  hP _ _ (fun k hk => (h k hk).symm) hx

theorem HeapTo.congr {f g : Nat → Int} {n : Nat} (h : ∀ k, k < n → f k = g k) (hf : HeapTo f n) : HeapTo g n := by
  intro k h0 hk; rw [← h k hk, ← h _ (by omega)]; exact hf k h0 hk
theorem UpInv.congr {f g : Nat → Int} {n j : Nat} (hj : j < n) (h : ∀ k, k < n → f k = g k) (hf : UpInv f n j) : UpInv g n j :=
  ⟨fun k h0 hk hne => by rw [← h k hk, ← h _ (by omega)]; exact hf.1 k h0 hk hne, fun k h0 hk e hj0 => by rw [← h k hk, ← h _ (by omega)]; exact hf.2 k h0 hk e hj0⟩
theorem DownInv.congr {f g : Nat → Int} {n j : Nat} (h : ∀ k, k < n → f k = g k) (hf : DownInv f n j) : DownInv g n j :=
  ⟨fun k h0 hk hne => by rw [← h k hk, ← h _ (by omega)]; exact hf.1 k h0 hk hne, fun k h0 hk e hj0 => by rw [← h k hk, ← h _ (by omega)]; exact hf.2 k h0 hk e hj0⟩
theorem root_min {f : Nat → Int} {n : Nat} (h : HeapTo f n) : ∀ k, k < n → f 0 ≤ f k := by
  intro k
  induction k using Nat.strongRecOn with
  | _ k ih =>
    intro hk
    by_cases h0 : k = 0
    · subst h0; omega
    · have := ih ((k - 1) / 2) (by omega) (by omega)
      have := h k (by omega) hk
      omega

/-- a row's number -/
def nth (l : List Int) (k : Nat) : Int := l.getD k 0
def swl (l : List Int) (i j : Nat) : List Int := (l.set i (nth l j)).set j (nth l i)
theorem nth_swl (l : List Int) {i j : Nat} (hi : i < l.length) (hj : j < l.length) (k : Nat) : nth (swl l i j) k = sw (nth l) i j k := by
  unfold nth swl sw nth
  simp only [List.getD_eq_getElem?_getD, List.getElem?_set, List.length_set]
  by_cases e1 : j = k
  · subst e1
    rw [if_pos rfl, if_pos hj]
    by_cases e2 : j = i
    · subst e2; simp
    · simp [e2]
  · rw [if_neg e1]
    by_cases e2 : i = k
    · subst e2; simp [hi]
    · have a1 : ¬ k = i := fun e => e2 e.symm
      have a2 : ¬ k = j := fun e => e1 e.symm
      simp [e2, a1, a2]
theorem length_swl (l : List Int) (i j : Nat) : (swl l i j).length = l.length := by simp [swl]
theorem perm_swl (l : List Int) {i j : Nat} (hi : i < l.length) (hj : j < l.length) : (swl l i j).Perm l := by
  have h := Array.swap_perm (xs := l.toArray) (i := i) (j := j) (by simpa using hi) (by simpa using hj)
  have e : (l.toArray.swap i j (by simpa using hi) (by simpa using hj)).toList = swl l i j := by
    simp [Array.swap, swl, nth, hi, hj]
  have := h.toList
  rw [e] at this
  exact this
theorem nth_eq {l : List Int} {k : Nat} (h : k < l.length) : l[k]? = some (nth l k) := by simp [nth, h]
end Go.Topo

namespace Go.Proofs.Tryz
open Go Go.Eng Go.Topo

abbrev intC (x : Int) : Value := .int .i64 x
/-- a row of one's own numbers -/
def OwnI (w : World) (lo : Nat) (a : Option Addr) (n c : Nat) (l : List Int) : Prop := Own w lo 3 1 a n c (l.map intC)
section
variable {w w' : World} {F : List Nat} {lo n c : Nat} {a : Option Addr} {l : List Int}
theorem OwnI.len (h : OwnI w lo a n c l) : n = l.length := by have := Own.data h; simp at this; omega
theorem OwnI.fr (h : OwnI w lo a n c l) (hf : Fr F w w') (hF : ∀ i ∈ blks a, i ∉ F) : OwnI w' lo a n c l := Own.fr h hf hF
theorem OwnI.at (h : OwnI w lo a n c l) {i : Nat} (hi : i < n) : ∃ b, a = some ⟨b, 0, none⟩ ∧ w.cell? ⟨b, i, none⟩ = some (intC (nth l i)) := by
  have hl := h.len
  rcases Own.data h with ⟨_, ⟨_, h0, _⟩ | ⟨b, cur, rfl, _, hh, _, _, _, ht⟩⟩
  · omega
  · refine ⟨b, rfl, ?_⟩
    have : (l.map intC)[i]? = some (intC (nth l i)) := by rw [List.getElem?_map, nth_eq (by omega)]; rfl
    rw [← ht, List.getElem?_take, if_pos (by omega)] at this
    simp only [World.cell?, hh]
    simpa using this
theorem OwnI.set {b : Nat} (h : OwnI w lo (some ⟨b, 0, none⟩) n c l) (i : Nat) (x : Int) : OwnI (w.setCell ⟨b, i, none⟩ (intC x)) lo (some ⟨b, 0, none⟩) n c (l.set i x) := by
  have := Own.setCell h (j := i) (intC x)
  unfold OwnI
  rw [List.map_set]
  exact this
theorem OwnI.frozen {b : Nat} (h : OwnI w lo (some ⟨b, 0, none⟩) n c l) (i : Nat) : w.frozen? ⟨b, i, none⟩ = false := by
  rcases Own.data h with ⟨_, ⟨h0, _⟩ | ⟨b', cur, hb, _, hh, _⟩⟩
  · cases h0
  · cases hb
    simp only [World.frozen?, hh]
    simp
end

theorem k_Len (a : Option Addr) (n c : Nat) (w : World) : Calls prog 136 #[.slice a n c] w fun e w' => e = .returned (.int .i64 n) ∧ w = w' := by
  refine c136 _ _ _ _ _ ?_
  exact ⟨rfl, rfl⟩

theorem k_Less (a : Option Addr) (n c lo : Nat) (l : List Int) (i j : Nat) (w : World) (h : OwnI w lo a n c l) (hi : i < n) (hj : j < n) :
    Calls prog 240 #[.slice a n c, .int .i64 i, .int .i64 j] w fun e w' => e = .returned (.bool (decide (nth l i < nth l j))) ∧ Fr [] w w' := by
  refine c240 _ _ _ _ _ _ _ ?_
  unfold N240
  rintro _ rfl
  obtain ⟨b, rfl, hci⟩ := h.at hi
  obtain ⟨b', hb, hcj⟩ := h.at hj
  cases hb
  refine ⟨fun W => W = w.drew, rfl, ?_⟩
  simp only [optW, Addr.add_lit, Int.toNat_natCast, Nat.mul_one, Nat.zero_add]
  refine ⟨⟨by omega, by omega⟩, nth l i, ?_, ⟨by omega, by omega⟩, nth l j, ?_, rfl, Fr.drew _⟩
  · rintro _ rfl; exact hci
  · rintro _ rfl; exact hcj

theorem k_Swap (a : Option Addr) (n c lo : Nat) (l : List Int) (i j : Nat) (w : World) (h : OwnI w lo a n c l) (hi : i < n) (hj : j < n) :
    Calls prog 242 #[.slice a n c, .int .i64 i, .int .i64 j] w fun e w' => e = .returned (.tuple #[]) ∧ OwnI w' lo a n c (swl l i j) ∧ Fr (blks a) w w' := by
  refine c242 _ _ _ _ _ _ _ ?_
  unfold N242
  rintro _ rfl
  obtain ⟨b, rfl, hci⟩ := h.at hi
  obtain ⟨b', hb, hcj⟩ := h.at hj
  cases hb
  have hd : OwnI w.drew lo (some ⟨b, 0, none⟩) n c l := h.fr (Fr.drew w) (by simp)
  have h1 := hd.set i (nth l j)
  obtain ⟨b', hb, hcj'⟩ := h1.at hj
  cases hb
  refine ⟨fun W => W = w.drew, rfl, ?_⟩
  simp only [optW, Addr.add_lit, Int.toNat_natCast, Nat.mul_one, Nat.zero_add]
  refine ⟨⟨by omega, by omega⟩, nth l j, ?_, ⟨by omega, by omega⟩, nth l i, ?_, ⟨by omega, by omega⟩, ⟨_, hci⟩, hd.frozen i, ?_⟩
  · rintro _ rfl; exact hcj
  · rintro _ rfl; exact hci
  · rintro _ rfl
    refine ⟨⟨by omega, by omega⟩, ⟨_, hcj'⟩, h1.frozen j, ?_⟩
    rintro _ rfl
    exact ⟨trivial, h1.set j (nth l i), ((Fr.of_nil (Fr.drew w)).trans (Fr.setCell' ..)).trans (Fr.setCell' ..)⟩

/-- the heap's place: a cell that holds the row -/
structure HpAt (w : World) (pa : Addr) (lo : Nat) (a : Option Addr) (n c : Nat) (l : List Int) : Prop where
  cell : w.cell? pa = some (.slice a n c)
  row : OwnI w lo a n c l
  apart : ∀ i ∈ blks a, i ≠ pa.block

theorem HpAt.fr {w w' : World} {pa : Addr} {lo n c : Nat} {a : Option Addr} {l : List Int} {F : List Nat} (h : HpAt w pa lo a n c l) (hf : Fr F w w') (hF : ∀ i ∈ blks a, i ∉ F) (hp : pa.block ∉ F) : HpAt w' pa lo a n c l :=
  ⟨cell_fr hf h.cell hp, h.row.fr hf hF, h.apart⟩
theorem HpAt.row' {w w' : World} {pa : Addr} {lo n c : Nat} {a : Option Addr} {l l' : List Int} (h : HpAt w pa lo a n c l) (hf : Fr (blks a) w w') (hr : OwnI w' lo a n c l') : HpAt w' pa lo a n c l' :=
  ⟨cell_fr hf h.cell (fun hm => h.apart _ hm rfl), hr, h.apart⟩

/-- heap.up -/
theorem k_up (pa : Addr) (lo : Nat) (a : Option Addr) (n c : Nat) (l : List Int) (j : Nat) (w : World) (h : HpAt w pa lo a n c l) (hj : j < n) (hn : n < 2 ^ 60) (hu : UpInv (nth l) n j) :
    Calls prog 187 #[.iface 222 (.pointer (some pa)), .int .i64 j] w fun e w' => e = .returned (.tuple #[]) ∧ ∃ l', HpAt w' pa lo a n c l' ∧ l'.Perm l ∧ HeapTo (nth l') n ∧ Fr (blks a) w w' := by
  refine c187 _ _ _ _ ?_
  unfold N187
  refine lp187_0 _ (fun m i W => ∃ (k : Nat) (l' : List Int), i = k ∧ k = m ∧ k < n ∧ HpAt W pa lo a n c l' ∧ l'.Perm l ∧ UpInv (nth l') n k ∧ Fr (blks a) w W) _ ?_ j j w ⟨j, l, rfl, rfl, hj, h, List.Perm.refl _, hu, Fr.refl ..⟩ _
  rintro m _ ds W ⟨k, l', rfl, rfl, hk, hW, hp, hi, hf⟩
  unfold B187_0
  have hlen := hW.row.len
  have e1 : IntKind.wrap .i64 ((IntKind.wrap .i64 ((k : Int) - 1)).tdiv 2) = (((k - 1) / 2 : Nat) : Int) := by
    rw [wr (x := (k : Int) - 1) (by omega) (by omega)]
    by_cases h0 : k = 0
    · subst h0; decide
    · have : (k : Int) - 1 = ((k - 1 : Nat) : Int) := by omega
      rw [this]
      have : (((k - 1 : Nat) : Int)).tdiv 2 = (((k - 1) / 2 : Nat) : Int) := by
        rw [Int.tdiv_eq_ediv_of_nonneg (by omega)]; omega
      rw [this, wr (by omega) (by omega)]
  rw [e1]
  by_cases h0 : k = 0
  · subst h0
    rw [show ((((0 - 1) / 2 : Nat) : Int) == ((0 : Nat) : Int)) = true from rfl, cond_true]
    exact ⟨rfl, l', hW, hp, up_stop hi (.inl rfl), hf⟩
  · rw [show ((((k - 1) / 2 : Nat) : Int) == (k : Int)) = false from beq_eq_false_iff_ne.2 (by omega), cond_false]
    refine ⟨_, _, m_value row0_Less (by kernel_rfl) pa W _ hW.cell _, ?_⟩
    refine Calls.mono (k_Less a n c lo l' k ((k - 1) / 2) W hW.row hk (by omega)) ?_
    rintro _ W1 ⟨rfl, hf1⟩
    refine ⟨_, rfl, ?_⟩
    have hW1 := hW.fr hf1 (by simp) (by simp)
    have hff := hf.trans (Fr.of_nil hf1)
    by_cases hlt : nth l' k < nth l' ((k - 1) / 2)
    · rw [decide_eq_true hlt, Bool.not_true, cond_false]
      refine ⟨_, _, m_value row0_Swap (by kernel_rfl) pa W1 _ hW1.cell _, ?_⟩
      refine Calls.mono (k_Swap a n c lo l' ((k - 1) / 2) k W1 hW1.row (by omega) hk) ?_
      rintro _ W2 ⟨rfl, hr2, hf2⟩
      refine ⟨rfl, _, rfl, (k - 1) / 2, by omega, (k - 1) / 2, _, rfl, rfl, by omega, hW1.row' hf2 hr2, (perm_swl l' (by omega) (by omega)).trans hp, ?_, hff.trans hf2⟩
      exact UpInv.congr (by omega) (fun x hx => (nth_swl l' (by omega) (by omega) x).symm) (up_step hi (by omega) hk hlt)
    · rw [decide_eq_false hlt, Bool.not_false, cond_true]
      exact ⟨rfl, l', hW1, hp, up_stop hi (.inr (by omega)), hff⟩

/-- heap.down -/
theorem k_down (pa : Addr) (lo : Nat) (a : Option Addr) (n c : Nat) (l : List Int) (i0 m : Nat) (w : World) (h : HpAt w pa lo a n c l) (hi0 : i0 ≤ m) (hm : m ≤ n) (hn : n < 2 ^ 60) (hu : DownInv (nth l) m i0) :
    Calls prog 172 #[.iface 222 (.pointer (some pa)), .int .i64 i0, .int .i64 m] w fun e w' => ∃ b, e = .returned (.bool b) ∧ ∃ l', HpAt w' pa lo a n c l' ∧ l'.Perm l ∧ HeapTo (nth l') m ∧ (∀ k, m ≤ k → nth l' k = nth l k) ∧ Fr (blks a) w w' := by
  refine c172 _ _ _ _ _ ?_
  unfold N172
  refine lp172_0 _ _ _ (fun q i W => ∃ (k : Nat) (l' : List Int), i = k ∧ q = m - k ∧ k ≤ m ∧ HpAt W pa lo a n c l' ∧ l'.Perm l ∧ DownInv (nth l') m k ∧ (∀ k, m ≤ k → nth l' k = nth l k) ∧ Fr (blks a) w W) _ ?_ (m - i0) i0 w ⟨i0, l, rfl, rfl, hi0, h, List.Perm.refl _, hu, fun _ _ => rfl, Fr.refl ..⟩ _
  rintro q _ ds W ⟨k, l', rfl, rfl, hk, hW, hp, hi, hun, hf⟩
  unfold B172_0
  have hlen := hW.row.len
  have e1 : IntKind.wrap .i64 ((IntKind.wrap .i64 ((2) * (k : Int))) + (1)) = ((2 * k + 1 : Nat) : Int) := by
    rw [wr (x := 2 * (k : Int)) (by omega) (by omega), wr (by omega) (by omega)]; omega
  have e2 : IntKind.wrap .i64 (((2 * k + 1 : Nat) : Int) + 1) = ((2 * k + 2 : Nat) : Int) := by
    rw [wr (by omega) (by omega)]; omega
  simp only [e1, e2]
  have stop : ∀ W', HpAt W' pa lo a n c l' → Fr (blks a) w W' → (∀ k', 0 < k' → k' < m → (k' - 1) / 2 = k → nth l' k ≤ nth l' k') →
      ∃ b, Ending.returned (.bool (decide ((k : Int) > (i0 : Int)))) = .returned (.bool b) ∧ ∃ l', HpAt W' pa lo a n c l' ∧ l'.Perm l ∧ HeapTo (nth l') m ∧ (∀ k, m ≤ k → nth l' k = nth l k) ∧ Fr (blks a) w W' :=
    fun W' hW' hf' hs => ⟨_, rfl, l', hW', hp, down_stop hi hs, hun, hf'⟩
  by_cases hge : 2 * k + 1 ≥ m
  · rw [decide_eq_true (by omega), cond_true]
    exact stop W hW hf (fun k' _ _ _ => by omega)
  · rw [decide_eq_false (by omega), cond_false, decide_eq_false (by omega), cond_false]
    -- the end of a turn, at child j
    have turn : ∀ (j : Nat) (W1 : World), j < m → (j - 1) / 2 = k → 0 < j → HpAt W1 pa lo a n c l' → Fr (blks a) w W1 → (∀ k', 0 < k' → k' < m → (k' - 1) / 2 = k → nth l' j ≤ nth l' k') →
        ∀ (Q : World → Prop) (Q' : World → Prop), (∀ W', HpAt W' pa lo a n c l' → Fr (blks a) w W' → (∀ k', 0 < k' → k' < m → (k' - 1) / 2 = k → nth l' k ≤ nth l' k') → Q W') →
        (∀ W', (∃ l'', HpAt W' pa lo a n c l'' ∧ l''.Perm l ∧ DownInv (nth l'') m j ∧ (∀ k, m ≤ k → nth l'' k = nth l k) ∧ Fr (blks a) w W') → Q' W') →
        ∃ (f : FuncId) (av : Array Value), (callMethod (.iface 222 (.pointer (some pa))) "Less" #[.int .i64 j, .int .i64 k]).run prog W1 = .ok (.enter f av) W1 ∧
          Calls prog f av W1 fun e W2 => ∃ x : Bool, e = .returned (.bool x) ∧ cond (!x) (Q W2)
            (∃ (f : FuncId) (av : Array Value), (callMethod (.iface 222 (.pointer (some pa))) "Swap" #[.int .i64 k, .int .i64 j]).run prog W2 = .ok (.enter f av) W2 ∧
              Calls prog f av W2 fun e W3 => e = .returned (.tuple #[]) ∧ Q' W3) := by
      intro j W1 hj hjk h0 hW1 hf1 hmin Q Q' hQ hQ'
      refine ⟨_, _, m_value row0_Less (by kernel_rfl) pa W1 _ hW1.cell _, ?_⟩
      refine Calls.mono (k_Less a n c lo l' j k W1 hW1.row (by omega) (by omega)) ?_
      rintro _ W2 ⟨rfl, hf2⟩
      refine ⟨_, rfl, ?_⟩
      have hW2 := hW1.fr hf2 (by simp) (by simp)
      have hff := hf1.trans (Fr.of_nil hf2)
      by_cases hlt : nth l' j < nth l' k
      · rw [decide_eq_true hlt, Bool.not_true, cond_false]
        refine ⟨_, _, m_value row0_Swap (by kernel_rfl) pa W2 _ hW2.cell _, ?_⟩
        refine Calls.mono (k_Swap a n c lo l' k j W2 hW2.row (by omega) (by omega)) ?_
        rintro _ W3 ⟨rfl, hr3, hf3⟩
        refine ⟨rfl, hQ' _ ⟨_, hW2.row' hf3 hr3, (perm_swl l' (by omega) (by omega)).trans hp, ?_, ?_, hff.trans hf3⟩⟩
        · exact DownInv.congr (fun x hx => (nth_swl l' (by omega) (by omega) x).symm) (down_step hi hj hjk h0 hlt hmin)
        · intro x hx
          rw [nth_swl l' (by omega) (by omega), ← hun x hx]
          unfold sw
          rw [if_neg (by omega), if_neg (by omega)]
      · rw [decide_eq_false hlt, Bool.not_false, cond_true]
        refine hQ _ hW2 hff ?_
        intro k' h0' hk' e'
        have := hmin k' h0' hk' e'
        omega
    by_cases h2 : 2 * k + 2 < m
    · rw [decide_eq_true (by omega), cond_true]
      refine ⟨_, _, m_value row0_Less (by kernel_rfl) pa W _ hW.cell _, ?_⟩
      refine Calls.mono (k_Less a n c lo l' (2 * k + 2) (2 * k + 1) W hW.row (by omega) (by omega)) ?_
      rintro _ W1 ⟨rfl, hf1⟩
      refine ⟨_, rfl, ?_⟩
      have hW1 := hW.fr hf1 (by simp) (by simp)
      have hff := hf.trans (Fr.of_nil hf1)
      by_cases hlt : nth l' (2 * k + 2) < nth l' (2 * k + 1)
      · rw [decide_eq_true hlt, cond_true]
        refine turn (2 * k + 2) W1 h2 (by omega) (by omega) hW1 hff ?_ _ _ ?_ ?_
        · intro k' h0' hk' e'
          have : k' = 2 * k + 1 ∨ k' = 2 * k + 2 := by omega
          rcases this with rfl | rfl <;> omega
        · intro W' a b c; exact stop W' a b c
        · rintro W' ⟨l'', g1, g2, g3, g4, g5⟩
          exact ⟨_, rfl, m - (2 * k + 2), by omega, 2 * k + 2, l'', rfl, rfl, by omega, g1, g2, g3, g4, g5⟩
      · rw [decide_eq_false hlt, cond_false]
        refine turn (2 * k + 1) W1 (by omega) (by omega) (by omega) hW1 hff ?_ _ _ ?_ ?_
        · intro k' h0' hk' e'
          have : k' = 2 * k + 1 ∨ k' = 2 * k + 2 := by omega
          rcases this with rfl | rfl <;> omega
        · intro W' a b c; exact stop W' a b c
        · rintro W' ⟨l'', g1, g2, g3, g4, g5⟩
          exact ⟨_, rfl, m - (2 * k + 1), by omega, 2 * k + 1, l'', rfl, rfl, by omega, g1, g2, g3, g4, g5⟩
    · rw [decide_eq_false (by omega), cond_false]
      refine turn (2 * k + 1) W (by omega) (by omega) (by omega) hW hf ?_ _ _ ?_ ?_
      · intro k' h0' hk' e'
        have : k' = 2 * k + 1 := by omega
        subst this; omega
      · intro W' a b c; exact stop W' a b c
      · rintro W' ⟨l'', g1, g2, g3, g4, g5⟩
        exact ⟨_, rfl, m - (2 * k + 1), by omega, 2 * k + 1, l'', rfl, rfl, by omega, g1, g2, g3, g4, g5⟩

theorem nth_map_last (l : List Int) (x : Int) (k : Nat) : nth (l ++ [x]) k = if k < l.length then nth l k else if k = l.length then x else 0 := by
  unfold nth
  rw [List.getD_eq_getElem?_getD, List.getElem?_append]
  split
  · simp
  · rename_i h
    split
    · subst_vars; simp
    · rw [List.getElem?_eq_none (by simp; omega)]; rfl

/-- back.Push: the pool's block is pb; the row may be a new one -/
theorem k_bPush (pb off : Nat) (lo : Nat) (a : Option Addr) (n c : Nat) (l : List Int) (x : Int) (cs : List Value) (w : World) (hb : Blk w pb cs) (hc : cs[off]? = some (.slice a n c)) (h : OwnI w lo a n c l)
    (hap : ∀ i ∈ blks a, i ≠ pb) (hlo : lo ≤ w.heap.size) (hn : n ≤ 1048576) :
    Calls prog 244 #[.pointer (some ⟨pb, off, none⟩), .iface 3 (.int .i64 x)] w fun e w' => e = .returned (.tuple #[]) ∧ ∃ a' c', Blk w' pb (cs.set off (.slice a' (n + 1) c')) ∧ OwnI w' lo a' (n + 1) c' (l ++ [x]) ∧
      (∀ i ∈ blks a', i ∈ blks a ∨ w.heap.size ≤ i) ∧ Fr (pb :: blks a) w w' := by
  refine c244 _ _ _ _ ?_
  unfold N244
  rintro _ rfl
  have hcell : w.cell? ⟨pb, off, none⟩ = some (.slice a n c) := (hb.cell off).trans hc
  refine ⟨fun W => W.cell? ⟨pb, off, none⟩ = some (.slice a n c), hcell, a, n, c, fun W hW => hW, x, rfl, ?_⟩
  rintro _ rfl
  have hs1 : Fr [] w (w.drew.alloc (.cells #[intC x] 3)) := (Fr.drew w).trans (Fr.alloc ..)
  have h1 : OwnI (w.drew.alloc (.cells #[intC x] 3)) lo a n c l := h.fr hs1 (by simp)
  have hpb := hb.lt
  refine ⟨(cell_alloc_old (w := w.drew) hpb).trans hcell, ?_⟩
  have hx : Sli (w.drew.alloc (.cells #[intC x] 3)) [] 1 (some ⟨w.heap.size, 0, none⟩) 1 [intC x] := by
    have := (Own.lit (k := 1) w.drew [intC x] 1 (by simp [maxLen]) rfl 3 (lo := 0) (Nat.zero_le _)).sli (F := []) (by simp)
    exact this
  obtain ⟨b, d, w', hr, ho, hf, hbl, _⟩ := append_ints (c' := 1) h1 (by rw [size_alloc]; exact Nat.le_succ_of_le hlo) 201 hx (by intro u hu; simp at hu; subst hu; rfl) (by omega)
  refine ⟨b, n + 1, d, w', hr, ?_, ?_⟩
  · exact cell_fr hf ((cell_alloc_old (w := w.drew) hpb).trans hcell) (fun hm => hap _ hm rfl)
  · have hbw : Blk w' pb cs := (hb.fr hs1 (by simp)).fr hf (fun hm => hap _ hm rfl)
    refine ⟨⟨_, (hbw.cell off).trans hc⟩, hbw.frozen off, ?_⟩
    rintro _ rfl
    have hpbn : pb ∉ blks b := by
      intro hm
      rcases hbl pb hm with h' | h'
      · exact hap _ h' rfl
      · rw [size_alloc] at h'; exact absurd h' (by show ¬ (w.heap.size + 1 ≤ pb); omega)
    refine ⟨rfl, b, d, hbw.set off _, ?_, ?_, ?_⟩
    · have : OwnI w' lo b (n + 1) d (l ++ [x]) := by unfold OwnI; rw [List.map_append]; exact ho
      exact this.fr (Fr.setCell w' ⟨pb, off, none⟩ _) (by intro i hi; simp only [List.mem_singleton]; rintro rfl; exact hpbn hi)
    · intro i hi
      rcases hbl i hi with h' | h'
      · exact .inl h'
      · rw [size_alloc] at h'; exact .inr (by have : w.drew.heap.size = w.heap.size := rfl; omega)
    · refine ((Fr.of_nil hs1).trans (hf.mono ?_)).trans ((Fr.setCell w' ⟨pb, off, none⟩ _).mono ?_)
      · intro i hi; exact List.mem_cons_of_mem _ hi
      · intro i hi; simp at hi; subst hi; simp

/-- back.Pop -/
theorem k_bPop (pb off : Nat) (lo : Nat) (a : Option Addr) (n c : Nat) (l : List Int) (x : Int) (cs : List Value) (w : World) (hb : Blk w pb cs) (hc : cs[off]? = some (.slice a (n + 1) c)) (h : OwnI w lo a (n + 1) c (l ++ [x]))
    (hap : ∀ i ∈ blks a, i ≠ pb) (hn : n ≤ 1048576) :
    Calls prog 243 #[.pointer (some ⟨pb, off, none⟩)] w fun e w' => e = .returned (.iface 3 (.int .i64 x)) ∧ Blk w' pb (cs.set off (.slice a n c)) ∧ OwnI w' lo a n c l ∧ Fr [pb] w w' := by
  refine c243 _ _ _ ?_
  unfold N243
  have hcell : w.cell? ⟨pb, off, none⟩ = some (.slice a (n + 1) c) := (hb.cell off).trans hc
  have hlen := h.len
  simp only [List.length_append, List.length_cons, List.length_nil] at hlen
  have e1 : IntKind.wrap .i64 (((n + 1 : Nat) : Int) - 1) = ((n : Nat) : Int) := by rw [wr (by omega) (by omega)]; omega
  obtain ⟨b, rfl, hx⟩ := h.at (i := n) (by omega)
  have hxx : nth (l ++ [x]) n = x := by rw [nth_map_last, if_neg (by omega), if_pos (by omega)]
  rw [hxx] at hx
  refine ⟨_, _, _, hcell, _, _, _, hcell, ?_⟩
  simp only [optW, e1, Addr.add_lit, Int.toNat_natCast, Nat.mul_one, Nat.zero_add]
  refine ⟨⟨by omega, by omega⟩, x, hx, _, _, _, hcell, ⟨by omega, by omega, by have := Own.le h; omega, by omega⟩, ⟨_, hcell⟩, hb.frozen off, ?_⟩
  rintro _ rfl
  have hp : OwnI w lo (some ⟨b, 0, none⟩) n c l := by
    have := Own.prefix h (m := n) (by omega)
    rw [List.map_append, List.take_append_of_le_length (by simp; omega), List.take_of_length_le (by simp; omega)] at this
    exact this
  simp only [Addr.add_zero', Option.map_id', ite_self, Nat.sub_zero]
  refine ⟨trivial, hb.set off _, hp.fr (Fr.setCell w ⟨pb, off, none⟩ _) (by intro i hi; simp only [List.mem_singleton]; rintro rfl; exact hap _ hi rfl), Fr.setCell w ⟨pb, off, none⟩ _⟩

/-- heap.Push -/
theorem k_hPush (pb off : Nat) (lo : Nat) (a : Option Addr) (n c : Nat) (l : List Int) (x : Int) (cs : List Value) (w : World) (hb : Blk w pb cs) (hc : cs[off]? = some (.slice a n c)) (h : OwnI w lo a n c l)
    (hap : ∀ i ∈ blks a, i ≠ pb) (hlo : lo ≤ w.heap.size) (hn : n ≤ 1048576) (hh : HeapTo (nth l) n) :
    Calls prog 163 #[.iface 222 (.pointer (some ⟨pb, off, none⟩)), .iface 3 (.int .i64 x)] w fun e w' => e = .returned (.tuple #[]) ∧ ∃ a' c' l', Blk w' pb (cs.set off (.slice a' (n + 1) c')) ∧ OwnI w' lo a' (n + 1) c' l' ∧
      l'.Perm (l ++ [x]) ∧ HeapTo (nth l') (n + 1) ∧ (∀ i ∈ blks a', i ∈ blks a ∨ w.heap.size ≤ i) ∧ Fr (pb :: blks a) w w' := by
  refine c163 _ _ _ _ ?_
  unfold N163
  have hpb := hb.lt
  have hlen := h.len
  have hoff : off < cs.length := (List.getElem?_eq_some_iff.1 hc).1
  refine ⟨_, _, m_pointer row0_Push (by kernel_rfl) _ w _, ?_⟩
  refine Calls.mono (k_bPush pb off lo a n c l x cs w hb hc h hap hlo hn) ?_
  rintro _ w1 ⟨rfl, a1, c1, hb1, ho1, hbl, hf1⟩
  have hap1 : ∀ i ∈ blks a1, i ≠ pb := by
    intro i hi e
    rcases hbl i hi with h' | h'
    · exact hap i h' e
    · omega
  have hcell : w1.cell? ⟨pb, off, none⟩ = some (.slice a1 (n + 1) c1) := (hb1.cell off).trans (by simp [hoff])
  refine ⟨rfl, _, _, m_value row0_Len (by kernel_rfl) _ w1 _ hcell _, ?_⟩
  refine Calls.mono (k_Len a1 (n + 1) c1 w1) ?_
  rintro _ _ ⟨rfl, rfl⟩
  refine ⟨_, rfl, ?_⟩
  rw [show IntKind.wrap .i64 (((n + 1 : Nat) : Int) - 1) = ((n : Nat) : Int) by rw [wr (by omega) (by omega)]; omega]
  refine Calls.mono (k_up ⟨pb, off, none⟩ lo a1 (n + 1) c1 (l ++ [x]) n w1 ⟨hcell, ho1, hap1⟩ (by omega) (by omega) ?_) ?_
  · constructor
    · intro k h0 hk hne
      rw [nth_map_last, nth_map_last, if_pos (by omega), if_pos (by omega)]
      exact hh k h0 (by omega)
    · intro k h0 hk e _; omega
  · rintro _ w2 ⟨rfl, l', hl', hp, hH, hf2⟩
    refine ⟨rfl, rfl, a1, c1, l', hb1.fr hf2 (fun hm => hap1 _ hm rfl), hl'.row, hp, hH, hbl, hf1.trans' hf2 ?_⟩
    intro i hi
    rcases hbl i hi with h' | h'
    · exact .inl (List.mem_cons_of_mem _ h')
    · exact .inr h'

/-- heap.Pop -/
theorem k_hPop (pb off : Nat) (lo : Nat) (a : Option Addr) (n c : Nat) (l : List Int) (cs : List Value) (w : World) (hb : Blk w pb cs) (hc : cs[off]? = some (.slice a (n + 1) c)) (h : OwnI w lo a (n + 1) c l)
    (hap : ∀ i ∈ blks a, i ≠ pb) (hn : n ≤ 1048576) (hh : HeapTo (nth l) (n + 1)) :
    Calls prog 137 #[.iface 222 (.pointer (some ⟨pb, off, none⟩))] w fun e w' => e = .returned (.iface 3 (.int .i64 (nth l 0))) ∧ ∃ l', Blk w' pb (cs.set off (.slice a n c)) ∧ OwnI w' lo a n c l' ∧
      (l' ++ [nth l 0]).Perm l ∧ HeapTo (nth l') n ∧ Fr (pb :: blks a) w w' := by
  refine c137 _ _ _ ?_
  unfold N137
  have hlen := h.len
  have hoff : off < cs.length := (List.getElem?_eq_some_iff.1 hc).1
  have hcell : w.cell? ⟨pb, off, none⟩ = some (.slice a (n + 1) c) := (hb.cell off).trans hc
  have e1 : IntKind.wrap .i64 (((n + 1 : Nat) : Int) - 1) = ((n : Nat) : Int) := by rw [wr (by omega) (by omega)]; omega
  refine ⟨_, _, m_value row0_Len (by kernel_rfl) _ w _ hcell _, ?_⟩
  refine Calls.mono (k_Len a (n + 1) c w) ?_
  rintro _ _ ⟨rfl, rfl⟩
  refine ⟨_, rfl, ?_⟩
  simp only [e1]
  refine ⟨_, _, m_value row0_Swap (by kernel_rfl) _ w _ hcell _, ?_⟩
  refine Calls.mono (k_Swap a (n + 1) c lo l 0 n w h (by omega) (by omega)) ?_
  rintro _ w1 ⟨rfl, hr1, hf1⟩
  have hp1 : HpAt w1 ⟨pb, off, none⟩ lo a (n + 1) c (swl l 0 n) := HpAt.row' ⟨hcell, h, hap⟩ hf1 hr1
  refine ⟨rfl, ?_⟩
  refine Calls.mono (k_down ⟨pb, off, none⟩ lo a (n + 1) c (swl l 0 n) 0 n w1 hp1 (by omega) (by omega) (by omega) ?_) ?_
  · constructor
    · intro k h0 hk hne
      rw [nth_swl l (by omega) (by omega), nth_swl l (by omega) (by omega)]
      unfold sw
      rw [if_neg (by omega), if_neg (by omega), if_neg (by omega), if_neg (by omega)]
      exact hh k h0 (by omega)
    · intro k h0 hk e h0'; omega
  · rintro _ w2 ⟨b2, rfl, l2, hp2, hperm, hH2, hun, hf2⟩
    refine ⟨_, rfl, ?_⟩
    have hlen2 := hp2.row.len
    have hl2 : l2 = l2.take n ++ [nth l2 n] := by
      have h1 : l2[n]? = some (nth l2 n) := nth_eq (by omega)
      have h2 : l2.take (n + 1) = l2 := List.take_of_length_le (by omega)
      rw [List.take_add_one, h1] at h2
      exact h2.symm
    have hx : nth l2 n = nth l 0 := by
      rw [hun n (Nat.le_refl _), nth_swl l (by omega) (by omega)]
      unfold sw
      by_cases h0 : n = 0
      · subst h0; simp
      · rw [if_neg h0, if_pos rfl]
    rw [hx] at hl2
    have hff : Fr (pb :: blks a) w w2 := (hf1.trans hf2).mono (fun i hi => List.mem_cons_of_mem _ hi)
    have hb2 : Blk w2 pb cs := hb.fr (hf1.trans hf2) (fun hm => hap _ hm rfl)
    refine ⟨_, _, m_pointer row0_Pop (by kernel_rfl) _ w2 _, ?_⟩
    refine Calls.mono (k_bPop pb off lo a n c (l2.take n) (nth l 0) cs w2 hb2 hc (hl2 ▸ hp2.row) hap hn) ?_
    rintro _ w3 ⟨rfl, hb3, ho3, hf3⟩
    refine ⟨_, rfl, rfl, l2.take n, hb3, ho3, ?_, ?_, hff.trans (hf3.mono (by intro i hi; simp at hi; subst hi; simp))⟩
    · rw [← hl2]
      exact hperm.trans (perm_swl l (by omega) (by omega))
    · refine HeapTo.congr (f := nth l2) ?_ hH2
      intro k hk
      unfold nth
      simp [hk]
end Go.Proofs.Tryz
