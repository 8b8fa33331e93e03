/- The chapter's own tree: drop, Link, Unlink, Move, Do. Conditions: none. -/
import Derived.Test.YtdicohcmccjnoaaGreatRg
namespace Go.Proofs.Tryz
open Go Go.Eng Go.Topo

/-- a struct of two is handed out -/
theorem ret2 {w : World} {b1 b2 : Nat} {a : Option Addr} {n c : Nat} {x : Int} {c0 c1 : Value} (h1 : Blk w b1 [.slice a n c, .int .i64 x]) (h2 : Blk w b2 [c0, c1]) (K : Option Addr → Nat → Nat → Int → World → Prop) (hk : ∀ w', Fr [b2] w w' → K a n c x w') :
    ∃ (xa : Option Addr) (xn xc : Nat), w.cell? ⟨b1, 0, none⟩ = some (.slice xa xn xc) ∧ ∃ (y : Int), w.cell? ⟨b1, 1, none⟩ = some (.int .i64 y) ∧
    (∃ u, w.cell? ⟨b2, 0, none⟩ = some u) ∧ w.frozen? ⟨b2, 0, none⟩ = false ∧ ∀ w1, w1 = w.setCell ⟨b2, 0, none⟩ (.slice xa xn xc) →
    (∃ u, w1.cell? ⟨b2, 1, none⟩ = some u) ∧ w1.frozen? ⟨b2, 1, none⟩ = false ∧ ∀ w2, w2 = w1.setCell ⟨b2, 1, none⟩ (.int .i64 y) →
    ∃ (ra : Option Addr) (rn rc : Nat), w2.cell? ⟨b2, 0, none⟩ = some (.slice ra rn rc) ∧ ∃ (r : Int), w2.cell? ⟨b2, 1, none⟩ = some (.int .i64 r) ∧ K ra rn rc r w2 := by
  refine ⟨_, _, _, h1.cell 0, _, h1.cell 1, ?_⟩
  refine set2 h2 _ _ _ (fun w' hb hf => ?_)
  exact ⟨_, _, _, hb.cell 0, _, hb.cell 1, hk w' hf⟩
/-- the same, of what is there already -/
theorem put2 {w : World} {b2 : Nat} {c0 c1 : Value} (h2 : Blk w b2 [c0, c1]) (a : Option Addr) (n c : Nat) (x : Int) (K : Option Addr → Nat → Nat → Int → World → Prop) (hk : ∀ w', Fr [b2] w w' → K a n c x w') :
    (∃ u, w.cell? ⟨b2, 0, none⟩ = some u) ∧ w.frozen? ⟨b2, 0, none⟩ = false ∧ ∀ w1, w1 = w.setCell ⟨b2, 0, none⟩ (.slice a n c) →
    (∃ u, w1.cell? ⟨b2, 1, none⟩ = some u) ∧ w1.frozen? ⟨b2, 1, none⟩ = false ∧ ∀ w2, w2 = w1.setCell ⟨b2, 1, none⟩ (.int .i64 x) →
    ∃ (ra : Option Addr) (rn rc : Nat), w2.cell? ⟨b2, 0, none⟩ = some (.slice ra rn rc) ∧ ∃ (r : Int), w2.cell? ⟨b2, 1, none⟩ = some (.int .i64 r) ∧ K ra rn rc r w2 := by
  refine set2 h2 _ _ _ (fun w' hb hf => ?_)
  exact ⟨_, _, _, hb.cell 0, _, hb.cell 1, hk w' hf⟩

theorem fresh_fr {α : Type} {E : Rec α} {w0 w w' : World} {a : Option Addr} {n b : Nat} {l : List α} {F : List Nat} (h : ∀ F, (∀ i ∈ F, i < w0.heap.size) → Recs E w F a n l) (hb : b < w0.heap.size) (hF : ∀ i ∈ F, i < w0.heap.size) (hf : Fr [b] w w') : Recs E w' F a n l :=
  ((h (b :: F) (by
    intro i hi
    rcases List.mem_cons.1 hi with e | e
    · omega
    · exact hF i e)).fr (hf.mono (by simp))).ext (fun i hi => .inl (List.mem_cons_of_mem _ hi))

section
variable {w : World} {a : Option Addr} {n c : Nat} {L : Items} {t : RT}

/-- drop -/
theorem k_rdrop (h : Its w a n t.L) (hn : n ≤ 1048576) (d : Int) (nm : ByteArray) : Calls prog 125 #[.agg #[.slice a n c, .int .i64 t.next], .int .i64 d, .string nm] w fun e w' =>
    ∃ a' n' c', e = .returned (.agg #[.slice a' n' c', .int .i64 t.next]) ∧ (∀ F, (∀ i ∈ F, i < w.heap.size) → Recs itE w' F a' n' (t.drop d nm).L) ∧ Fr [] w w' := by
  refine c125 _ _ _ _ _ _ _ _ (withR (X := N125 _ _ _ _ _ _ _) ?_)
  intro R hR
  unfold N125
  have hlen := h.len
  rintro w1 rfl
  have f1 := Fr.alloc w (.cells #[.slice a n c, .int .i64 t.next] 29)
  have b1 := Blk.new w [.slice a n c, .int .i64 t.next] 29
  have s1 := size_alloc w (.cells #[.slice a n c, .int .i64 t.next] 29)
  generalize w.alloc (.cells #[.slice a n c, .int .i64 t.next] 29) = w1 at *
  rintro w2 rfl
  have f2 := Fr.alloc w1 (.cells #[(.slice none 0 0), (.int .i64 0)] 29)
  have b2 := Blk.new w1 [(.slice none 0 0), (.int .i64 0)] 29
  have s2 := size_alloc w1 (.cells #[(.slice none 0 0), (.int .i64 0)] 29)
  have b1 := b1.fr f2 (by simp)
  generalize w1.alloc (.cells #[(.slice none 0 0), (.int .i64 0)] 29) = w2 at *
  refine ⟨_, b1.cell 1, ?_⟩
  rintro w3 rfl
  have f3 := Fr.alloc w2 (.cells #[(.slice none 0 0), (.int .i64 0)] 29)
  have b3 := Blk.new w2 [(.slice none 0 0), (.int .i64 0)] 29
  have s3 := size_alloc w2 (.cells #[(.slice none 0 0), (.int .i64 0)] 29)
  have b1 := b1.fr f3 (by simp)
  have b2 := b2.fr f3 (by simp)
  generalize w2.alloc (.cells #[(.slice none 0 0), (.int .i64 0)] 29) = w3 at *
  refine set2 b3 _ _ _ (fun w4 b4 f4 => ?_)
  have b1 := b1.fr f4 (by simp; omega)
  have b2 := b2.fr f4 (by simp; omega)
  have f03 : Fr [] w w3 := (f1.trans f2).trans f3
  have f04 : Fr [] w w4 := f03.trans' f4 (by intro i hi; simp at hi; right; omega)
  have s4 := f4.1
  refine lp125_0 _ _ _ _ _ (fun m i W => ∃ (k : Nat) (oa : Option Addr) (oc : Nat), i = k ∧ k ≤ n ∧ m = n - k ∧ Fr [w2.heap.size] w4 W ∧ Blk W w2.heap.size [.slice oa (dropL (t.L.take k) d nm).length oc, .int .i64 t.next] ∧ OwnR itE 148 W w4.heap.size oa (dropL (t.L.take k) d nm).length oc (dropL (t.L.take k) d nm)) R ?_ n 0 w4
    ⟨0, none, 0, rfl, by omega, by omega, Fr.refl .., by simpa [dropL] using b4, by simp [dropL]; exact OwnR.nil ..⟩ _
  rintro m _ ds W ⟨k, oa, oc, rfl, hk, rfl, hf, bo, ho⟩
  unfold B125_0
  have b1W := b1.fr hf (by simp; omega)
  have b2W := b2.fr hf (by simp; omega)
  have fW : Fr [] w W := f04.trans' hf (by intro i hi; simp at hi; right; omega)
  have c0 : W.cell? ⟨w.heap.size, 0, none⟩ = some (.slice a n c) := b1W.cell 0
  simp only [Addr.add_lit, Nat.zero_add]
  refine ⟨a, n, c, c0, ?_⟩
  have hle : (dropL (t.L.take k) d nm).length ≤ k := Nat.le_trans (List.length_filter_le _ _) (by rw [List.length_take]; omega)
  by_cases hkn : k < n
  · rw [decide_eq_true (by omega), cond_true]
    obtain ⟨x, hx⟩ : ∃ x, t.L[k]? = some x := ⟨t.L[k]'(by omega), List.getElem?_eq_getElem _⟩
    have hst : dropL (t.L.take (k + 1)) d nm = dropL (t.L.take k) d nm ++ (if x.1 = d ∧ x.2.name = nm then [] else [x]) := by
      rw [take_snoc hx]
      unfold dropL
      rw [List.filter_append]
      congr 1
      by_cases e : x.1 = d ∧ x.2.name = nm
      · rw [if_pos e]; simp [e.1, e.2]
      · rw [if_neg e]
        by_cases e1 : x.1 = d
        · have e2 : ¬ x.2.name = nm := fun e2 => e ⟨e1, e2⟩
          simp [e2]
        · simp [e1]
    have hlt : ∀ i ∈ blks oa, w4.heap.size ≤ i := fun i hi => (ho.blk i hi).1
    refine ⟨_, n, c, c0, ?_⟩
    obtain ⟨b, off, rfl, hc⟩ := Its.at h hx
    have hcs : ∀ U, Fr [] w U → ∀ j v, (itC x)[j]? = some v → U.cell? ⟨b, off + k * 6 + j, none⟩ = some v := fun U hU j v hv => cell_fr hU (hc j v hv) (by simp)
    simp only [optW, Addr.add_lit, Int.toNat_natCast]
    refine ⟨⟨by omega, by omega⟩, _, hcs W fW 0 _ rfl, ?_⟩
    by_cases hboth : x.1 = d ∧ x.2.name = nm
    · rw [if_pos hboth, List.append_nil] at hst
      rw [show (x.1 != d) = false by simp [hboth.1], cond_false]
      refine ⟨_, n, c, c0, ?_⟩
      simp only [Addr.add_lit]
      refine ⟨⟨by omega, by omega⟩, _, hcs W fW 1 _ rfl, ?_⟩
      rw [bytes_beq, decide_eq_true hboth.2, Bool.not_true, cond_false]
      refine ⟨_, rfl, n - (k + 1), by omega, k + 1, oa, oc, ?_, by omega, rfl, hf, by rw [hst]; exact bo, by rw [hst]; exact ho⟩
      rw [wr (by omega) (by omega)]; simp
    · rw [if_neg hboth] at hst
      by_cases hd : x.1 = d
      case' pos =>
        rw [show (x.1 != d) = false by simp [hd], cond_false]
        refine ⟨_, n, c, c0, ?_⟩
        simp only [Addr.add_lit]
        refine ⟨⟨by omega, by omega⟩, _, hcs W fW 1 _ rfl, ?_⟩
        rw [bytes_beq, decide_eq_false (fun e => hboth ⟨hd, e⟩), Bool.not_false, cond_true]
      case' neg =>
        rw [bne_iff_ne.2 hd, cond_true]
      all_goals
        rintro V rfl
        have fD := Fr.drew W
        have fWD := fW.trans fD
        have sub : ∀ {cs : List Value} {b : Nat}, Blk W b cs → b < w4.heap.size → ∀ U, Fr (blks oa) W.drew U → Blk U b cs := fun hb hlt' U hU => (hb.fr fD (by simp)).fr hU (fun hm => by have := hlt _ hm; omega)
        have low : ∀ U, Fr (blks oa) W.drew U → Fr [] w U := fun U hU => fWD.trans' hU (fun i hi => .inr (by have := hlt i hi; have := f04.1; omega))
        refine ⟨fun U => Fr (blks oa) W.drew U, Fr.refl .., _, _, _, fun U hU => (sub bo (by omega) U hU).cell 0, _, _, _, fun U hU => (sub b1W (by omega) U hU).cell 0, ?_⟩
        simp only [Addr.add_lit]
        refine ⟨⟨by omega, by omega⟩, _, fun U hU => hcs U (low U hU) 0 _ rfl, _, fun U hU => hcs U (low U hU) 1 _ rfl, _, fun U hU => hcs U (low U hU) 2 _ rfl, _, fun U hU => hcs U (low U hU) 3 _ rfl, _, fun U hU => hcs U (low U hU) 4 _ rfl, _, fun U hU => hcs U (low U hU) 5 _ rfl, ?_⟩
        rintro V1 rfl
        refine ⟨Fr.of_nil (Fr.alloc ..), ?_⟩
        obtain ⟨b', d', V2, hr2, ho2, g2, hbl⟩ := OwnR.push T_items (ho.fr0 fD) (Nat.le_trans hf.1 fD.1) x 27 148 (by omega)
        have bo2 := sub bo (by omega) V2 g2
        refine ⟨b', _, d', V2, hr2, g2, ⟨_, bo2.cell 0⟩, bo2.frozen 0, ?_⟩
        rintro V3 rfl
        have g3 := Fr.setCell V2 ⟨w2.heap.size, 0, none⟩ (.slice b' ((dropL (t.L.take k) d nm).length + 1) d')
        have hlen1 : (dropL (t.L.take k) d nm).length + 1 = (dropL (t.L.take (k + 1)) d nm).length := by rw [hst]; simp
        have hlow' : ∀ i ∈ blks b', w4.heap.size ≤ i := fun i hi => by
          rcases hbl i hi with h' | h'
          · exact hlt i h'
          · have := hf.1; have := fD.1; omega
        refine ⟨_, rfl, n - (k + 1), by omega, k + 1, b', d', ?_, by omega, rfl, ?_, ?_, ?_⟩
        · rw [wr (by omega) (by omega)]; simp
        · refine ((hf.trans (Fr.of_nil fD)).trans' g2 (fun i hi => .inr (hlt i hi))).trans g3
        · rw [← hlen1]; exact bo2.set 0 _
        · rw [← hlen1, hst]
          exact ho2.fr g3 (fun i hi => by have := hlow' i hi; simp; omega)
  · rw [decide_eq_false (by omega), cond_false]
    rw [List.take_of_length_le (by omega)] at bo ho
    refine ret2 bo b2W _ (fun w' hf' => ?_)
    have hlt : ∀ i ∈ blks oa, w4.heap.size ≤ i := fun i hi => (ho.blk i hi).1
    refine hR _ _ ⟨oa, _, oc, rfl, ?_, fW.trans' hf' (by intro i hi; simp at hi; right; omega)⟩
    intro F hF
    exact (ho.fr hf' (fun i hi => by have := hlt i hi; simp; omega)).recs (fun i hi => by have := hF i hi; omega)

/-- Link -/
theorem k_rLink {F : List Nat} (hX : Recs itE w F a n t.L) (hF : ∀ i ∈ F, i < w.heap.size) (hI : Go.Topo.Inv t) (hnx : t.next < 9223372036854775807) (d : Int) (nm : ByteArray) (hnm : nm.size ≤ 9223372036854775807) (isDir : Bool) (sh : Int) :
    Calls prog 62 #[.agg #[.slice a n c, .int .i64 t.next], .int .i64 d, .string nm, .bool isDir, .int .i64 sh] w fun e w' =>
    ∃ a' n' c', e = .returned (.tuple #[.agg #[.slice a' n' c', .int .i64 (t.link d nm isDir sh).1.next], .int .i64 (t.link d nm isDir sh).2.1, .int .i64 (t.link d nm isDir sh).2.2]) ∧ Recs itE w' F a' n' (t.link d nm isDir sh).1.L ∧ Fr [] w w' := by
  refine c62 _ _ _ _ _ _ _ _ _ _ (withR (X := N62 _ _ _ _ _ _ _ _ _) ?_)
  intro R hR
  unfold N62
  have h : Its w a n t.L := hX.ext (by simp)
  have hlen := h.len
  have hsm := len_small hI
  have hn1 := hI.next
  rintro w1 rfl
  have f1 := Fr.alloc w (.cells #[.slice a n c, .int .i64 t.next] 29)
  have b1 := Blk.new w [.slice a n c, .int .i64 t.next] 29
  have s1 := size_alloc w (.cells #[.slice a n c, .int .i64 t.next] 29)
  generalize w.alloc (.cells #[.slice a n c, .int .i64 t.next] 29) = w1 at *
  rintro w2 rfl
  have f2 := Fr.alloc w1 (.cells #[(.slice none 0 0), (.int .i64 0)] 29)
  have b2 := Blk.new w1 [(.slice none 0 0), (.int .i64 0)] 29
  have s2 := size_alloc w1 (.cells #[(.slice none 0 0), (.int .i64 0)] 29)
  have b1 := b1.fr f2 (by simp)
  generalize w1.alloc (.cells #[(.slice none 0 0), (.int .i64 0)] 29) = w2 at *
  have f02 := f1.trans f2
  have fin : ∀ {W : World}, Fr [] w W → ∀ w', Fr [w1.heap.size] W w' → Fr [] w w' := fun hW w' hf => hW.trans' hf (by intro i hi; simp at hi; right; omega)
  have same : ∀ (W : World) (er : Int), Fr [] w W → t.link d nm isDir sh = (t, 0, er) → ∀ w', Fr [w1.heap.size] W w' → R (.returned (.tuple #[(.agg #[(.slice a n c), (.int .i64 t.next)]), .int .i64 0, .int .i64 er])) w' := by
    intro W er hW e w' hf
    refine hR _ _ ⟨a, n, c, ?_, ?_, fin hW w' hf⟩
    · rw [e]
    · rw [e]; exact hX.fr0 (fin hW w' hf)
  refine ⟨_, _, _, b1.cell 0, _, b1.cell 1, ?_⟩
  refine Calls.mono (k_rList (h.fr0 f02) hI t.next d) ?_
  rintro _ w3 ⟨a', c', rfl, ho, f3⟩
  have f03 := f02.trans f3
  have b1 := b1.fr f3 (by simp)
  have b2 := b2.fr f3 (by simp)
  refine ⟨_, _, _, _, rfl, ?_⟩
  by_cases he : listErr t.L d = 0
  · rw [he, bne_self_eq_false, cond_false]
    refine Calls.mono (k_rbad nm hnm sh w3) ?_
    rintro _ _ ⟨rfl, rfl⟩
    refine ⟨_, rfl, ?_⟩
    by_cases hm : mayErr nm sh = 0
    · rw [hm, bne_self_eq_false, cond_false]
      refine ⟨_, _, _, b1.cell 0, _, b1.cell 1, ?_⟩
      refine Calls.mono (k_rFind (h.fr0 f03) hI t.next d nm) ?_
      rintro _ w4 ⟨rfl, f4⟩
      have f04 := f03.trans f4
      have b1 := b1.fr f4 (by simp)
      have b2 := b2.fr f4 (by simp)
      refine ⟨_, _, _, _, _, _, rfl, ?_⟩
      have hfi : fiR t d nm = if (findIn (entsOf t.L d) nm).isSome then 0 else 5 := by
        unfold fiR RT.find
        rw [if_neg (by simpa using he)]
        cases findIn (entsOf t.L d) nm <;> simp
      rw [hfi]
      by_cases hs : (findIn (entsOf t.L d) nm).isSome
      · rw [if_pos hs, beq_self_eq_true, cond_true]
        refine ret2 b1 b2 _ (fun w' hf' => ?_)
        refine same w4 6 f04 ?_ w' hf'
        unfold RT.link
        rw [if_neg (by simpa using he), if_neg (by simpa using hm), if_pos hs]
      · rw [if_neg hs, show ((5 : Int) == 0) = false from rfl, cond_false]
        refine lp62_0 _ _ _ _ _ _ (fun m i W => ∃ k : Nat, i = k ∧ 1 ≤ k ∧ k ≤ 201 ∧ m = 201 - k ∧ Fr [] w4 W ∧ ∀ j : Int, 1 ≤ j → j < k → kindOf t.L j ≠ 0) R ?_ 200 1 w4 ⟨1, rfl, by omega, by omega, by omega, Fr.refl .., fun j h1 h2 => by omega⟩ _
        rintro m _ ds W ⟨k, rfl, hk1, hk, rfl, hf, hp⟩
        unfold B62_0
        have fW := f04.trans hf
        have b1 := b1.fr hf (by simp)
        have b2 := b2.fr hf (by simp)
        simp only [Addr.add_lit, Nat.zero_add]
        by_cases hkn : k ≤ 200
        · rw [decide_eq_true (by omega), cond_true]
          refine ⟨_, _, _, b1.cell 0, _, b1.cell 1, ?_⟩
          refine Calls.mono (k_rkind (h.fr0 fW) (by omega) t.next k) ?_
          rintro _ w5 ⟨rfl, f5⟩
          have f05 := fW.trans f5
          have b1 := b1.fr f5 (by simp)
          have b2 := b2.fr f5 (by simp)
          refine ⟨_, rfl, ?_⟩
          by_cases h0 : kindOf t.L (k : Int) = 0
          · rw [beq_iff_eq.2 h0, cond_true]
            refine ⟨_, _, _, b1.cell 0, _, b1.cell 1, ?_⟩
            refine Calls.mono (k_rput (h.fr0 f05) (by omega) (by omega) d ⟨nm, k, isDir, 0, sh⟩) ?_
            rintro _ w6 ⟨a6, c6, rfl, h6, f6⟩
            have f06 := f05.trans f6
            refine ⟨_, _, _, _, rfl, ?_⟩
            have hfree : freeNode t.L = some (k : Int) := leastFrom_spec _ 200 1 k (by omega) (by omega) (by simpa using h0) (fun j j1 j2 => by simpa using hp j j1 j2)
            have hl : t.link d nm isDir sh = (t.put d ⟨nm, k, isDir, 0, sh⟩, (k : Int), 0) := by
              unfold RT.link
              rw [if_neg (by simpa using he), if_neg (by simpa using hm), if_neg hs, hfree]
            refine put2 (b2.fr f6 (by simp)) _ _ _ _ _ (fun w' hf' => ?_)
            refine hR _ _ ⟨a6, n + 1, c6, ?_, ?_, fin f06 w' hf'⟩
            · rw [hl]
            · rw [hl]
              have := b2.lt
              exact fresh_fr h6 (by omega) (fun i hi => by have := hF i hi; omega) hf'
          · rw [beq_eq_false_iff_ne.2 h0, cond_false]
            refine ⟨_, rfl, 201 - (k + 1), by omega, k + 1, ?_, by omega, by omega, rfl, hf.trans f5, ?_⟩
            · rw [wr (by omega) (by omega)]; simp
            · intro j j1 j2
              by_cases e : j = k
              · subst e; exact h0
              · exact hp j j1 (by omega)
        · rw [decide_eq_false (by omega), cond_false]
          refine ret2 b1 b2 _ (fun w' hf' => ?_)
          refine same W 12 fW ?_ w' hf'
          have hfree : freeNode t.L = none := leastFrom_none _ 200 1 (fun j j1 j2 => by simpa using hp j j1 (by omega))
          unfold RT.link
          rw [if_neg (by simpa using he), if_neg (by simpa using hm), if_neg hs, hfree]
    · rw [bne_iff_ne.2 hm, cond_true]
      rintro w4 rfl
      have f04 := f03.trans (Fr.drew w3)
      refine ⟨fun U => U = w3.drew, rfl, _, _, _, fun U hU => by rw [hU]; exact (b1.fr (Fr.drew w3) (by simp)).cell 0, _, fun U hU => by rw [hU]; exact (b1.fr (Fr.drew w3) (by simp)).cell 1, ?_⟩
      refine Calls.mono (k_rbad nm hnm sh w3.drew) ?_
      rintro _ _ ⟨rfl, rfl⟩
      refine ⟨_, rfl, rfl, ?_⟩
      refine put2 (b2.fr (Fr.drew w3) (by simp)) _ _ _ _ _ (fun w' hf' => ?_)
      refine same w3.drew _ f04 ?_ w' hf'
      unfold RT.link
      rw [if_neg (by simpa using he), if_pos hm]
  · rw [bne_iff_ne.2 he, cond_true]
    refine ret2 b1 b2 _ (fun w' hf' => ?_)
    refine same w3 _ f03 ?_ w' hf'
    unfold RT.link
    rw [if_pos he]

/-- Unlink -/
theorem k_rUnlink {F : List Nat} (hX : Recs itE w F a n t.L) (hF : ∀ i ∈ F, i < w.heap.size) (hI : Go.Topo.Inv t) (d : Int) (nm : ByteArray) (isDir : Bool) :
    Calls prog 63 #[.agg #[.slice a n c, .int .i64 t.next], .int .i64 d, .string nm, .bool isDir] w fun e w' =>
    ∃ a' n' c', e = .returned (.tuple #[.agg #[.slice a' n' c', .int .i64 (t.unlink d nm isDir).1.next], .int .i64 (t.unlink d nm isDir).2]) ∧ Recs itE w' F a' n' (t.unlink d nm isDir).1.L ∧ Fr [] w w' := by
  refine c63 _ _ _ _ _ _ _ _ _ (withR (X := N63 _ _ _ _ _ _ _ _) ?_)
  intro R hR
  unfold N63
  have h : Its w a n t.L := hX.ext (by simp)
  have hlen := h.len
  have hsm := len_small hI
  rintro w1 rfl
  have f1 := Fr.alloc w (.cells #[.slice a n c, .int .i64 t.next] 29)
  have b1 := Blk.new w [.slice a n c, .int .i64 t.next] 29
  have s1 := size_alloc w (.cells #[.slice a n c, .int .i64 t.next] 29)
  generalize w.alloc (.cells #[.slice a n c, .int .i64 t.next] 29) = w1 at *
  rintro w2 rfl
  have f2 := Fr.alloc w1 (.cells #[(.slice none 0 0), (.int .i64 0)] 29)
  have b2 := Blk.new w1 [(.slice none 0 0), (.int .i64 0)] 29
  have s2 := size_alloc w1 (.cells #[(.slice none 0 0), (.int .i64 0)] 29)
  have b1 := b1.fr f2 (by simp)
  generalize w1.alloc (.cells #[(.slice none 0 0), (.int .i64 0)] 29) = w2 at *
  have f02 := f1.trans f2
  have fin : ∀ {W : World}, Fr [] w W → ∀ w', Fr [w1.heap.size] W w' → Fr [] w w' := fun hW w' hf => hW.trans' hf (by intro i hi; simp at hi; right; omega)
  have same : ∀ (W : World) (er : Int), Fr [] w W → t.unlink d nm isDir = (t, er) → ∀ w', Fr [w1.heap.size] W w' → R (.returned (.tuple #[(.agg #[(.slice a n c), (.int .i64 t.next)]), .int .i64 er])) w' := by
    intro W er hW e w' hf
    refine hR _ _ ⟨a, n, c, ?_, ?_, fin hW w' hf⟩
    · rw [e]
    · rw [e]; exact hX.fr0 (fin hW w' hf)
  refine ⟨_, _, _, b1.cell 0, _, b1.cell 1, ?_⟩
  refine Calls.mono (k_rFind (h.fr0 f02) hI t.next d nm) ?_
  rintro _ w3 ⟨rfl, f3⟩
  have f03 := f02.trans f3
  have b1 := b1.fr f3 (by simp)
  have b2 := b2.fr f3 (by simp)
  refine ⟨_, _, _, _, _, _, rfl, ?_⟩
  rintro w4 rfl
  have l2 := b2.lt
  have l1 := b1.lt
  refine set5 (Blk.new w3 [(.string ⟨#[]⟩), (.int .i64 0), (.bool false), (.int .i64 0), (.int .i64 0)] 117) _ _ _ _ _ _ ?_
  intro w5 b5 g5
  have f35 : Fr [] w3 w5 := (Fr.alloc ..).trans' g5 (by intro i hi; simp at hi; right; omega)
  have f05 := f03.trans f35
  have b1 := b1.fr f35 (by simp)
  have b2 := b2.fr f35 (by simp)
  cases hfind : t.find d nm with
  | error er =>
    have hne := findErr_ne t d nm hfind
    have e1 : fiR t d nm = er := by unfold fiR; rw [hfind]
    rw [e1, bne_iff_ne.2 hne, cond_true]
    refine ret2 b1 b2 _ (fun w' hf' => ?_)
    refine same w5 er f05 ?_ w' hf'
    unfold RT.unlink
    rw [hfind]
  | ok x =>
    have e1 : fiR t d nm = 0 := by unfold fiR; rw [hfind]
    have e2 : fiE t d nm = x := by unfold fiE; rw [hfind]
    rw [e2] at b5
    rw [e1, bne_self_eq_false, cond_false]
    have c2 : w5.cell? ⟨w3.heap.size, 2, none⟩ = some (.bool x.dir) := b5.cell 2
    by_cases hb1 : isDir = true ∧ x.dir = false
    · obtain ⟨rfl, hxd⟩ := hb1
      rw [cond_true]
      refine ⟨_, c2, ?_⟩
      rw [hxd, Bool.not_false, cond_true]
      refine ret2 b1 b2 _ (fun w' hf' => ?_)
      refine same w5 8 f05 ?_ w' hf'
      unfold RT.unlink
      rw [hfind]
      simp [hxd]
    · by_cases hb2 : isDir = false ∧ x.dir = true
      · obtain ⟨rfl, hxd⟩ := hb2
        rw [cond_false, Bool.not_false, cond_true]
        refine ⟨_, c2, ?_⟩
        rw [hxd, cond_true]
        refine ret2 b1 b2 _ (fun w' hf' => ?_)
        refine same w5 7 f05 ?_ w' hf'
        unfold RT.unlink
        rw [hfind]
        simp [hxd]
      · have hul : t.unlink d nm isDir = if entsOf t.L x.node ≠ [] then (t, 9) else (t.drop d nm, 0) := by
          unfold RT.unlink
          rw [hfind]
          simp only
          rw [if_neg hb1, if_neg hb2]
        have hent : ∀ l : Items, entsOf l x.node = [] ↔ ∀ y ∈ l, y.1 ≠ x.node := by
          intro l
          unfold entsOf
          rw [List.map_eq_nil_iff, List.filter_eq_nil_iff]
          simp
        have loop : ∀ ds, L63_0 d nm ⟨w.heap.size, 0, none⟩ ⟨w1.heap.size, 0, none⟩ ⟨w3.heap.size, 0, none⟩ 0 ds w5 R := by
          intro ds
          refine lp63_0 _ _ _ _ _ (fun m i W => ∃ k : Nat, i = k ∧ k ≤ n ∧ m = n - k ∧ Fr [] w5 W ∧ ∀ y ∈ t.L.take k, y.1 ≠ x.node) R ?_ n 0 w5 ⟨0, rfl, by omega, by omega, Fr.refl .., by simp⟩ ds
          clear ds
          rintro m _ ds W ⟨k, rfl, hk, rfl, hf, hp⟩
          unfold B63_0
          have fW := f05.trans hf
          have b1 := b1.fr hf (by simp)
          have b2 := b2.fr hf (by simp)
          have b5 := b5.fr hf (by simp)
          simp only [Addr.add_lit, Nat.zero_add]
          refine ⟨_, _, _, b1.cell 0, ?_⟩
          by_cases hkn : k < n
          · rw [decide_eq_true (by omega), cond_true]
            rintro V rfl
            have fD := Fr.drew W
            obtain ⟨y, hy⟩ : ∃ y, t.L[k]? = some y := ⟨t.L[k]'(by omega), List.getElem?_eq_getElem _⟩
            obtain ⟨b, off, rfl, hc⟩ := Its.at (h.fr0 (fW.trans fD)) hy
            have b1 := b1.fr fD (by simp)
            have b2 := b2.fr fD (by simp)
            have b5 := b5.fr fD (by simp)
            refine ⟨fun U => U = W.drew, rfl, _, _, _, fun U hU => by rw [hU]; exact b1.cell 0, ?_⟩
            simp only [optW, Addr.add_lit, Int.toNat_natCast]
            refine ⟨⟨by omega, by omega⟩, _, fun U hU => by rw [hU]; exact hc 0 _ rfl, x.node, fun U hU => by rw [hU]; exact b5.cell 1, ?_⟩
            by_cases hd : y.1 = x.node
            · rw [beq_iff_eq.2 hd, cond_true]
              refine ret2 b1 b2 _ (fun w' hf' => ?_)
              refine same W.drew 9 (fW.trans fD) ?_ w' hf'
              rw [hul, if_pos (fun e => (hent _).1 e y (List.mem_of_getElem? hy) hd)]
            · rw [beq_eq_false_iff_ne.2 hd, cond_false]
              refine ⟨_, rfl, n - (k + 1), by omega, k + 1, ?_, by omega, rfl, hf.trans fD, ?_⟩
              · rw [wr (by omega) (by omega)]; simp
              · rw [take_snoc hy]
                intro z hz
                rcases List.mem_append.1 hz with h' | h'
                · exact hp z h'
                · obtain rfl := List.mem_singleton.1 h'; exact hd
          · rw [decide_eq_false (by omega), cond_false]
            rw [List.take_of_length_le (by omega)] at hp
            refine ⟨_, _, _, b1.cell 0, _, b1.cell 1, ?_⟩
            refine Calls.mono (k_rdrop (h.fr0 fW) (by omega) d nm) ?_
            rintro _ w6 ⟨a6, n6, c6, rfl, h6, f6⟩
            refine ⟨_, _, _, _, rfl, ?_⟩
            refine put2 (b2.fr f6 (by simp)) _ _ _ _ _ (fun w' hf' => ?_)
            have := b2.lt
            refine hR _ _ ⟨a6, n6, c6, ?_, ?_, fin (fW.trans f6) w' hf'⟩
            · rw [hul, if_neg (by simpa using (hent _).2 hp)]; rfl
            · rw [hul, if_neg (by simpa using (hent _).2 hp)]
              exact fresh_fr h6 (by omega) (fun i hi => by have := hF i hi; omega) hf'
        have hsame : isDir = x.dir := by
          cases hi : isDir <;> cases hxd : x.dir
          · rfl
          · exact absurd ⟨hi, hxd⟩ hb2
          · exact absurd ⟨hi, hxd⟩ hb1
          · rfl
        subst hsame
        rcases Bool.eq_false_or_eq_true x.dir with hxd | hxd
        · rw [hxd, cond_true]
          refine ⟨_, c2, ?_⟩
          rw [hxd, Bool.not_true, cond_false, cond_false]
          exact loop _
        · rw [hxd, cond_false, Bool.not_false, cond_true]
          refine ⟨_, c2, ?_⟩
          rw [hxd, cond_false]
          exact loop _

theorem climb_neg {L : Items} {x : Int} {k : Nat} {n : Int} (h : n < 0) : climb L x k n = false := by
  cases k with
  | zero => rfl
  | succ k => simp [climb, h]

/-- Move -/
theorem k_rMove {F : List Nat} (hX : Recs itE w F a n t.L) (hF : ∀ i ∈ F, i < w.heap.size) (hI : Go.Topo.Inv t) (hnx : t.next < 9223372036854775807) (d : Int) (nm : ByteArray) (to : Int) (nm' : ByteArray) (hnm : nm'.size ≤ 9223372036854775807) (sh : Int) :
    Calls prog 64 #[.agg #[.slice a n c, .int .i64 t.next], .int .i64 d, .string nm, .int .i64 to, .string nm', .int .i64 sh] w fun e w' =>
    ∃ a' n' c', e = .returned (.tuple #[.agg #[.slice a' n' c', .int .i64 (t.move d nm to nm' sh).1.next], .int .i64 (t.move d nm to nm' sh).2]) ∧ Recs itE w' F a' n' (t.move d nm to nm' sh).1.L ∧ Fr [] w w' := by
  refine c64 _ _ _ _ _ _ _ _ _ _ _ (withR (X := N64 _ _ _ _ _ _ _ _ _ _) ?_)
  intro R hR
  unfold N64
  have h : Its w a n t.L := hX.ext (by simp)
  have hlen := h.len
  have hsm := len_small hI
  have hn1 := hI.next
  rintro w1 rfl
  have f1 := Fr.alloc w (.cells #[.slice a n c, .int .i64 t.next] 29)
  have b1 := Blk.new w [.slice a n c, .int .i64 t.next] 29
  have s1 := size_alloc w (.cells #[.slice a n c, .int .i64 t.next] 29)
  generalize w.alloc (.cells #[.slice a n c, .int .i64 t.next] 29) = w1 at *
  rintro w2 rfl
  have f2 := Fr.alloc w1 (.cells #[(.slice none 0 0), (.int .i64 0)] 29)
  have b2 := Blk.new w1 [(.slice none 0 0), (.int .i64 0)] 29
  have s2 := size_alloc w1 (.cells #[(.slice none 0 0), (.int .i64 0)] 29)
  have b1 := b1.fr f2 (by simp)
  generalize w1.alloc (.cells #[(.slice none 0 0), (.int .i64 0)] 29) = w2 at *
  have f02 := f1.trans f2
  have fin : ∀ {W : World}, Fr [] w W → ∀ w', Fr [w1.heap.size] W w' → Fr [] w w' := fun hW w' hf => hW.trans' hf (by intro i hi; simp at hi; right; omega)
  have same : ∀ (W : World) (er : Int), Fr [] w W → t.move d nm to nm' sh = (t, er) → ∀ w', Fr [w1.heap.size] W w' → R (.returned (.tuple #[(.agg #[(.slice a n c), (.int .i64 t.next)]), .int .i64 er])) w' := by
    intro W er hW e w' hf
    refine hR _ _ ⟨a, n, c, ?_, ?_, fin hW w' hf⟩
    · rw [e]
    · rw [e]; exact hX.fr0 (fin hW w' hf)
  refine ⟨_, _, _, b1.cell 0, _, b1.cell 1, ?_⟩
  refine Calls.mono (k_rFind (h.fr0 f02) hI t.next d nm) ?_
  rintro _ w3 ⟨rfl, f3⟩
  have f03 := f02.trans f3
  have b1 := b1.fr f3 (by simp)
  have b2 := b2.fr f3 (by simp)
  refine ⟨_, _, _, _, _, _, rfl, ?_⟩
  rintro w4 rfl
  have l2 := b2.lt
  have l1 := b1.lt
  refine set5 (Blk.new w3 [(.string ⟨#[]⟩), (.int .i64 0), (.bool false), (.int .i64 0), (.int .i64 0)] 117) _ _ _ _ _ _ ?_
  intro w5 b5 g5
  have f35 : Fr [] w3 w5 := (Fr.alloc ..).trans' g5 (by intro i hi; simp at hi; right; omega)
  have f05 := f03.trans f35
  have b1 := b1.fr f35 (by simp)
  have b2 := b2.fr f35 (by simp)
  cases hfind : t.find d nm with
  | error er =>
    have hne := findErr_ne t d nm hfind
    have e1 : fiR t d nm = er := by unfold fiR; rw [hfind]
    rw [e1, bne_iff_ne.2 hne, cond_true]
    refine ret2 b1 b2 _ (fun w' hf' => ?_)
    refine same w5 er f05 ?_ w' hf'
    unfold RT.move
    rw [hfind]
  | ok x =>
    have e1 : fiR t d nm = 0 := by unfold fiR; rw [hfind]
    have e2 : fiE t d nm = x := by unfold fiE; rw [hfind]
    rw [e2] at b5
    rw [e1, bne_self_eq_false, cond_false]
    refine ⟨_, _, _, b1.cell 0, _, b1.cell 1, ?_⟩
    refine Calls.mono (k_rList (h.fr0 f05) hI t.next to) ?_
    rintro _ w6 ⟨a6, c6, rfl, _, f6⟩
    have f06 := f05.trans f6
    have b1 := b1.fr f6 (by simp)
    have b2 := b2.fr f6 (by simp)
    have b5 := b5.fr f6 (by simp)
    refine ⟨_, _, _, _, rfl, ?_⟩
    by_cases he : listErr t.L to = 0
    · rw [he, bne_self_eq_false, cond_false]
      refine Calls.mono (k_rbad nm' hnm sh w6) ?_
      rintro _ _ ⟨rfl, rfl⟩
      refine ⟨_, rfl, ?_⟩
      by_cases hm : mayErr nm' sh = 0
      · rw [hm, bne_self_eq_false, cond_false]
        have hmv : t.move d nm to nm' sh = if climb t.L x.node 300 to = true then (t, 10) else if (findIn (entsOf t.L to) nm').isSome then (t, 6) else ((t.drop d nm).put to ⟨nm', x.node, x.dir, 0, sh⟩, 0) := by
          unfold RT.move
          rw [hfind]
          simp only
          rw [if_neg (by simpa using he), if_neg (by simpa using hm)]
        -- behind the climb
        have last : climb t.L x.node 300 to = false → ∀ W, Fr [] w6 W → ∃ (xa : Option Addr) (xn xc : Nat), W.cell? ⟨w.heap.size, 0, none⟩ = some (.slice xa xn xc) ∧ ∃ (y : Int), W.cell? ⟨w.heap.size, 1, none⟩ = some (.int .i64 y) ∧ Calls prog 122 #[.agg #[.slice xa xn xc, .int .i64 y], .int .i64 to, .string nm'] W fun e V =>
            e = .returned (.tuple #[entV (fiE t to nm'), .int .i64 (fiR t to nm')]) ∧ Fr [] W V := by
          intro hcl W hf
          have b1 := b1.fr hf (by simp)
          exact ⟨_, _, _, b1.cell 0, _, b1.cell 1, k_rFind (h.fr0 (f06.trans hf)) hI t.next to nm'⟩
        have hfi : fiR t to nm' = if (findIn (entsOf t.L to) nm').isSome then 0 else 5 := by
          unfold fiR RT.find
          rw [if_neg (by simpa using he)]
          cases findIn (entsOf t.L to) nm' <;> simp
        refine lp64_0 _ _ _ _ _ _ _ _ (fun m nv i W => ∃ k : Nat, i = k ∧ k ≤ 300 ∧ m = 300 - k ∧ Fr [] w6 W ∧ climb t.L x.node 300 to = climb t.L x.node (300 - k) nv) R ?_ 300 to 0 w6 ⟨0, rfl, by omega, by omega, Fr.refl .., rfl⟩ _
        rintro m nv _ ds W ⟨k, rfl, hk, rfl, hf, hcl⟩
        unfold B64_0
        have fW := f06.trans hf
        have b1 := b1.fr hf (by simp)
        have b2 := b2.fr hf (by simp)
        have b5 := b5.fr hf (by simp)
        simp only [Addr.add_lit, Nat.zero_add]
        by_cases hgo : nv ≥ 0 ∧ k < 300
        · obtain ⟨h0, hk3⟩ := hgo
          rw [decide_eq_true h0, cond_true, decide_eq_true (by omega), cond_true]
          refine ⟨_, b5.cell 1, ?_⟩
          obtain ⟨q, hq⟩ : ∃ q, 300 - k = q + 1 := ⟨300 - k - 1, by omega⟩
          by_cases hx : nv = x.node
          · rw [beq_iff_eq.2 hx, cond_true]
            refine ret2 b1 b2 _ (fun w' hf' => ?_)
            refine same W 10 fW ?_ w' hf'
            rw [hmv, if_pos]
            rw [hcl, hq]
            unfold climb
            rw [if_neg (by omega), if_pos hx]
          · rw [beq_eq_false_iff_ne.2 hx, cond_false]
            refine ⟨_, _, _, b1.cell 0, _, b1.cell 1, ?_⟩
            refine Calls.mono (k_rabove (h.fr0 fW) (by omega) t.next nv) ?_
            rintro _ w7 ⟨rfl, f7⟩
            refine ⟨_, rfl, _, _, rfl, 300 - (k + 1), by omega, k + 1, ?_, by omega, rfl, hf.trans f7, ?_⟩
            · rw [wr (by omega) (by omega)]; simp
            · rw [hcl, hq]
              conv => lhs; unfold climb
              rw [if_neg (by omega), if_neg hx]
              congr 1
              omega
        · have hclf : climb t.L x.node 300 to = false := by
            rw [hcl]
            by_cases h0 : nv < 0
            · exact climb_neg h0
            · obtain rfl : k = 300 := by omega
              rfl
          have h2 := last hclf W hf
          by_cases h0 : nv ≥ 0
          case' pos => rw [decide_eq_true h0, cond_true, decide_eq_false (by omega), cond_false]
          case' neg => rw [decide_eq_false h0, cond_false]
          all_goals
            obtain ⟨xa, xn, xc, g1, y, g2, g3⟩ := h2
            refine ⟨xa, xn, xc, g1, y, g2, ?_⟩
            refine Calls.mono g3 ?_
            rintro _ w7 ⟨rfl, f7⟩
            have f07 := fW.trans f7
            have b1 := b1.fr f7 (by simp)
            have b2 := b2.fr f7 (by simp)
            have b5 := b5.fr f7 (by simp)
            refine ⟨_, _, _, _, _, _, rfl, ?_⟩
            rw [hfi]
            by_cases hs : (findIn (entsOf t.L to) nm').isSome
            · rw [if_pos hs, beq_self_eq_true, cond_true]
              refine ret2 b1 b2 _ (fun w' hf' => ?_)
              refine same w7 6 f07 ?_ w' hf'
              rw [hmv, if_neg (by rw [hclf]; simp), if_pos hs]
            · rw [if_neg hs, show ((5 : Int) == 0) = false from rfl, cond_false]
              rintro V rfl
              have fD := Fr.drew w7
              have b1 := b1.fr fD (by simp)
              have b2 := b2.fr fD (by simp)
              have b5 := b5.fr fD (by simp)
              have f08 := f07.trans fD
              have sub : ∀ {cs : List Value} {b : Nat}, Blk w7.drew b cs → ∀ W, Fr [] w7.drew W → Blk W b cs := fun hb W hW => hb.fr hW (by simp)
              refine ⟨fun U => Fr [] w7.drew U, Fr.refl .., _, _, _, fun U hU => (sub b1 U hU).cell 0, _, fun U hU => (sub b1 U hU).cell 1, _, fun U hU => (sub b5 U hU).cell 1, _, fun U hU => (sub b5 U hU).cell 2, ?_⟩
              refine Calls.mono (k_rdrop (h.fr0 f08) (by omega) d nm) ?_
              rintro _ w9 ⟨a9, n9, c9, rfl, h9, f9⟩
              have hd9 : (t.drop d nm).L.length ≤ t.L.length := List.length_filter_le _ _
              have hI9 : Its w9 a9 n9 (t.drop d nm).L := h9 [] (by simp)
              have hn9 := hI9.len
              refine ⟨_, _, _, _, rfl, f9, ?_⟩
              refine Calls.mono (k_rput (t := t.drop d nm) hI9 (by omega) (by show _ ≤ t.next + 1 ∧ t.next < _; omega) to ⟨nm', x.node, x.dir, 0, sh⟩) ?_
              rintro _ w10 ⟨a10, c10, rfl, h10, f10⟩
              refine ⟨_, _, _, _, rfl, f9.trans f10, ?_⟩
              have := ((sub b2 _ f9)).lt
              refine put2 (sub b2 _ (f9.trans f10)) _ _ _ _ _ (fun w' hf' => ?_)
              have hres : t.move d nm to nm' sh = ((t.drop d nm).put to ⟨nm', x.node, x.dir, 0, sh⟩, 0) := by
                rw [hmv, if_neg (by rw [hclf]; simp), if_neg hs]
              refine hR _ _ ⟨a10, n9 + 1, c10, ?_, ?_, fin (f08.trans (f9.trans f10)) w' hf'⟩
              · rw [hres]
              · rw [hres]
                exact fresh_fr h10 (by omega) (fun i hi => by have := hF i hi; omega) hf'
      · rw [bne_iff_ne.2 hm, cond_true]
        rintro w7 rfl
        have fD := Fr.drew w6
        refine ⟨fun U => U = w6.drew, rfl, _, _, _, fun U hU => by rw [hU]; exact (b1.fr fD (by simp)).cell 0, _, fun U hU => by rw [hU]; exact (b1.fr fD (by simp)).cell 1, ?_⟩
        refine Calls.mono (k_rbad nm' hnm sh w6.drew) ?_
        rintro _ _ ⟨rfl, rfl⟩
        refine ⟨_, rfl, rfl, ?_⟩
        refine put2 (b2.fr fD (by simp)) _ _ _ _ _ (fun w' hf' => ?_)
        refine same w6.drew _ (f06.trans fD) ?_ w' hf'
        unfold RT.move
        rw [hfind]
        simp only
        rw [if_neg (by simpa using he), if_pos hm]
    · rw [bne_iff_ne.2 he, cond_true]
      refine ret2 b1 b2 _ (fun w' hf' => ?_)
      refine same w6 _ f06 ?_ w' hf'
      unfold RT.move
      rw [hfind]
      simp only
      rw [if_pos he]
end
end Go.Proofs.Tryz
