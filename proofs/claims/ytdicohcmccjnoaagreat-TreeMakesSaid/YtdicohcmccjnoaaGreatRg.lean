/- The chapter's own tree: Find, put, drop, Good, bad, above, Dirs. Conditions: none. -/
import Derived.Test.YtdicohcmccjnoaaGreatRf
namespace Go.Topo
theorem find_first {l : List Ent} {nm : ByteArray} {k : Nat} {x : Ent} (hx : l[k]? = some x) (hp : ∀ y ∈ l.take k, y.name ≠ nm) (hn : x.name = nm) : findIn l nm = some x := by
  have hl : k < l.length := (List.getElem?_eq_some_iff.1 hx).1
  unfold findIn
  rw [← List.take_append_drop k l, List.find?_append]
  have : (l.take k).find? (fun e => decide (e.name = nm)) = none := by
    rw [List.find?_eq_none]; intro y hy; simpa using hp y hy
  rw [this, List.drop_eq_getElem_cons hl, (List.getElem?_eq_some_iff.1 hx).2, List.find?_cons]
  simp [hn]
theorem find_last {l : List Ent} {nm : ByteArray} (hp : ∀ y ∈ l, y.name ≠ nm) : findIn l nm = none := by
  unfold findIn
  rw [List.find?_eq_none]; intro y hy; simpa using hp y hy
theorem above_at {L : Items} {d : Int} {k : Nat} {x : Int × Ent} (hx : L[k]? = some x) (hp : ∀ y ∈ L.take k, y.2.node ≠ d) (hd : x.2.node = d) : above L d = x.1 := by
  have hl : k < L.length := (List.getElem?_eq_some_iff.1 hx).1
  have hf : L.find? (fun y => y.2.node == d) = some x := by
    rw [← List.take_append_drop k L, List.find?_append]
    have : (L.take k).find? (fun y => y.2.node == d) = none := by
      rw [List.find?_eq_none]; intro y hy; simpa using hp y hy
    rw [this, List.drop_eq_getElem_cons hl, (List.getElem?_eq_some_iff.1 hx).2, List.find?_cons]
    simp [hd]
  unfold above
  rw [hf]
theorem above_none {L : Items} {d : Int} (hp : ∀ y ∈ L, y.2.node ≠ d) : above L d = -1 := by
  unfold above
  rw [List.find?_eq_none.2 (fun y hy => by simpa using hp y hy)]
theorem byte_at {s : ByteArray} {k : Nat} (h : k < s.size) : ∃ b : UInt8, s[k]? = some b ∧ s.data.toList[k]? = some b := by
  have h' : k < s.data.size := h
  refine ⟨s.data[k], ?_, by simp [h']⟩
  rw [getElem?_pos s k h]; rfl
end Go.Topo
namespace Go.Proofs.Tryz
open Go Go.Eng Go.Topo

section
variable {w : World} {a : Option Addr} {n c : Nat} {L : Items} {t : RT}

/-- what Find says: the entry, the error -/
def fiE (t : RT) (d : Int) (nm : ByteArray) : Ent := match t.find d nm with | .error _ => noEnt | .ok x => x
def fiR (t : RT) (d : Int) (nm : ByteArray) : Int := match t.find d nm with | .error e => e | .ok _ => 0

/-- Find -/
theorem k_rFind (h : Its w a n t.L) (hI : Go.Topo.Inv t) (nx d : Int) (nm : ByteArray) : Calls prog 122 #[.agg #[.slice a n c, .int .i64 nx], .int .i64 d, .string nm] w fun e w' =>
    e = .returned (.tuple #[entV (fiE t d nm), .int .i64 (fiR t d nm)]) ∧ Fr [] w w' := by
  refine c122 _ _ _ _ _ _ _ _ (withR (X := N122 _ _ _ _ _ _ _) ?_)
  intro R hR
  unfold N122
  rintro w1 rfl
  rintro w2 rfl
  have f1 := Fr.alloc w (.cells #[.slice a n c, .int .i64 nx] 29)
  have b1 := Blk.new w [.slice a n c, .int .i64 nx] 29
  have s1 := size_alloc w (.cells #[.slice a n c, .int .i64 nx] 29)
  generalize w.alloc (.cells #[.slice a n c, .int .i64 nx] 29) = w1 at *
  have f2 := Fr.alloc w1 (.cells #[(.string ⟨#[]⟩), (.int .i64 0), (.bool false), (.int .i64 0), (.int .i64 0)] 117)
  have b2 := Blk.new w1 [(.string ⟨#[]⟩), (.int .i64 0), (.bool false), (.int .i64 0), (.int .i64 0)] 117
  generalize w1.alloc (.cells #[(.string ⟨#[]⟩), (.int .i64 0), (.bool false), (.int .i64 0), (.int .i64 0)] 117) = w2 at *
  have b1' := b1.fr f2 (by simp)
  have f02 := f1.trans f2
  refine ⟨_, _, _, b1'.cell 0, _, b1'.cell 1, ?_⟩
  refine Calls.mono (k_rList (h.fr0 f02) hI nx d) ?_
  rintro _ w3 ⟨a', c', rfl, ho, f3⟩
  have f03 := f02.trans f3
  refine ⟨_, _, _, _, rfl, ?_⟩
  have hsm := ents_small hI d
  have b3 := b2.fr f3 (by simp)
  refine lp122_0 _ _ _ _ _ _ (fun m i W => ∃ k : Nat, i = k ∧ k ≤ (entsOf t.L d).length ∧ m = (entsOf t.L d).length - k ∧ Fr [] w3 W ∧ ∀ y ∈ (entsOf t.L d).take k, y.name ≠ nm) R ?_ (entsOf t.L d).length 0 w3 ⟨0, rfl, by omega, by omega, Fr.refl .., by simp⟩ _
  rintro m _ ds W ⟨k, rfl, hk, rfl, hf, hp⟩
  unfold B122_0
  have fW := f03.trans hf
  have bW := b3.fr hf (by simp)
  have fin : ∀ (x : Ent) (er : Int), fiE t d nm = x → fiR t d nm = er → ∀ w', Blk w' w1.heap.size (entC x) → Fr [w1.heap.size] W w' → ∃ (r1 : ByteArray), w'.cell? ⟨w1.heap.size, 0, none⟩ = some (.string r1) ∧ ∃ (r2 : Int), w'.cell? ⟨w1.heap.size, 1, none⟩ = some (.int .i64 r2) ∧ ∃ (r3 : Bool), w'.cell? ⟨w1.heap.size, 2, none⟩ = some (.bool r3) ∧
      ∃ (r4 : Int), w'.cell? ⟨w1.heap.size, 3, none⟩ = some (.int .i64 r4) ∧ ∃ (r5 : Int), w'.cell? ⟨w1.heap.size, 4, none⟩ = some (.int .i64 r5) ∧ R (.returned (.tuple #[(.agg #[(.string r1), (.int .i64 r2), (.bool r3), (.int .i64 r4), (.int .i64 r5)]), .int .i64 er])) w' := by
    intro x er e1 e2 w' hb hf'
    refine ⟨_, hb.cell 0, _, hb.cell 1, _, hb.cell 2, _, hb.cell 3, _, hb.cell 4, hR _ _ ⟨?_, fW.trans' hf' (by intro i hi; simp at hi; right; omega)⟩⟩
    rw [e1, e2]
  by_cases hkn : k < (entsOf t.L d).length
  · rw [decide_eq_true (by omega), cond_true]
    obtain ⟨x, hx⟩ : ∃ x, (entsOf t.L d)[k]? = some x := ⟨(entsOf t.L d)[k], List.getElem?_eq_getElem _⟩
    obtain ⟨b, off, rfl, hc⟩ := ((ho.fr0 hf).recs0).cell hx
    simp only [optW, Addr.add_lit, Int.toNat_natCast]
    refine ⟨⟨by omega, by omega⟩, _, hc 0 _ rfl, ?_⟩
    rw [bytes_beq]
    have he : listErr t.L d = 0 := by
      apply Classical.byContradiction
      intro hne
      have : kindOf t.L d ≠ 2 := fun e => hne (by simp [listErr, e])
      rw [entsOf_of_kind hI this] at hkn
      simp at hkn
    by_cases hn : x.name = nm
    · rw [decide_eq_true hn, cond_true]
      refine ⟨⟨by omega, by omega⟩, _, hc 0 _ rfl, _, hc 1 _ rfl, _, hc 2 _ rfl, _, hc 3 _ rfl, _, hc 4 _ rfl, ?_⟩
      have hfd : t.find d nm = .ok x := by
        unfold RT.find
        rw [if_neg (by simpa using he), find_first hx hp hn]
      refine set5 bW _ _ _ _ _ _ (fun w' hb hf' => ?_)
      exact fin x 0 (by unfold fiE; rw [hfd]) (by unfold fiR; rw [hfd]) w' hb hf'
    · rw [decide_eq_false hn, cond_false]
      refine ⟨_, rfl, (entsOf t.L d).length - (k + 1), by omega, k + 1, ?_, by omega, rfl, hf, ?_⟩
      · rw [wr (by omega) (by omega)]; simp
      · rw [take_snoc hx]
        intro y hy
        rcases List.mem_append.1 hy with h | h
        · exact hp y h
        · obtain rfl := List.mem_singleton.1 h; exact hn
  · rw [decide_eq_false (by omega), cond_false]
    rw [List.take_of_length_le (by omega)] at hp
    simp only [Addr.add_lit, Nat.zero_add]
    by_cases he : listErr t.L d = 0
    · rw [he, beq_self_eq_true, cond_true]
      have hfd : t.find d nm = .error 5 := by
        unfold RT.find
        rw [if_neg (by simpa using he), find_last hp]
      refine set5 bW _ _ _ _ _ _ (fun w' hb hf' => ?_)
      exact fin noEnt 5 (by unfold fiE; rw [hfd]) (by unfold fiR; rw [hfd]) w' hb hf'
    · rw [beq_eq_false_iff_ne.2 he, cond_false]
      have hfd : t.find d nm = .error (listErr t.L d) := by
        unfold RT.find
        rw [if_pos he]
      refine set5 bW _ _ _ _ _ _ (fun w' hb hf' => ?_)
      exact fin noEnt _ (by unfold fiE; rw [hfd]) (by unfold fiR; rw [hfd]) w' hb hf'

/-- Good -/
theorem k_rGood (nm : ByteArray) (hbig : nm.size ≤ 9223372036854775807) (w : World) : Calls prog 167 #[.string nm] w fun e w' => e = .returned (.bool (isGoodB nm)) ∧ w = w' := by
  refine c167 _ _ _ (withR (X := N167 _ _) ?_)
  intro R hR
  unfold N167
  refine lp167_0 _ (fun m i W => ∃ k : Nat, i = k ∧ k ≤ nm.size ∧ m = nm.size - k ∧ w = W ∧ ∀ c ∈ nm.data.toList.take k, c ≠ 0 ∧ c ≠ 47) R ?_ nm.size 0 w ⟨0, rfl, by omega, by omega, rfl, by simp⟩ _
  rintro m _ ds W ⟨k, rfl, hk, rfl, rfl, hp⟩
  unfold B167_0
  by_cases hkn : k < nm.size
  · rw [decide_eq_true (by omega), cond_true]
    obtain ⟨b, hb, hb'⟩ := Go.Topo.byte_at hkn
    have hmem : b ∈ nm.data.toList := List.mem_of_getElem? hb'
    have bad_ : (b = 0 ∨ b = 47) → R (.returned (.bool false)) w := by
      intro h
      refine hR _ _ ⟨?_, rfl⟩
      have : isGoodB nm = false := by
        unfold isGoodB
        have : nm.data.toList.all (fun c => c != 0 && c != 47) = false := by
          rw [List.all_eq_false]
          exact ⟨b, hmem, by rcases h with rfl | rfl <;> simp⟩
        rw [this]; simp
      rw [this]
    refine ⟨by omega, b, by simpa using hb, ?_⟩
    by_cases h0 : b = 0
    · subst h0; exact bad_ (.inl rfl)
    · have : ((((b.toNat : Nat) : Int)) == 0) = false := by
        rw [beq_eq_false_iff_ne]; intro e; exact h0 (UInt8.toNat_inj.1 (by simpa using e))
      rw [this, cond_false]
      refine ⟨by omega, b, by simpa using hb, ?_⟩
      by_cases h1 : b = 47
      · subst h1; exact bad_ (.inr rfl)
      · have : ((((b.toNat : Nat) : Int)) == 47) = false := by
          rw [beq_eq_false_iff_ne]; intro e; exact h1 (UInt8.toNat_inj.1 (show b.toNat = 47 by omega))
        rw [this, cond_false]
        refine ⟨_, rfl, nm.size - (k + 1), by omega, k + 1, ?_, by omega, rfl, rfl, ?_⟩
        · rw [wr (by omega) (by omega)]; simp
        · rw [take_snoc hb']
          intro y hy
          rcases List.mem_append.1 hy with h | h
          · exact hp y h
          · obtain rfl := List.mem_singleton.1 h; exact ⟨h0, h1⟩
  · rw [decide_eq_false (by omega), cond_false]
    have hsz : nm.data.toList.length = nm.size := Array.length_toList
    rw [List.take_of_length_le (by omega)] at hp
    have hall : nm.data.toList.all (fun c => c != 0 && c != 47) = true := by
      rw [List.all_eq_true]; intro y hy; have := hp y hy; simp [this]
    have hg : isGoodB nm = (decide (1 ≤ nm.size) && decide (nm.size ≤ 255) && decide (nm.data.toList ≠ [46]) && decide (nm.data.toList ≠ [46, 46])) := by
      unfold isGoodB; rw [hall, Bool.and_true]
    rw [bytes_beq, bytes_beq, bytes_beq]
    have e0 : (nm = ⟨#[]⟩) ↔ nm.size = 0 := by
      constructor
      · rintro rfl; rfl
      · intro h; apply ByteArray.ext; exact Array.eq_empty_of_size_eq_zero h
    have eD : ∀ l : Array UInt8, (nm = ⟨l⟩) ↔ nm.data.toList = l.toList := by
      intro l
      constructor
      · rintro rfl; rfl
      · intro h; apply ByteArray.ext; exact Array.toList_inj.1 h
    by_cases h0 : nm.size = 0
    · rw [decide_eq_true (e0.2 h0), Bool.not_true, cond_false]
      refine hR _ _ ⟨?_, rfl⟩
      rw [hg, decide_eq_false (by omega : ¬ 1 ≤ nm.size)]; simp
    · rw [decide_eq_false (fun e => h0 (e0.1 e)), Bool.not_false, cond_true]
      by_cases h255 : nm.size ≤ 255
      · rw [decide_eq_true (by omega), cond_true]
        by_cases h46 : nm.data.toList = [46]
        · rw [decide_eq_true ((eD _).2 h46), Bool.not_true, cond_false]
          refine hR _ _ ⟨?_, rfl⟩
          rw [hg]; simp [h46]
        · rw [decide_eq_false (fun e => h46 ((eD _).1 e)), Bool.not_false, cond_true]
          refine hR _ _ ⟨?_, rfl⟩
          rw [hg, decide_eq_true (by omega : 1 ≤ nm.size), decide_eq_true h255, decide_eq_true h46]
          by_cases h2 : nm.data.toList = [46, 46]
          · rw [decide_eq_true ((eD _).2 h2)]; simp [h2]
          · rw [decide_eq_false (fun e => h2 ((eD _).1 e))]; simp [h2]
      · rw [decide_eq_false (by omega), cond_false]
        refine hR _ _ ⟨?_, rfl⟩
        rw [hg, decide_eq_false h255]; simp

/-- bad -/
theorem k_rbad (nm : ByteArray) (hbig : nm.size ≤ 9223372036854775807) (sh : Int) (w : World) : Calls prog 121 #[.string nm, .int .i64 sh] w fun e w' => e = .returned (.int .i64 (mayErr nm sh)) ∧ w = w' := by
  refine c121 _ _ _ _ (withR (X := N121 _ _ _) ?_)
  intro R hR
  unfold N121
  refine Calls.mono (k_rGood nm hbig w) ?_
  rintro _ _ ⟨rfl, rfl⟩
  refine ⟨_, rfl, ?_⟩
  unfold mayErr at hR
  cases hg : isGoodB nm with
  | false =>
    rw [Bool.not_false, cond_true]
    exact hR _ _ ⟨by simp [hg], rfl⟩
  | true =>
    rw [Bool.not_true, cond_false]
    by_cases h0 : sh < 0
    · rw [decide_eq_true h0, cond_true]
      exact hR _ _ ⟨by simp [hg, h0], rfl⟩
    · rw [decide_eq_false h0, cond_false]
      by_cases h1 : sh > 1000000
      · rw [decide_eq_true h1, cond_true]
        exact hR _ _ ⟨by simp [hg, h1], rfl⟩
      · rw [decide_eq_false h1, cond_false]
        refine hR _ _ ⟨?_, rfl⟩
        rw [if_pos hg, if_neg (by omega)]

/-- above -/
theorem k_rabove (h : Its w a n L) (hn : n ≤ 1048576) (nx d : Int) : Calls prog 126 #[.agg #[.slice a n c, .int .i64 nx], .int .i64 d] w fun e w' => e = .returned (.int .i64 (above L d)) ∧ Fr [] w w' := by
  refine c126 _ _ _ _ _ _ _ (withR (X := N126 _ _ _ _ _ _) ?_)
  intro R hR
  unfold N126
  rintro w1 rfl
  have f1 := Fr.alloc w (.cells #[.slice a n c, .int .i64 nx] 29)
  have b1 := Blk.new w [.slice a n c, .int .i64 nx] 29
  have hlen := h.len
  refine lp126_0 _ _ (fun m i W => ∃ k : Nat, i = k ∧ k ≤ n ∧ m = n - k ∧ Fr [] (w.alloc (.cells #[.slice a n c, .int .i64 nx] 29)) W ∧ ∀ y ∈ L.take k, y.2.node ≠ d) R ?_ n 0 _ ⟨0, rfl, by omega, by omega, Fr.refl .., by simp⟩ _
  rintro m _ ds W ⟨k, rfl, hk, rfl, hf, hp⟩
  unfold B126_0
  have b2 := b1.fr hf (by simp)
  have c0 : W.cell? ⟨w.heap.size, 0, none⟩ = some (.slice a n c) := b2.cell 0
  have fW := f1.trans hf
  refine ⟨a, n, c, c0, ?_⟩
  by_cases hkn : k < n
  · rw [decide_eq_true (by omega), cond_true]
    obtain ⟨x, hx⟩ : ∃ x, L[k]? = some x := ⟨L[k]'(by omega), List.getElem?_eq_getElem _⟩
    obtain ⟨b, off, rfl, hc⟩ := Its.at (h.fr0 fW) hx
    refine ⟨_, n, c, c0, ?_⟩
    simp only [optW, Addr.add_lit, Int.toNat_natCast]
    refine ⟨⟨by omega, by omega⟩, _, hc 2 _ rfl, ?_⟩
    by_cases hd : x.2.node = d
    · rw [beq_iff_eq.2 hd, cond_true]
      refine ⟨_, n, c, c0, ?_⟩
      simp only [Addr.add_lit]
      refine ⟨⟨by omega, by omega⟩, _, hc 0 _ rfl, ?_⟩
      exact hR _ _ ⟨by rw [above_at hx hp hd], fW⟩
    · rw [beq_eq_false_iff_ne.2 hd, cond_false]
      refine ⟨_, rfl, n - (k + 1), by omega, k + 1, ?_, by omega, rfl, hf, pre_step hx hp hd⟩
      rw [wr (by omega) (by omega)]; simp
  · rw [decide_eq_false (by omega), cond_false]
    refine hR _ _ ⟨?_, fW⟩
    rw [List.take_of_length_le (by omega)] at hp
    rw [above_none hp]

/-- Dirs -/
theorem k_rDirs (h : Its w a n L) (hn : n ≤ 1048576) (nx : Int) : Calls prog 67 #[.agg #[.slice a n c, .int .i64 nx]] w fun e w' => ∃ a' c', e = .returned (.slice a' (dirsOf L).length c') ∧ OwnI w' w.heap.size a' (dirsOf L).length c' (dirsOf L) ∧ Fr [] w w' := by
  refine c67 _ _ _ _ _ _ (withR (X := N67 _ _ _ _ _) ?_)
  intro R hR
  unfold N67
  rintro w1 rfl
  have f1 := Fr.alloc w (.cells #[.slice a n c, .int .i64 nx] 29)
  have b1 := Blk.new w [.slice a n c, .int .i64 nx] 29
  have s1 := size_alloc w (.cells #[.slice a n c, .int .i64 nx] 29)
  generalize w.alloc (.cells #[.slice a n c, .int .i64 nx] 29) = w1 at *
  let pre : Nat → List Int := fun k => ((List.range k).map (fun n : Nat => (n : Int))).filter (fun n => kindOf L n == 2)
  have hpre : ∀ k, pre (k + 1) = pre k ++ (if kindOf L (k : Int) = 2 then [(k : Int)] else []) := by
    intro k
    show List.filter _ _ = _
    rw [List.range_succ, List.map_append, List.filter_append]
    congr 1
    by_cases e : kindOf L (k : Int) = 2 <;> simp [e]
  have hple : ∀ k, (pre k).length ≤ k := fun k => Nat.le_trans (List.length_filter_le _ _) (by simp)
  refine lp67_0 _ (fun m oa on oc i W => ∃ k : Nat, i = k ∧ k ≤ 201 ∧ m = 201 - k ∧ on = (pre k).length ∧ OwnR intE 3 W w1.heap.size oa on oc (pre k) ∧ Fr [] w1 W) R ?_ 201 _ _ _ _ w1 ⟨0, rfl, by omega, by omega, rfl, OwnR.nil .., Fr.refl ..⟩ _
  rintro m oa on oc _ ds W ⟨k, rfl, hk, rfl, hon, ho, hf⟩
  unfold B67_0
  have b2 := b1.fr hf (by simp)
  have fW := f1.trans hf
  have hpk := hple k
  by_cases hkn : k ≤ 200
  · rw [decide_eq_true (by omega), cond_true]
    simp only [Addr.add_lit, Nat.zero_add]
    refine ⟨_, _, _, b2.cell 0, _, b2.cell 1, ?_⟩
    refine Calls.mono (k_rkind (h.fr0 fW) hn nx k) ?_
    rintro _ w2 ⟨rfl, f2⟩
    refine ⟨_, rfl, ?_⟩
    have hf2 := hf.trans f2
    by_cases hd : kindOf L (k : Int) = 2
    · rw [beq_iff_eq.2 hd, cond_true]
      rintro w3 rfl
      obtain ⟨b', d', w4, hr4, ho4, f4, hbl⟩ := OwnR.push T_ints (ho.fr0 f2) hf2.1 (k : Int) 54 3 (by omega)
      refine ⟨b', _, d', w4, hr4, _, _, _, _, rfl, 201 - (k + 1), by omega, k + 1, ?_, by omega, rfl, ?_, ?_, ?_⟩
      · rw [wr (by omega) (by omega)]; simp
      · rw [hpre, if_pos hd]; simp; omega
      · rw [hpre, if_pos hd]; exact ho4
      · exact hf2.trans' f4 (fun i hi => .inr (ho.blk i hi).1)
    · rw [beq_eq_false_iff_ne.2 hd, cond_false]
      refine ⟨_, _, _, _, rfl, 201 - (k + 1), by omega, k + 1, ?_, by omega, rfl, ?_, ?_, hf2⟩
      · rw [wr (by omega) (by omega)]; simp
      · rw [hpre, if_neg hd]; simpa using hon
      · rw [hpre, if_neg hd, List.append_nil]; exact ho.fr0 f2
  · rw [decide_eq_false (by omega), cond_false]
    obtain rfl : k = 201 := by omega
    subst hon
    exact hR _ _ ⟨oa, oc, rfl, OwnR.ownI (ho.mono f1.1), fW⟩

/-- put -/
theorem k_rput (h : Its w a n t.L) (hn : n ≤ 1048576) (hnx : -9223372036854775808 ≤ t.next + 1 ∧ t.next < 9223372036854775807) (d : Int) (x : Ent) : Calls prog 124 #[.agg #[.slice a n c, .int .i64 t.next], .int .i64 d, entV x] w fun e w' =>
    ∃ a' c', e = .returned (.agg #[.slice a' (n + 1) c', .int .i64 (t.put d x).next]) ∧ (∀ F, (∀ i ∈ F, i < w.heap.size) → Recs itE w' F a' (n + 1) (t.put d x).L) ∧ Fr [] w w' := by
  refine c124 _ _ _ _ _ _ _ _ _ _ _ _ (withR (X := N124 _ _ _ _ _ _ _ _ _ _ _) ?_)
  intro R hR
  unfold N124
  rintro w1 rfl
  have f1 := Fr.alloc w (.cells #[.slice a n c, .int .i64 t.next] 29)
  have b1 := Blk.new w [.slice a n c, .int .i64 t.next] 29
  have s1 := size_alloc w (.cells #[.slice a n c, .int .i64 t.next] 29)
  generalize w.alloc (.cells #[.slice a n c, .int .i64 t.next] 29) = w1 at *
  rintro w2 rfl
  have f2 := Fr.alloc w1 (.cells #[.string x.name, .int .i64 x.node, .bool x.dir, .int .i64 x.cookie, .int .i64 x.short] 117)
  have b2 := Blk.new w1 [.string x.name, .int .i64 x.node, .bool x.dir, .int .i64 x.cookie, .int .i64 x.short] 117
  have s2 := size_alloc w1 (.cells #[.string x.name, .int .i64 x.node, .bool x.dir, .int .i64 x.cookie, .int .i64 x.short] 117)
  have b1 := b1.fr f2 (by simp)
  generalize w1.alloc (.cells #[.string x.name, .int .i64 x.node, .bool x.dir, .int .i64 x.cookie, .int .i64 x.short] 117) = w2 at *
  rintro w3 rfl
  have f3 := Fr.alloc w2 (.cells #[(.slice none 0 0), (.int .i64 0)] 29)
  have b3 := Blk.new w2 [(.slice none 0 0), (.int .i64 0)] 29
  have s3 := size_alloc w2 (.cells #[(.slice none 0 0), (.int .i64 0)] 29)
  have b1 := b1.fr f3 (by simp)
  have b2 := b2.fr f3 (by simp)
  generalize w2.alloc (.cells #[(.slice none 0 0), (.int .i64 0)] 29) = w3 at *
  refine ⟨_, b1.cell 1, ⟨_, b2.cell 3⟩, b2.frozen 3, ?_⟩
  rintro w4 rfl
  have f4 := Fr.setCell w3 ⟨w1.heap.size, 3, none⟩ (.int .i64 t.next)
  have b1 := b1.fr f4 (by simp; omega)
  have b3 := b3.fr f4 (by simp; omega)
  have b2 := b2.set 3 (.int .i64 t.next)
  have f04 : Fr [] w _ := ((f1.trans f2).trans f3).trans' f4 (by intro i hi; simp at hi; right; omega)
  have s4 := size_setCell w3 ⟨w1.heap.size, 3, none⟩ (.int .i64 t.next)
  generalize w3.setCell ⟨w1.heap.size, 3, none⟩ (.int .i64 t.next) = w4 at *
  rintro w5 rfl
  have b1 := b1.fr (Fr.drew w4) (by simp)
  have b2 := b2.fr (Fr.drew w4) (by simp)
  have b3 := b3.fr (Fr.drew w4) (by simp)
  have f05 := f04.trans (Fr.drew w4)
  have s5 : w4.drew.heap.size = w4.heap.size := rfl
  generalize w4.drew = w5 at *
  have sub : ∀ {cs : List Value} {b : Nat}, Blk w5 b cs → ∀ W, Fr [] w5 W → Blk W b cs := fun hb W hW => hb.fr hW (by simp)
  refine ⟨fun W => Fr [] w5 W, Fr.refl .., a, n, c, fun W hW => (sub b1 W hW).cell 0, _, fun W hW => (sub b2 W hW).cell 0, _, fun W hW => (sub b2 W hW).cell 1, _, fun W hW => (sub b2 W hW).cell 2, _, fun W hW => (sub b2 W hW).cell 3, _, fun W hW => (sub b2 W hW).cell 4, _, fun W hW => (sub b1 W hW).cell 1, ?_⟩
  have hi5 := h.fr0 f05
  -- the last two steps
  have tail : ∀ (W : World) (a1 : Option Addr) (c1 bb : Nat), Fr [] w5 W → OwnR itE 148 W w5.heap.size a1 n c1 t.L → Blk W bb (itC (d, { x with cookie := t.next })) →
      ∃ (xa : Option Addr) (xn xc : Nat), ∃ wv, (Builtin.append_ #[27, 27] 27 #[(.slice a1 n c1), (.slice (some ⟨bb, 0, none⟩) 1 1)]).run prog W = .ok (.slice xa xn xc) wv ∧ Fr [] w5 wv ∧
      (∃ u, wv.cell? ⟨w2.heap.size, 0, none⟩ = some u) ∧ wv.frozen? ⟨w2.heap.size, 0, none⟩ = false ∧ ∀ v1, v1 = wv.setCell ⟨w2.heap.size, 0, none⟩ (.slice xa xn xc) →
      (∃ u, v1.cell? ⟨w2.heap.size, 1, none⟩ = some u) ∧ v1.frozen? ⟨w2.heap.size, 1, none⟩ = false ∧ ∀ v2, v2 = v1.setCell ⟨w2.heap.size, 1, none⟩ (.int .i64 (IntKind.wrap .i64 (t.next + 1))) →
      ∃ (ra : Option Addr) (rn rc : Nat), v2.cell? ⟨w2.heap.size, 0, none⟩ = some (.slice ra rn rc) ∧ ∃ (r : Int), v2.cell? ⟨w2.heap.size, 1, none⟩ = some (.int .i64 r) ∧ R (.returned (.agg #[(.slice ra rn rc), (.int .i64 r)])) v2 := by
    intro W a1 c1 bb hW ho hbb
    obtain ⟨b', d', W2, hr2, ho2, g2, hbl, _⟩ := OwnR.append (c' := 1) (F := []) (l' := [(d, { x with cookie := t.next })]) T_items ho hW.1 27 (Recs.lit (E := itE) hbb (by simp)) (by omega)
    have hW2 := hW.trans' g2 (fun i hi => .inr (ho.blk i hi).1)
    refine ⟨b', _, d', W2, hr2, hW2, ?_⟩
    refine set2 (sub b3 W2 hW2) _ _ _ (fun w' hb' hf' => ?_)
    refine ⟨_, _, _, hb'.cell 0, _, hb'.cell 1, hR _ _ ⟨b', d', ?_, ?_, ?_⟩⟩
    · rw [wr (by omega) (by omega)]; rfl
    · have hlow : ∀ i ∈ blks b', i ∉ [w2.heap.size] := by
        intro i hi
        simp only [List.mem_singleton]
        rcases hbl i hi with h' | h'
        · have := (ho.blk i h').1; omega
        · have := hW.1; omega
      intro F hF
      exact (ho2.fr hf' hlow).recs (fun i hi => by have := hF i hi; have := f05.1; omega)
    · exact (f05.trans hW2).trans' hf' (by intro i hi; simp at hi; right; omega)
  -- a fresh slice takes the old one
  have copy : ∀ (W W0 : World) (g : Fr [] w5 W0) (_ : W0.alloc (.cells #[] 148) = W ∨ Fr [] (W0.alloc (.cells #[] 148)) W), ∃ (xa : Option Addr) (xn xc : Nat), ∃ wv, (Builtin.append_ #[27, 27] 27 #[(.slice (some ⟨W0.heap.size, 0, none⟩) 0 0), (.slice a n c)]).run prog W = .ok (.slice xa xn xc) wv ∧ xn = n ∧ Fr [] w5 wv ∧ OwnR itE 148 wv w5.heap.size xa n xc t.L ∧ Fr [W0.heap.size] W wv := by
    intro W W0 g hW
    have gA := g.trans (Fr.alloc W0 (.cells #[] 148))
    have hWW : Fr [] (W0.alloc (.cells #[] 148)) W := by rcases hW with rfl | h; exact Fr.refl ..; exact h
    have ho : OwnR itE 148 (W0.alloc (.cells #[] 148)) w5.heap.size (some ⟨W0.heap.size, 0, none⟩) 0 0 [] := OwnR.lit W0 (l := []) (by simp) 148 g.1
    obtain ⟨b', d', W2, hr2, ho2, g2, hbl, _⟩ := OwnR.append (c' := c) T_items (ho.fr0 hWW) (Nat.le_trans gA.1 hWW.1) 27 (hi5.fr0 (gA.trans hWW)) (by omega)
    rw [Nat.zero_add] at hr2 ho2
    refine ⟨b', n, d', W2, hr2, rfl, (gA.trans hWW).trans' g2 ?_, by simpa using ho2, g2⟩
    intro i hi
    simp [blks] at hi
    right; have := g.1; omega
  refine ⟨?_, ?_⟩
  · rintro w6 rfl
    refine ⟨Fr.alloc .., ?_, ?_⟩
    · obtain ⟨xa, xn, xc, w7, hr7, rfl, f7, ho7, _⟩ := copy _ w5 (Fr.refl ..) (.inl rfl)
      refine ⟨xa, _, xc, w7, hr7, f7, ?_⟩
      rintro w8 rfl
      have f8 := Fr.alloc w7 (.cells (itC (d, { x with cookie := t.next })).toArray 148)
      exact ⟨f7.trans f8, tail _ xa xc _ (f7.trans f8) (ho7.fr0 f8) (Blk.new ..)⟩
    · rintro w7 rfl
      have f6 := Fr.alloc w5 (.cells #[] 148)
      have f7 := Fr.alloc (w5.alloc (.cells #[] 148)) (.cells (itC (d, { x with cookie := t.next })).toArray 148)
      refine ⟨f6.trans f7, ?_⟩
      obtain ⟨xa, xn, xc, w8, hr8, rfl, f8, ho8, g8⟩ := copy _ w5 (Fr.refl ..) (.inr f7)
      refine ⟨xa, _, xc, w8, hr8, f8, ?_⟩
      exact tail w8 xa xc _ f8 ho8 ((Blk.new (w5.alloc (.cells #[] 148)) (itC (d, { x with cookie := t.next })) 148).fr g8 (by simp [size_alloc]))
  · rintro w6 rfl
    have f6 := Fr.alloc w5 (.cells (itC (d, { x with cookie := t.next })).toArray 148)
    refine ⟨f6, ?_⟩
    rintro w7 rfl
    have f7 := Fr.alloc (w5.alloc (.cells (itC (d, { x with cookie := t.next })).toArray 148)) (.cells #[] 148)
    refine ⟨f6.trans f7, ?_⟩
    obtain ⟨xa, xn, xc, w8, hr8, rfl, f8, ho8, g8⟩ := copy _ (w5.alloc (.cells (itC (d, { x with cookie := t.next })).toArray 148)) f6 (.inl rfl)
    refine ⟨xa, _, xc, w8, hr8, f8, ?_⟩
    exact tail w8 xa xc _ f8 ho8 (((Blk.new w5 (itC (d, { x with cookie := t.next })) 148).fr f7 (by simp)).fr g8 (by simp [size_alloc]))
end
end Go.Proofs.Tryz
