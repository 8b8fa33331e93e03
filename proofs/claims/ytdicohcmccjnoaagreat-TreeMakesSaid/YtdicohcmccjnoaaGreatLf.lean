/- The law's own look at entries: formed. Conditions: none. -/
import Derived.Test.YtdicohcmccjnoaaGreatLk
import Derived.Test.YtdicohcmccjnoaaGreatAk
set_option maxRecDepth 10000
namespace Go.Topo
open Go
theorem ffI {P : Prop} (h : ¬ P) : false = true ↔ P := ⟨fun e => (by cases e), fun p => absurd p h⟩
def keysOf (dL : List Int) (other : Int) : List Int := if other ∈ dL then dL else dL ++ [other]
theorem itemsOf_append (D : DMap) (l r : List Int) : itemsOf D (l ++ r) = itemsOf D l ++ itemsOf D r := by simp [itemsOf]
theorem itemsOf_one (D : DMap) (n : Int) : itemsOf D [n] = (dl D n).map (fun e => (n, e)) := by simp [itemsOf]
theorem thereOf_append (D : DMap) (l r : List Int) : thereOf D (l ++ r) = thereOf D l ++ thereOf D r := by simp [thereOf]
end Go.Topo

namespace Go.Proofs.Tryz
open Go Go.Eng Go.Topo

theorem Recs.sliI {w : World} {F : List Nat} {a : Option Addr} {n : Nat} {l : List Int} (h : Recs intE w F a n l) : Sli w F 1 a n (l.map intC) := by
  unfold Recs at h; rw [intE_flat] at h; exact h
theorem Sli.recsI {w : World} {F : List Nat} {a : Option Addr} {n : Nat} {l : List Int} (h : Sli w F 1 a n (l.map intC)) : Recs intE w F a n l := by
  unfold Recs; rw [intE_flat]; exact h

section
variable {w : World} {db : Nat} {dm : List (Int × Value)} {D : DMap}

/-- the second half: each entry by itself, and against those before it -/
theorem formed_tail (ks : List Int) (c : Int) (aa ta : Option Addr) (an ac tn tc : Nat) (U0 : World) (ds : List Value) (R : Ending → World → Prop) (hR : ∀ e w', ((∃ b, e = .returned (.bool b) ∧ (b = true ↔ LF D ks c)) ∧ Fr [] w w') → R e w')
    (hU0 : Fr [] w U0) (hA0 : Recs itE U0 [] aa an (itemsOf D ks)) (hT0 : Sli U0 [] 1 ta tn ((thereOf D ks).map intC)) (han : an ≤ 1000000) (htn : tn ≤ 1000000) (hnm : ∀ x ∈ itemsOf D ks, x.2.name.size ≤ 9223372036854775807)
    (hso : ∀ n ∈ ks, ∀ (k : Nat) (x y : Ent), (dl D n)[k]? = some x → (dl D n)[k + 1]? = some y → x.cookie < y.cookie) (hc1 : 1 ≤ c) (h0 : 0 ∈ thereOf D ks) :
    L31_3 c aa an ac ta tn tc 0 ds U0 R := by
  have hAl := hA0.len
  refine lp31_3 _ _ _ _ _ _ _ (fun q i U => ∃ k : Nat, i = k ∧ k ≤ an ∧ q = an - k ∧ Fr [] U0 U ∧ (∀ x ∈ (itemsOf D ks).take k, mayErr x.2.name x.2.short = 0 ∧ 1 ≤ x.2.node ∧ x.2.node ≤ 200 ∧ 1 ≤ x.2.cookie ∧ x.2.cookie < c ∧ decide (x.2.node ∈ thereOf D ks) = x.2.dir) ∧
    ((itemsOf D ks).take k).Pairwise (fun y x => y.2.node ≠ x.2.node ∧ y.2.cookie ≠ x.2.cookie ∧ ¬ (y.1 = x.1 ∧ y.2.name = x.2.name))) _ ?_ an 0 U0 ⟨0, rfl, by omega, by omega, Fr.refl .., by simp, by simp⟩ _
  rintro q _ ds U ⟨k, rfl, hk, rfl, gU, hent, hpair⟩
  unfold B31_3
  by_cases hkn : k < an
  · rw [decide_eq_true (by omega), cond_true]
    obtain ⟨x, hx⟩ : ∃ x, (itemsOf D ks)[k]? = some x := ⟨(itemsOf D ks)[k]'(by omega), List.getElem?_eq_getElem _⟩
    have hxm := List.mem_of_getElem? hx
    obtain ⟨b, off, rfl, hc⟩ := (hA0.fr0 gU).cell hx
    have d1 : U.cell? ⟨b, off + k * 6 + 1, none⟩ = some (.string x.2.name) := hc 1 _ rfl
    have d2 : U.cell? ⟨b, off + k * 6 + 1 + 1, none⟩ = some (.int .i64 x.2.node) := hc 2 _ rfl
    have d3 : U.cell? ⟨b, off + k * 6 + 1 + 2, none⟩ = some (.bool x.2.dir) := hc 3 _ rfl
    have d4 : U.cell? ⟨b, off + k * 6 + 1 + 3, none⟩ = some (.int .i64 x.2.cookie) := hc 4 _ rfl
    have d5 : U.cell? ⟨b, off + k * 6 + 1 + 4, none⟩ = some (.int .i64 x.2.short) := hc 5 _ rfl
    simp only [optW, Addr.add_lit, Int.toNat_natCast, Nat.zero_add]
    refine ⟨⟨by omega, by omega⟩, _, d1, _, d2, _, d3, _, d4, _, d5, ?_⟩
    rintro V1 rfl
    have fV1 := Fr.alloc U (.cells #[(.string ⟨#[]⟩), (.int .i64 0), (.bool false), (.int .i64 0), (.int .i64 0)] 117)
    have bV1 := Blk.new U [(.string ⟨#[]⟩), (.int .i64 0), (.bool false), (.int .i64 0), (.int .i64 0)] 117
    refine set5 bV1 (.string x.2.name) (.int .i64 x.2.node) (.bool x.2.dir) (.int .i64 x.2.cookie) (.int .i64 x.2.short) _ ?_
    intro V2 bV2 fV2
    have gV2 : Fr [] U0 V2 := gU.trans (fV1.trans' fV2 (by intro i hi; simp at hi; right; omega))
    rintro V3 rfl
    have gd := Fr.drew V2
    have gV3 := gV2.trans gd
    have bE : Blk V2.drew U.heap.size (entC x.2) := bV2.fr gd (by simp)
    generalize V2.drew = V3 at *
    generalize U.heap.size = bx at *
    -- against those before it
    have four : ∀ (ds : List Value) (Y : World), Fr [] V3 Y → (mayErr x.2.name x.2.short = 0 ∧ 1 ≤ x.2.node ∧ x.2.node ≤ 200 ∧ 1 ≤ x.2.cookie ∧ x.2.cookie < c ∧ decide (x.2.node ∈ thereOf D ks) = x.2.dir) →
        L31_4 c (some ⟨b, off, none⟩) an ac ta tn tc k ⟨bx, 0, none⟩ 0 ds Y R c (some ⟨b, off, none⟩) an ac ta tn tc (fun i' w' => ∃ m, m < an - k ∧ ∃ k : Nat, i' = k ∧ k ≤ an ∧ m = an - k ∧ Fr [] U0 w' ∧ (∀ x ∈ (itemsOf D ks).take k, mayErr x.2.name x.2.short = 0 ∧ 1 ≤ x.2.node ∧ x.2.node ≤ 200 ∧ 1 ≤ x.2.cookie ∧ x.2.cookie < c ∧ decide (x.2.node ∈ thereOf D ks) = x.2.dir) ∧
          ((itemsOf D ks).take k).Pairwise (fun y x => y.2.node ≠ x.2.node ∧ y.2.cookie ≠ x.2.cookie ∧ ¬ (y.1 = x.1 ∧ y.2.name = x.2.name))) := by
      intro ds Y gY hok
      refine lp31_4 _ _ _ _ _ _ _ _ _ (fun q j Z => ∃ i : Nat, j = i ∧ i ≤ k ∧ q = k - i ∧ Fr [] V3 Z ∧ ∀ y ∈ (itemsOf D ks).take i, y.2.node ≠ x.2.node ∧ y.2.cookie ≠ x.2.cookie ∧ ¬ (y.1 = x.1 ∧ y.2.name = x.2.name)) _ _ _ _ _ _ _ _ _ ?_ k 0 Y ⟨0, rfl, by omega, by omega, gY, by simp⟩ _
      rintro q _ ds Z ⟨i, rfl, hi, rfl, gZ, hbef⟩
      unfold B31_4
      by_cases hik : i < k
      · rw [decide_eq_true (by omega), cond_true]
        rintro Z1 rfl
        have gZ1 := gZ.trans (Fr.drew Z)
        have bE1 := bE.fr gZ1 (by simp)
        generalize Z.drew = Z1 at *
        obtain ⟨y, hy⟩ : ∃ y, (itemsOf D ks)[i]? = some y := ⟨(itemsOf D ks)[i]'(by omega), List.getElem?_eq_getElem _⟩
        have hym := List.mem_of_getElem? hy
        have hcx : ∀ j v, (itC x)[j]? = some v → Z1.cell? ⟨b, off + k * 6 + j, none⟩ = some v := fun j v hv => cell_fr ((gV3.trans gZ1)) (by
          obtain ⟨b', off', hb', h'⟩ := hA0.cell hx
          cases hb'
          exact h' j v hv) (by simp)
        have hcy : ∀ j v, (itC y)[j]? = some v → Z1.cell? ⟨b, off + i * 6 + j, none⟩ = some v := fun j v hv => cell_fr ((gV3.trans gZ1)) (by
          obtain ⟨b', off', hb', h'⟩ := hA0.cell hy
          cases hb'
          exact h' j v hv) (by simp)
        have x0 : Z1.cell? ⟨b, off + k * 6, none⟩ = some (.int .i64 x.1) := hcx 0 _ rfl
        have y0 : Z1.cell? ⟨b, off + i * 6, none⟩ = some (.int .i64 y.1) := hcy 0 _ rfl
        have y1 : Z1.cell? ⟨b, off + i * 6 + 1, none⟩ = some (.string y.2.name) := hcy 1 _ rfl
        have y2 : Z1.cell? ⟨b, off + i * 6 + 1 + 1, none⟩ = some (.int .i64 y.2.node) := hcy 2 _ rfl
        have y4 : Z1.cell? ⟨b, off + i * 6 + 1 + 3, none⟩ = some (.int .i64 y.2.cookie) := hcy 4 _ rfl
        have out : ¬ LF D ks c → R (.returned (.bool false)) Z1 := fun hno => hR _ _ ⟨⟨false, rfl, ffI hno⟩, (hU0.trans gV3).trans gZ1⟩
        have hrel : LF D ks c → y.2.node ≠ x.2.node ∧ y.2.cookie ≠ x.2.cookie ∧ ¬ (y.1 = x.1 ∧ y.2.name = x.2.name) := by
          intro h
          obtain ⟨h1, e1⟩ := List.getElem?_eq_some_iff.1 hy
          obtain ⟨h2, e2⟩ := List.getElem?_eq_some_iff.1 hx
          have := List.pairwise_iff_getElem.1 h.pair i k h1 h2 hik
          rwa [e1, e2] at this
        have stp : (y.2.node ≠ x.2.node ∧ y.2.cookie ≠ x.2.cookie ∧ ¬ (y.1 = x.1 ∧ y.2.name = x.2.name)) → ∃ m, m < k - i ∧ ∃ i' : Nat, IntKind.wrap .i64 ((i : Int) + 1) = i' ∧ i' ≤ k ∧ m = k - i' ∧ Fr [] V3 Z1 ∧ ∀ y ∈ (itemsOf D ks).take i', y.2.node ≠ x.2.node ∧ y.2.cookie ≠ x.2.cookie ∧ ¬ (y.1 = x.1 ∧ y.2.name = x.2.name) := by
          intro h
          refine ⟨k - (i + 1), by omega, i + 1, ?_, by omega, rfl, gZ1, ?_⟩
          · rw [wr (by omega) (by omega)]; simp
          · rw [take_snoc hy]
            intro z hz
            rcases List.mem_append.1 hz with hz | hz
            · exact hbef z hz
            · obtain rfl := List.mem_singleton.1 hz; exact h
        simp only [optW, Addr.add_lit, Int.toNat_natCast, Nat.zero_add]
        refine ⟨fun U => U = Z1, rfl, ⟨by omega, by omega⟩, _, fun U hU => by rw [hU]; exact y2, _, fun U hU => by rw [hU]; exact bE1.cell 1, ?_⟩
        refine condC (fun c1 => out (fun h => (hrel h).1 (by simpa using c1))) (fun c1 => ?_)
        refine ⟨⟨by omega, by omega⟩, _, fun U hU => by rw [hU]; exact y4, _, fun U hU => by rw [hU]; exact bE1.cell 3, ?_⟩
        refine condC (fun c2 => out (fun h => (hrel h).2.1 (by simpa using c2))) (fun c2 => ?_)
        have c1 : y.2.node ≠ x.2.node := by simpa using c1
        have c2 : y.2.cookie ≠ x.2.cookie := by simpa using c2
        refine ⟨⟨by omega, by omega⟩, _, fun U hU => by rw [hU]; exact y0, ⟨by omega, by omega⟩, _, fun U hU => by rw [hU]; exact x0, ?_⟩
        refine condC (fun c3 => ?_) (fun c3 => ?_)
        · have c3 : y.1 = x.1 := by simpa using c3
          refine ⟨⟨by omega, by omega⟩, _, fun U hU => by rw [hU]; exact y1, _, fun U hU => by rw [hU]; exact bE1.cell 0, ?_⟩
          rw [bytes_beq]
          refine condC (fun c4 => out (fun h => (hrel h).2.2 ⟨c3, of_decide_eq_true c4⟩)) (fun c4 => ?_)
          exact ⟨_, rfl, stp ⟨c1, c2, fun h => of_decide_eq_false c4 h.2⟩⟩
        · have c3 : y.1 ≠ x.1 := by simpa using c3
          exact ⟨_, rfl, stp ⟨c1, c2, fun h => c3 h.1⟩⟩
      · rw [decide_eq_false (by omega), cond_false]
        have hik : i = k := by omega
        subst hik
        refine ⟨_, rfl, an - (i + 1), by omega, i + 1, ?_, by omega, rfl, gV3.trans gZ, ?_, ?_⟩
        · rw [wr (by omega) (by omega)]; simp
        · rw [take_snoc hx]
          intro z hz
          rcases List.mem_append.1 hz with hz | hz
          · exact hent z hz
          · obtain rfl := List.mem_singleton.1 hz; exact hok
        · rw [take_snoc hx, List.pairwise_append]
          refine ⟨hpair, List.pairwise_singleton .., ?_⟩
          intro y hy z hz
          obtain rfl := List.mem_singleton.1 hz
          exact hbef y hy
    have link : ∀ Y, Calls prog 62 #[.agg #[.slice none 0 0, .int .i64 1], .int .i64 0, .string x.2.name, .bool false, .int .i64 x.2.short] Y fun e w' => ∃ a' n' c', e = .returned (.tuple #[.agg #[.slice a' n' c', .int .i64 ((⟨[], 1⟩ : RT).link 0 x.2.name false x.2.short).1.next], .int .i64 ((⟨[], 1⟩ : RT).link 0 x.2.name false x.2.short).2.1, .int .i64 ((⟨[], 1⟩ : RT).link 0 x.2.name false x.2.short).2.2]) ∧
        Recs itE w' [] a' n' ((⟨[], 1⟩ : RT).link 0 x.2.name false x.2.short).1.L ∧ Fr [] Y w' := fun Y =>
      k_rLink (t := ⟨[], 1⟩) (F := []) (Recs.nil Y []) (by simp) inv_new (by show (1 : Int) < _; omega) 0 x.2.name (hnm x hxm) false x.2.short
    refine ⟨fun Z => Fr [] V3 Z, Fr.refl .., _, fun Z hZ => (bE.fr hZ (by simp)).cell 0, _, fun Z hZ => (bE.fr hZ (by simp)).cell 4, ?_, ?_⟩
    · refine Calls.mono (k_rNew V3) ?_
      rintro _ Y1 ⟨rfl, g1⟩
      refine ⟨_, _, _, _, rfl, g1, ?_, ?_⟩
      · refine Calls.mono (link Y1) ?_
        rintro _ Y2 ⟨a', n', c', rfl, hr, g2⟩
        refine ⟨_, _, _, _, _, _, rfl, g1.trans g2, ?_⟩
        rintro Y3 rfl
        have g3 := Fr.alloc Y2 (.cells #[(.slice none 0 0), (.int .i64 0)] 29)
        have b3 := Blk.new Y2 [(.slice none 0 0), (.int .i64 0)] 29
        refine ⟨(g1.trans g2).trans g3, ?_⟩
        generalize hxb : Y2.heap.size = xb at *
        refine set2 b3 _ _ _ (fun Y4 bY gY => ?_)
        have bX4 : Blk Y4 xb [.slice a' n' c', .int .i64 ((⟨[], 1⟩ : RT).link 0 x.2.name false x.2.short).1.next] := bY
        have gY4 : Fr [] V3 Y4 := ((g1.trans g2).trans g3).trans' gY (by intro i hi; simp at hi; subst hi; right; have := (g1.trans g2).1; omega)
        rintro Y5 rfl
        have gd5 := Fr.drew Y4
        have gY5 := gY4.trans gd5
        have bX5 := bX4.fr gd5 (by simp)
        have bE5 : Blk Y4.drew bx (entC x.2) := bE.fr gY5 (by simp)
        generalize Y4.drew = Y5 at *
        refine ⟨fun Z => Fr [] Y5 Z, Fr.refl .., ?_⟩
        have out : ¬ LF D ks c → R (.returned (.bool false)) Y5 := fun hno => hR _ _ ⟨⟨false, rfl, ffI hno⟩, (hU0.trans gV3).trans gY5⟩
        have hn' : n' = ((⟨[], 1⟩ : RT).link 0 x.2.name false x.2.short).1.L.length := hr.len
        obtain ⟨l1, l2⟩ := link_empty x.2.name false x.2.short
        refine condC (fun c1 => out (fun h => ?_)) (fun c1 => ?_)
        · rw [l1, (h.ent x hxm).1] at c1; cases c1
        have herr : mayErr x.2.name x.2.short = 0 := by rw [l1] at c1; simpa using c1
        have hone : n' = 1 := by rw [hn']; exact l2.2 herr
        refine ⟨a', n', c', fun Z hZ => (bX5.fr hZ (by simp)).cell 0, ?_⟩
        refine condC (fun c2 => by rw [hone] at c2; cases c2) (fun c2 => ?_)
        refine ⟨_, fun Z hZ => (bE5.fr hZ (by simp)).cell 1, ?_⟩
        refine condC (fun c3 => out (fun h => ?_)) (fun c3 => ?_)
        · have := (h.ent x hxm).2.1; have := of_decide_eq_true c3; omega
        refine ⟨_, fun Z hZ => (bE5.fr hZ (by simp)).cell 1, ?_⟩
        refine condC (fun c4 => out (fun h => ?_)) (fun c4 => ?_)
        · have := (h.ent x hxm).2.2.1; have := of_decide_eq_true c4; omega
        refine ⟨_, fun Z hZ => (bE5.fr hZ (by simp)).cell 3, ?_⟩
        refine condC (fun c5 => out (fun h => ?_)) (fun c5 => ?_)
        · have := (h.ent x hxm).2.2.2.1; have := of_decide_eq_true c5; omega
        refine ⟨_, fun Z hZ => (bE5.fr hZ (by simp)).cell 3, ?_⟩
        refine condC (fun c6 => out (fun h => ?_)) (fun c6 => ?_)
        · have := (h.ent x hxm).2.2.2.2.1; have := of_decide_eq_true c6; omega
        refine ⟨_, fun Z hZ => (bE5.fr hZ (by simp)).cell 1, _, fun Z hZ => (bE5.fr hZ (by simp)).cell 2, ?_⟩
        refine Calls.mono (k_has (thereOf D ks) x.2.node ta tn tc Y5 (hT0.fr (gV3.trans gY5)) (by omega)) ?_
        rintro _ _ ⟨rfl, rfl⟩
        refine ⟨_, rfl, Fr.refl .., ?_⟩
        refine condC (fun c7 => out (fun h => ?_)) (fun c7 => ?_)
        · rw [(h.ent x hxm).2.2.2.2.2] at c7; simp at c7
        refine four _ Y5 gY5 ⟨herr, by have := of_decide_eq_false c3; omega, by have := of_decide_eq_false c4; omega, by have := of_decide_eq_false c5; omega, by have := of_decide_eq_false c6; omega, by simpa using c7⟩
      · rintro Y2 rfl
        have g2 := Fr.alloc Y1 (.cells #[(.slice none 0 0), (.int .i64 0)] 29)
        have b2 := Blk.new Y1 [(.slice none 0 0), (.int .i64 0)] 29
        refine ⟨g1.trans g2, ?_⟩
        refine Calls.mono (link _) ?_
        rintro _ Y3 ⟨a', n', c', rfl, hr, g3⟩
        refine ⟨_, _, _, _, _, _, rfl, (g1.trans g2).trans g3, ?_⟩
        have b3 := b2.fr g3 (by simp)
        generalize hxb : Y1.heap.size = xb at *
        refine set2 b3 _ _ _ (fun Y4 bY gY => ?_)
        have bX4 : Blk Y4 xb [.slice a' n' c', .int .i64 ((⟨[], 1⟩ : RT).link 0 x.2.name false x.2.short).1.next] := bY
        have gY4 : Fr [] V3 Y4 := ((g1.trans g2).trans g3).trans' gY (by intro i hi; simp at hi; subst hi; right; have := g1.1; omega)
        rintro Y5 rfl
        have gd5 := Fr.drew Y4
        have gY5 := gY4.trans gd5
        have bX5 := bX4.fr gd5 (by simp)
        have bE5 : Blk Y4.drew bx (entC x.2) := bE.fr gY5 (by simp)
        generalize Y4.drew = Y5 at *
        refine ⟨fun Z => Fr [] Y5 Z, Fr.refl .., ?_⟩
        have out : ¬ LF D ks c → R (.returned (.bool false)) Y5 := fun hno => hR _ _ ⟨⟨false, rfl, ffI hno⟩, (hU0.trans gV3).trans gY5⟩
        have hn' : n' = ((⟨[], 1⟩ : RT).link 0 x.2.name false x.2.short).1.L.length := hr.len
        obtain ⟨l1, l2⟩ := link_empty x.2.name false x.2.short
        refine condC (fun c1 => out (fun h => ?_)) (fun c1 => ?_)
        · rw [l1, (h.ent x hxm).1] at c1; cases c1
        have herr : mayErr x.2.name x.2.short = 0 := by rw [l1] at c1; simpa using c1
        have hone : n' = 1 := by rw [hn']; exact l2.2 herr
        refine ⟨a', n', c', fun Z hZ => (bX5.fr hZ (by simp)).cell 0, ?_⟩
        refine condC (fun c2 => by rw [hone] at c2; cases c2) (fun c2 => ?_)
        refine ⟨_, fun Z hZ => (bE5.fr hZ (by simp)).cell 1, ?_⟩
        refine condC (fun c3 => out (fun h => ?_)) (fun c3 => ?_)
        · have := (h.ent x hxm).2.1; have := of_decide_eq_true c3; omega
        refine ⟨_, fun Z hZ => (bE5.fr hZ (by simp)).cell 1, ?_⟩
        refine condC (fun c4 => out (fun h => ?_)) (fun c4 => ?_)
        · have := (h.ent x hxm).2.2.1; have := of_decide_eq_true c4; omega
        refine ⟨_, fun Z hZ => (bE5.fr hZ (by simp)).cell 3, ?_⟩
        refine condC (fun c5 => out (fun h => ?_)) (fun c5 => ?_)
        · have := (h.ent x hxm).2.2.2.1; have := of_decide_eq_true c5; omega
        refine ⟨_, fun Z hZ => (bE5.fr hZ (by simp)).cell 3, ?_⟩
        refine condC (fun c6 => out (fun h => ?_)) (fun c6 => ?_)
        · have := (h.ent x hxm).2.2.2.2.1; have := of_decide_eq_true c6; omega
        refine ⟨_, fun Z hZ => (bE5.fr hZ (by simp)).cell 1, _, fun Z hZ => (bE5.fr hZ (by simp)).cell 2, ?_⟩
        refine Calls.mono (k_has (thereOf D ks) x.2.node ta tn tc Y5 (hT0.fr (gV3.trans gY5)) (by omega)) ?_
        rintro _ _ ⟨rfl, rfl⟩
        refine ⟨_, rfl, Fr.refl .., ?_⟩
        refine condC (fun c7 => out (fun h => ?_)) (fun c7 => ?_)
        · rw [(h.ent x hxm).2.2.2.2.2] at c7; simp at c7
        refine four _ Y5 gY5 ⟨herr, by have := of_decide_eq_false c3; omega, by have := of_decide_eq_false c4; omega, by have := of_decide_eq_false c5; omega, by have := of_decide_eq_false c6; omega, by simpa using c7⟩
    · rintro Y1 rfl
      have g1 := Fr.alloc V3 (.cells #[(.slice none 0 0), (.int .i64 0)] 29)
      have b1 := Blk.new V3 [(.slice none 0 0), (.int .i64 0)] 29
      refine ⟨g1, ?_⟩
      refine Calls.mono (k_rNew _) ?_
      rintro _ Y2 ⟨rfl, g2⟩
      refine ⟨_, _, _, _, rfl, g1.trans g2, ?_⟩
      refine Calls.mono (link _) ?_
      rintro _ Y3 ⟨a', n', c', rfl, hr, g3⟩
      refine ⟨_, _, _, _, _, _, rfl, (g1.trans g2).trans g3, ?_⟩
      have b3 := (b1.fr g2 (by simp)).fr g3 (by simp)
      generalize hxb : V3.heap.size = xb at *
      refine set2 b3 _ _ _ (fun Y4 bY gY => ?_)
      have bX4 : Blk Y4 xb [.slice a' n' c', .int .i64 ((⟨[], 1⟩ : RT).link 0 x.2.name false x.2.short).1.next] := bY
      have gY4 : Fr [] V3 Y4 := ((g1.trans g2).trans g3).trans' gY (by intro i hi; simp at hi; subst hi; right; omega)
      rintro Y5 rfl
      have gd5 := Fr.drew Y4
      have gY5 := gY4.trans gd5
      have bX5 := bX4.fr gd5 (by simp)
      have bE5 : Blk Y4.drew bx (entC x.2) := bE.fr gY5 (by simp)
      generalize Y4.drew = Y5 at *
      refine ⟨fun Z => Fr [] Y5 Z, Fr.refl .., ?_⟩
      have out : ¬ LF D ks c → R (.returned (.bool false)) Y5 := fun hno => hR _ _ ⟨⟨false, rfl, ffI hno⟩, (hU0.trans gV3).trans gY5⟩
      have hn' : n' = ((⟨[], 1⟩ : RT).link 0 x.2.name false x.2.short).1.L.length := hr.len
      obtain ⟨l1, l2⟩ := link_empty x.2.name false x.2.short
      refine condC (fun c1 => out (fun h => ?_)) (fun c1 => ?_)
      · rw [l1, (h.ent x hxm).1] at c1; cases c1
      have herr : mayErr x.2.name x.2.short = 0 := by rw [l1] at c1; simpa using c1
      have hone : n' = 1 := by rw [hn']; exact l2.2 herr
      refine ⟨a', n', c', fun Z hZ => (bX5.fr hZ (by simp)).cell 0, ?_⟩
      refine condC (fun c2 => by rw [hone] at c2; cases c2) (fun c2 => ?_)
      refine ⟨_, fun Z hZ => (bE5.fr hZ (by simp)).cell 1, ?_⟩
      refine condC (fun c3 => out (fun h => ?_)) (fun c3 => ?_)
      · have := (h.ent x hxm).2.1; have := of_decide_eq_true c3; omega
      refine ⟨_, fun Z hZ => (bE5.fr hZ (by simp)).cell 1, ?_⟩
      refine condC (fun c4 => out (fun h => ?_)) (fun c4 => ?_)
      · have := (h.ent x hxm).2.2.1; have := of_decide_eq_true c4; omega
      refine ⟨_, fun Z hZ => (bE5.fr hZ (by simp)).cell 3, ?_⟩
      refine condC (fun c5 => out (fun h => ?_)) (fun c5 => ?_)
      · have := (h.ent x hxm).2.2.2.1; have := of_decide_eq_true c5; omega
      refine ⟨_, fun Z hZ => (bE5.fr hZ (by simp)).cell 3, ?_⟩
      refine condC (fun c6 => out (fun h => ?_)) (fun c6 => ?_)
      · have := (h.ent x hxm).2.2.2.2.1; have := of_decide_eq_true c6; omega
      refine ⟨_, fun Z hZ => (bE5.fr hZ (by simp)).cell 1, _, fun Z hZ => (bE5.fr hZ (by simp)).cell 2, ?_⟩
      refine Calls.mono (k_has (thereOf D ks) x.2.node ta tn tc Y5 (hT0.fr (gV3.trans gY5)) (by omega)) ?_
      rintro _ _ ⟨rfl, rfl⟩
      refine ⟨_, rfl, Fr.refl .., ?_⟩
      refine condC (fun c7 => out (fun h => ?_)) (fun c7 => ?_)
      · rw [(h.ent x hxm).2.2.2.2.2] at c7; simp at c7
      refine four _ Y5 gY5 ⟨herr, by have := of_decide_eq_false c3; omega, by have := of_decide_eq_false c4; omega, by have := of_decide_eq_false c5; omega, by have := of_decide_eq_false c6; omega, by simpa using c7⟩
  · rw [decide_eq_false (by omega), cond_false]
    rw [List.take_of_length_le (by omega)] at hent hpair
    refine Calls.mono (k_reached (itemsOf D ks) (thereOf D ks) aa ta an ac tn tc U (hA0.fr0 gU) (hT0.fr gU) (by omega) (by omega)) ?_
    rintro _ U1 ⟨⟨b, rfl, hb⟩, g1⟩
    refine ⟨_, rfl, hR _ _ ⟨⟨b, rfl, hb.trans ?_⟩, (hU0.trans gU).trans g1⟩⟩
    exact ⟨fun h => ⟨hso, hc1, h0, hent, hpair, h⟩, fun h => h.reach⟩
end
end Go.Proofs.Tryz
