/- The law's own look at entries: formed, whole. Conditions: none. -/
import Derived.Test.YtdicohcmccjnoaaGreatLf
set_option maxRecDepth 10000
namespace Go.Proofs.Tryz
open Go Go.Eng Go.Topo
section
variable {w : World} {db : Nat} {dm : List (Int × Value)} {D : DMap}

def Ord (D : DMap) (n : Int) : Prop := ∀ (k : Nat) (x y : Ent), (dl D n)[k]? = some x → (dl D n)[k + 1]? = some y → x.cookie < y.cookie

theorem len_take_items (D : DMap) (ks : List Int) (k : Nat) : (itemsOf D (ks.take k)).length ≤ (itemsOf D ks).length := by
  have : ks = ks.take k ++ ks.drop k := (List.take_append_drop k ks).symm
  have h : itemsOf D ks = itemsOf D (ks.take k) ++ itemsOf D (ks.drop k) := by rw [← itemsOf_append, ← this]
  rw [h, List.length_append]; omega

/-- the first half: the keys that are there, and all entries -/
theorem formed_main (hd : DMAt w [] db dm D) (ks : List Int) (c : Int) (ka : Option Addr) (kn kc : Nat) (V : World) (ds : List Value) (R : Ending → World → Prop) (hR : ∀ e w', ((∃ b, e = .returned (.bool b) ∧ (b = true ↔ LF D ks c)) ∧ Fr [] w w') → R e w')
    (hV : Fr [] w V) (hK : Recs intE V [] ka kn ks) (hkn : kn ≤ 1000000) (htot : (itemsOf D ks).length ≤ 1000000) (hnm : ∀ x ∈ itemsOf D ks, x.2.name.size ≤ 9223372036854775807) :
    L31_1 c (some db) ka kn kc none 0 0 none 0 0 0 ds V R := by
  have hKl := hK.len
  refine lp31_1 _ _ _ _ _ (fun q aa an ac ta tn tc i U => ∃ k : Nat, i = k ∧ k ≤ kn ∧ q = kn - k ∧ Fr [] V U ∧ OwnR itE 148 U V.heap.size aa an ac (itemsOf D (ks.take k)) ∧ OwnR intE 3 U V.heap.size ta tn tc (thereOf D (ks.take k)) ∧
    (∀ i ∈ blks aa, i ∉ blks ta) ∧ ∀ n ∈ ks.take k, Ord D n) _ ?_ kn none 0 0 none 0 0 0 V
    ⟨0, rfl, by omega, by omega, Fr.refl .., OwnR.nil .., OwnR.nil .., by simp [blks], by simp⟩ _
  rintro q aa an ac ta tn tc _ ds U ⟨k, rfl, hk, rfl, gU, oA, oT, hdis, hord⟩
  unfold B31_1
  have htn : tn ≤ kn := by
    rw [oT.len]
    have h1 : (thereOf D (ks.take k)).length ≤ (ks.take k).length := List.length_filter_le _ _
    rw [List.length_take] at h1
    omega
  have han : an ≤ 1000000 := by rw [oA.len]; have := len_take_items D ks k; omega
  by_cases hkk : k < kn
  · rw [decide_eq_true (by omega), cond_true]
    obtain ⟨x, hx⟩ : ∃ x, ks[k]? = some x := ⟨ks[k]'(by omega), List.getElem?_eq_getElem _⟩
    have hxm := List.mem_of_getElem? hx
    obtain ⟨kb, koff, rfl, hkc0⟩ := hK.cell hx
    have hkc : ∀ Y, Fr [] V Y → Y.cell? ⟨kb, koff + k, none⟩ = some (.int .i64 x) := fun Y hY => by
      have := cell_fr hY (hkc0 0 _ rfl) (by simp)
      simpa [intE] using this
    simp only [optW, Addr.add_lit, Int.toNat_natCast, Nat.mul_one]
    refine ⟨⟨by omega, by omega⟩, x, hkc U gU, ?_⟩
    obtain ⟨va, vc, hev, hvl, hlk, hsm⟩ := hd.look x
    refine ⟨va, (dl D x).length, vc, (D x).isSome, ?_, ?_⟩
    · rw [lookup_dirs (hd.1.fr (hV.trans gU) (by simp)) x true, if_pos rfl, hlk, hsm]
    have htk : ks.take (k + 1) = ks.take k ++ [x] := take_snoc hx
    -- over the entries of one directory
    have inner : ∀ (ds : List Value) (V2 : World) (ta' : Option Addr) (tn' tc' : Nat) (k1 : Option Addr → Nat → Nat → Option Addr → Nat → Nat → Int → World → Prop), Fr [] V V2 → OwnR itE 148 V2 V.heap.size aa an ac (itemsOf D (ks.take k)) → OwnR intE 3 V2 V.heap.size ta' tn' tc' (thereOf D (ks.take (k + 1))) → (∀ i ∈ blks aa, i ∉ blks ta') →
        (∀ (aa' : Option Addr) (an' ac' : Nat) (V3 : World), Fr [] V V3 → OwnR itE 148 V3 V.heap.size aa' an' ac' (itemsOf D (ks.take (k + 1))) → OwnR intE 3 V3 V.heap.size ta' tn' tc' (thereOf D (ks.take (k + 1))) → (∀ i ∈ blks aa', i ∉ blks ta') → Ord D x →
          k1 aa' an' ac' ta' tn' tc' (IntKind.wrap .i64 ((k : Int) + 1)) V3) →
        L31_2 c (some db) (some ⟨kb, koff, none⟩) kn kc aa an ac ta' tn' tc' k va (dl D x).length vc 0 ds V2 R c (some db) (some ⟨kb, koff, none⟩) kn kc k1 := by
      intro ds V2 ta' tn' tc' k1 gV2 oA2 oT2 hdis2 hk1
      refine lp31_2 _ _ _ _ _ _ _ _ _ _ _ _ (fun q aa an ac j Y => ∃ i : Nat, j = i ∧ i ≤ (dl D x).length ∧ q = (dl D x).length - i ∧ Fr [] V Y ∧ OwnR itE 148 Y V.heap.size aa an ac (itemsOf D (ks.take k) ++ ((dl D x).take i).map (fun e => (x, e))) ∧ OwnR intE 3 Y V.heap.size ta' tn' tc' (thereOf D (ks.take (k + 1))) ∧
        (∀ i ∈ blks aa, i ∉ blks ta') ∧ ∀ (m : Nat) (y z : Ent), m + 1 < i → (dl D x)[m]? = some y → (dl D x)[m + 1]? = some z → y.cookie < z.cookie) _ _ _ _ _ _ _ ?_ (dl D x).length aa an ac 0 V2
        ⟨0, rfl, by omega, by omega, gV2, by simpa using oA2, oT2, hdis2, fun m y z h => by omega⟩ _
      clear oA2 oT2 hdis2 gV2 oA oT hdis
      rintro q aa an ac _ ds Y ⟨i, rfl, hi, rfl, gY, oA, oT, hdis, hch⟩
      unfold B31_2
      have han : an ≤ 1000000 := by
        rw [oA.len, List.length_append, List.length_map, List.length_take]
        have h1 := len_take_items D ks (k + 1)
        rw [htk, itemsOf_append, itemsOf_one, List.length_append, List.length_map] at h1
        omega
      by_cases hil : i < (dl D x).length
      · rw [decide_eq_true (by omega), cond_true]
        obtain ⟨e, he⟩ : ∃ e, (dl D x)[i]? = some e := ⟨(dl D x)[i], List.getElem?_eq_getElem hil⟩
        rintro Y1 rfl
        have gd := Fr.drew Y
        have gY1 := gY.trans gd
        have oA1 := oA.fr0 gd
        have oT1 := oT.fr0 gd
        generalize Y.drew = Y1 at *
        have sub : ∀ Z, Fr (blks aa) Y1 Z → Fr [] V Z := fun Z hZ => gY1.trans' hZ (fun j hj => .inr (oA1.blk j hj).1)
        have ent : ∀ Z, Fr [] V Z → ∀ {i : Nat} {e : Ent}, (dl D x)[i]? = some e → ∃ b off, va = some ⟨b, off, none⟩ ∧ Z.cell? ⟨b, off + i * 5, none⟩ = some (.string e.name) ∧ Z.cell? ⟨b, off + i * 5 + 1, none⟩ = some (.int .i64 e.node) ∧ Z.cell? ⟨b, off + i * 5 + 2, none⟩ = some (.bool e.dir) ∧
            Z.cell? ⟨b, off + i * 5 + 3, none⟩ = some (.int .i64 e.cookie) ∧ Z.cell? ⟨b, off + i * 5 + 4, none⟩ = some (.int .i64 e.short) := fun Z hZ i e he => (hev.fr (hV.trans hZ)).at he
        obtain ⟨b, off, rfl, -⟩ := ent Y1 gY1 he
        have ent : ∀ Z, Fr [] V Z → ∀ {i : Nat} {e : Ent}, (dl D x)[i]? = some e → Z.cell? ⟨b, off + i * 5, none⟩ = some (.string e.name) ∧ Z.cell? ⟨b, off + i * 5 + 1, none⟩ = some (.int .i64 e.node) ∧ Z.cell? ⟨b, off + i * 5 + 2, none⟩ = some (.bool e.dir) ∧
            Z.cell? ⟨b, off + i * 5 + 3, none⟩ = some (.int .i64 e.cookie) ∧ Z.cell? ⟨b, off + i * 5 + 4, none⟩ = some (.int .i64 e.short) := by
          intro Z hZ i e he
          obtain ⟨b', off', hb', h'⟩ := ent Z hZ he
          cases hb'
          exact h'
        simp only [optW, Addr.add_lit, Int.toNat_natCast, Nat.mul_one]
        refine ⟨fun Z => Fr (blks aa) Y1 Z, Fr.refl .., ⟨by omega, by omega⟩, x, fun Z hZ => hkc Z (sub Z hZ), ⟨by omega, by omega⟩, _, fun Z hZ => (ent Z (sub Z hZ) he).1, _, fun Z hZ => (ent Z (sub Z hZ) he).2.1, _, fun Z hZ => (ent Z (sub Z hZ) he).2.2.1, _, fun Z hZ => (ent Z (sub Z hZ) he).2.2.2.1, _, fun Z hZ => (ent Z (sub Z hZ) he).2.2.2.2, ?_⟩
        rintro Y2 rfl
        refine ⟨Fr.of_nil (Fr.alloc ..), ?_⟩
        obtain ⟨a', c', Y3, hr3, oA3, f3, hbl⟩ := OwnR.push (E := itE) T_items oA1 gY1.1 (x, e) 27 148 (by omega)
        have oT3 := oT1.fr f3 (fun j hj hj2 => hdis j hj2 hj)
        have gY3 := sub Y3 f3
        have hTlt := fun j hj => (oT1.blk j hj).2
        refine ⟨a', _, c', Y3, hr3, f3, ?_⟩
        rintro Y4 rfl
        have gd4 := Fr.drew Y3
        have gY4 := gY3.trans gd4
        have oA4 := oA3.fr0 gd4
        have oT4 := oT3.fr0 gd4
        generalize Y3.drew = Y4 at *
        have hdis4 : ∀ j ∈ blks a', j ∉ blks ta' := by
          intro j hj hj2
          rcases hbl j hj with h' | h'
          · exact hdis j h' hj2
          · have := hTlt j hj2; omega
        have hwi : IntKind.wrap .i64 ((i : Int) + 1) = ((i + 1 : Nat) : Int) := by rw [wr (by omega) (by omega)]; simp
        have stp : (∀ (m : Nat) (y z : Ent), m + 1 < i + 1 → (dl D x)[m]? = some y → (dl D x)[m + 1]? = some z → y.cookie < z.cookie) → ∃ m, m < (dl D x).length - i ∧ ∃ i' : Nat, IntKind.wrap .i64 ((i : Int) + 1) = i' ∧ i' ≤ (dl D x).length ∧ m = (dl D x).length - i' ∧ Fr [] V Y4 ∧
            OwnR itE 148 Y4 V.heap.size a' (an + 1) c' (itemsOf D (ks.take k) ++ ((dl D x).take i').map (fun e => (x, e))) ∧ OwnR intE 3 Y4 V.heap.size ta' tn' tc' (thereOf D (ks.take (k + 1))) ∧ (∀ i ∈ blks a', i ∉ blks ta') ∧
            ∀ (m : Nat) (y z : Ent), m + 1 < i' → (dl D x)[m]? = some y → (dl D x)[m + 1]? = some z → y.cookie < z.cookie := by
          intro h
          refine ⟨(dl D x).length - (i + 1), by omega, i + 1, hwi, by omega, rfl, gY4, ?_, oT4, hdis4, h⟩
          rw [take_snoc he, List.map_append, ← List.append_assoc]
          exact oA4
        refine ⟨fun Z => Z = Y4, rfl, ?_⟩
        by_cases hi0 : 0 < i
        · rw [decide_eq_true (by omega), cond_true]
          obtain ⟨j, rfl⟩ : ∃ j, i = j + 1 := ⟨i - 1, by omega⟩
          have ej : IntKind.wrap .i64 (((j + 1 : Nat) : Int) - 1) = (j : Int) := by rw [wr (by omega) (by omega)]; omega
          rw [ej]
          obtain ⟨p, hp⟩ : ∃ p, (dl D x)[j]? = some p := ⟨(dl D x)[j]'(by omega), List.getElem?_eq_getElem _⟩
          simp only [Int.toNat_natCast]
          refine ⟨⟨by omega, by omega⟩, _, fun Z hZ => by rw [hZ]; exact (ent Y4 gY4 hp).2.2.2.1, ⟨by omega, by omega⟩, _, fun Z hZ => by rw [hZ]; exact (ent Y4 gY4 he).2.2.2.1, ?_⟩
          refine condC (fun c1 => ?_) (fun c1 => ?_)
          · refine hR _ _ ⟨⟨false, rfl, ffI (fun h => ?_)⟩, hV.trans gY4⟩
            have := h.sorted x hxm j p e hp he
            have := of_decide_eq_true c1
            omega
          · refine ⟨_, _, _, _, rfl, stp (fun m y z hm hy hz => ?_)⟩
            by_cases hmj : m = j
            · subst hmj
              rw [hp] at hy; rw [he] at hz; cases hy; cases hz
              have := of_decide_eq_false c1
              omega
            · exact hch m y z (by omega) hy hz
        · rw [decide_eq_false (by omega), cond_false]
          exact ⟨_, _, _, _, rfl, stp (fun m y z hm => by omega)⟩
      · rw [decide_eq_false (by omega), cond_false]
        refine ⟨_, _, _, _, _, _, _, rfl, hk1 aa an ac Y gY ?_ oT hdis ?_⟩
        · rw [htk, itemsOf_append, itemsOf_one]
          have e0 : (dl D x).take i = dl D x := List.take_of_length_le (by omega)
          rw [e0] at oA
          exact oA
        · intro m y z hy hz
          have := (List.getElem?_eq_some_iff.1 hz).1
          exact hch m y z (by omega) hy hz
    have nxt : ∀ (ta' : Option Addr) (tn' tc' : Nat) (aa' : Option Addr) (an' ac' : Nat) (V3 : World), Fr [] V V3 → OwnR itE 148 V3 V.heap.size aa' an' ac' (itemsOf D (ks.take (k + 1))) → OwnR intE 3 V3 V.heap.size ta' tn' tc' (thereOf D (ks.take (k + 1))) → (∀ i ∈ blks aa', i ∉ blks ta') → Ord D x →
        ∃ m, m < kn - k ∧ ∃ k' : Nat, IntKind.wrap .i64 ((k : Int) + 1) = k' ∧ k' ≤ kn ∧ m = kn - k' ∧ Fr [] V V3 ∧ OwnR itE 148 V3 V.heap.size aa' an' ac' (itemsOf D (ks.take k')) ∧ OwnR intE 3 V3 V.heap.size ta' tn' tc' (thereOf D (ks.take k')) ∧ (∀ i ∈ blks aa', i ∉ blks ta') ∧ ∀ n ∈ ks.take k', Ord D n := by
      intro ta' tn' tc' aa' an' ac' V3 g1 g2 g3 g4 g5
      refine ⟨kn - (k + 1), by omega, k + 1, ?_, by omega, rfl, g1, g2, g3, g4, ?_⟩
      · rw [wr (by omega) (by omega)]; simp
      · rw [htk]
        intro n hn
        rcases List.mem_append.1 hn with hn | hn
        · exact hord n hn
        · obtain rfl := List.mem_singleton.1 hn; exact g5
    cases hs : (D x).isSome with
    | true =>
      rw [cond_true]
      refine ⟨⟨by omega, by omega⟩, x, hkc U gU, ?_⟩
      rintro U1 rfl
      obtain ⟨ta', tc', U2, hr2, oT2, f2, hbl⟩ := OwnR.push (E := intE) T_ints oT gU.1 x 54 3 (by omega)
      refine ⟨ta', _, tc', U2, hr2, ?_⟩
      have gU2 : Fr [] V U2 := gU.trans' f2 (fun j hj => .inr (oT.blk j hj).1)
      have oA2 := oA.fr f2 hdis
      have hAlt := fun j hj => (oA.blk j hj).2
      refine inner _ U2 ta' (tn + 1) tc' _ gU2 oA2 ?_ ?_ (fun aa' an' ac' V3 g1 g2 g3 g4 g5 => nxt ta' _ tc' aa' an' ac' V3 g1 g2 g3 g4 g5)
      · rw [htk, thereOf_append]
        have : thereOf D [x] = [x] := by simp [thereOf, hs]
        rw [this]; exact oT2
      · intro j hj hj2
        rcases hbl j hj2 with h' | h'
        · exact hdis j hj h'
        · have := hAlt j hj; omega
    | false =>
      rw [cond_false]
      refine inner _ U ta tn tc _ gU oA ?_ hdis (fun aa' an' ac' V3 g1 g2 g3 g4 g5 => nxt ta tn tc aa' an' ac' V3 g1 g2 g3 g4 g5)
      rw [htk, thereOf_append]
      have : thereOf D [x] = [] := by simp [thereOf, hs]
      rw [this, List.append_nil]; exact oT
  · rw [decide_eq_false (by omega), cond_false]
    rw [List.take_of_length_le (by omega)] at oA oT hord
    have out : ¬ LF D ks c → R (.returned (.bool false)) U := fun hno => hR _ _ ⟨⟨false, rfl, ffI hno⟩, hV.trans gU⟩
    refine condC (fun c1 => out (fun h => by have := h.cpos; have := of_decide_eq_true c1; omega)) (fun c1 => ?_)
    refine Calls.mono (k_has (thereOf D ks) 0 ta tn tc U (Recs.sliI oT.recs0) (by omega)) ?_
    rintro _ _ ⟨rfl, rfl⟩
    refine ⟨_, rfl, ?_⟩
    refine condC (fun c2 => out (fun h => by rw [decide_eq_true h.root] at c2; cases c2)) (fun c2 => ?_)
    exact formed_tail ks c aa ta an ac tn tc U _ R hR (hV.trans gU) oA.recs0 (Recs.sliI oT.recs0) han (by omega) hnm hord (by have := of_decide_eq_false c1; omega) (by simpa using c2)

theorem k_lformed (hd : DMAt w [] db dm D) (dL : List Int) (other c : Int) (da : Option Addr) (dn dc : Nat) (hdL : Sli w [] 1 da dn (dL.map intC)) (hdn : dn ≤ 100000) (htot : (itemsOf D (keysOf dL other)).length ≤ 1000000) (hnm : ∀ x ∈ itemsOf D (keysOf dL other), x.2.name.size ≤ 9223372036854775807) :
    Calls prog 31 #[.int .i64 c, .map (some db), .slice da dn dc, .int .i64 other] w fun e w' => (∃ b, e = .returned (.bool b) ∧ (b = true ↔ LF D (keysOf dL other) c)) ∧ Fr [] w w' := by
  refine c31 _ _ _ _ _ _ _ _ (withR (X := N31 _ _ _ _ _ _ _) ?_)
  intro R hR
  unfold N31
  have hdl : dL.length = dn := by have := hdL.1; simp at this; omega
  rintro w1 rfl
  have f1 := Fr.alloc w (.cells #[] 3)
  have o1 : OwnR intE 3 (w.alloc (.cells #[] 3)) w.heap.size (some ⟨w.heap.size, 0, none⟩) 0 0 [] := OwnR.lit w (l := []) (by simp [maxLen]) 3 (Nat.le_refl _)
  obtain ⟨ka, kc, w2, hr2, o2, f2, hbl2, _⟩ := OwnR.append (E := intE) T_ints (c' := dc) o1 f1.1 54 (Sli.recsI (hdL.fr f1)) (by omega)
  rw [Nat.zero_add] at hr2 o2
  rw [List.nil_append] at o2
  have f02 : Fr [] w w2 := f1.trans' f2 (fun i hi => .inr (o1.blk i hi).1)
  refine ⟨ka, dn, kc, w2, hr2, ?_⟩
  refine lp31_0 _ _ _ _ _ _ _ _ _ (fun q known i W => ∃ k : Nat, i = k ∧ k ≤ dn ∧ q = dn - k ∧ w2 = W ∧ known = decide (other ∈ dL.take k)) _ ?_ dn false 0 w2 ⟨0, rfl, by omega, by omega, rfl, by simp⟩ _
  rintro q known _ ds W ⟨k, rfl, hk, rfl, rfl, rfl⟩
  unfold B31_0
  by_cases hkd : k < dn
  · rw [decide_eq_true (by omega), cond_true]
    obtain ⟨x, hx⟩ : ∃ x, dL[k]? = some x := ⟨dL[k]'(by omega), List.getElem?_eq_getElem _⟩
    have hwk : IntKind.wrap .i64 ((k : Int) + 1) = ((k + 1 : Nat) : Int) := by rw [wr (by omega) (by omega)]; simp
    by_cases hin : other ∈ dL.take k
    · rw [decide_eq_true hin, cond_true]
      refine ⟨_, _, rfl, dn - (k + 1), by omega, k + 1, hwk, by omega, rfl, rfl, ?_⟩
      rw [take_snoc hx]; simp [hin]
    · rw [decide_eq_false hin, cond_false]
      obtain ⟨b, off, rfl, _, hr⟩ := (hdL.fr f02).some_of (by omega)
      have hc : w2.cell? ⟨b, off + k, none⟩ = some (.int .i64 x) := by
        rw [hr.cell (by simp; omega)]; simp [hx]
      simp only [optW, Addr.add_lit, Int.toNat_natCast, Nat.mul_one]
      refine ⟨⟨by omega, by omega⟩, x, hc, _, _, rfl, dn - (k + 1), by omega, k + 1, hwk, by omega, rfl, trivial, ?_⟩
      rw [take_snoc hx, Bool.eq_iff_iff, beq_iff_eq, decide_eq_true_iff, List.mem_append, List.mem_singleton]
      exact ⟨fun h => .inr h.symm, fun h => h.elim (fun h => absurd h hin) Eq.symm⟩
  · rw [decide_eq_false (by omega), cond_false]
    rw [List.take_of_length_le (by omega)]
    by_cases hin : other ∈ dL
    · rw [decide_eq_true hin, Bool.not_true, cond_false]
      have hks : keysOf dL other = dL := by unfold keysOf; rw [if_pos hin]
      rw [hks] at hR htot hnm
      exact formed_main hd dL c ka dn kc w2 _ R hR f02 o2.recs0 (by omega) htot hnm
    · rw [decide_eq_false hin, Bool.not_false, cond_true]
      have hks : keysOf dL other = dL ++ [other] := by unfold keysOf; rw [if_neg hin]
      rw [hks] at hR htot hnm
      rintro w3 rfl
      obtain ⟨ka', kc', w4, hr4, o4, f4, hbl4⟩ := OwnR.push (E := intE) T_ints o2 f02.1 other 54 3 (by omega)
      refine ⟨ka', _, kc', w4, hr4, ?_⟩
      exact formed_main hd (dL ++ [other]) c ka' (dn + 1) kc' w4 _ R hR (f02.trans' f4 (fun i hi => .inr (o2.blk i hi).1)) o4.recs0 (by omega) htot hnm
end
end Go.Proofs.Tryz
