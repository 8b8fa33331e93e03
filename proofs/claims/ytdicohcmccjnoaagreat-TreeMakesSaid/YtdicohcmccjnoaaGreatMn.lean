/- tree.Make: an entry, a directory. Conditions: none. -/
import Derived.Test.YtdicohcmccjnoaaGreatMm
set_option maxRecDepth 10000
namespace Go.Topo
open Go
theorem one_zero (h : Bool) : ((if h = true then (1 : Int) else 0) == 0) = !h := by cases h <;> rfl
theorem ok2_5 {c : Int} {cooks nodes : List Int} {ns : List ByteArray} {e : Ent} (c1 : decide (e.cookie ≥ 1) = true) (c2 : decide (e.cookie < c) = true) (c3 : ((if e.cookie ∈ cooks then (1 : Int) else 0) == 0) = true) (c4 : (!decide (e.node ∈ nodes)) = true) :
    ((if hasName ns e.name = true then (1 : Int) else 0) == 0) = entOk2 c cooks nodes ns e := by
  rw [one_zero]; unfold entOk2; simp_all
theorem ok2_4 {c : Int} {cooks nodes : List Int} {ns : List ByteArray} {e : Ent} (c4 : (!decide (e.node ∈ nodes)) = false) : false = entOk2 c cooks nodes ns e := by unfold entOk2; simp_all
theorem ok2_3 {c : Int} {cooks nodes : List Int} {ns : List ByteArray} {e : Ent} (c3 : ((if e.cookie ∈ cooks then (1 : Int) else 0) == 0) = false) : false = entOk2 c cooks nodes ns e := by
  unfold entOk2
  have : e.cookie ∈ cooks := by
    by_cases h : e.cookie ∈ cooks
    · exact h
    · rw [if_neg h] at c3; cases c3
  simp [this]
theorem ok2_2 {c : Int} {cooks nodes : List Int} {ns : List ByteArray} {e : Ent} (c2 : decide (e.cookie < c) = false) : false = entOk2 c cooks nodes ns e := by unfold entOk2; simp [c2]
theorem ok2_1 {c : Int} {cooks nodes : List Int} {ns : List ByteArray} {e : Ent} (c1 : decide (e.cookie ≥ 1) = false) : false = entOk2 c cooks nodes ns e := by
  unfold entOk2
  have : decide (1 ≤ e.cookie) = false := c1
  simp [this]
theorem ok1_4 {D : DMap} {e : Ent} (c1 : (mayErr e.name e.short == 0) = true) (c2 : decide (e.node ≥ 1) = true) (c3 : decide (e.node ≤ 200) = true) : ((D e.node).isSome == e.dir) = entOk1 D e := by
  unfold entOk1
  have h1 : mayErr e.name e.short = 0 := by simpa using c1
  have h2 : decide (1 ≤ e.node) = true := c2
  rw [h1, h2, c3]; rfl
theorem ok1_3 {D : DMap} {e : Ent} (c3 : decide (e.node ≤ 200) = false) : false = entOk1 D e := by unfold entOk1; simp [c3]
theorem ok1_2 {D : DMap} {e : Ent} (c2 : decide (e.node ≥ 1) = false) : false = entOk1 D e := by
  unfold entOk1
  have h2 : decide (1 ≤ e.node) = false := c2
  simp [h2]
theorem ok1_1 {D : DMap} {e : Ent} (c1 : (mayErr e.name e.short == 0) = false) : false = entOk1 D e := by
  unfold entOk1
  have h1 : ¬ mayErr e.name e.short = 0 := by simpa using c1
  simp [h1]
end Go.Topo
namespace Go.Proofs.Tryz
open Go Go.Eng Go.Topo

theorem u_cmap : prog.underlying 137 = some (.map 2 3) := by kernel_rfl
theorem u_smap : prog.underlying 138 = some (.map 9 3) := by kernel_rfl
theorem K_c : KeyK prog 2 (fun x : Int => Value.int .i64 x) := .int u_int64
theorem K_s : KeyK prog 9 (fun x : ByteArray => Value.string x) := .str u_string
abbrev CSet (w : World) (b : Nat) (s : Int → Prop) : Prop := GSet (fun x : Int => Value.int .i64 x) w b s
abbrev SSet (w : World) (b : Nat) (s : ByteArray → Prop) : Prop := GSet (fun x : ByteArray => Value.string x) w b s

/-- the map of directories, as it came in -/
def DMAt (w : World) (F : List Nat) (db : Nat) (dm : List (Int × Value)) (D : DMap) : Prop :=
  IMap w db dm ∧ db ∉ F ∧ ∀ n, match D n with
    | some l => l.length ≤ 1048576 ∧ ∃ a c, alook dm n = some (.slice a l.length c) ∧ Ents w F a l.length l
    | none => alook dm n = none
section
variable {w w' : World} {F G : List Nat} {db : Nat} {dm : List (Int × Value)} {D : DMap}
theorem DMAt.fr (h : DMAt w F db dm D) (hf : Fr F w w') : DMAt w' F db dm D := by
  refine ⟨h.1.fr hf h.2.1, h.2.1, fun n => ?_⟩
  have := h.2.2 n
  split
  · rename_i l hl
    rw [hl] at this
    obtain ⟨h1, a, c, h2, h3⟩ := this
    exact ⟨h1, a, c, h2, h3.fr hf⟩
  · rename_i hl
    rw [hl] at this
    exact this
theorem DMAt.look (h : DMAt w F db dm D) (n : Int) : ∃ a c, Ents w F a (dl D n).length (dl D n) ∧ (dl D n).length ≤ 1048576 ∧
    (alook dm n).getD (.slice none 0 0) = .slice a (dl D n).length c ∧ (alook dm n).isSome = (D n).isSome := by
  have hd := h.2.2 n
  unfold dl
  cases hD : D n with
  | none =>
    rw [hD] at hd
    simp only [Option.getD_none, List.length_nil] at *
    exact ⟨none, 0, Sli.nil .., by omega, by rw [hd]; rfl, by rw [hd]; rfl⟩
  | some l =>
    rw [hD] at hd
    obtain ⟨h1, a, c, ha, he⟩ := hd
    exact ⟨a, c, he, h1, by rw [ha]; rfl, by rw [ha]; rfl⟩
end

/-- the maker in memory; w0: the world before it was made -/
structure Mk (w0 W : World) (mb ckb db : Nat) (nv : Value) (c : Int) (a : Option Addr) (cap : Nat) (s : MSt) : Prop where
  fr : Fr [] w0 W
  blk : Blk W mb [.int .i64 c, .map (some db), .slice a s.nodes.length cap, .map (some ckb), nv, .bool s.bad]
  own : OwnI W w0.heap.size a s.nodes.length cap s.nodes
  ck : CSet W ckb (· ∈ s.cooks)
  ap : mb ≠ ckb ∧ mb ∉ blks a ∧ ckb ∉ blks a ∧ w0.heap.size ≤ mb ∧ w0.heap.size ≤ ckb

section
variable {w0 W W' : World} {mb ckb db : Nat} {nv : Value} {c : Int} {a : Option Addr} {cap : Nat} {s : MSt} {dm : List (Int × Value)} {D : DMap}
theorem Mk.fr0 (h : Mk w0 W mb ckb db nv c a cap s) (hf : Fr [] W W') : Mk w0 W' mb ckb db nv c a cap s :=
  { h with fr := h.fr.trans hf, blk := h.blk.fr hf (by simp), own := h.own.fr hf (by simp), ck := h.ck.fr hf (by simp) }
theorem Mk.must (h : Mk w0 W mb ckb db nv c a cap s) (ok : Bool) : Calls prog 74 #[.pointer (some ⟨mb, 0, none⟩), .bool ok] W fun e W' => e = .returned (.tuple #[]) ∧ Mk w0 W' mb ckb db nv c a cap { s with bad := s.bad || !ok } ∧ Fr [mb] W W' := by
  refine Calls.mono (k_must h.blk ok) ?_
  rintro e W' ⟨rfl, hb, hf⟩
  obtain ⟨a1, a2, a3, a4, a5⟩ := h.ap
  refine ⟨rfl, { fr := h.fr.trans' hf (by intro i hi; simp at hi; right; omega), blk := hb, own := h.own.fr hf (by intro i hi; simp; rintro rfl; exact a2 hi), ck := h.ck.fr hf (by simp; omega), ap := h.ap }, hf⟩

/-- an entry -/
theorem k_mentry (hd : DMAt w0 [] db dm D) {nb : Nat} (h : Mk w0 W mb ckb db (.map (some nb)) c a cap s) {ns : List ByteArray} (hn : SSet W nb (· ∈ ns)) (hna : nb ≠ mb ∧ nb ≠ ckb ∧ nb ∉ blks a ∧ w0.heap.size ≤ nb) (hs : s.nodes.length ≤ 2097152) (e : Ent) :
    Calls prog 132 #[.pointer (some ⟨mb, 0, none⟩), entV e] W fun r W' => r = .returned (.tuple #[]) ∧ ∃ a' cap', Mk w0 W' mb ckb db (.map (some nb)) c a' cap' (entStep D c (s, ns) e).1 ∧ SSet W' nb (· ∈ (entStep D c (s, ns) e).2) ∧ nb ∉ blks a' := by
  refine c132 _ _ _ _ _ _ _ _ (withR (X := N132 _ _ _ _ _ _ _) ?_)
  intro R hR
  unfold N132
  obtain ⟨a1, a2, a3, a4, a5⟩ := h.ap
  obtain ⟨b1, b2, b3, b4⟩ := hna
  have hmlt := h.blk.lt
  have hclt := h.ck.lt
  have hnlt := hn.lt
  rintro w1 rfl
  have f1 := Fr.alloc W (.cells (entC e).toArray 117)
  have e1 := Blk.new W (entC e) 117
  have h1 := h.fr0 f1
  have n1 := hn.fr f1 (by simp)
  have hblk := Own.blk h.own
  generalize hbx : W.heap.size = bx at *
  generalize W.alloc (.cells (entC e).toArray 117) = w1 at *
  rintro w2 rfl
  have f2 := Fr.drew w1
  have e2 := e1.fr f2 (by simp)
  have h2 := h1.fr0 f2
  have n2 := n1.fr f2 (by simp)
  generalize w1.drew = w2 at *
  obtain ⟨da, dc, -, hl, hlk, hsm⟩ := (hd.fr h2.fr).look e.node
  have m1 : ∀ U, Fr [] w2 U → U.cell? ⟨mb, 1, none⟩ = some (.map (some db)) := fun U hU => (h2.blk.fr hU (by simp)).cell 1
  simp only [Addr.add_lit, Nat.zero_add]
  refine ⟨fun U => Fr [] w2 U, Fr.refl .., some db, m1, e.node, fun U hU => (e2.fr hU (by simp)).cell 1, da, (dl D e.node).length, dc, (D e.node).isSome, ?_, e.name, e2.cell 0, e.short, e2.cell 4, ?_⟩
  · intro U hU
    rw [lookup_dirs (hd.1.fr (h2.fr.trans hU) (by simp)) e.node true, if_pos rfl, hlk, hsm]
  refine Calls.mono (k_may e.name e.short w2) ?_
  rintro _ w3 ⟨rfl, f3⟩
  have e3 := e2.fr f3 (by simp)
  have h3 := h2.fr0 f3
  have n3 := n2.fr f3 (by simp)
  have hbm : bx ≠ mb := by omega
  -- behind the first must
  have go : ∀ (ok : Bool) (ds : List Value), ok = entOk1 D e → Calls prog 74 #[.pointer (some ⟨mb, 0, none⟩), .bool ok] w3 fun r W' => r = .returned (.tuple #[]) ∧ C132_0 ⟨mb, 0, none⟩ ⟨bx, 0, none⟩ ds W' R := by
    intro ok ds hok
    refine Calls.mono (h3.must ok) ?_
    rintro _ w4 ⟨rfl, h4, f4⟩
    refine ⟨rfl, ct132_0 _ _ _ _ _ ?_⟩
    unfold D132_0
    have e4 := e3.fr f4 (by simpa using hbm)
    have n4 := n3.fr f4 (by simpa using b1)
    rintro w5 rfl
    have e5 := e4.fr (Fr.drew w4) (by simp)
    have n5 := n4.fr (Fr.drew w4) (by simp)
    have h5 := h4.fr0 (Fr.drew w4)
    generalize w4.drew = w5 at *
    -- the worlds that the second look may meet
    let S : World → Prop := fun U => Fr [mb] w5 U ∧ ∃ b', Blk U mb [.int .i64 c, .map (some db), .slice a s.nodes.length cap, .map (some ckb), .map (some nb), .bool b']
    have S5 : S w5 := ⟨Fr.refl .., _, h5.blk⟩
    have sM : ∀ U, S U → ∃ b', Blk U mb [.int .i64 c, .map (some db), .slice a s.nodes.length cap, .map (some ckb), .map (some nb), .bool b'] := fun U hU => hU.2
    have sE : ∀ U, S U → Blk U bx (entC e) := fun U hU => e5.fr hU.1 (by simpa using hbm)
    have m0 : ∀ U, S U → U.cell? ⟨mb, 0, none⟩ = some (.int .i64 c) := fun U hU => by obtain ⟨_, hb⟩ := sM U hU; exact hb.cell 0
    have m2 : ∀ U, S U → U.cell? ⟨mb, 2, none⟩ = some (.slice a s.nodes.length cap) := fun U hU => by obtain ⟨_, hb⟩ := sM U hU; exact hb.cell 2
    have m3 : ∀ U, S U → U.cell? ⟨mb, 3, none⟩ = some (.map (some ckb)) := fun U hU => by obtain ⟨_, hb⟩ := sM U hU; exact hb.cell 3
    have m4 : ∀ U, S U → U.cell? ⟨mb, 4, none⟩ = some (.map (some nb)) := fun U hU => by obtain ⟨_, hb⟩ := sM U hU; exact hb.cell 4
    simp only [Addr.add_lit, Nat.zero_add]
    -- behind the second must
    have go2 : ∀ (ok2 : Bool) (ds : List Value), ok2 = entOk2 c s.cooks s.nodes ns e → Calls prog 74 #[.pointer (some ⟨mb, 0, none⟩), .bool ok2] w5 fun r W' => r = .returned (.tuple #[]) ∧ S W' ∧ C132_1 ⟨mb, 0, none⟩ ⟨bx, 0, none⟩ ds W' R := by
      intro ok2 ds hok2
      refine Calls.mono (h5.must ok2) ?_
      rintro _ w6 ⟨rfl, h6, f6⟩
      refine ⟨rfl, ⟨f6, _, h6.blk⟩, ct132_1 _ _ _ _ _ ?_⟩
      unfold D132_1
      have e6 := e5.fr f6 (by simpa using hbm)
      have n6 := n5.fr f6 (by simpa using b1)
      rintro w7 rfl
      have e7 := e6.fr (Fr.drew w6) (by simp)
      have n7 := n6.fr (Fr.drew w6) (by simp)
      have h7 := h6.fr0 (Fr.drew w6)
      generalize w6.drew = w7 at *
      obtain ⟨v1, st1, w8, w9, r8, f8, r9, f9, ck9⟩ := GSet.put (P := prog) u_cmap K_c z_int h7.ck e.cookie
      have n9 := (n7.fr f8 (by simpa using b2)).fr f9 (by simpa using b2)
      obtain ⟨v2, st2, w10, w11, r10, f10, r11, f11, n11⟩ := GSet.put (P := prog) u_smap K_s z_int n9 e.name
      have ck11 := (ck9.fr f10 (by simpa using fun e => b2 e.symm)).fr f11 (by simpa using fun e => b2 e.symm)
      have g8 : Fr [ckb, nb] w7 w8 := f8.mono (by simp)
      have g9 : Fr [ckb, nb] w7 w9 := g8.trans (f9.mono (by simp))
      have g10 : Fr [ckb, nb] w7 w10 := g9.trans (f10.mono (by simp))
      have g11 : Fr [ckb, nb] w7 w11 := g10.trans (f11.mono (by simp))
      have hmn : mb ∉ [ckb, nb] := by simp; omega
      have hbn : bx ∉ [ckb, nb] := by simp; omega
      have hblk7 := h7.blk
      simp only [Addr.add_lit, Nat.zero_add]
      refine ⟨fun U => Fr [ckb, nb] w7 U, Fr.refl .., _, fun U hU => (h7.blk.fr hU hmn).cell 3, _, fun U hU => (e7.fr hU hbn).cell 3, _, fun U hU => (h7.blk.fr hU hmn).cell 4, _, fun U hU => (e7.fr hU hbn).cell 0,
        v1, st1, w8, r8, g8, w9, r9, g9, v2, st2, w10, r10, g10, w11, r11, ?_⟩
      rintro w12 rfl
      have o11 : OwnI w11 w0.heap.size a s.nodes.length cap s.nodes := h7.own.fr g11 (by intro i hi hm; simp at hm; rcases hm with rfl | rfl; exact a3 hi; exact b3 hi)
      have d11 := Fr.drew w11
      have m12 := (h7.blk.fr g11 hmn).fr d11 (by simp)
      have e12 := (e7.fr g11 hbn).fr d11 (by simp)
      have o12 := o11.fr d11 (by simp)
      have ck12 := ck11.fr d11 (by simp)
      have n12 := n11.fr d11 (by simp)
      have g12 : Fr [] w0 w11.drew := (h7.fr.trans' g11 (by intro i hi; simp at hi; right; omega)).trans d11
      have hle12 : W.heap.size ≤ w11.drew.heap.size := by
        have := lt_of_heap e12.choose_spec
        omega
      generalize w11.drew = w12 at *
      have hbA : bx ∉ blks a := fun hm => by have := (hblk _ hm).2; omega
      refine ⟨fun U => Fr (blks a) w12 U, Fr.refl .., _, _, _, fun U hU => (m12.fr hU a2).cell 2, _, fun U hU => (e12.fr hU hbA).cell 1, ?_⟩
      rintro w13 rfl
      refine ⟨Fr.of_nil (Fr.alloc ..), ?_⟩
      obtain ⟨b', d', w14, hr14, ho14, f14, hbl14⟩ := OwnR.push (E := intE) T_ints o12.ownR g12.1 e.node 54 3 (by omega)
      refine ⟨b', _, d', w14, hr14, f14, ?_⟩
      have m14 := m12.fr f14 a2
      refine ⟨⟨_, m14.cell 2⟩, m14.frozen 2, ?_⟩
      rintro w15 rfl
      have m15 := m14.set 2 (.slice b' (s.nodes.length + 1) d')
      have f15 := Fr.setCell' w14 mb 0 2 (.slice b' (s.nodes.length + 1) d')
      generalize w14.setCell ⟨mb, 2, none⟩ (.slice b' (s.nodes.length + 1) d') = w15 at *
      have notm : ∀ x : Nat, x ∉ blks a → x < w12.heap.size → x ∉ blks b' := by
        intro x hx hlt hm
        rcases hbl14 x hm with h' | h'
        · exact hx h'
        · omega
      have g15 : Fr [] w0 w15 := by
        refine (g12.trans' f14 (fun i hi => .inr (h.own.blk i hi).1)).trans' f15 (fun i hi => .inr ?_)
        simp [blks] at hi; omega
      have bm : mb ∉ blks b' := notm mb a2 m12.lt
      have own15 : OwnI w15 w0.heap.size b' (s.nodes.length + 1) d' (s.nodes ++ [e.node]) := (OwnR.ownI ho14).fr f15 (by intro i hi hm; simp [blks] at hm; subst hm; exact bm hi)
      refine hR _ _ ⟨rfl, b', d', ?_, ?_, notm nb b3 n12.lt⟩
      · exact {
          fr := g15
          blk := by
            have : (entStep D c (s, ns) e).1.bad = (s.bad || !ok || !ok2) := by simp [entStep, hok, hok2]
            rw [this]
            have hlen : (entStep D c (s, ns) e).1.nodes.length = s.nodes.length + 1 := by simp [entStep]
            rw [hlen]
            exact m15
          own := by
            have hlen : (entStep D c (s, ns) e).1.nodes.length = s.nodes.length + 1 := by simp [entStep]
            rw [hlen]
            exact own15
          ck := by
            refine ((ck12.fr f14 a3).fr f15 (by simp [blks]; exact fun e => a1 e.symm)).congr ?_
            intro k
            simp [entStep]
          ap := ⟨a1, bm, notm ckb a3 ck12.lt, a4, a5⟩ }
      · refine ((n12.fr f14 b3).fr f15 (by simp [blks]; exact b1)).congr ?_
        intro k
        simp [entStep]
    refine ⟨S, S5, e.cookie, fun U hU => (sE U hU).cell 3, ?_⟩
    refine condC (fun c1 => ?_) (fun c1 => ?_)
    · refine ⟨e.cookie, fun U hU => (sE U hU).cell 3, c, m0, ?_⟩
      refine condC (fun c2 => ?_) (fun c2 => ?_)
      · refine ⟨some ckb, m3, e.cookie, fun U hU => (sE U hU).cell 3, (if e.cookie ∈ s.cooks then 1 else 0), ?_, ?_⟩
        · intro U hU
          exact GSet.lookup (P := prog) u_cmap K_c z_int (h5.ck.fr hU.1 (by simpa using fun e => a1 e.symm)) e.cookie
        refine condC (fun c3 => ?_) (fun c3 => ?_)
        · refine ⟨a, _, cap, m2, e.node, fun U hU => (sE U hU).cell 1, ?_⟩
          refine Calls.mono (k_ContainsI s.nodes e.node a s.nodes.length cap w5 (Own.sli h5.own (by simp)) (by omega)) ?_
          rintro _ w5' ⟨rfl, rfl⟩
          refine ⟨_, rfl, S5, ?_⟩
          refine condC (fun c4 => ?_) (fun c4 => ?_)
          · refine ⟨some nb, m4, e.name, fun U hU => (sE U hU).cell 0, (if hasName ns e.name then 1 else 0), ?_, ?_⟩
            · intro U hU
              exact GSet.lookupB (P := prog) u_smap K_s z_int (n5.fr hU.1 (by simpa using b1)) e.name _ hasName_iff
            refine go2 _ _ ?_
            exact ok2_5 c1 c2 c3 c4
          · refine go2 _ _ ?_
            exact ok2_4 c4
        · refine go2 _ _ ?_
          exact ok2_3 c3
      · refine go2 _ _ ?_
        exact ok2_2 c2
    · refine go2 _ _ ?_
      exact ok2_1 c1
  refine ⟨_, rfl, ?_⟩
  refine condC (fun c1 => ?_) (fun c1 => ?_)
  · refine ⟨_, e3.cell 1, ?_⟩
    refine condC (fun c2 => ?_) (fun c2 => ?_)
    · refine ⟨_, e3.cell 1, ?_⟩
      refine condC (fun c3 => ?_) (fun c3 => ?_)
      · refine ⟨_, e3.cell 2, ?_⟩
        refine go _ _ ?_
        exact ok1_4 c1 c2 c3
      · refine go _ _ ?_
        exact ok1_3 c3
    · refine go _ _ ?_
      exact ok1_2 c2
  · refine go _ _ ?_
    exact ok1_1 c1
end
end Go.Proofs.Tryz
