/- The pool of numbers: New, Take, Give. Conditions: none. -/
import Derived.Test.YtdicohcmccjnoaaGreatHp
namespace Go.Topo
open Go Go.Eng
theorem mem_nth {l : List Int} {x : Int} : x ∈ l ↔ ∃ k, k < l.length ∧ nth l k = x := by
  rw [List.mem_iff_getElem]
  constructor
  · rintro ⟨k, hk, rfl⟩; exact ⟨k, hk, by simp [nth, hk]⟩
  · rintro ⟨k, hk, rfl⟩; exact ⟨k, hk, by simp [nth, hk]⟩

theorem nodup_bound : ∀ (N : Nat) (l : List Int), l.Nodup → (∀ x ∈ l, 1 ≤ x ∧ x ≤ N) → l.length ≤ N
  | 0, l, _, h => by
    cases l with
    | nil => simp
    | cons x r => have := h x (by simp); omega
  | N + 1, l, hn, h => by
    have h1 := nodup_bound N (l.filter (fun x => !(x == ((N + 1 : Nat) : Int)))) (hn.filter _) (by
      intro x hx
      rw [List.mem_filter] at hx
      have := h x hx.1
      have hne : x ≠ ((N + 1 : Nat) : Int) := by simpa using hx.2
      omega)
    have h2 : l.length = l.countP (fun x => x == ((N + 1 : Nat) : Int)) + l.countP (fun x => !(x == ((N + 1 : Nat) : Int))) := by
      rw [List.length_eq_countP_add_countP (fun x => x == ((N + 1 : Nat) : Int))]
      congr 1
      apply List.countP_congr
      intro x _
      simp
    have h3 : l.countP (fun x => x == ((N + 1 : Nat) : Int)) ≤ 1 := (List.nodup_iff_count.1 hn) _
    rw [← List.countP_eq_length_filter] at h1
    omega

theorem keys_mem_alook {m : List (Int × Value)} {v : Value} (h : ∀ p ∈ m, p.2 = v) {k : Int} (hk : k ∈ keys m) : alook m k = some v := by
  cases hl : alook m k with
  | none => rw [mem_keys_iff, hl] at hk; simp at hk
  | some u =>
    unfold alook at hl
    cases hf : m.find? (fun p => p.1 == k) with
    | none => rw [hf] at hl; cases hl
    | some p => rw [hf] at hl; simp at hl; rw [← hl, h p (List.mem_of_find?_eq_some hf)]
theorem alook_none {m : List (Int × Value)} {k : Int} (hk : k ∉ keys m) : alook m k = none := by
  cases hl : alook m k with
  | none => rfl
  | some v => exact absurd ((mem_keys_iff m k).2 (by rw [hl]; rfl)) hk
end Go.Topo

namespace Go.Proofs.Tryz
open Go Go.Eng Go.Topo

structure Pool (w : World) (pb ob : Nat) (a : Option Addr) (n c fresh : Nat) (l : List Int) (m : List (Int × Value)) (out : Int → Prop) : Prop where
  blk : Blk w pb [.int .i64 200, .int .i64 fresh, .slice a n c, .map (some ob)]
  row : OwnI w 0 a n c l
  map : IMap w ob m
  ap : pb ≠ ob ∧ pb ∉ blks a ∧ ob ∉ blks a
  heap : HeapTo (nth l) n
  nodup : l.Nodup
  fr1 : 1 ≤ fresh
  fr2 : fresh ≤ 201
  mem : ∀ x, x ∈ l ↔ 1 ≤ x ∧ x < fresh ∧ x ∉ keys m
  one : ∀ p ∈ m, p.2 = .int .i64 1 ∧ 1 ≤ p.1 ∧ p.1 ≤ 200
  out : ∀ x, x ∈ keys m ↔ out x

def PoolAt (w : World) (pb : Nat) (F : List Nat) (out : Int → Prop) : Prop := ∃ ob a n c fresh l m, F = pb :: ob :: blks a ∧ Pool w pb ob a n c fresh l m out

section
variable {w w' : World} {pb ob n c fresh : Nat} {a : Option Addr} {l : List Int} {m : List (Int × Value)} {out out' : Int → Prop} {F G : List Nat}
theorem Pool.fr (h : Pool w pb ob a n c fresh l m out) (hf : Fr G w w') (hG : ∀ i ∈ pb :: ob :: blks a, i ∉ G) : Pool w' pb ob a n c fresh l m out :=
  { h with blk := h.blk.fr hf (hG _ (by simp)), row := h.row.fr hf (fun i hi => hG i (by simp [hi])), map := h.map.fr hf (hG _ (by simp)) }
theorem PoolAt.fr (h : PoolAt w pb F out) (hf : Fr G w w') (hG : ∀ i ∈ F, i ∉ G) : PoolAt w' pb F out := by
  obtain ⟨ob, a, n, c, fresh, l, m, rfl, hp⟩ := h
  exact ⟨ob, a, n, c, fresh, l, m, rfl, hp.fr hf hG⟩
theorem PoolAt.congr (h : PoolAt w pb F out) (he : ∀ x, out x ↔ out' x) : PoolAt w pb F out' := by
  obtain ⟨ob, a, n, c, fresh, l, m, rfl, hp⟩ := h
  exact ⟨ob, a, n, c, fresh, l, m, rfl, { hp with out := fun x => (hp.out x).trans (he x) }⟩
theorem PoolAt.lt (h : PoolAt w pb F out) : ∀ i ∈ F, i < w.heap.size := by
  obtain ⟨ob, a, n, c, fresh, l, m, rfl, hp⟩ := h
  intro i hi
  simp only [List.mem_cons] at hi
  rcases hi with rfl | rfl | hi
  · exact hp.blk.lt
  · exact hp.map.lt
  · exact (Own.blk hp.row i hi).2
theorem Pool.small (h : Pool w pb ob a n c fresh l m out) : n ≤ 200 := by
  rw [h.row.len]
  exact nodup_bound 200 l h.nodup (fun x hx => by
    have := (h.mem x).1 hx
    have := h.fr2
    omega)
theorem Pool.look (h : Pool w pb ob a n c fresh l m out) (x : Int) : (Instr.lookup 108 (.map (some ob)) (.int .i64 x) false).run prog w = .ok (.int .i64 (if x ∈ keys m then 1 else 0)) w := by
  rw [lookup_files h.map x false]
  by_cases hx : x ∈ keys m
  · rw [keys_mem_alook (fun p hp => (h.one p hp).1) hx, if_pos hx]; rfl
  · rw [alook_none hx, if_neg hx]; rfl
theorem Pool.put (h : Pool w pb ob a n c fresh l m out) {x : Int} (h1 : 1 ≤ x) (h2 : x ≤ 200) (hx : x ∉ l) (hx' : x ∉ keys m) :
    ∃ w', (Instr.mapUpdate 108 (.map (some ob)) (.int .i64 x) (.int .i64 1)).run prog w = .ok () w' ∧ Pool w' pb ob a n c fresh l (aput m x (.int .i64 1)) (fun y => out y ∨ y = x) ∧ Fr [ob] w w' := by
  obtain ⟨w', hr, hm, hf, _⟩ := IMap.update u_files u_int h.map x (.int .i64 1)
  refine ⟨w', hr, ?_, hf⟩
  have hk : ∀ y, y ∈ keys (aput m x (.int .i64 1)) ↔ y ∈ keys m ∨ y = x := by
    intro y
    rw [keys_aput, if_neg hx']
    simp
  exact {
    blk := h.blk.fr hf (by simp; exact h.ap.1)
    row := h.row.fr hf (by intro i hi; simp; rintro rfl; exact h.ap.2.2 hi)
    map := hm
    ap := h.ap
    heap := h.heap
    nodup := h.nodup
    fr1 := h.fr1
    fr2 := h.fr2
    mem := by
      intro y
      rw [h.mem y, hk]
      constructor
      · rintro ⟨a1, a2, a3⟩
        refine ⟨a1, a2, ?_⟩
        rintro (e | rfl)
        · exact a3 e
        · exact hx ((h.mem y).2 ⟨a1, a2, a3⟩)
      · rintro ⟨a1, a2, a3⟩
        exact ⟨a1, a2, fun e => a3 (.inl e)⟩
    one := by
      intro p hp
      rcases mem_aput hp with rfl | hp
      · exact ⟨rfl, h1, h2⟩
      · exact h.one p hp
    out := by intro y; rw [hk, h.out y] }
end

/-- Take -/
theorem k_Take (pb : Nat) (F : List Nat) (out : Int → Prop) (w : World) (h : PoolAt w pb F out) :
    Calls prog 79 #[.pointer (some ⟨pb, 0, none⟩)] w fun e w' => ∃ nn : Int, 1 ≤ nn ∧ ¬ out nn ∧ (∀ k, 1 ≤ k → k < nn → out k) ∧ Fr F w w' ∧
      ((nn ≤ 200 ∧ e = .returned (.tuple #[.int .i64 nn, .bool true]) ∧ PoolAt w' pb F (fun y => out y ∨ y = nn)) ∨ (200 < nn ∧ e = .returned (.tuple #[.int .i64 0, .bool false]) ∧ PoolAt w' pb F out)) := by
  obtain ⟨ob, a, n, c, fresh, l, m, rfl, hp⟩ := h
  refine c79 _ _ _ (withR (X := N79 _ _) ?_)
  intro R hR
  unfold N79
  refine lp79_0 _ (fun q W => ∃ fr l', q = 202 - fr ∧ Pool W pb ob a n c fr l' m out ∧ Fr (pb :: ob :: blks a) w W) _ ?_ (202 - fresh) w ⟨fresh, l, rfl, hp, Fr.refl ..⟩ _
  rintro q ds W ⟨fr, l, rfl, hW, hf⟩
  unfold B79_0
  rintro _ rfl
  have hd := hW.fr (Fr.drew W) (by simp)
  have hfd := hf.trans (Fr.of_nil (Fr.drew W))
  have hsm := hd.small
  have h1 := hW.fr1
  have h2 := hW.fr2
  have c0 : W.drew.cell? ⟨pb, 0, none⟩ = some (.int .i64 200) := hd.blk.cell 0
  have c1 : W.drew.cell? ⟨pb, 1, none⟩ = some (.int .i64 fr) := hd.blk.cell 1
  have c2 : W.drew.cell? ⟨pb, 2, none⟩ = some (.slice a n c) := hd.blk.cell 2
  have c3 : W.drew.cell? ⟨pb, 3, none⟩ = some (.map (some ob)) := hd.blk.cell 3
  simp only [Addr.add_lit, Nat.zero_add]
  refine ⟨fun V => V = W.drew, rfl, some ob, ?_, fr, ?_, (if ((fr : Nat) : Int) ∈ keys m then 1 else 0), ?_, ?_⟩
  · rintro _ rfl; exact c3
  · rintro _ rfl; exact c1
  · rintro _ rfl; exact hd.look _
  by_cases hk : ((fr : Nat) : Int) ∈ keys m
  · rw [if_pos hk, decide_eq_true (by omega), cond_true]
    refine ⟨_, c1, ⟨_, c1⟩, hd.blk.frozen 1, ?_⟩
    rintro _ rfl
    have hle : fr ≤ 200 := by
      obtain ⟨p, hp, e⟩ := List.mem_map.1 hk
      have := (hd.one p hp).2
      omega
    have e1 : IntKind.wrap .i64 ((fr : Int) + 1) = ((fr + 1 : Nat) : Int) := by rw [wr (by omega) (by omega)]; omega
    rw [e1]
    have hs := Fr.setCell W.drew ⟨pb, 1, none⟩ (.int .i64 ((fr + 1 : Nat) : Int))
    refine ⟨trivial, 202 - (fr + 1), by omega, fr + 1, l, rfl, ?_, hfd.trans (hs.mono (by simp))⟩
    exact {
      blk := hd.blk.set 1 _
      row := hd.row.fr hs (by intro i hi; simp only [List.mem_singleton]; rintro rfl; exact hd.ap.2.1 hi)
      map := hd.map.fr hs (by simp only [List.mem_singleton]; intro e; exact hd.ap.1 e.symm)
      ap := hd.ap
      heap := hd.heap
      nodup := hd.nodup
      fr1 := by omega
      fr2 := by omega
      mem := by
        intro x
        rw [hd.mem x]
        constructor
        · rintro ⟨a1, a2, a3⟩; exact ⟨a1, by omega, a3⟩
        · rintro ⟨a1, a2, a3⟩
          refine ⟨a1, ?_, a3⟩
          have : x ≠ fr := by rintro rfl; exact a3 hk
          omega
      one := hd.one
      out := hd.out }
  · rw [if_neg hk, decide_eq_false (by omega), cond_false]
    refine ⟨_, c1, _, _, _, c2, ?_⟩
    refine Calls.mono (k_Len a n c W.drew) ?_
    rintro _ _ ⟨rfl, rfl⟩
    refine ⟨_, rfl, ?_⟩
    have hlen := hd.row.len
    -- no number given back is taken: fresh
    have fin : (n = 0) → ∃ (x_40 : Int), W.drew.cell? ⟨pb, 0, none⟩ = some (.int .i64 x_40) ∧ cond (decide (((fr : Nat) : Int) > x_40))
        (R (.returned (.tuple #[(.int .i64 (0)), (.bool false)])) W.drew)
        (∃ (x_41 : Option Nat), W.drew.cell? ⟨pb, 3, none⟩ = some (.map x_41) ∧ ∃ wv_42, (Instr.mapUpdate 108 (.map x_41) (.int .i64 fr) (.int .i64 (1))).run prog W.drew = .ok () wv_42 ∧
          R (.returned (.tuple #[(.int .i64 fr), (.bool true)])) wv_42) := by
      intro hn
      have hnil : l = [] := List.eq_nil_of_length_eq_zero (by omega)
      have hall : ∀ k, 1 ≤ k → k < ((fr : Nat) : Int) → out k := by
        intro k k1 k2
        rw [← hd.out k]
        by_cases hkk : k ∈ keys m
        · exact hkk
        · have := (hd.mem k).2 ⟨k1, k2, hkk⟩
          rw [hnil] at this; cases this
      refine ⟨200, c0, ?_⟩
      by_cases hb : fr > 200
      · rw [decide_eq_true (by omega), cond_true]
        exact hR _ _ ⟨fr, by omega, fun h => hk ((hd.out _).2 h), hall, hfd, .inr ⟨by omega, rfl, ob, a, n, c, fr, l, m, rfl, hd⟩⟩
      · rw [decide_eq_false (by omega), cond_false]
        obtain ⟨w', hr, hp', hf'⟩ := hd.put (x := fr) (by omega) (by omega) (by rw [hnil]; simp) hk
        exact ⟨some ob, c3, w', hr, hR _ _ ⟨fr, by omega, fun h => hk ((hd.out _).2 h), hall, hfd.trans (hf'.mono (by simp)), .inl ⟨by omega, rfl, ob, a, n, c, fr, l, _, rfl, hp'⟩⟩⟩
    by_cases hn : n = 0
    · rw [decide_eq_false (by omega), cond_false]
      exact fin hn
    · rw [decide_eq_true (by omega), cond_true]
      obtain ⟨b, ha, hx0⟩ := hd.row.at (i := 0) (by omega)
      refine ⟨_, _, _, c2, ?_⟩
      have hmem0 : nth l 0 ∈ l := mem_nth.2 ⟨0, by omega, rfl⟩
      obtain ⟨m1, m2, m3⟩ := (hd.mem _).1 hmem0
      obtain ⟨n, rfl⟩ : ∃ n', n = n' + 1 := ⟨n - 1, by omega⟩
      have hpop := k_hPop pb 2 0 a n c l _ W.drew hd.blk rfl hd.row (by rintro i hi rfl; exact hd.ap.2.1 hi) (by omega) hd.heap
      subst ha
      simp only [optW, Addr.add_lit, Int.toNat_zero, Nat.mul_one, Nat.zero_add]
      refine ⟨⟨by omega, by omega⟩, nth l 0, hx0, ?_⟩
      rw [decide_eq_true m2, cond_true]
      refine Calls.mono hpop ?_
      rintro _ w1 ⟨rfl, l', hb', ho', hperm, hH', hf'⟩
      have hf1 : Fr (pb :: ob :: blks (some ⟨b, 0, none⟩)) w w1 := hfd.trans (hf'.mono (by intro i hi; simp only [List.mem_cons] at *; rcases hi with h | h <;> simp [h]))
      have hnd : l'.Nodup ∧ nth l 0 ∉ l' := by
        have := (hperm.nodup_iff).2 hd.nodup
        rw [List.nodup_append] at this
        exact ⟨this.1, fun hm => this.2.2 _ hm _ (by simp) rfl⟩
      have hmm : ∀ x, x ∈ l' ↔ x ∈ l ∧ x ≠ nth l 0 := by
        intro x
        have := hperm.mem_iff (a := x)
        rw [List.mem_append, List.mem_singleton] at this
        rw [← this]
        constructor
        · intro hx; exact ⟨.inl hx, fun e => hnd.2 (e ▸ hx)⟩
        · rintro ⟨hx | hx, hne⟩
          · exact hx
          · exact absurd hx hne
      have hmap1 : IMap w1 ob m := hd.map.fr hf' (by simp only [List.mem_cons]; rintro (e | e); (exact hd.ap.1 e.symm); (exact hd.ap.2.2 e))
      refine ⟨_, rfl, _, rfl, 200, hb'.cell 0, ?_⟩
      rw [decide_eq_false (by omega), cond_false]
      obtain ⟨w2, hr2, hm2, hf2, _⟩ := IMap.update u_files u_int hmap1 (nth l 0) (.int .i64 1)
      refine ⟨some ob, hb'.cell 3, w2, hr2, hR _ _ ⟨nth l 0, m1, fun h => m3 ((hd.out _).2 h), ?_, hf1.trans (hf2.mono (by simp)), .inl ⟨by omega, rfl, ob, _, n, c, fr, l', aput m (nth l 0) (.int .i64 1), rfl, ?_⟩⟩⟩
      · intro k k1 k2
        rw [← hd.out k]
        by_cases hkk : k ∈ keys m
        · exact hkk
        · have hkl := (hd.mem k).2 ⟨k1, by omega, hkk⟩
          obtain ⟨i, hi, rfl⟩ := mem_nth.1 hkl
          have := root_min hd.heap i (by omega)
          omega
      · have hk : ∀ y, y ∈ keys (aput m (nth l 0) (.int .i64 1)) ↔ y ∈ keys m ∨ y = nth l 0 := by
          intro y
          rw [keys_aput, if_neg m3]
          simp
        exact {
          blk := hb'.fr hf2 (by simp; exact hd.ap.1)
          row := OwnI.fr ho' hf2 (by intro i hi; simp; rintro rfl; exact hd.ap.2.2 hi)
          map := hm2
          ap := hd.ap
          heap := hH'
          nodup := hnd.1
          fr1 := h1
          fr2 := h2
          mem := by
            intro y
            rw [hmm y, hd.mem y, hk]
            constructor
            · rintro ⟨⟨a1, a2, a3⟩, a4⟩
              exact ⟨a1, a2, fun e => e.elim a3 a4⟩
            · rintro ⟨a1, a2, a3⟩
              exact ⟨⟨a1, a2, fun e => a3 (.inl e)⟩, fun e => a3 (.inr e)⟩
          one := by
            intro p hp
            rcases mem_aput hp with rfl | hp
            · exact ⟨rfl, m1, by omega⟩
            · exact hd.one p hp
          out := by intro y; rw [hk, hd.out y] }

/-- Give, of a number that is out -/
theorem k_Give (pb : Nat) (F : List Nat) (out : Int → Prop) (x : Int) (w : World) (h : PoolAt w pb F out) (hx : out x) :
    Calls prog 119 #[.pointer (some ⟨pb, 0, none⟩), .int .i64 x] w fun e w' => e = .returned (.bool true) ∧ Fr F w w' ∧ ∃ F', PoolAt w' pb F' (fun y => out y ∧ y ≠ x) ∧ ∀ i ∈ F', i ∈ F ∨ w.heap.size ≤ i := by
  obtain ⟨ob, a, n, c, fr, l, m, rfl, hd⟩ := h
  refine c119 _ _ _ _ (withR (X := N119 _ _ _) ?_)
  intro R hR
  unfold N119
  have hsm := hd.small
  have h1 := hd.fr1
  have h2 := hd.fr2
  have hk : x ∈ keys m := (hd.out x).2 hx
  have c1 : w.cell? ⟨pb, 1, none⟩ = some (.int .i64 fr) := hd.blk.cell 1
  have c3 : w.cell? ⟨pb, 3, none⟩ = some (.map (some ob)) := hd.blk.cell 3
  have hx12 : 1 ≤ x ∧ x ≤ 200 := by
    obtain ⟨p, hp, rfl⟩ := List.mem_map.1 hk
    exact (hd.one p hp).2
  have hxl : x ∉ l := fun hm => ((hd.mem x).1 hm).2.2 hk
  simp only [Addr.add_lit, Nat.zero_add]
  have hlk := hd.look x
  rw [if_pos hk] at hlk
  refine ⟨some ob, c3, 1, hlk, ?_⟩
  rw [show ((1 : Int) == 0) = false from rfl, cond_false]
  obtain ⟨w1, hr1, hm1, hf1, _⟩ := IMap.delete (P := prog) u_files u_int hd.map x 0 3
  have hk1 : ∀ y, y ∈ keys (adel m x) ↔ y ∈ keys m ∧ y ≠ x := by
    intro y
    rw [keys_adel, List.mem_filter]
    simp
  have hb1 := hd.blk.fr hf1 (by simp; exact hd.ap.1)
  have hr1' := hd.row.fr hf1 (by intro i hi; simp; rintro rfl; exact hd.ap.2.2 hi)
  refine ⟨some ob, c3, w1, hr1, fr, hb1.cell 1, ?_⟩
  have one1 : ∀ p ∈ adel m x, p.2 = .int .i64 1 ∧ 1 ≤ p.1 ∧ p.1 ≤ 200 := fun p hp => hd.one p (mem_adel hp)
  have out1 : ∀ y, y ∈ keys (adel m x) ↔ out y ∧ y ≠ x := by intro y; rw [hk1, hd.out y]
  by_cases hlt : x < ((fr : Nat) : Int)
  · rw [decide_eq_true hlt, cond_true]
    refine Calls.mono (k_hPush pb 2 0 a n c l x _ w1 hb1 rfl hr1' (by rintro i hi rfl; exact hd.ap.2.1 hi) (Nat.zero_le _) (by omega) hd.heap) ?_
    rintro _ w2 ⟨rfl, a', c', l', hb2, ho2, hperm, hH, hbl, hf2⟩
    refine ⟨rfl, hR _ _ ⟨rfl, (hf1.mono (by simp)).trans (hf2.mono (by intro i hi; simp only [List.mem_cons] at *; rcases hi with h | h <;> simp [h])), pb :: ob :: blks a', ⟨ob, a', n + 1, c', fr, l', adel m x, rfl, ?_⟩, ?_⟩⟩
    · have hob : ob ∉ blks a' := by
        intro hm
        rcases hbl _ hm with h' | h'
        · exact hd.ap.2.2 h'
        · have := hm1.lt; omega
      have hpb : pb ∉ blks a' := by
        intro hm
        rcases hbl _ hm with h' | h'
        · exact hd.ap.2.1 h'
        · have := hb1.lt; omega
      exact {
        blk := hb2
        row := ho2
        map := hm1.fr hf2 (by simp only [List.mem_cons]; rintro (e | e); (exact hd.ap.1 e.symm); (exact hd.ap.2.2 e))
        ap := ⟨hd.ap.1, hpb, hob⟩
        heap := hH
        nodup := by
          rw [hperm.nodup_iff, List.nodup_append]
          exact ⟨hd.nodup, by simp, by intro y hy z hz; simp at hz; subst hz; rintro rfl; exact hxl hy⟩
        fr1 := h1
        fr2 := h2
        mem := by
          intro y
          rw [hperm.mem_iff, List.mem_append, List.mem_singleton, hd.mem y, hk1]
          constructor
          · rintro (⟨a1, a2, a3⟩ | rfl)
            · exact ⟨a1, a2, fun e => a3 e.1⟩
            · exact ⟨hx12.1, hlt, fun e => e.2 rfl⟩
          · rintro ⟨a1, a2, a3⟩
            by_cases e : y = x
            · exact .inr e
            · exact .inl ⟨a1, a2, fun h => a3 ⟨h, e⟩⟩
        one := one1
        out := out1 }
    · intro i hi
      simp only [List.mem_cons] at hi
      rcases hi with rfl | rfl | hi
      · simp
      · simp
      · rcases hbl i hi with h' | h'
        · simp [h']
        · right; have := hf1.1; omega
  · rw [decide_eq_false hlt, cond_false]
    refine hR _ _ ⟨rfl, hf1.mono (by simp), pb :: ob :: blks a, ⟨ob, a, n, c, fr, l, adel m x, rfl, ?_⟩, fun i hi => .inl hi⟩
    exact {
      blk := hb1
      row := hr1'
      map := hm1
      ap := hd.ap
      heap := hd.heap
      nodup := hd.nodup
      fr1 := h1
      fr2 := h2
      mem := by
        intro y
        rw [hd.mem y, hk1]
        constructor
        · rintro ⟨a1, a2, a3⟩; exact ⟨a1, a2, fun e => a3 e.1⟩
        · rintro ⟨a1, a2, a3⟩
          exact ⟨a1, a2, fun h => a3 ⟨h, fun e => hlt (e ▸ a2)⟩⟩
      one := one1
      out := out1 }

/-- New, of none that are out -/
theorem k_idNew (a0 : Option Addr) (c0 : Nat) (w : World) :
    Calls prog 56 #[.int .i64 200, .slice a0 0 c0] w fun e w' => ∃ pb F, e = .returned (.pointer (some ⟨pb, 0, none⟩)) ∧ PoolAt w' pb F (fun _ => False) ∧ (∀ i ∈ F, w.heap.size ≤ i) ∧ pb ∈ F ∧ Fr [] w w' := by
  refine c56 _ _ _ _ _ _ (withR (X := N56 _ _ _ _ _) ?_)
  intro R hR
  unfold N56
  rintro w1 rfl
  rintro w2 rfl
  refine lp56_0 _ _ _ _ _ (fun _ i W => i = 0 ∧ W = ((w.alloc (.map #[] 0)).alloc _)) _ ?_ 0 _ _ ⟨rfl, rfl⟩ _
  rintro q _ ds W ⟨rfl, rfl⟩
  unfold B56_0
  rw [show decide ((0 : Int) < ((0 : Nat) : Int)) = false from rfl, cond_false]
  have h1 : Fr [] w (w.alloc (.map #[] 0)) := Fr.alloc ..
  refine hR _ _ ⟨w.heap.size + 1, [w.heap.size + 1, w.heap.size], by rw [size_alloc], ⟨w.heap.size, none, 0, 0, 1, [], [], rfl, ?_⟩, by intro i hi; simp at hi; omega, by simp, h1.trans (Fr.alloc ..)⟩
  exact {
    blk := by
      have := Blk.new (w.alloc (.map #[] 0)) [.int .i64 200, .int .i64 1, .slice none 0 0, .map (some w.heap.size)] 205
      rw [size_alloc] at this
      exact this
    row := Own.nil ..
    map := (IMap.new w).fr (Fr.alloc ..) (by simp)
    ap := ⟨by omega, by simp [blks], by simp [blks]⟩
    heap := fun k _ hk => by omega
    nodup := by simp
    fr1 := by omega
    fr2 := by omega
    mem := by
      intro x
      simp only [List.not_mem_nil, false_iff]
      rintro ⟨a1, a2, _⟩
      have : x < 1 := a2
      omega
    one := by simp
    out := by simp [keys] }
end Go.Proofs.Tryz
