/- Unlink, Move. Conditions: none. -/
import Derived.Test.YtdicohcmccjnoaaGreatLn
import Derived.Test.YtdicohcmccjnoaaGreatPd
namespace Go.Proofs.Tryz
open Go Go.Eng Go.Topo
section
variable {w w' : World} {tb : Nat} {F G X X' : List Nat} {t : RT}

/-- Give, to the tree's pool -/
theorem TM.give {db fb pb : Nat} {PF : List Nat} {dm fm : List (Int × Value)} {D : Int → Option (List Ent)} {fl : Int → Bool} {out : Int → Prop} {next : Int}
    (h : TM w tb db fb pb PF X dm fm D fl out next) (x : Int) (hx : out x) :
    Calls prog 119 #[.pointer (some ⟨pb, 0, none⟩), .int .i64 x] w fun e w' => e = .returned (.bool true) ∧ Fr PF w w' ∧ ∃ PF', TM w' tb db fb pb PF' X dm fm D fl (fun y => out y ∧ y ≠ x) next ∧ ∀ i ∈ PF', i ∈ PF ∨ w.heap.size ≤ i := by
  refine Calls.mono (k_Give pb PF out x w h.pool hx) ?_
  rintro _ w' ⟨rfl, hf, PF', hp, hext⟩
  obtain ⟨a1, a2, a3, a4, a5, a6⟩ := h.ap
  have old : ∀ b, b < w.heap.size → b ∉ PF → b ∉ PF' := fun b hb hn hm => (hext b hm).elim hn (fun hle => by omega)
  refine ⟨rfl, hf, PF', ?_, hext⟩
  exact {
    blk := h.blk.fr hf a4
    dmap := h.dmap.fr hf a5
    fmap := h.fmap.fr hf a6
    pool := hp
    ap := ⟨a1, a2, a3, old _ h.blk.lt a4, old _ h.dmap.lt a5, old _ h.fmap.lt a6⟩
    dirs := by
      intro m
      have hd := h.dirs m
      split
      · rename_i l' hl'
        rw [hl'] at hd
        obtain ⟨h1, a', c', ha, he'⟩ := hd
        refine ⟨h1, a', c', ha, Sli.move he' hf (by intro i hi; simp [hi]) ?_⟩
        intro i hi
        simp only [List.cons_append, List.mem_cons, List.mem_append] at hi ⊢
        rcases hi with h' | h' | h' | h' | h'
        · exact .inl (.inl h')
        · exact .inl (.inr (.inl h'))
        · exact .inl (.inr (.inr (.inl h')))
        · rcases hext i h' with h'' | h''
          · exact .inl (.inr (.inr (.inr (.inl h''))))
          · exact .inr h''
        · exact .inl (.inr (.inr (.inr (.inr h'))))
      · rename_i hl'
        rw [hl'] at hd
        exact hd
    files := h.files }

theorem find_ok {x : Ent} {d : Int} {nm : ByteArray} (h : t.find d nm = .ok x) : listErr t.L d = 0 ∧ findIn (entsOf t.L d) nm = some x := by
  unfold RT.find at h
  split at h
  · cases h
  · rename_i he
    refine ⟨by simpa using he, ?_⟩
    split at h
    · cases h; assumption
    · cases h
theorem kind2_of {d : Int} (he : listErr t.L d = 0) : kindOf t.L d = 2 := by
  unfold listErr at he
  split at he
  · assumption
  · split at he <;> omega

/-- Unlink -/
theorem k_Unlink (h : TreeAt w tb F X t) (hX : ∀ i ∈ X, i < w.heap.size) (dir : Int) (nm : ByteArray) (isDir : Bool) :
    Calls prog 60 #[.pointer (some ⟨tb, 0, none⟩), .int .i64 dir, .string nm, .bool isDir] w fun e w' =>
      e = .returned (.int .i64 (t.unlink dir nm isDir).2) ∧ ∃ F', TreeAt w' tb F' X (t.unlink dir nm isDir).1 ∧ (∀ i ∈ F', i ∈ F ∨ w.heap.size ≤ i) ∧ Fr F w w' := by
  refine c60 _ _ _ _ _ _ (withR (X := N60 _ _ _ _ _) ?_)
  intro R hR
  unfold N60
  have bad : ∀ (w' : World) (er : Int), Fr [] w w' → t.unlink dir nm isDir = (t, er) → R (.returned (.int .i64 er)) w' := by
    intro w' er hf he
    refine hR _ _ ?_
    rw [he]
    exact ⟨rfl, F, h.fr0 hf, fun _ hi => .inl hi, Fr.of_nil hf⟩
  obtain ⟨ferr, fent⟩ := find_eq h.2 dir nm
  refine Calls.mono (k_Find h.1 dir nm) ?_
  rintro _ w1 ⟨rfl, f1⟩
  refine ⟨_, _, _, _, _, _, rfl, ?_⟩
  rintro w2 rfl
  refine set5 (Blk.new w1 [(.string ⟨#[]⟩), (.int .i64 0), (.bool false), (.int .i64 0), (.int .i64 0)] 117) _ _ _ _ _ _ ?_
  intro w3 b3 f3
  have f03 : Fr [] w w3 := (f1.trans (Fr.alloc ..)).trans' f3 (by intro i hi; simp at hi; right; have := f1.1; omega)
  rw [ferr]
  rw [fent] at b3
  cases hfind : t.find dir nm with
  | error er =>
    have hne := findErr_ne t dir nm hfind
    simp only [hfind] at b3 ⊢
    rw [bne_iff_ne.2 hne, cond_true]
    refine bad w3 er f03 ?_
    unfold RT.unlink
    rw [hfind]
  | ok x =>
    simp only [hfind] at b3 ⊢
    rw [show ((0 : Int) != 0) = false from rfl, cond_false]
    obtain ⟨hle, hx⟩ := find_ok hfind
    have hxm := findIn_some hx
    have hitem := mem_entsOf.1 hxm.1
    have hnode := h.2.node _ hitem
    simp only at hnode
    have c1 : w3.cell? ⟨w1.heap.size, 1, none⟩ = some (.int .i64 x.node) := b3.cell 1
    have c2 : w3.cell? ⟨w1.heap.size, 2, none⟩ = some (.bool x.dir) := b3.cell 2
    by_cases hb1 : isDir = true ∧ x.dir = false
    · obtain ⟨rfl, hxd⟩ := hb1
      rw [cond_true]
      refine ⟨_, c2, ?_⟩
      rw [hxd, Bool.not_false, cond_true]
      refine bad w3 8 f03 ?_
      unfold RT.unlink
      rw [hfind]
      simp [hxd]
    · by_cases hb2 : isDir = false ∧ x.dir = true
      · obtain ⟨rfl, hxd⟩ := hb2
        rw [cond_false, Bool.not_false, cond_true]
        refine ⟨_, c2, ?_⟩
        rw [hxd, cond_true]
        refine bad w3 7 f03 ?_
        unfold RT.unlink
        rw [hfind]
        simp [hxd]
      · have hk2 := kind2_of hle
        have hul : t.unlink dir nm isDir = if entsOf t.L x.node ≠ [] then (t, 9) else (t.drop dir nm, 0) := by
          unfold RT.unlink
          rw [hfind]
          simp only
          rw [if_neg hb1, if_neg hb2]
        obtain ⟨i, hidx, hfi⟩ : ∃ i, (entsOf t.L dir).findIdx? (fun x => decide (x.name = nm)) = some i ∧ i < (entsOf t.L dir).length := by
          rcases find_idx (entsOf t.L dir) nm with ⟨_, g2⟩ | ⟨i, y, g1, g2, g3⟩
          · rw [hx] at g2; cases g2
          · exact ⟨i, g1, findIdx_le g1⟩
        -- the way on, from the place where both kinds meet
        have f04 : Fr [] w w3.drew := f03.trans (Fr.drew w3)
        have b4 : Blk w3.drew w1.heap.size _ := b3.fr (Fr.drew w3) (by simp)
        have hv : w.heap.size ≤ w1.heap.size := f1.1
        obtain ⟨⟨db, fb, pb, PF, dm, fm, rfl, h4⟩, hI⟩ := h.fr0 f04
        have hvF : w1.heap.size ∉ tb :: db :: fb :: PF := fun hm => by have := h.1.lt _ hm; omega
        obtain ⟨a0, c0, he0, _, hlk, _⟩ := h4.look x.node
        rw [getD_Dt hI] at he0 hlk
        have hlook := lookup_dirs h4.dmap x.node false
        rw [hlk] at hlook
        have hD : Dt t.L dir = some (entsOf t.L dir) := by unfold Dt; rw [if_pos hk2]
        have hX4 : ∀ i ∈ X, i < w3.drew.heap.size := fun i hi => by have := hX i hi; have := f04.1; omega
        have hsame : isDir = x.dir := by
          cases hi : isDir <;> cases hxd : x.dir
          · rfl
          · exact absurd ⟨hi, hxd⟩ hb2
          · exact absurd ⟨hi, hxd⟩ hb1
          · rfl
        subst hsame
        rcases Bool.eq_false_or_eq_true x.dir with hxd | hxd
        case' inl =>
          rw [hxd, cond_true]
          refine ⟨_, c2, ?_⟩
          rw [hxd, Bool.not_true, cond_false, cond_false]
        case' inr =>
          rw [hxd, cond_false, Bool.not_false, cond_true]
          refine ⟨_, c2, ?_⟩
          rw [hxd, cond_false]
        all_goals
          rintro w4 rfl
          refine ⟨fun W => W = w3.drew, rfl, some db, ?_, x.node, ?_, a0, (entsOf t.L x.node).length, c0, ?_, ?_⟩
          · rintro _ rfl; exact h4.blk.cell 0
          · rintro _ rfl; exact b4.cell 1
          · rintro _ rfl; exact hlook
          by_cases hemp : entsOf t.L x.node = []
          · rw [hemp]
            rw [show decide ((((([] : List Ent).length : Nat) : Int)) > 0) = false from rfl, cond_false]
            refine Calls.mono (k_drop ⟨db, fb, pb, PF, dm, fm, rfl, h4⟩ hX4 dir nm _ hD i hidx) ?_
            rintro _ w5 ⟨rfl, ⟨db', fb', pb', PF', dm', fm', hF, h5⟩, f5⟩
            simp only [List.cons.injEq, true_and] at hF
            obtain ⟨rfl, rfl, rfl⟩ := hF
            have f05 := (Fr.of_nil (G := tb :: db :: fb :: PF) f04).trans f5
            have g5 : Blk w5 w1.heap.size _ := b4.fr f5 hvF
            refine ⟨rfl, ?_⟩
            rintro w6 rfl
            have h6 := h5.fr (Fr.drew w5) (X' := X) (by simp) (fun _ hi => .inl hi)
            have g6 := g5.fr (Fr.drew w5) (by simp)
            obtain ⟨w7, dm7, hr7, h7, f7, _⟩ := h6.delDir x.node 0 3
            have g7 := g6.fr f7 (by simp only [List.mem_singleton]; rintro e; exact hvF (by simp [e]))
            refine ⟨fun W => W.cell? ⟨tb, 0, none⟩ = some (.map (some db)) ∧ W.cell? ⟨w1.heap.size, 1, none⟩ = some (.int .i64 x.node), ⟨h6.blk.cell 0, g6.cell 1⟩, some db, fun W hW => hW.1, x.node, fun W hW => hW.2, w7, hr7, ⟨h7.blk.cell 0, g7.cell 1⟩, ?_⟩
            rintro w8 rfl
            have h8 := h7.fr (Fr.drew w7) (X' := X) (by simp) (fun _ hi => .inl hi)
            have g8 := g7.fr (Fr.drew w7) (by simp)
            obtain ⟨w9, fm9, hr9, h9, f9, _⟩ := h8.delFile x.node 0 3
            have g9 := g8.fr f9 (by simp only [List.mem_singleton]; rintro e; exact hvF (by simp [e]))
            simp only [Addr.add_lit, Nat.zero_add]
            refine ⟨fun W => W.cell? ⟨tb, 1, none⟩ = some (.map (some fb)) ∧ W.cell? ⟨w1.heap.size, 1, none⟩ = some (.int .i64 x.node), ⟨h8.blk.cell 1, g8.cell 1⟩, some fb, fun W hW => hW.1, x.node, fun W hW => hW.2, w9, hr9, ⟨h9.blk.cell 1, g9.cell 1⟩, ?_⟩
            rintro w10 rfl
            have h10 := h9.fr (Fr.drew w9) (X' := X) (by simp) (fun _ hi => .inl hi)
            have g10 := g9.fr (Fr.drew w9) (by simp)
            have f010 : Fr (tb :: db :: fb :: PF) w w9.drew := (((f05.trans (Fr.of_nil (Fr.drew w5))).trans (f7.mono (by simp))).trans (Fr.of_nil (Fr.drew w7))).trans ((f9.mono (by simp)).trans (Fr.of_nil (Fr.drew w9)))
            refine ⟨fun W => W.cell? ⟨tb, 2, none⟩ = some (.pointer (some ⟨pb', 0, none⟩)) ∧ W.cell? ⟨w1.heap.size, 1, none⟩ = some (.int .i64 x.node), ⟨h10.blk.cell 2, g10.cell 1⟩, _, fun W hW => hW.1, x.node, fun W hW => hW.2, ?_⟩
            refine Calls.mono (h10.give x.node ⟨by omega, kindOf_node_ne hI hitem⟩) ?_
            rintro _ w11 ⟨rfl, f11, PF', h11, hext⟩
            have g11 := g10.fr f11 (fun hm => hvF (by simp [hm]))
            refine ⟨_, rfl, ⟨h11.blk.cell 2, g11.cell 1⟩, hR _ _ ?_⟩
            rw [hul, if_neg (by simpa using hemp)]
            refine ⟨rfl, tb :: db :: fb :: PF', ⟨⟨db, fb, pb', PF', dm7, fm9, rfl, h11.congr ?_ ?_ ?_⟩, inv_drop hI hx hemp⟩, ?_, f010.trans (f11.mono (by intro i hi; simp [hi]))⟩
            · intro m
              show _ = Dt (dropL t.L dir nm) m
              unfold Dt
              rw [kind_drop hI hx, ents_drop]
              by_cases e : m = x.node
              · rw [if_pos e, if_pos e]; rfl
              · rw [if_neg e, if_neg e]
                by_cases e2 : m = dir
                · rw [if_pos e2, if_pos e2, e2, if_pos hk2, filter_take_drop (ents_names hI dir) hidx]
                · rw [if_neg e2, if_neg e2]
            · intro m
              show _ = flt (dropL t.L dir nm) m
              unfold flt
              rw [kind_drop hI hx]
              by_cases e : m = x.node
              · rw [if_pos e, if_pos e]; rfl
              · rw [if_neg e, if_neg e]
            · intro m
              show _ ↔ outt (dropL t.L dir nm) m
              unfold outt
              rw [kind_drop hI hx]
              by_cases e : m = x.node
              · rw [if_pos e]; simp [e]
              · rw [if_neg e]; simp [e]
            · intro j hj
              simp only [List.mem_cons] at hj ⊢
              rcases hj with h' | h' | h' | h'
              · exact .inl (.inl h')
              · exact .inl (.inr (.inl h'))
              · exact .inl (.inr (.inr (.inl h')))
              · rcases hext j h' with h'' | h''
                · exact .inl (.inr (.inr (.inr h'')))
                · right; have := f010.1; omega
          · have hlen : 0 < (entsOf t.L x.node).length := List.length_pos_iff.2 hemp
            rw [decide_eq_true (by omega), cond_true]
            refine hR _ _ ?_
            rw [hul, if_pos hemp]
            exact ⟨rfl, _, ⟨⟨db, fb, pb, PF, dm, fm, rfl, h4⟩, hI⟩, fun _ hi => .inl hi, Fr.of_nil f04⟩

/-- Move -/
theorem k_Move (h : TreeAt w tb F X t) (hX : ∀ i ∈ X, i < w.heap.size) (hnext : t.next < 9223372036854775807) (dir : Int) (nm : ByteArray) (to : Int) (nm' : ByteArray) (sh : Int) :
    Calls prog 61 #[.pointer (some ⟨tb, 0, none⟩), .int .i64 dir, .string nm, .int .i64 to, .string nm', .int .i64 sh] w fun e w' =>
      e = .returned (.int .i64 (t.move dir nm to nm' sh).2) ∧ TreeAt w' tb F X (t.move dir nm to nm' sh).1 ∧ Fr F w w' := by
  refine c61 _ _ _ _ _ _ _ _ (withR (X := N61 _ _ _ _ _ _ _) ?_)
  intro R hR
  unfold N61
  have bad : ∀ (w' : World) (er : Int), Fr [] w w' → t.move dir nm to nm' sh = (t, er) → R (.returned (.int .i64 er)) w' := by
    intro w' er hf he
    refine hR _ _ ?_
    rw [he]
    exact ⟨rfl, h.fr0 hf, Fr.of_nil hf⟩
  obtain ⟨ferr, fent⟩ := find_eq h.2 dir nm
  refine Calls.mono (k_Find h.1 dir nm) ?_
  rintro _ w1 ⟨rfl, f1⟩
  refine ⟨_, _, _, _, _, _, rfl, ?_⟩
  rintro w2 rfl
  refine set5 (Blk.new w1 [(.string ⟨#[]⟩), (.int .i64 0), (.bool false), (.int .i64 0), (.int .i64 0)] 117) _ _ _ _ _ _ ?_
  intro w3 b3 f3
  have f03 : Fr [] w w3 := (f1.trans (Fr.alloc ..)).trans' f3 (by intro i hi; simp at hi; right; have := f1.1; omega)
  have hv : w.heap.size ≤ w1.heap.size := f1.1
  rw [ferr]
  rw [fent] at b3
  cases hfind : t.find dir nm with
  | error er =>
    have hne := findErr_ne t dir nm hfind
    simp only [hfind] at b3 ⊢
    rw [bne_iff_ne.2 hne, cond_true]
    refine bad w3 er f03 ?_
    unfold RT.move
    rw [hfind]
  | ok x =>
    simp only [hfind] at b3 ⊢
    rw [show ((0 : Int) != 0) = false from rfl, cond_false]
    obtain ⟨hle, hx⟩ := find_ok hfind
    have hxm := findIn_some hx
    have hitem := mem_entsOf.1 hxm.1
    have hnode := h.2.node _ hitem
    simp only at hnode
    refine Calls.mono (k_tList (h.fr0 f03) to) ?_
    rintro _ w4 ⟨a4, c4, rfl, ho4, f4⟩
    have f04 := f03.trans f4
    have b4 := b3.fr f4 (by simp)
    refine ⟨_, _, _, _, rfl, ?_⟩
    by_cases he : listErr t.L to = 0
    · rw [he, beq_self_eq_true, cond_true]
      refine Calls.mono (k_may nm' sh w4) ?_
      rintro _ w5 ⟨rfl, f5⟩
      have f05 := f04.trans f5
      have b5 := b4.fr f5 (by simp)
      refine ⟨_, rfl, ?_⟩
      by_cases hm : mayErr nm' sh = 0
      · rw [hm, show ((0 : Int) != 0) = false from rfl, cond_false]
        refine ⟨x.node, b5.cell 1, ?_⟩
        obtain ⟨ρ, hρ⟩ := rank_down h.2
        refine Calls.mono (k_below (h.fr0 f05).1 to x.node ρ hρ) ?_
        rintro _ w6 ⟨rfl, f6⟩
        have f06 := f05.trans f6
        have b6 := b5.fr f6 (by simp)
        refine ⟨_, rfl, ?_⟩
        have hclimb := climb_eq h.2 x.node (by omega) to
        cases hb : reachB (Dt t.L) to x.node with
        | true =>
          rw [cond_true]
          refine bad w6 10 f06 ?_
          unfold RT.move
          rw [hfind]
          simp only
          rw [if_neg (by simpa using he), if_neg (by simpa using hm), if_pos (hclimb.trans hb)]
        | false =>
          rw [cond_false]
          have hs : Ents w6 [] a4 (entsOf t.L to).length (entsOf t.L to) := ((ho4.sli (by simp)).fr f5).fr f6
          have hsm := ents_small h.2 to
          refine Calls.mono (k_index nm' _ a4 _ c4 w6 hs (by omega)) ?_
          rintro _ w7 ⟨rfl, f7⟩
          have f07 := f06.trans f7
          have b7 := b6.fr f7 (by simp)
          refine ⟨_, rfl, ?_⟩
          by_cases hidx : (findIn (entsOf t.L to) nm').isSome
          · rw [decide_eq_true ((findIn_idx _ nm').2 hidx), cond_true]
            refine bad w7 6 f07 ?_
            unfold RT.move
            rw [hfind]
            simp only
            rw [if_neg (by simpa using he), if_neg (by simpa using hm), if_neg (by rw [hclimb, hb]; simp), if_pos hidx]
          · rw [decide_eq_false (fun hge => hidx ((findIn_idx _ nm').1 hge)), cond_false]
            have hnm : findIn (entsOf t.L to) nm' = none := by simpa using hidx
            have hmove : t.move dir nm to nm' sh = ((t.drop dir nm).put to ⟨nm', x.node, x.dir, 0, sh⟩, 0) := by
              unfold RT.move
              rw [hfind]
              simp only
              rw [if_neg (by simpa using he), if_neg (by simpa using hm), if_neg (by rw [hclimb, hb]; simp), if_neg hidx]
            obtain ⟨i, hidx2, hfi⟩ : ∃ i, (entsOf t.L dir).findIdx? (fun x => decide (x.name = nm)) = some i ∧ i < (entsOf t.L dir).length := by
              rcases find_idx (entsOf t.L dir) nm with ⟨_, g2⟩ | ⟨i, y, g1, g2, g3⟩
              · rw [hx] at g2; cases g2
              · exact ⟨i, g1, findIdx_le g1⟩
            have hk2 := kind2_of hle
            have hkt := kind2_of he
            have hD : Dt t.L dir = some (entsOf t.L dir) := by unfold Dt; rw [if_pos hk2]
            obtain ⟨h7, hI⟩ := h.fr0 f07
            refine Calls.mono (k_drop h7 (fun i hi => by have := hX i hi; have := f07.1; omega) dir nm _ hD i hidx2) ?_
            rintro _ w8 ⟨rfl, h8, f8⟩
            have hvF : w1.heap.size ∉ F := fun hm => by have := h.1.lt _ hm; omega
            have b8 := b7.fr f8 hvF
            have f08 : Fr F w w8 := (Fr.of_nil f07).trans f8
            refine ⟨rfl, x.node, b8.cell 1, x.dir, b8.cell 2, ?_⟩
            have hed : entsOf (dropL t.L dir nm) dir = (entsOf t.L dir).take i ++ (entsOf t.L dir).drop (i + 1) := by
              rw [ents_drop, if_pos rfl, filter_take_drop (ents_names hI dir) hidx2]
            have hDt : (fun m => if m = dir then some ((entsOf t.L dir).take i ++ (entsOf t.L dir).drop (i + 1)) else Dt t.L m) to = some (entsOf (dropL t.L dir nm) to) := by
              simp only
              by_cases e : to = dir
              · rw [if_pos e, e, hed]
              · rw [if_neg e, ents_drop, if_neg e]; unfold Dt; rw [if_pos hkt]
            have hsm2 : (entsOf (dropL t.L dir nm) to).length ≤ 200 := by
              rw [ents_drop]
              split
              · exact Nat.le_trans (List.length_filter_le _ _) (ents_small hI dir)
              · exact ents_small hI to
            have hput := k_put h8 (fun i hi => by have := hX i hi; have := f08.1; omega) to _ hDt (by omega) ⟨nm', x.node, x.dir, 0, sh⟩
            refine Calls.mono hput ?_
            rintro _ w9 ⟨rfl, h9, f9⟩
            have hnx := hI.next
            rw [wr (x := t.next + 1) (by omega) (by omega)] at h9
            refine ⟨rfl, hR _ _ ?_⟩
            rw [hmove]
            have hno : ¬ Go.Topo.Reach (Dt t.L) to x.node := fun hr => by rw [reachB_iff.2 hr] at hb; cases hb
            refine ⟨rfl, ⟨h9.congr ?_ ?_ ?_, inv_move hI hx hkt hnm hm hno⟩, f08.trans f9⟩
            · intro m
              show _ = Dt (dropL t.L dir nm ++ [(to, ⟨nm', x.node, x.dir, t.next, sh⟩)]) m
              unfold Dt
              rw [kind_move hI hx, entsOf_append]
              by_cases e : m = to
              · rw [if_pos e, if_pos e.symm, e, if_pos hkt]
              · rw [if_neg e, if_neg (show ¬ to = m from fun h => e h.symm)]
                by_cases e2 : m = dir
                · rw [if_pos e2, e2, if_pos hk2, hed]
                · rw [if_neg e2, ents_drop, if_neg e2]
            · intro m
              show _ = flt (dropL t.L dir nm ++ [(to, ⟨nm', x.node, x.dir, t.next, sh⟩)]) m
              unfold flt
              rw [kind_move hI hx]
            · intro m
              show _ ↔ outt (dropL t.L dir nm ++ [(to, ⟨nm', x.node, x.dir, t.next, sh⟩)]) m
              unfold outt
              rw [kind_move hI hx]
      · rw [bne_iff_ne.2 hm, cond_true]
        refine bad w5 _ f05 ?_
        unfold RT.move
        rw [hfind]
        simp only
        rw [if_neg (by simpa using he), if_pos hm]
    · rw [beq_eq_false_iff_ne.2 he, cond_false, bne_iff_ne.2 he, cond_true]
      refine bad w4 _ f04 ?_
      unfold RT.move
      rw [hfind]
      simp only
      rw [if_pos he]
end
end Go.Proofs.Tryz
