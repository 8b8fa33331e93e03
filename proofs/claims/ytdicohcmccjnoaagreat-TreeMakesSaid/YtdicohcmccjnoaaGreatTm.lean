/- A tree in memory; New, List, Find, put, drop. Conditions: none. -/
import Derived.Test.YtdicohcmccjnoaaGreatGd
import Derived.Test.YtdicohcmccjnoaaGreatPl
namespace Go.Proofs.Tryz
open Go Go.Eng Go.Topo

/-- a struct of five cells is stored -/
theorem set5 {w : World} {b : Nat} {c0 c1 c2 c3 c4 : Value} (h : Blk w b [c0, c1, c2, c3, c4]) (x0 x1 x2 x3 x4 : Value) (K : World → Prop) (hk : ∀ w', Blk w' b [x0, x1, x2, x3, x4] → Fr [b] w w' → K w') :
    (∃ u, w.cell? ⟨b, 0, none⟩ = some u) ∧ w.frozen? ⟨b, 0, none⟩ = false ∧ ∀ w1, w1 = w.setCell ⟨b, 0, none⟩ x0 →
    (∃ u, w1.cell? ⟨b, 1, none⟩ = some u) ∧ w1.frozen? ⟨b, 1, none⟩ = false ∧ ∀ w2, w2 = w1.setCell ⟨b, 1, none⟩ x1 →
    (∃ u, w2.cell? ⟨b, 2, none⟩ = some u) ∧ w2.frozen? ⟨b, 2, none⟩ = false ∧ ∀ w3, w3 = w2.setCell ⟨b, 2, none⟩ x2 →
    (∃ u, w3.cell? ⟨b, 3, none⟩ = some u) ∧ w3.frozen? ⟨b, 3, none⟩ = false ∧ ∀ w4, w4 = w3.setCell ⟨b, 3, none⟩ x3 →
    (∃ u, w4.cell? ⟨b, 4, none⟩ = some u) ∧ w4.frozen? ⟨b, 4, none⟩ = false ∧ ∀ w5, w5 = w4.setCell ⟨b, 4, none⟩ x4 → K w5 := by
  refine ⟨⟨_, h.cell 0⟩, h.frozen 0, ?_⟩
  rintro _ rfl
  have h1 := h.set 0 x0
  refine ⟨⟨_, h1.cell 1⟩, h1.frozen 1, ?_⟩
  rintro _ rfl
  have h2 := h1.set 1 x1
  refine ⟨⟨_, h2.cell 2⟩, h2.frozen 2, ?_⟩
  rintro _ rfl
  have h3 := h2.set 2 x2
  refine ⟨⟨_, h3.cell 3⟩, h3.frozen 3, ?_⟩
  rintro _ rfl
  have h4 := h3.set 3 x3
  refine ⟨⟨_, h4.cell 4⟩, h4.frozen 4, ?_⟩
  rintro _ rfl
  have h5 := h4.set 4 x4
  refine hk _ h5 ?_
  exact ((((Fr.setCell' w b 0 0 x0).trans (Fr.setCell' _ b 0 1 x1)).trans (Fr.setCell' _ b 0 2 x2)).trans (Fr.setCell' _ b 0 3 x3)).trans (Fr.setCell' _ b 0 4 x4)

/-- what a tree's blocks say: of each directory its entries, which nodes are files, which are out, the next cookie -/
structure TM (w : World) (tb db fb pb : Nat) (PF X : List Nat) (dm fm : List (Int × Value)) (D : Int → Option (List Ent)) (fl : Int → Bool) (out : Int → Prop) (next : Int) : Prop where
  blk : Blk w tb [.map (some db), .map (some fb), .pointer (some ⟨pb, 0, none⟩), .int .i64 next]
  dmap : IMap w db dm
  fmap : IMap w fb fm
  pool : PoolAt w pb PF out
  ap : tb ≠ db ∧ tb ≠ fb ∧ db ≠ fb ∧ tb ∉ PF ∧ db ∉ PF ∧ fb ∉ PF
  dirs : ∀ n, match D n with
    | some l => l.length ≤ 1048576 ∧ ∃ a c, alook dm n = some (.slice a l.length c) ∧ Ents w (tb :: db :: fb :: PF ++ X) a l.length l
    | none => alook dm n = none
  files : ∀ n, alook fm n = if fl n then some (.int .i64 1) else none

def TMem (w : World) (tb : Nat) (F X : List Nat) (D : Int → Option (List Ent)) (fl : Int → Bool) (out : Int → Prop) (next : Int) : Prop :=
  ∃ db fb pb PF dm fm, F = tb :: db :: fb :: PF ∧ TM w tb db fb pb PF X dm fm D fl out next

section
variable {w w' : World} {tb db fb pb : Nat} {F G X X' PF PF' : List Nat} {dm fm : List (Int × Value)} {D D' : Int → Option (List Ent)} {fl fl' : Int → Bool} {out out' : Int → Prop} {next : Int}

/-- nothing of the tree's own is turned; G: what may have been, of others -/
theorem TM.fr (h : TM w tb db fb pb PF X dm fm D fl out next) (hf : Fr G w w') (hG : ∀ i ∈ G, i ∈ X ∧ i ∉ tb :: db :: fb :: PF) (hX : ∀ i ∈ X', i ∈ X ∨ w.heap.size ≤ i) : TM w' tb db fb pb PF X' dm fm D fl out next := by
  have hno : ∀ i ∈ tb :: db :: fb :: PF, i ∉ G := fun i hi hg => (hG i hg).2 hi
  exact {
    blk := h.blk.fr hf (hno _ (by simp))
    dmap := h.dmap.fr hf (hno _ (by simp))
    fmap := h.fmap.fr hf (hno _ (by simp))
    pool := h.pool.fr hf (fun i hi => hno i (by simp [hi]))
    ap := h.ap
    dirs := by
      intro n
      have hd := h.dirs n
      split
      · rename_i l hl
        rw [hl] at hd
        obtain ⟨h1, a, c, ha, he⟩ := hd
        refine ⟨h1, a, c, ha, ?_⟩
        refine Sli.move he hf ?_ ?_
        · intro i hi; rw [List.mem_append]; exact .inr (hG i hi).1
        · intro i hi
          rw [List.mem_append] at hi ⊢
          rcases hi with hi | hi
          · exact .inl (.inl hi)
          · rcases hX i hi with h' | h'
            · exact .inl (.inr h')
            · exact .inr h'
      · rename_i hl
        rw [hl] at hd
        exact hd
    files := h.files }

theorem TM.congr (h : TM w tb db fb pb PF X dm fm D fl out next) (hD : ∀ n, D n = D' n) (hfl : ∀ n, fl n = fl' n) (ho : ∀ n, out n ↔ out' n) : TM w tb db fb pb PF X dm fm D' fl' out' next := by
  obtain rfl : D = D' := funext hD
  obtain rfl : fl = fl' := funext hfl
  exact { h with pool := h.pool.congr ho }
theorem TMem.congr (h : TMem w tb F X D fl out next) (hD : ∀ n, D n = D' n) (hfl : ∀ n, fl n = fl' n) (ho : ∀ n, out n ↔ out' n) : TMem w tb F X D' fl' out' next := by
  obtain ⟨db, fb, pb, PF, dm, fm, rfl, h⟩ := h
  exact ⟨db, fb, pb, PF, dm, fm, rfl, h.congr hD hfl ho⟩
theorem TMem.fr (h : TMem w tb F X D fl out next) (hf : Fr G w w') (hG : ∀ i ∈ G, i ∈ X ∧ i ∉ F) (hX : ∀ i ∈ X', i ∈ X ∨ w.heap.size ≤ i) : TMem w' tb F X' D fl out next := by
  obtain ⟨db, fb, pb, PF, dm, fm, rfl, h⟩ := h
  exact ⟨db, fb, pb, PF, dm, fm, rfl, h.fr hf hG hX⟩
theorem TMem.fr0 (h : TMem w tb F X D fl out next) (hf : Fr [] w w') : TMem w' tb F X D fl out next := h.fr hf (by simp) (fun _ hi => .inl hi)
theorem TM.lt (h : TM w tb db fb pb PF X dm fm D fl out next) : ∀ i ∈ tb :: db :: fb :: PF, i < w.heap.size := by
  intro i hi
  simp only [List.mem_cons] at hi
  rcases hi with rfl | rfl | rfl | hi
  · exact h.blk.lt
  · exact h.dmap.lt
  · exact h.fmap.lt
  · exact h.pool.lt i hi
theorem TMem.lt (h : TMem w tb F X D fl out next) : ∀ i ∈ F, i < w.heap.size := by
  obtain ⟨db, fb, pb, PF, dm, fm, rfl, h⟩ := h
  exact h.lt

/-- what the map of directories answers -/
theorem TM.look (h : TM w tb db fb pb PF X dm fm D fl out next) (n : Int) : ∃ a c, Ents w (tb :: db :: fb :: PF ++ X) a ((D n).getD []).length ((D n).getD []) ∧ ((D n).getD []).length ≤ 1048576 ∧
    (alook dm n).getD (.slice none 0 0) = .slice a ((D n).getD []).length c ∧ (alook dm n).isSome = (D n).isSome := by
  have hd := h.dirs n
  cases hD : D n with
  | none =>
    rw [hD] at hd
    simp only [Option.getD_none, List.length_nil] at *
    exact ⟨none, 0, Sli.nil .., by omega, by rw [hd]; rfl, by rw [hd]; rfl⟩
  | some l =>
    rw [hD] at hd
    obtain ⟨h1, a, c, ha, he⟩ := hd
    exact ⟨a, c, he, h1, by rw [ha]; rfl, by rw [ha]; rfl⟩
theorem TM.lookF (h : TM w tb db fb pb PF X dm fm D fl out next) (n : Int) : (Instr.lookup 108 (.map (some fb)) (.int .i64 n) false).run prog w = .ok (.int .i64 (if fl n then 1 else 0)) w := by
  rw [lookup_files h.fmap n false, h.files n]
  cases fl n <;> rfl

/-- a directory's entries are put into the map -/
theorem TM.setDir (h : TM w tb db fb pb PF X dm fm D fl out next) (n : Int) (a : Option Addr) (c : Nat) (l : List Ent) (hl : l.length ≤ 1048576) (he : Ents w (tb :: db :: fb :: PF ++ X) a l.length l) :
    ∃ w' dm', (Instr.mapUpdate 53 (.map (some db)) (.int .i64 n) (.slice a l.length c)).run prog w = .ok () w' ∧ TM w' tb db fb pb PF X dm' fm (fun m => if m = n then some l else D m) fl out next ∧ Fr [db] w w' ∧ w'.heap.size = w.heap.size := by
  obtain ⟨w', hr, hm, hf, hs⟩ := IMap.update (P := prog) u_dirs u_int h.dmap n (.slice a l.length c)
  obtain ⟨a1, a2, a3, a4, a5, a6⟩ := h.ap
  refine ⟨w', aput dm n (.slice a l.length c), hr, ?_, hf, hs⟩
  exact {
    blk := h.blk.fr hf (by simp; exact a1)
    dmap := hm
    fmap := h.fmap.fr hf (by simp; exact fun e => a3 e.symm)
    pool := h.pool.fr hf (by intro i hi; simp; rintro rfl; exact a5 hi)
    ap := h.ap
    dirs := by
      intro m
      have hfF : Fr (tb :: db :: fb :: PF ++ X) w w' := hf.mono (by simp)
      by_cases e : m = n
      · subst e
        simp only [if_true]
        exact ⟨hl, a, c, by rw [alook_aput, if_pos rfl], he.fr hfF⟩
      · simp only [if_neg e]
        have hd := h.dirs m
        split
        · rename_i l' hl'
          rw [hl'] at hd
          obtain ⟨h1, a', c', ha, he'⟩ := hd
          exact ⟨h1, a', c', by rw [alook_aput, if_neg (fun e' => e e'.symm)]; exact ha, he'.fr hfF⟩
        · rename_i hl'
          rw [hl'] at hd
          rw [alook_aput, if_neg (fun e' => e e'.symm)]; exact hd
    files := h.files }

theorem TM.setFile (h : TM w tb db fb pb PF X dm fm D fl out next) (n : Int) :
    ∃ w' fm', (Instr.mapUpdate 108 (.map (some fb)) (.int .i64 n) (.int .i64 1)).run prog w = .ok () w' ∧ TM w' tb db fb pb PF X dm fm' D (fun m => if m = n then true else fl m) out next ∧ Fr [fb] w w' ∧ w'.heap.size = w.heap.size := by
  obtain ⟨w', hr, hm, hf, hs⟩ := IMap.update (P := prog) u_files u_int h.fmap n (.int .i64 1)
  obtain ⟨a1, a2, a3, a4, a5, a6⟩ := h.ap
  refine ⟨w', aput fm n (.int .i64 1), hr, ?_, hf, hs⟩
  exact {
    blk := h.blk.fr hf (by simp; exact a2)
    dmap := h.dmap.fr hf (by simp; exact a3)
    fmap := hm
    pool := h.pool.fr hf (by intro i hi; simp; rintro rfl; exact a6 hi)
    ap := h.ap
    dirs := by
      intro m
      have hfF : Fr (tb :: db :: fb :: PF ++ X) w w' := hf.mono (by simp)
      have hd := h.dirs m
      split
      · rename_i l' hl'
        rw [hl'] at hd
        obtain ⟨h1, a', c', ha, he'⟩ := hd
        exact ⟨h1, a', c', ha, he'.fr hfF⟩
      · rename_i hl'
        rw [hl'] at hd
        exact hd
    files := by
      intro m
      rw [alook_aput]
      by_cases e : m = n
      · subst e; simp
      · rw [if_neg (fun e' => e e'.symm), if_neg e]; exact h.files m }

theorem TM.delDir (h : TM w tb db fb pb PF X dm fm D fl out next) (n : Int) (ty t2 : TypeId) :
    ∃ w' dm', (Builtin.delete_ #[53, t2] ty #[.map (some db), .int .i64 n]).run prog w = .ok (.tuple #[]) w' ∧ TM w' tb db fb pb PF X dm' fm (fun m => if m = n then none else D m) fl out next ∧ Fr [db] w w' ∧ w'.heap.size = w.heap.size := by
  obtain ⟨w', hr, hm, hf, hs⟩ := IMap.delete (P := prog) u_dirs u_int h.dmap n ty t2
  obtain ⟨a1, a2, a3, a4, a5, a6⟩ := h.ap
  refine ⟨w', adel dm n, hr, ?_, hf, hs⟩
  exact {
    blk := h.blk.fr hf (by simp; exact a1)
    dmap := hm
    fmap := h.fmap.fr hf (by simp; exact fun e => a3 e.symm)
    pool := h.pool.fr hf (by intro i hi; simp; rintro rfl; exact a5 hi)
    ap := h.ap
    dirs := by
      intro m
      have hfF : Fr (tb :: db :: fb :: PF ++ X) w w' := hf.mono (by simp)
      by_cases e : m = n
      · subst e
        rw [alook_adel, if_pos rfl]
        simp
      · simp only [if_neg e]
        have hd := h.dirs m
        split
        · rename_i l' hl'
          rw [hl'] at hd
          obtain ⟨h1, a', c', ha, he'⟩ := hd
          exact ⟨h1, a', c', by rw [alook_adel, if_neg (fun e' => e e'.symm)]; exact ha, he'.fr hfF⟩
        · rename_i hl'
          rw [hl'] at hd
          rw [alook_adel, if_neg (fun e' => e e'.symm)]; exact hd
    files := h.files }

theorem TM.delFile (h : TM w tb db fb pb PF X dm fm D fl out next) (n : Int) (ty t2 : TypeId) :
    ∃ w' fm', (Builtin.delete_ #[108, t2] ty #[.map (some fb), .int .i64 n]).run prog w = .ok (.tuple #[]) w' ∧ TM w' tb db fb pb PF X dm fm' D (fun m => if m = n then false else fl m) out next ∧ Fr [fb] w w' ∧ w'.heap.size = w.heap.size := by
  obtain ⟨w', hr, hm, hf, hs⟩ := IMap.delete (P := prog) u_files u_int h.fmap n ty t2
  obtain ⟨a1, a2, a3, a4, a5, a6⟩ := h.ap
  refine ⟨w', adel fm n, hr, ?_, hf, hs⟩
  exact {
    blk := h.blk.fr hf (by simp; exact a2)
    dmap := h.dmap.fr hf (by simp; exact a3)
    fmap := hm
    pool := h.pool.fr hf (by intro i hi; simp; rintro rfl; exact a6 hi)
    ap := h.ap
    dirs := by
      intro m
      have hfF : Fr (tb :: db :: fb :: PF ++ X) w w' := hf.mono (by simp)
      have hd := h.dirs m
      split
      · rename_i l' hl'
        rw [hl'] at hd
        obtain ⟨h1, a', c', ha, he'⟩ := hd
        exact ⟨h1, a', c', ha, he'.fr hfF⟩
      · rename_i hl'
        rw [hl'] at hd
        exact hd
    files := by
      intro m
      rw [alook_adel]
      by_cases e : m = n
      · subst e; simp
      · rw [if_neg (fun e' => e e'.symm), if_neg e]; exact h.files m }
end

/-- New -/
theorem k_tNew (w : World) : Calls prog 13 #[] w fun e w' => ∃ tb F, e = .returned (.pointer (some ⟨tb, 0, none⟩)) ∧
    (∀ X, TMem w' tb F X (fun n => if n = 0 then some [] else none) (fun _ => false) (fun _ => False) 1) ∧ (∀ i ∈ F, w.heap.size ≤ i) ∧ tb ∈ F ∧ Fr [] w w' := by
  refine c13 _ _ (withR (X := N13 _) ?_)
  intro R hR
  unfold N13
  rintro w1 rfl
  obtain ⟨w2, hr2, hm2, hf2, hs2⟩ := IMap.update (P := prog) u_dirs u_int (IMap.new w) 0 (.slice none 0 0)
  refine ⟨w2, hr2, ?_⟩
  rintro w3 rfl
  have hf2' : Fr [] w w2 := (Fr.alloc w (.map #[] 0)).trans' hf2 (by intro i hi; simp at hi; right; omega)
  rw [size_alloc] at hs2
  refine Calls.mono (k_idNew none 0 _) ?_
  rintro _ w4 ⟨pb, PF, rfl, hp, hPF, hpb, hf4⟩
  refine ⟨_, rfl, ?_⟩
  rintro w5 rfl
  rw [size_alloc] at hPF
  have hf5 := Fr.alloc w4 (.cells #[(.map (some w.heap.size)), (.map (some w2.heap.size)), (.pointer (some ⟨pb, 0, none⟩)), (.int .i64 (1))] 112)
  have hfa := Fr.alloc w2 (.map #[] 0)
  have hlt : ∀ i ∈ PF, i < w4.heap.size := hp.lt
  have h4 := hf4.1
  rw [size_alloc] at h4
  refine hR _ _ ⟨w4.heap.size, w4.heap.size :: w.heap.size :: w2.heap.size :: PF, rfl, fun X => ⟨w.heap.size, w2.heap.size, pb, PF, aput [] 0 (.slice none 0 0), [], rfl, ?_⟩, ?_, by simp, hf2'.trans (hfa.trans (hf4.trans hf5))⟩
  · exact {
      blk := Blk.new ..
      dmap := ((hm2.fr hfa (by simp)).fr hf4 (by simp)).fr hf5 (by simp)
      fmap := ((IMap.new w2).fr hf4 (by simp)).fr hf5 (by simp)
      pool := hp.fr hf5 (by simp)
      ap := by
        refine ⟨by omega, by omega, by omega, ?_, ?_, ?_⟩
        · intro hm; have := hlt _ hm; omega
        · intro hm; have := hPF _ hm; omega
        · intro hm; have := hPF _ hm; omega
      dirs := by
        intro n
        by_cases e : n = 0
        · subst e
          simp only [if_true]
          exact ⟨by simp, none, 0, rfl, Sli.nil ..⟩
        · simp only [if_neg e]
          rw [alook_aput, if_neg (fun e' => e e'.symm)]; rfl
      files := by intro n; rfl }
  · intro i hi
    simp only [List.mem_cons] at hi
    rcases hi with rfl | rfl | rfl | hi
    · omega
    · omega
    · omega
    · have := hPF i hi; omega

def lErr (D : Int → Option (List Ent)) (fl : Int → Bool) (n : Int) : Int := if (D n).isSome then 0 else if fl n then 8 else 5

section
variable {w : World} {tb : Nat} {F X : List Nat} {D : Int → Option (List Ent)} {fl : Int → Bool} {out : Int → Prop} {next : Int}

/-- List -/
theorem k_List (h : TMem w tb F X D fl out next) (dir : Int) : Calls prog 26 #[.pointer (some ⟨tb, 0, none⟩), .int .i64 dir] w fun e w' =>
    ∃ a c, e = .returned (.tuple #[.slice a ((D dir).getD []).length c, .int .i64 (lErr D fl dir)]) ∧ Own w' w.heap.size 117 5 a ((D dir).getD []).length c (flat ((D dir).getD [])) ∧ Fr [] w w' := by
  obtain ⟨db, fb, pb, PF, dm, fm, rfl, h⟩ := h
  refine c26 _ _ _ _ (withR (X := N26 _ _ _) ?_)
  intro R hR
  unfold N26
  obtain ⟨a, c, he, hl, hlk, hsm⟩ := h.look dir
  have hd := lookup_dirs h.dmap dir true
  rw [if_pos rfl, hlk, hsm] at hd
  have c0 : w.cell? ⟨tb, 0, none⟩ = some (.map (some db)) := h.blk.cell 0
  have c1 : w.cell? ⟨tb, 1, none⟩ = some (.map (some fb)) := h.blk.cell 1
  simp only [Addr.add_lit, Nat.zero_add]
  refine ⟨some db, c0, a, _, c, _, hd, ?_⟩
  cases hD : (D dir).isSome with
  | true =>
    rw [cond_true]
    refine Calls.mono (k_Clone _ _ (flat_one _) a _ c w he (by omega)) ?_
    rintro _ w1 ⟨a', c', rfl, ho, hf⟩
    refine ⟨_, _, _, rfl, hR _ _ ⟨a', c', ?_, ho, hf⟩⟩
    simp [lErr, hD]
  | false =>
    rw [cond_false]
    have hn : D dir = none := by simpa using hD
    have hF := h.lookF dir
    refine ⟨some fb, c1, _, hF, ?_⟩
    rw [hn] at hR
    simp only [Option.getD_none, List.length_nil] at hR
    cases hfl : fl dir with
    | true =>
      rw [if_pos rfl, show decide ((1 : Int) > 0) = true from rfl, cond_true]
      exact hR _ _ ⟨none, 0, by simp [lErr, hn, hfl], Own.nil .., Fr.refl ..⟩
    | false =>
      rw [if_neg (by simp), show decide ((0 : Int) > 0) = false from rfl, cond_false]
      exact hR _ _ ⟨none, 0, by simp [lErr, hn, hfl], Own.nil .., Fr.refl ..⟩

def noEnt : Ent := ⟨⟨#[]⟩, 0, false, 0, 0⟩
/-- Find's entry, and its error -/
def fEnt (D : Int → Option (List Ent)) (n : Int) (nm : ByteArray) : Ent := (findIn ((D n).getD []) nm).getD noEnt
def fErr (D : Int → Option (List Ent)) (fl : Int → Bool) (n : Int) (nm : ByteArray) : Int := if lErr D fl n ≠ 0 then lErr D fl n else if (findIn ((D n).getD []) nm).isSome then 0 else 5

theorem find_idx (l : List Ent) (nm : ByteArray) : l.findIdx? (fun x => decide (x.name = nm)) = none ∧ findIn l nm = none ∨ ∃ i x, l.findIdx? (fun x => decide (x.name = nm)) = some i ∧ findIn l nm = some x ∧ l[i]? = some x := by
  unfold findIn
  induction l with
  | nil => left; simp
  | cons x r ih =>
    by_cases hx : x.name = nm
    · right; exact ⟨0, x, by simp [List.findIdx?_cons, hx], by simp [hx], rfl⟩
    · rcases ih with ⟨h1, h2⟩ | ⟨i, y, h1, h2, h3⟩
      · left; simp [List.findIdx?_cons, hx, h1, h2]
      · right; exact ⟨i + 1, y, by simp [List.findIdx?_cons, hx, h1], by simp [hx, h2], by simpa using h3⟩

/-- Find -/
theorem k_Find (h : TMem w tb F X D fl out next) (dir : Int) (nm : ByteArray) : Calls prog 117 #[.pointer (some ⟨tb, 0, none⟩), .int .i64 dir, .string nm] w fun e w' =>
    e = .returned (.tuple #[entV (fEnt D dir nm), .int .i64 (fErr D fl dir nm)]) ∧ Fr [] w w' := by
  refine c117 _ _ _ _ _ (withR (X := N117 _ _ _ _) ?_)
  intro R hR
  unfold N117
  rintro w1 rfl
  have h1 := h.fr0 (Fr.alloc w (.cells #[(.string ⟨#[]⟩), (.int .i64 0), (.bool false), (.int .i64 0), (.int .i64 0)] 117))
  have b1 := Blk.new w [(.string ⟨#[]⟩), (.int .i64 0), (.bool false), (.int .i64 0), (.int .i64 0)] 117
  refine Calls.mono (k_List h1 dir) ?_
  rintro _ w2 ⟨a, c, rfl, ho, hf2⟩
  have b2 := b1.fr hf2 (by simp)
  have f2 : Fr [] w w2 := (Fr.alloc ..).trans hf2
  refine ⟨_, _, _, _, rfl, ?_⟩
  have zero : ∀ (W : World) (er : Int), Blk W w.heap.size [(.string ⟨#[]⟩), (.int .i64 0), (.bool false), (.int .i64 0), (.int .i64 0)] → Fr [] w W → fEnt D dir nm = noEnt → fErr D fl dir nm = er →
      R (.returned (.tuple #[(.agg #[(.string ⟨#[]⟩), (.int .i64 0), (.bool false), (.int .i64 0), (.int .i64 0)]), (.int .i64 er)])) W := by
    intro W er _ hf e1 e2
    refine hR _ _ ⟨?_, hf⟩
    rw [e1, e2]; rfl
  have fresh : ∀ {W W' : World}, Fr [] w W → Fr [w.heap.size] W W' → Fr [] w W' := fun hf hf' => hf.trans' hf' (by intro i hi; simp at hi; right; omega)
  by_cases he : lErr D fl dir = 0
  · rw [show ((lErr D fl dir) != 0) = false by rw [he]; rfl, cond_false]
    have hlen : ((D dir).getD []).length ≤ 1048576 := by
      obtain ⟨db, fb, pb, PF, dm, fm, rfl, h⟩ := h
      obtain ⟨_, _, _, hl, _⟩ := h.look dir
      exact hl
    have hs : Ents w2 [] a ((D dir).getD []).length ((D dir).getD []) := ho.sli (by simp)
    refine Calls.mono (k_index nm ((D dir).getD []) a _ c w2 hs (by omega)) ?_
    rintro _ w3 ⟨rfl, hf3⟩
    have b3 := b2.fr hf3 (by simp)
    refine ⟨_, rfl, ?_⟩
    rcases find_idx ((D dir).getD []) nm with ⟨g1, g2⟩ | ⟨i, x, g1, g2, g3⟩
    · rw [fidx_none g1, show decide ((-1 : Int) < 0) = true from rfl, cond_true]
      refine set5 b3 _ _ _ _ _ _ ?_
      intro w4 b4 hf4
      refine ⟨_, b4.cell 0, _, b4.cell 1, _, b4.cell 2, _, b4.cell 3, _, b4.cell 4, ?_⟩
      exact zero w4 5 b4 (fresh (f2.trans hf3) hf4) (by simp [fEnt, g2]) (by simp [fErr, he, g2])
    · rw [fidx_some g1]
      rw [decide_eq_false (by omega), cond_false]
      obtain ⟨b, off, ha, e0, e1, e2, e3, e4⟩ := (hs.fr hf3).at g3
      have hi : i < ((D dir).getD []).length := (List.getElem?_eq_some_iff.1 g3).1
      subst ha
      simp only [optW, Addr.add_lit, Int.toNat_natCast]
      refine ⟨⟨by omega, by omega⟩, _, e0, _, e1, _, e2, _, e3, _, e4, ?_⟩
      refine set5 b3 _ _ _ _ _ _ ?_
      intro w4 b4 hf4
      refine ⟨_, b4.cell 0, _, b4.cell 1, _, b4.cell 2, _, b4.cell 3, _, b4.cell 4, ?_⟩
      refine hR _ _ ⟨?_, fresh (f2.trans hf3) hf4⟩
      have : fEnt D dir nm = x := by simp [fEnt, g2]
      have h0 : fErr D fl dir nm = 0 := by simp [fErr, he, g2]
      rw [this, h0]
  · rw [show ((lErr D fl dir) != 0) = true from bne_iff_ne.2 he, cond_true]
    refine set5 b2 _ _ _ _ _ _ ?_
    intro w4 b4 hf4
    refine ⟨_, b4.cell 0, _, b4.cell 1, _, b4.cell 2, _, b4.cell 3, _, b4.cell 4, ?_⟩
    have hD : D dir = none := by
      cases hd : D dir with
      | none => rfl
      | some l => exact absurd (by simp [lErr, hd]) he
    exact zero w4 _ b4 (fresh f2 hf4) (by simp [fEnt, hD, findIn]) (by simp [fErr, he])

theorem TM.setNext {db fb pb : Nat} {PF : List Nat} {dm fm : List (Int × Value)} (h : TM w tb db fb pb PF X dm fm D fl out next) (x : Int) : TM (w.setCell ⟨tb, 3, none⟩ (.int .i64 x)) tb db fb pb PF X dm fm D fl out x := by
  have hf := Fr.setCell w ⟨tb, 3, none⟩ (.int .i64 x)
  obtain ⟨a1, a2, a3, a4, a5, a6⟩ := h.ap
  exact {
    blk := h.blk.set 3 _
    dmap := h.dmap.fr hf (by simp; exact fun e => a1 e.symm)
    fmap := h.fmap.fr hf (by simp; exact fun e => a2 e.symm)
    pool := h.pool.fr hf (by intro i hi; simp; rintro rfl; exact a4 hi)
    ap := h.ap
    dirs := by
      intro m
      have hfF : Fr (tb :: db :: fb :: PF ++ X) w (w.setCell ⟨tb, 3, none⟩ (.int .i64 x)) := hf.mono (by simp)
      have hd := h.dirs m
      split
      · rename_i l' hl'
        rw [hl'] at hd
        obtain ⟨h1, a', c', ha, he'⟩ := hd
        exact ⟨h1, a', c', ha, he'.fr hfF⟩
      · rename_i hl'
        rw [hl'] at hd
        exact hd
    files := h.files }

/-- put -/
theorem k_put (h : TMem w tb F X D fl out next) (hX : ∀ i ∈ X, i < w.heap.size) (dir : Int) (l : List Ent) (hD : D dir = some l) (hl : l.length < 1048576) (x : Ent) :
    Calls prog 80 #[.pointer (some ⟨tb, 0, none⟩), .int .i64 dir, entV x] w fun e w' => e = .returned (.tuple #[]) ∧
      TMem w' tb F X (fun m => if m = dir then some (l ++ [{ x with cookie := next }]) else D m) fl out (IntKind.wrap .i64 (next + 1)) ∧ Fr F w w' := by
  obtain ⟨db, fb, pb, PF, dm, fm, rfl, h⟩ := h
  refine c80 _ _ _ _ _ _ _ _ _ (withR (X := N80 _ _ _ _ _ _ _ _) ?_)
  intro R hR
  unfold N80
  have hlt := h.lt
  have htb := h.blk.lt
  rintro w1 rfl
  have f1 := Fr.alloc w (.cells #[.string x.name, .int .i64 x.node, .bool x.dir, .int .i64 x.cookie, .int .i64 x.short] 117)
  have h1 := h.fr f1 (by simp) (fun _ hi => .inl hi)
  have b1 := Blk.new w [.string x.name, .int .i64 x.node, .bool x.dir, .int .i64 x.cookie, .int .i64 x.short] 117
  simp only [Addr.add_lit, Nat.zero_add]
  refine ⟨next, h1.blk.cell 3, ⟨_, b1.cell 3⟩, b1.frozen 3, ?_⟩
  rintro w2 rfl
  have f2 := Fr.setCell (w.alloc (.cells #[.string x.name, .int .i64 x.node, .bool x.dir, .int .i64 x.cookie, .int .i64 x.short] 117)) ⟨w.heap.size, 3, none⟩ (.int .i64 next)
  have b2 := b1.set 3 (.int .i64 next)
  have f02 : Fr [] w _ := f1.trans' f2 (by intro i hi; simp at hi; right; omega)
  have h2 := h.fr f02 (by simp) (fun _ hi => .inl hi)
  clear h1 b1 f1 f2
  generalize (w.alloc (.cells #[.string x.name, .int .i64 x.node, .bool x.dir, .int .i64 x.cookie, .int .i64 x.short] 117)).setCell ⟨w.heap.size, 3, none⟩ (.int .i64 next) = w2 at *
  refine ⟨next, h2.blk.cell 3, ⟨_, h2.blk.cell 3⟩, h2.blk.frozen 3, ?_⟩
  rintro w3 rfl
  have h3 := h2.setNext (IntKind.wrap .i64 (next + 1))
  have f3 := Fr.setCell w2 ⟨tb, 3, none⟩ (.int .i64 (IntKind.wrap .i64 (next + 1)))
  have b3 := b2.fr f3 (by simp; omega)
  have f03 : Fr (tb :: db :: fb :: PF) w _ := (Fr.of_nil f02).trans (f3.mono (by simp))
  clear h2 b2 f02 f3
  generalize w2.setCell ⟨tb, 3, none⟩ (.int .i64 (IntKind.wrap .i64 (next + 1))) = w3 at *
  rintro w4 rfl
  have h4 := h3.fr (Fr.drew w3) (by simp) (fun _ hi => .inl hi)
  have b4 := b3.fr (Fr.drew w3) (by simp)
  have f04 : Fr (tb :: db :: fb :: PF) w _ := f03.trans (Fr.of_nil (Fr.drew w3))
  clear h3 b3 f03
  generalize w3.drew = w4 at *
  obtain ⟨a, c, he, _, hlk, _⟩ := h4.look dir
  rw [hD] at he hlk
  simp only [Option.getD_some] at he hlk
  have at4 : ∀ W, Fr [] w4 W → TM W tb db fb pb PF X dm fm D fl out (IntKind.wrap .i64 (next + 1)) := fun W hW => h4.fr hW (by simp) (fun _ hi => .inl hi)
  have hF4 : ∀ i ∈ tb :: db :: fb :: PF ++ X, i < w4.heap.size := by
    intro i hi
    rw [List.mem_append] at hi
    rcases hi with hi | hi
    · exact h4.lt i hi
    · have := hX i hi; have := f04.1; omega
  refine ⟨fun W => Fr [] w4 W, Fr.refl .., some db, fun W hW => (at4 W hW).blk.cell 0, some db, fun W hW => (at4 W hW).blk.cell 0, a, l.length, c, ?_, _, fun W hW => (b4.fr hW (by simp)).cell 0, _, fun W hW => (b4.fr hW (by simp)).cell 1, _, fun W hW => (b4.fr hW (by simp)).cell 2,
    _, fun W hW => (b4.fr hW (by simp)).cell 3, _, fun W hW => (b4.fr hW (by simp)).cell 4, ?_⟩
  · intro W hW
    have := lookup_dirs (at4 W hW).dmap dir false
    rw [hlk] at this
    exact this
  have tail : ∀ (W : World) (a' : Option Addr) (c' bb : Nat), Fr [] w4 W → Own W w4.heap.size 117 5 a' l.length c' (flat l) → Blk W bb (entC { x with cookie := next }) →
      ∃ (x_51a : Option Addr) (x_51n x_51c : Nat), ∃ wv_50, (Builtin.append_ #[49, 49] 49 #[(.slice a' l.length c'), (.slice (some ⟨bb, 0, none⟩) 1 1)]).run prog W = .ok (.slice x_51a x_51n x_51c) wv_50 ∧ Fr [] w4 wv_50 ∧
        ∃ wv_52, (Instr.mapUpdate 53 (.map (some db)) (.int .i64 dir) (.slice x_51a x_51n x_51c)).run prog wv_50 = .ok () wv_52 ∧ R (.returned (.tuple #[])) wv_52 := by
    intro W a' c' bb hW ho hbb
    have hx : Sli W [] 5 (some ⟨bb, 0, none⟩) 1 (flat [{ x with cookie := next }]) := ⟨rfl, .inr ⟨bb, 0, rfl, by simp, hbb.row⟩⟩
    obtain ⟨b, d, W', hr, ho', hf', _, _⟩ := append_entries (c' := 1) ho hW.1 49 hx (flat_one _) (by omega)
    have hW' : Fr [] w4 W' := hW.trans' hf' (fun i hi => .inr (ho.blk i hi).1)
    rw [← flat_append] at ho'
    have hEnts : Ents W' (tb :: db :: fb :: PF ++ X) b (l ++ [{ x with cookie := next }]).length (l ++ [{ x with cookie := next }]) := by
      have := ho'.sli hF4
      simpa [Ents] using this
    obtain ⟨W2, dm', hr2, h', hf2, _⟩ := (at4 W' hW').setDir dir b d (l ++ [{ x with cookie := next }]) (by simp; omega) hEnts
    simp only [List.length_append, List.length_cons, List.length_nil, Nat.zero_add] at hr2
    exact ⟨b, l.length + 1, d, W', hr, hW', W2, hr2, hR _ _ ⟨rfl, ⟨db, fb, pb, PF, dm', fm, rfl, h'⟩, (f04.trans (Fr.of_nil hW')).trans (hf2.mono (by simp))⟩⟩
  constructor
  · refine Calls.mono (k_Clone _ _ (flat_one _) a l.length c w4 he (by omega)) ?_
    rintro _ W ⟨a', c', rfl, ho, hW⟩
    refine ⟨_, _, _, rfl, hW, ?_⟩
    rintro W1 rfl
    have hW1 := hW.trans (Fr.alloc W (.cells (entC { x with cookie := next }).toArray 117))
    refine ⟨hW1, ?_⟩
    exact tail _ a' c' _ hW1 (ho.fr (Fr.alloc ..) (by simp)) (Blk.new ..)
  · rintro W1 rfl
    have hW1 := Fr.alloc w4 (.cells (entC { x with cookie := next }).toArray 117)
    refine ⟨hW1, ?_⟩
    refine Calls.mono (k_Clone _ _ (flat_one _) a l.length c _ (he.fr (Fr.of_nil hW1)) (by omega)) ?_
    rintro _ W ⟨a', c', rfl, ho, hW⟩
    refine ⟨_, _, _, rfl, hW1.trans hW, ?_⟩
    exact tail _ a' c' _ (hW1.trans hW) (ho.mono hW1.1) ((Blk.new w4 (entC { x with cookie := next }) 117).fr hW (by simp))

/-- drop, of a name that is there -/
theorem k_drop (h : TMem w tb F X D fl out next) (hX : ∀ i ∈ X, i < w.heap.size) (dir : Int) (nm : ByteArray) (l : List Ent) (hD : D dir = some l) (i : Nat) (hi : l.findIdx? (fun x => decide (x.name = nm)) = some i) :
    Calls prog 118 #[.pointer (some ⟨tb, 0, none⟩), .int .i64 dir, .string nm] w fun e w' => e = .returned (.tuple #[]) ∧
      TMem w' tb F X (fun m => if m = dir then some (l.take i ++ l.drop (i + 1)) else D m) fl out next ∧ Fr F w w' := by
  obtain ⟨db, fb, pb, PF, dm, fm, rfl, h⟩ := h
  refine c118 _ _ _ _ _ (withR (X := N118 _ _ _ _) ?_)
  intro R hR
  unfold N118
  obtain ⟨a, c, he, hlen, hlk, _⟩ := h.look dir
  rw [hD] at he hlk hlen
  simp only [Option.getD_some] at he hlk hlen
  have hil := findIdx_le hi
  have hlook := lookup_dirs h.dmap dir false
  rw [hlk] at hlook
  refine ⟨some db, h.blk.cell 0, _, _, _, hlook, ?_⟩
  refine Calls.mono (k_Clone _ _ (flat_one _) a l.length c w he (by omega)) ?_
  rintro _ w1 ⟨a1, c1, rfl, ho1, hf1⟩
  refine ⟨_, _, _, rfl, ?_⟩
  refine Calls.mono (k_index nm l a1 l.length c1 w1 (ho1.sli (by simp)) (by omega)) ?_
  rintro _ w2 ⟨rfl, hf2⟩
  rw [fidx_some hi]
  refine ⟨_, rfl, ?_⟩
  rintro w3 rfl
  have f03 : Fr [] w w2.drew := (hf1.trans hf2).trans (Fr.drew w2)
  have ho3 : Own w2.drew w.heap.size 117 5 a1 l.length c1 (flat l) := (ho1.fr hf2 (by simp)).fr (Fr.drew w2) (by simp)
  generalize w2.drew = w3 at *
  rw [show IntKind.wrap .i64 ((i : Int) + 1) = ((i + 1 : Nat) : Int) by rw [wr (by omega) (by omega)]; omega]
  have at3 : ∀ W, Fr [] w W → TM W tb db fb pb PF X dm fm D fl out next := fun W hW => h.fr hW (by simp) (fun _ hi => .inl hi)
  refine ⟨fun W => Fr [] w W, f03, some db, fun W hW => (at3 W hW).blk.cell 0, ?_⟩
  refine Calls.mono (k_Delete l w.heap.size a1 l.length c1 i (i + 1) w3 ho3 f03.1 (by omega) (by omega) (by omega)) ?_
  rintro _ w4 ⟨rfl, ho4, hf4⟩
  have f04 : Fr [] w w4 := f03.trans' hf4 (fun j hj => .inr (ho3.blk j hj).1)
  have hl' : (l.take i ++ l.drop (i + 1)).length = l.length - 1 := by
    rw [List.length_append, List.length_take, List.length_drop]; omega
  rw [show l.length - (i + 1 - i) = (l.take i ++ l.drop (i + 1)).length by rw [hl']; omega] at *
  have hEnts : Ents w4 (tb :: db :: fb :: PF ++ X) a1 (l.take i ++ l.drop (i + 1)).length (l.take i ++ l.drop (i + 1)) := ho4.sli (by
    intro j hj
    rw [List.mem_append] at hj
    rcases hj with hj | hj
    · exact h.lt j hj
    · exact hX j hj)
  obtain ⟨w5, dm', hr5, h5, hf5, _⟩ := (at3 w4 f04).setDir dir a1 c1 _ (by rw [hl']; omega) hEnts
  exact ⟨_, _, _, rfl, f04, w5, hr5, hR _ _ ⟨rfl, ⟨db, fb, pb, PF, dm', fm, rfl, h5⟩, (Fr.of_nil f04).trans (hf5.mono (by simp))⟩⟩
end
end Go.Proofs.Tryz
