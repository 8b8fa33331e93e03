/- A calculus over lists of slots: each Go function's walk comes down, by the kernel's own reckoning, to a proposition over its variables; its soundness against the kit's calculus. Conditions: none. -/
import Derived.OrdersHeld
import Derived.WalkKit
import Derived.Deep.LoopGhost
import Derived.Scope
namespace Go.Eng
open Go

abbrev Env := List Value
def opd (ρ : Env) : Operand → Value
  | .tmp t => ρ.getD t undef
  | .const v => v
  | .global g => .pointer (some ⟨g, 0, none⟩)
  | .func f => .func (.func f) #[] #[]
def put (ρ : Env) (d : Option Tmp) (v : Value) : Env :=
  match d with
  | some d => ρ.set d v
  | none => ρ
def act (ρ : Env) : Act := ⟨ρ.toArray, []⟩

theorem act_eval (ρ : Env) : (act ρ).eval = opd ρ := by
  funext x
  cases x <;> simp [act, Act.eval, opd]
theorem act_put (ρ : Env) (d : Option Tmp) (v : Value) : (act ρ).put d v = act (put ρ d v) := by
  cases d <;> simp [act, Act.put, put]

/-! ### runs -/
def oneCellW (v : Value) (X : Prop) : Prop :=
  match v with
  | .agg _ => False
  | .tuple _ => False
  | _ => X

def semW {α : Type} (P : Program) : Sem α → World → (α → World → Prop) → Prop
  | .pure a, w, K => K a w
  | .program k, w, K => semW P (k P) w K
  | .mark _ k, w, K => semW P k w K
  | .new o k, w, K => ∀ w', w' = w.alloc o → semW P (k w.heap.size) w' K
  | .load _ a k, w, K => ∃ v, w.cell? a = some v ∧ semW P (k v) w K
  | .store _ a v k, w, K => oneCellW v ((∃ u, w.cell? a = some u) ∧ w.frozen? a = false ∧ ∀ w', w' = w.setCell a v → semW P k w' K)
  | .shape r k, w, K => semW P (k (w.shape? r)) w K
  | .frozen a k, w, K => semW P (k (w.frozen? a)) w K
  | _, _, _ => False

theorem semW_sound {α : Type} {P : Program} (s : Sem α) : ∀ (w : World) (K : α → World → Prop), semW P s w K → ∃ a w', s.run P w = .ok a w' ∧ K a w' := by
  induction s with
  | pure a => intro w K h; exact ⟨a, w, rfl, h⟩
  | program k ih => intro w K h; obtain ⟨a, w', h1, h2⟩ := ih P w K h; exact ⟨a, w', h1, h2⟩
  | mark m k ih => intro w K h; obtain ⟨a, w', h1, h2⟩ := ih w K h; exact ⟨a, w', h1, h2⟩
  | new o k ih => intro w K h; obtain ⟨a, w', h1, h2⟩ := ih w.heap.size _ K (h _ rfl); exact ⟨a, w', h1, h2⟩
  | load m a k ih =>
    intro w K h
    obtain ⟨v, hv, h⟩ := h
    obtain ⟨a', w', h1, h2⟩ := ih v w K h
    exact ⟨a', w', by simp only [Sem.run, hv]; exact h1, h2⟩
  | store m a v k ih =>
    intro w K h
    have key : ((∃ u, w.cell? a = some u) ∧ w.frozen? a = false ∧ ∀ w', w' = w.setCell a v → semW P k w' K) → (∀ c, v ≠ .agg c) → (∀ c, v ≠ .tuple c) → ∃ a_1 w', (Sem.store m a v k).run P w = .ok a_1 w' ∧ K a_1 w' := by
      rintro ⟨⟨u, hu⟩, hf, hs⟩ na nt
      obtain ⟨a', w', h1, h2⟩ := ih _ K (hs _ rfl)
      refine ⟨a', w', ?_, h2⟩
      cases v <;> first | exact absurd rfl (na _) | exact absurd rfl (nt _) | (simp only [Sem.run, hu, hf]; exact h1)
    cases v <;> first | exact h.elim | exact key h (by intro c e; cases e) (by intro c e; cases e)
  | shape r k ih => intro w K h; obtain ⟨a, w', h1, h2⟩ := ih _ w K h; exact ⟨a, w', h1, h2⟩
  | frozen a k ih => intro w K h; obtain ⟨a', w', h1, h2⟩ := ih _ w K h; exact ⟨a', w', h1, h2⟩
  | _ => intro w K h; exact h.elim

def pureW {α : Type} (P : Program) : Sem α → (α → Prop) → Prop
  | .pure a, K => K a
  | .program k, K => pureW P (k P) K
  | .mark _ k, K => pureW P k K
  | _, _ => False

theorem pureW_sound {α : Type} {P : Program} (s : Sem α) : ∀ (K : α → Prop), pureW P s K → ∃ a, (∀ w, s.run P w = .ok a w) ∧ K a := by
  induction s with
  | pure a => intro K h; exact ⟨a, fun _ => rfl, h⟩
  | program k ih => intro K h; obtain ⟨a, h1, h2⟩ := ih P K h; exact ⟨a, fun w => h1 w, h2⟩
  | mark m k ih => intro K h; obtain ⟨a, h1, h2⟩ := ih K h; exact ⟨a, fun w => h1 w, h2⟩
  | _ => intro K h; exact h.elim

theorem run_bind_ok {α β : Type} {P : Program} {s : Sem α} {f : α → Sem β} {w w' : World} {a : α} (h : s.run P w = .ok a w') : (s >>= f).run P w = (f a).run P w' := by
  rw [Sem.run_bind, h]; rfl

/-! ### typed values -/
inductive Leaf where
  | int (k : IntKind) | bool | str | ptr | slice | map | func | raw

def leafOf (P : Program) (t : TypeId) : Leaf :=
  match P.underlying t with
  | some (.int k) => .int k
  | some .bool => .bool
  | some .string => .str
  | some (.pointer _) => .ptr
  | some (.slice _) => .slice
  | some (.map _ _) => .map
  | some (.func _ _ _) => .func
  | _ => .raw

def exLeaf (l : Leaf) (G : Value → Prop) : Prop :=
  match l with
  | .int k => ∃ x : Int, G (.int k x)
  | .bool => ∃ x : Bool, G (.bool x)
  | .str => ∃ s : ByteArray, G (.string s)
  | .ptr => ∃ a : Option Addr, G (.pointer a)
  | .slice => ∃ (a : Option Addr) (n c : Nat), G (.slice a n c)
  | .map => ∃ r : Option Nat, G (.map r)
  | .func => ∃ (g : Nat) (first cap : Array Value), G (.func (.func g) first cap)
  | .raw => ∃ v : Value, G v

theorem exLeaf_sound {l : Leaf} {G : Value → Prop} (h : exLeaf l G) : ∃ v, G v := by
  cases l with
  | int k => obtain ⟨x, h⟩ := h; exact ⟨_, h⟩
  | bool => obtain ⟨x, h⟩ := h; exact ⟨_, h⟩
  | str => obtain ⟨x, h⟩ := h; exact ⟨_, h⟩
  | ptr => obtain ⟨x, h⟩ := h; exact ⟨_, h⟩
  | slice => obtain ⟨a, n, c, h⟩ := h; exact ⟨_, h⟩
  | map => obtain ⟨x, h⟩ := h; exact ⟨_, h⟩
  | func => obtain ⟨g, a, c, h⟩ := h; exact ⟨_, h⟩
  | raw => obtain ⟨x, h⟩ := h; exact ⟨_, h⟩

def leaves (P : Program) : Nat → TypeId → List Leaf
  | 0, _ => []
  | n + 1, t =>
    match P.underlying t with
    | some (.struct fs) => fs.toList.flatMap fun f => leaves P n f.type
    | some (.array len e) => (List.replicate len (leaves P n e)).flatten
    | _ => [leafOf P t]

def exLs : List Leaf → List Value → (List Value → Prop) → Prop
  | [], acc, G => G acc
  | l :: ls, acc, G => exLeaf l fun v => exLs ls (acc ++ [v]) G

theorem exLs_sound : ∀ (ls : List Leaf) (acc : List Value) (G : List Value → Prop), exLs ls acc G → ∃ vs, G (acc ++ vs) := by
  intro ls
  induction ls with
  | nil => intro acc G h; exact ⟨[], by rw [List.append_nil]; exact h⟩
  | cons l ls ih =>
    intro acc G h
    obtain ⟨v, h⟩ := exLeaf_sound h
    obtain ⟨vs, h⟩ := ih _ G h
    exact ⟨v :: vs, by simpa using h⟩

def ex1 (P : Program) (t : TypeId) (G : Value → Prop) : Prop :=
  match P.underlying t with
  | some (.struct _) => exLs (leaves P 9 t) [] fun cs => G (.agg cs.toArray)
  | some (.array _ _) => exLs (leaves P 9 t) [] fun cs => G (.agg cs.toArray)
  | _ => exLeaf (leafOf P t) G

theorem ex1_sound {P : Program} {t : TypeId} {G : Value → Prop} (h : ex1 P t G) : ∃ v, G v := by
  unfold ex1 at h
  split at h
  · obtain ⟨vs, h⟩ := exLs_sound _ _ _ h; exact ⟨_, h⟩
  · obtain ⟨vs, h⟩ := exLs_sound _ _ _ h; exact ⟨_, h⟩
  · exact exLeaf_sound h

def exTup (P : Program) : List TypeId → List Value → (Value → Prop) → Prop
  | [], acc, G => G (.tuple acc.toArray)
  | t :: ts, acc, G => ex1 P t fun v => exTup P ts (acc ++ [v]) G

theorem exTup_sound {P : Program} {G : Value → Prop} : ∀ (ts : List TypeId) (acc : List Value), exTup P ts acc G → ∃ v, G v := by
  intro ts
  induction ts with
  | nil => intro acc h; exact ⟨_, h⟩
  | cons t ts ih =>
    intro acc h
    obtain ⟨v, h⟩ := ex1_sound h
    exact ih _ h

def exT (P : Program) (t : TypeId) (G : Value → Prop) : Prop :=
  match P.underlying t with
  | some (.tuple ts) => exTup P ts.toList [] G
  | _ => ex1 P t G

theorem exT_sound {P : Program} {t : TypeId} {G : Value → Prop} (h : exT P t G) : ∃ v, G v := by
  unfold exT at h
  split at h
  · exact exTup_sound _ _ h
  · exact ex1_sound h

/-! ### loads -/
def loadLs : List Leaf → Addr → Nat → ((World → Prop) → Prop) → List Value → (List Value → Prop) → Prop
  | [], _, _, _, acc, K => K acc
  | l :: ls, a, i, at_, acc, K => exLeaf l fun v => at_ (fun W => W.cell? (a.add i) = some v) ∧ loadLs ls a (i + 1) at_ (acc ++ [v]) K

def sizeIs (P : Program) (t : TypeId) (n : Nat) : Bool :=
  match P.info? t with
  | some i => i.size == n
  | none => false

def isAggB (P : Program) (t : TypeId) : Bool :=
  match P.underlying t with
  | some (.struct _) => true
  | some (.array _ _) => true
  | _ => false

def loadW (P : Program) (t : TypeId) (a : Addr) (at_ : (World → Prop) → Prop) (K : Value → Prop) : Prop :=
  match P.underlying t with
  | none => False
  | some _ =>
    cond (isAggB P t)
      (cond (sizeIs P t (leaves P 9 t).length) (loadLs (leaves P 9 t) a 0 at_ [] fun cs => K (.agg cs.toArray)) False)
      (exLeaf (leafOf P t) fun v => at_ (fun W => W.cell? a = some v) ∧ K v)

theorem loadLs_sound {P : Program} {S : World → Prop} {at_ : (World → Prop) → Prop} (hat : ∀ φ, at_ φ → ∀ W, S W → φ W) : ∀ (ls : List Leaf) (a : Addr) (i : Nat) (acc : List Value) (K : List Value → Prop),
    loadLs ls a i at_ acc K → ∃ vs, (∀ W, S W → (loadCellsFrom a i ls.length acc.toArray).run P W = .ok vs.toArray W) ∧ K vs := by
  intro ls
  induction ls with
  | nil => intro a i acc K h; exact ⟨acc, fun W _ => rfl, h⟩
  | cons l ls ih =>
    intro a i acc K h
    obtain ⟨v, hv, h⟩ := exLeaf_sound h
    obtain ⟨vs, hvs, hK⟩ := ih a (i + 1) (acc ++ [v]) K h
    refine ⟨vs, fun W hW => ?_, hK⟩
    have h1 := hat _ hv W hW
    have h2 := hvs W hW
    show (load (a.add i) >>= fun v => loadCellsFrom a (i + 1) ls.length (acc.toArray.push v)).run P W = _
    rw [run_bind_ok (a := v) (w' := W) (by simp only [load, Sem.run, h1])]
    simpa using h2

theorem run_isAgg {P : Program} {t : TypeId} {d : TypeDesc} (h : P.underlying t = some d) (w : World) : (isAgg t).run P w = .ok (isAggB P t) w := by
  unfold isAgg isAggB
  rw [run_bind_ok (run_underlying h w), h]
  cases d <;> rfl

theorem run_sizeOf {P : Program} {t : TypeId} {n : Nat} (h : sizeIs P t n = true) (w : World) : (sizeOf t).run P w = .ok n w := by
  unfold sizeIs at h
  cases hi : P.info? t with
  | none => rw [hi] at h; cases h
  | some i =>
    rw [hi] at h
    simp at h
    simp [sizeOf, typeInfo, hi, h]

theorem loadW_sound {P : Program} {t : TypeId} {a : Addr} {S : World → Prop} {at_ : (World → Prop) → Prop} (hat : ∀ φ, at_ φ → ∀ W, S W → φ W) {K : Value → Prop} (h : loadW P t a at_ K) :
    ∃ v, (∀ W, S W → (loadVar t a).run P W = .ok v W) ∧ K v := by
  unfold loadW at h
  split at h
  · exact h.elim
  · rename_i d hd
    cases hA : isAggB P t with
    | true =>
      rw [hA] at h
      cases hs : sizeIs P t (leaves P 9 t).length with
      | false => rw [hs] at h; exact h.elim
      | true =>
        rw [hs] at h
        obtain ⟨vs, h1, h2⟩ := loadLs_sound (P := P) hat _ _ _ _ _ h
        refine ⟨_, fun W hW => ?_, h2⟩
        unfold loadVar
        have h3 := h1 W hW
        simp [run_isAgg hd W, hA, run_sizeOf hs W, loadCells, h3]
    | false =>
      rw [hA] at h
      simp only [cond_false] at h
      obtain ⟨v, hv, hK⟩ := exLeaf_sound h
      refine ⟨v, fun W hW => ?_, hK⟩
      unfold loadVar
      have h3 := hat _ hv W hW
      simp [run_isAgg hd W, hA, h3]

/-! ### operations that leave the world alone -/
def optW {α : Type} (p : Option α) (k : α → Prop) : Prop :=
  match p with
  | some a => k a
  | none => False

theorem optW_some {α : Type} {p : Option α} {k : α → Prop} (h : optW p k) : ∃ a, p = some a ∧ k a := by
  cases p with
  | none => exact h.elim
  | some a => exact ⟨a, rfl, h⟩

def nextV (K : Value → Prop) : Next → Prop
  | .value v => K v
  | _ => False

def nextW (K : Value → World → Prop) : Next → World → Prop
  | .value v, w => K v w
  | .skip, w => K undef w
  | _, _ => False

def boundW (ρ : Env) (x : Option Operand) (dflt : Nat) (k : Int → Prop) : Prop :=
  match x with
  | none => k dflt
  | some x =>
    match opd ρ x with
    | .int _ i => k i
    | _ => False

def idxAddrW (P : Program) (t : TypeId) (x ix : Value) (K : Value → Prop) : Prop :=
  match P.underlying t, x, ix with
  | some (.slice e), .slice a n _, .int _ i => cond (sizeIs P e (P.cellsOf e)) (optW a fun ad => (0 ≤ i ∧ i < n) ∧ K (.pointer (some (ad.add (i.toNat * P.cellsOf e))))) False
  | some (.array n e), .pointer p, .int _ i => cond (sizeIs P e (P.cellsOf e)) (optW p fun ad => (0 ≤ i ∧ i < n) ∧ K (.pointer (some (ad.add (i.toNat * P.cellsOf e))))) False
  | _, _, _ => False

def stabW (P : Program) (o : Oper) (ρ : Env) (at_ : (World → Prop) → Prop) (K : Value → Prop) : Prop :=
  match o.op with
  | .load t x =>
    match opd ρ x with
    | .pointer (some a) => loadW P t a at_ K
    | _ => False
  | .lookup t m k ok => exT P o.type fun v => at_ (fun W => (Instr.lookup t (opd ρ m) (opd ρ k) ok).run P W = .ok v W) ∧ K v
  | .nilCheck x =>
    match opd ρ x with
    | .pointer p => optW p fun a => K (.pointer (some a))
    | .func (.func f) fs cs => K (.func (.func f) fs cs)
    | _ => False
  | .indexAddr t x ix => idxAddrW P t (opd ρ x) (opd ρ ix) K
  | .index t x ix =>
    match P.underlying t, opd ρ x, opd ρ ix with
    | some .string, .string s, .int _ i => 0 ≤ i ∧ ∃ b : UInt8, s[i.toNat]? = some b ∧ K (.int .u8 b.toNat)
    | _, _, _ => pureW P (execOp (opd ρ) o) (nextV K)
  | .slice t x lo hi mx =>
    match P.underlying t, opd ρ x, mx with
    | some .string, .string s, none => boundW ρ lo 0 fun l => boundW ρ hi s.size fun h => (0 ≤ l ∧ l ≤ h ∧ h ≤ s.size) ∧ K (.string (s.extract l.toNat h.toNat))
    | some (.slice e), .slice a n c, mx => cond (mx.isNone || hi.isSome) (boundW ρ mx c fun m => boundW ρ hi n fun h => boundW ρ lo 0 fun l => cond (sizeIs P e (P.cellsOf e)) ((0 ≤ l ∧ l ≤ h ∧ h ≤ m ∧ m ≤ c) ∧ K (.slice (if m.toNat = l.toNat then a else a.map (·.add (l.toNat * P.cellsOf e))) (h.toNat - l.toNat) (m.toNat - l.toNat))) False) False
    | _, _, _ => False
  | .binOp op t x y _ =>
    match opd ρ x, opd ρ y with
    | .string a, .string b =>
      match op with
      | .add => a.size + b.size ≤ 9223372036854775807 ∧ K (.string (a ++ b))
      | _ => pureW P (execOp (opd ρ) o) (nextV K)
    | .slice a _ _, .slice none _ _ =>
      match op, P.underlying t with
      | .eql, some (.slice _) => K (.bool a.isNone)
      | .neq, some (.slice _) => K (.bool (!a.isNone))
      | _, _ => False
    | .pointer a, .pointer none =>
      match op, P.underlying t with
      | .eql, some (.pointer _) => K (.bool a.isNone)
      | .neq, some (.pointer _) => K (.bool (!a.isNone))
      | _, _ => False
    | .map a, .map none =>
      match op, P.underlying t with
      | .eql, some (.map _ _) => K (.bool a.isNone)
      | .neq, some (.map _ _) => K (.bool (!a.isNone))
      | _, _ => False
    | .int k a, .int k' b =>
      match op, y with
      | .quo, .tmp _ => cond (decide (k = k')) (b ≠ 0 ∧ K (.int k (k.wrap (a.tdiv b)))) False
      | .rem, .tmp _ => cond (decide (k = k')) (b ≠ 0 ∧ K (.int k (a.tmod b))) False
      | .shl, .tmp _ => 0 ≤ b ∧ K (.int k (k.wrap (a * 2 ^ (min b.toNat k.bits))))
      | .shr, .tmp _ => 0 ≤ b ∧ K (.int k (a.fdiv (2 ^ (min b.toNat k.bits))))
      | _, _ => pureW P (execOp (opd ρ) o) (nextV K)
    | .bool _, .bool _ => pureW P (execOp (opd ρ) o) (nextV K)
    | a, b => ∃ r : Bool, (∀ w, (binOp op t a b).run P w = .ok (.bool r) w) ∧ (∀ w, (eqGuard op t x y a b).run P w = .ok () w) ∧ K (.bool r)
  | .typeAssert x _ t ok =>
    match P.underlying t, ok with
    | some (.interface _), _ => pureW P (execOp (opd ρ) o) (nextV K)
    | some _, false => ex1 P t fun y => opd ρ x = .iface t y ∧ K y
    | _, _ => pureW P (execOp (opd ρ) o) (nextV K)
  | .call c =>
    match c.callee, c.args.toList.map (opd ρ) with
    | .builtin .len, [.map r] => ∃ n : Int, at_ (fun W => (Builtin.len_ c.argTypes o.type #[.map r]).run P W = .ok (.int .i64 n) W) ∧ K (.int .i64 n)
    | _, _ => pureW P (execOp (opd ρ) o) (nextV K)
  | _ => pureW P (execOp (opd ρ) o) (nextV K)

section
variable {P : Program} {o : Oper} {ρ : Env} {S : World → Prop} {at_ : (World → Prop) → Prop} {K : Value → Prop}

theorem pureNext_sound (h : pureW P (execOp (opd ρ) o) (nextV K)) : ∃ v, (∀ W, S W → (execOp (opd ρ) o).run P W = .ok (.value v) W) ∧ K v := by
  obtain ⟨n, h1, h2⟩ := pureW_sound _ _ h
  cases n <;> first | exact h2.elim | exact ⟨_, fun W _ => h1 W, h2⟩

theorem boundW_some {x : Option Operand} {dflt : Nat} {k : Int → Prop} (h : boundW ρ x dflt k) :
    ∃ i, k i ∧ ((x = none ∧ i = dflt) ∨ ∃ y q, x = some y ∧ opd ρ y = .int q i) := by
  unfold boundW at h
  split at h
  · exact ⟨_, h, Or.inl ⟨rfl, rfl⟩⟩
  · split at h
    · rename_i y _ q i hi
      exact ⟨i, h, Or.inr ⟨_, q, rfl, hi⟩⟩
    · exact h.elim


theorem cond_true_of {b : Bool} {X : Prop} (h : cond b X False) : b = true ∧ X := by
  cases b
  · exact h.elim
  · exact ⟨rfl, h⟩

theorem idxAddrW_sound {t : TypeId} {x ix : Value} (h : idxAddrW P t x ix K) : ∃ v, (∀ W, (Instr.indexAt t x ix).run P W = .ok v W) ∧ K v := by
  unfold idxAddrW at h
  split at h
  · rename_i e a n c k i hu
    obtain ⟨hs, h⟩ := cond_true_of h
    obtain ⟨ad, rfl, ⟨h0, h1⟩, hK⟩ := optW_some h
    exact ⟨_, fun W => by simp [Instr.indexAt, asIntOf, run_underlying hu, run_sizeOf hs, h0, h1], hK⟩
  · rename_i n e p k i hu
    obtain ⟨hs, h⟩ := cond_true_of h
    obtain ⟨ad, rfl, ⟨h0, h1⟩, hK⟩ := optW_some h
    exact ⟨_, fun W => by simp [Instr.indexAt, Instr.sureAddr, asIntOf, run_underlying hu, run_sizeOf hs, h0, h1], hK⟩
  · exact h.elim

theorem equalIn_slice_nil {t e : TypeId} (hu : P.underlying t = some (.slice e)) (d : Nat) (a : Option Addr) (n c m k : Nat) (w : World) :
    (Op.equalIn (d + 1) t (.slice a n c) (.slice none m k)).run P w = .ok a.isNone w := by
  cases a <;> simp [Op.equalIn, run_underlying hu]
theorem equalIn_ptr_nil {t e : TypeId} (hu : P.underlying t = some (.pointer e)) (d : Nat) (a : Option Addr) (w : World) :
    (Op.equalIn (d + 1) t (.pointer a) (.pointer none)).run P w = .ok a.isNone w := by
  cases a <;> simp [Op.equalIn, run_underlying hu]
theorem eql_slice_nil {t e : TypeId} (hu : P.underlying t = some (.slice e)) (a : Option Addr) (n c m k : Nat) (w : World) :
    (binOp .eql t (.slice a n c) (.slice none m k)).run P w = .ok (.bool a.isNone) w := by
  have h : (Op.equal t (.slice a n c) (.slice none m k)).run P w = .ok a.isNone w := equalIn_slice_nil hu 9999 a n c m k w
  show ((Op.equal t (.slice a n c) (.slice none m k)) >>= fun b => (pure (.bool b) : Sem Value)).run P w = _
  rw [run_bind_ok h]; rfl
theorem neq_slice_nil {t e : TypeId} (hu : P.underlying t = some (.slice e)) (a : Option Addr) (n c m k : Nat) (w : World) :
    (binOp .neq t (.slice a n c) (.slice none m k)).run P w = .ok (.bool (!a.isNone)) w := by
  have h : (Op.equal t (.slice a n c) (.slice none m k)).run P w = .ok a.isNone w := equalIn_slice_nil hu 9999 a n c m k w
  show ((Op.equal t (.slice a n c) (.slice none m k)) >>= fun b => (pure (.bool (!b)) : Sem Value)).run P w = _
  rw [run_bind_ok h]; rfl
theorem equalIn_map_nil {t k e : TypeId} (hu : P.underlying t = some (.map k e)) (d : Nat) (a : Option Nat) (w : World) :
    (Op.equalIn (d + 1) t (.map a) (.map none)).run P w = .ok a.isNone w := by
  cases a <;> simp [Op.equalIn, run_underlying hu]
theorem eql_map_nil {t k e : TypeId} (hu : P.underlying t = some (.map k e)) (a : Option Nat) (w : World) :
    (binOp .eql t (.map a) (.map none)).run P w = .ok (.bool a.isNone) w := by
  have h : (Op.equal t (.map a) (.map none)).run P w = .ok a.isNone w := equalIn_map_nil hu 9999 a w
  show ((Op.equal t (.map a) (.map none)) >>= fun b => (pure (.bool b) : Sem Value)).run P w = _
  rw [run_bind_ok h]; rfl
theorem neq_map_nil {t k e : TypeId} (hu : P.underlying t = some (.map k e)) (a : Option Nat) (w : World) :
    (binOp .neq t (.map a) (.map none)).run P w = .ok (.bool (!a.isNone)) w := by
  have h : (Op.equal t (.map a) (.map none)).run P w = .ok a.isNone w := equalIn_map_nil hu 9999 a w
  show ((Op.equal t (.map a) (.map none)) >>= fun b => (pure (.bool (!b)) : Sem Value)).run P w = _
  rw [run_bind_ok h]; rfl
theorem eql_ptr_nil {t e : TypeId} (hu : P.underlying t = some (.pointer e)) (a : Option Addr) (w : World) :
    (binOp .eql t (.pointer a) (.pointer none)).run P w = .ok (.bool a.isNone) w := by
  have h : (Op.equal t (.pointer a) (.pointer none)).run P w = .ok a.isNone w := equalIn_ptr_nil hu 9999 a w
  show ((Op.equal t (.pointer a) (.pointer none)) >>= fun b => (pure (.bool b) : Sem Value)).run P w = _
  rw [run_bind_ok h]; rfl
theorem neq_ptr_nil {t e : TypeId} (hu : P.underlying t = some (.pointer e)) (a : Option Addr) (w : World) :
    (binOp .neq t (.pointer a) (.pointer none)).run P w = .ok (.bool (!a.isNone)) w := by
  have h : (Op.equal t (.pointer a) (.pointer none)).run P w = .ok a.isNone w := equalIn_ptr_nil hu 9999 a w
  show ((Op.equal t (.pointer a) (.pointer none)) >>= fun b => (pure (.bool (!b)) : Sem Value)).run P w = _
  rw [run_bind_ok h]; rfl

set_option maxHeartbeats 1000000 in
theorem stabW_sound (hat : ∀ φ, at_ φ → ∀ W, S W → φ W) (h : stabW P o ρ at_ K) : ∃ v, (∀ W, S W → (execOp (opd ρ) o).run P W = .ok (.value v) W) ∧ K v := by
  obtain ⟨dst, op, type, pos, after, guard⟩ := o
  cases op
  case load t x =>
    simp only [stabW] at h
    split at h
    · rename_i a ha
      obtain ⟨v, h1, h2⟩ := loadW_sound hat h
      exact ⟨v, fun W hW => by simp [execOp, ha, Instr.loadAt, Instr.sureAddr, h1 W hW], h2⟩
    · exact h.elim
  case lookup t m k ok =>
    simp only [stabW] at h
    obtain ⟨v, h1, h2⟩ := exT_sound h
    exact ⟨v, fun W hW => by simp [execOp, hat _ h1 W hW], h2⟩
  case nilCheck x =>
    simp only [stabW] at h
    split at h
    · rename_i p hp
      obtain ⟨a, rfl, hK⟩ := optW_some h
      exact ⟨_, fun W _ => by simp [execOp, hp], hK⟩
    · rename_i f fs cs hp
      exact ⟨_, fun W _ => by simp [execOp, hp], h⟩
    · exact h.elim
  case indexAddr t x ix =>
    simp only [stabW] at h
    obtain ⟨v, h1, h2⟩ := idxAddrW_sound h
    exact ⟨v, fun W _ => by simp [execOp, h1 W], h2⟩
  case index t x ix =>
    simp only [stabW] at h
    split at h
    · rename_i s k i hu hx hi
      obtain ⟨h0, b, hb, hK⟩ := h
      exact ⟨_, fun W _ => by simp [execOp, hx, hi, Instr.index, asIntOf, run_underlying hu, h0, hb], hK⟩
    · exact pureNext_sound h
  case slice t x lo hi mx =>
    simp only [stabW] at h
    split at h
    · rename_i s hu hx
      obtain ⟨l, h, hl⟩ := boundW_some h
      obtain ⟨hh, h, hhi⟩ := boundW_some h
      obtain ⟨⟨h0, h1, h2⟩, hK⟩ := h
      refine ⟨_, fun W _ => ?_, hK⟩
      have e1 : ((hh.toNat : Nat) : Int) = hh := Int.toNat_of_nonneg (by omega)
      rcases hl with ⟨rfl, rfl⟩ | ⟨yl, ql, rfl, hyl⟩ <;> rcases hhi with ⟨rfl, rfl⟩ | ⟨yh, qh, rfl, hyh⟩
      · simp [execOp, Instr.sliceAt, Instr.slice, run_underlying hu, hx, Instr.sliceBounds]
      · have g0 : 0 ≤ hh := by omega
        simp [execOp, Instr.sliceAt, Instr.slice, run_underlying hu, hx, hyh, Instr.sliceBounds, Instr.sliceBound, asIntOf, g0, h2]
      · have g1 : l ≤ (s.size : Int) := by omega
        simp [execOp, Instr.sliceAt, Instr.slice, run_underlying hu, hx, hyl, Instr.sliceBounds, Instr.sliceBound, asIntOf, h0, g1]
      · have g0 : 0 ≤ hh := by omega
        simp [execOp, Instr.sliceAt, Instr.slice, run_underlying hu, hx, hyl, hyh, Instr.sliceBounds, Instr.sliceBound, asIntOf, h0, h1, g0, h2, e1]
    · rename_i e a n c hu hx
      obtain ⟨hmh, h⟩ := cond_true_of h
      obtain ⟨m, h, hm⟩ := boundW_some h
      obtain ⟨hh, h, hhi⟩ := boundW_some h
      obtain ⟨l, h, hl⟩ := boundW_some h
      obtain ⟨hs, h⟩ := cond_true_of h
      obtain ⟨⟨h0, h1, h2, h3⟩, hK⟩ := h
      refine ⟨_, fun W _ => ?_, hK⟩
      have em : ((m.toNat : Nat) : Int) = m := Int.toNat_of_nonneg (by omega)
      have eh : ((hh.toNat : Nat) : Int) = hh := Int.toNat_of_nonneg (by omega)
      have gm : 0 ≤ m := by omega
      have gh : 0 ≤ hh := by omega
      have ghc : hh ≤ (c : Int) := by omega
      rcases hm with ⟨rfl, rfl⟩ | ⟨ym, qm, rfl, hym⟩ <;> rcases hl with ⟨rfl, rfl⟩ | ⟨yl, ql, rfl, hyl⟩ <;> rcases hhi with ⟨rfl, rfl⟩ | ⟨yh, qh, rfl, hyh⟩ <;>
        first
        | (simp at hmh; done)
        | simp [execOp, Instr.sliceAt, Instr.slice, run_underlying hu, run_sizeOf hs, *, Instr.sliceBounds, Instr.sliceBound, asIntOf]
    · exact h.elim
  case binOp op t x y yt =>
    simp only [stabW] at h
    split at h
    · rename_i a b ha hb
      split at h
      · obtain ⟨h1, hK⟩ := h
        refine ⟨_, fun W _ => ?_, hK⟩
        simp [execOp, ha, hb, eqGuard, binOp, Op.stringOp, IntKind.max, IntKind.bits, IntKind.signed]
        omega
      · exact pureNext_sound h
    · rename_i a n c m d ha hb
      split at h
      · rename_i e hu
        exact ⟨_, fun W _ => by simp [execOp, ha, hb, eqGuard, eql_slice_nil hu], h⟩
      · rename_i e hu
        exact ⟨_, fun W _ => by simp [execOp, ha, hb, eqGuard, neq_slice_nil hu], h⟩
      · exact h.elim
    · rename_i a ha hb
      split at h
      · rename_i e hu
        exact ⟨_, fun W _ => by simp [execOp, ha, hb, eqGuard, eql_ptr_nil hu], h⟩
      · rename_i e hu
        exact ⟨_, fun W _ => by simp [execOp, ha, hb, eqGuard, neq_ptr_nil hu], h⟩
      · exact h.elim
    · rename_i a ha hb
      split at h
      · rename_i k e hu
        exact ⟨_, fun W _ => by simp [execOp, ha, hb, eqGuard, eql_map_nil hu], h⟩
      · rename_i k e hu
        exact ⟨_, fun W _ => by simp [execOp, ha, hb, eqGuard, neq_map_nil hu], h⟩
      · exact h.elim
    · rename_i k a k' b ha hb
      split at h
      · obtain ⟨hk, h1⟩ := cond_true_of h
        obtain rfl := of_decide_eq_true hk
        obtain ⟨h0, h⟩ := h1
        exact ⟨_, fun W _ => by simp [execOp, ha, hb, eqGuard, binOp, Op.intDiv, h0], h⟩
      · obtain ⟨hk, h1⟩ := cond_true_of h
        obtain rfl := of_decide_eq_true hk
        obtain ⟨h0, h⟩ := h1
        exact ⟨_, fun W _ => by simp [execOp, ha, hb, eqGuard, binOp, Op.intDiv, h0], h⟩
      · obtain ⟨h0, h⟩ := h
        exact ⟨_, fun W _ => by simp [execOp, ha, hb, eqGuard, binOp, Op.shift, Int.not_lt.2 h0], h⟩
      · obtain ⟨h0, h⟩ := h
        exact ⟨_, fun W _ => by simp [execOp, ha, hb, eqGuard, binOp, Op.shift, Int.not_lt.2 h0], h⟩
      · exact pureNext_sound h
    · exact pureNext_sound h
    · obtain ⟨r, h1, h2, hK⟩ := h
      exact ⟨_, fun W _ => by simp [execOp, h1 W, h2 W], hK⟩
  case typeAssert x xt t ok =>
    simp only [stabW] at h
    split at h
    · exact pureNext_sound h
    · rename_i d hni hu
      obtain ⟨y, hy, hK⟩ := ex1_sound h
      refine ⟨y, fun W _ => ?_, hK⟩
      cases d <;> first
        | exact absurd rfl (hni _)
        | simp [execOp, hy, Instr.typeAssert, run_underlying hu]
    · exact pureNext_sound h
  case call c =>
    simp only [stabW] at h
    split at h
    · rename_i r hc ha
      obtain ⟨n, h1, hK⟩ := h
      refine ⟨_, fun W hW => ?_, hK⟩
      have h2 := hat _ h1 W hW
      have e : c.args.map (opd ρ) = #[.map r] := by
        rw [← Array.toList_inj, Array.toList_map]; exact ha
      simp [execOp, resolve, hc, invoke, builtin, e, h2]
    · exact pureNext_sound h
  all_goals exact pureNext_sound h

end

/-! ### operations that act -/
def entersB (P : Program) (f : FuncId) : Bool :=
  match P.funcs[f]? with
  | some fn => fn.body.isSome && !(fn.name == "runtime.NumGoroutine")
  | none => false

theorem enters_of_B {P : Program} {f : FuncId} (h : entersB P f = true) (args : Array Value) (w : World) : (callFunc f args).run P w = .ok (.enter f args) w := by
  unfold entersB at h
  cases hf : P.funcs[f]? with
  | none => rw [hf] at h; cases h
  | some fn =>
    rw [hf] at h
    simp at h
    obtain ⟨h1, h2⟩ := h
    have h3 : ¬ fn.body = none := by intro e; rw [e] at h1; cases h1
    simp [callFunc, hf, h2, h3]

def callW (P : Program) (f : Value) (args : List Value) (t : TypeId) (w : World) (K : Value → World → Prop) : Prop :=
  match f with
  | .func (.func g) first captured =>
    cond (entersB P g) (Calls P g (first.toList ++ (args ++ captured.toList)).toArray w fun e w' => exT P t fun v => e = .returned v ∧ K v w')
      (exT P t fun v => ∃ w', (callFunc g (first.toList ++ (args ++ captured.toList)).toArray).run P w = .ok (.value v) w' ∧ K v w')
  | _ => False

/-- the type at which part i of a tuple in slot d is taken out in this region -/
def extTy (ops : Array Oper) (d : Option Tmp) (i : Nat) : Option TypeId :=
  (ops.toList.find? fun o => match o.op with
    | .extract (.tmp t) j => some t == d && j == i
    | _ => false).map (·.type)
def exO (P : Program) (t : Option TypeId) (G : Value → Prop) : Prop :=
  match t with
  | some t => ex1 P t G
  | none => exLeaf .raw G
theorem exO_sound {P : Program} {t : Option TypeId} {G : Value → Prop} (h : exO P t G) : ∃ v, G v := by
  cases t with
  | none => exact exLeaf_sound (l := .raw) h
  | some t => exact ex1_sound h

def actW (P : Program) (ops : Array Oper) (o : Oper) (ρ : Env) (w : World) (K : Value → World → Prop) : Prop :=
  match o.op with
  | .mapUpdate t m k x => ∃ w', (Instr.mapUpdate t (opd ρ m) (opd ρ k) (opd ρ x)).run P w = .ok () w' ∧ K undef w'
  | .insert t m k x => ∃ w', (Instr.mapUpdate t (opd ρ m) (opd ρ k) (opd ρ x)).run P w = .ok () w' ∧ K undef w'
  | .mapEntry t m k => ∃ (v : Value) (n : Int) (w' : World), (Instr.mapEntry t (opd ρ m) (opd ρ k)).run P w = .ok (.tuple #[v, .int .i64 n]) w' ∧ K (.tuple #[v, .int .i64 n]) w'
  | .entryStore t m k x => ∃ w', (Instr.entryStore t (opd ρ m) (opd ρ k) (opd ρ x)).run P w = .ok () w' ∧ K undef w'
  | .range t x => ∃ (v : Value) (w' : World), (Instr.range t (opd ρ x)).run P w = .ok v w' ∧ K v w'
  | .next it s =>
    (∃ w', (Instr.next (opd ρ it) s o.type).run P w = .ok (.tuple #[.bool false]) w' ∧ K (.tuple #[.bool false]) w') ∨
    cond s (∃ (i c : Int) (w' : World), (Instr.next (opd ρ it) s o.type).run P w = .ok (.tuple #[.bool true, .int .i64 i, .int .i32 c]) w' ∧ K (.tuple #[.bool true, .int .i64 i, .int .i32 c]) w')
      (∃ (k v : Value) (w' : World), (Instr.next (opd ρ it) s o.type).run P w = .ok (.tuple #[.bool true, k, v]) w' ∧ K (.tuple #[.bool true, k, v]) w')
  | .entry it => exO P (extTy ops o.dst 0) fun k => exO P (extTy ops o.dst 1) fun v => ∃ w', (Instr.entry (opd ρ it)).run P w = .ok (.tuple #[k, v]) w' ∧ K (.tuple #[k, v]) w'
  | .convert s d x => exT P o.type fun v => ∃ w', (convert s d (opd ρ x)).run P w = .ok v w' ∧ K v w'
  | .makeSlice t l c => exT P o.type fun v => ∃ w', (Instr.makeSlice t (opd ρ l) (opd ρ c)).run P w = .ok v w' ∧ K v w'
  | .call c =>
    match c.callee with
    | .value f => callW P (opd ρ f) (c.args.toList.map (opd ρ)) o.type w K
    | .invoke r m => ∃ (f : FuncId) (as : Array Value), (callMethod (opd ρ r) m (c.args.toList.map (opd ρ)).toArray).run P w = .ok (.enter f as) w ∧ Calls P f as w fun e w' => exT P o.type fun v => e = .returned v ∧ K v w'
    | .builtin .append => exT P o.type fun v => ∃ w', (Builtin.append_ c.argTypes o.type (c.args.toList.map (opd ρ)).toArray).run P w = .ok v w' ∧ K v w'
    | .builtin .copy => exT P o.type fun v => ∃ w', (Builtin.copy_ c.argTypes o.type (c.args.toList.map (opd ρ)).toArray).run P w = .ok v w' ∧ K v w'
    | .builtin .clear => ∃ w', (Builtin.clear_ c.argTypes o.type (c.args.toList.map (opd ρ)).toArray).run P w = .ok (.tuple #[]) w' ∧ K (.tuple #[]) w'
    | .builtin .delete => ∃ w', (Builtin.delete_ c.argTypes o.type (c.args.toList.map (opd ρ)).toArray).run P w = .ok (.tuple #[]) w' ∧ K (.tuple #[]) w'
    | _ => semW P (execOp (opd ρ) o) w (nextW K)
  | _ => semW P (execOp (opd ρ) o) w (nextW K)

def stable (o : Oper) (ρ : Env) : Bool :=
  match o.op with
  | .move _ | .assign _ | .pick .. | .load .. | .lookup .. | .nilCheck _ | .indexAddr .. | .index .. | .slice .. | .binOp .. | .unOp .. | .fieldAddr .. | .field .. | .extract .. | .makeInterface .. | .makeFunc .. | .typeAssert .. | .build .. => true
  | .convert _ _ x => match opd ρ x with | .int _ _ => true | _ => false
  | .call c => match c.callee with | .builtin .len | .builtin .cap | .builtin .min | .builtin .max => true | _ => false
  | _ => false

def opW (P : Program) (ops : Array Oper) (o : Oper) (ρ : Env) (w : World) (K : Value → World → Prop) : Prop :=
  cond (stable o ρ) (stabW P o ρ (fun φ => φ w) fun v => K v w) (actW P ops o ρ w K)

section
variable {P : Program} {o : Oper} {ρ : Env} {w : World} {K : Value → World → Prop} {Q : Exit → Act → World → Prop}

/-- what an operation's run gives the walk -/
def Gives (P : Program) (o : Oper) (ρ : Env) (w : World) (K : Value → World → Prop) : Prop :=
  (∃ v w', (execOp (opd ρ) o).run P w = .ok (.value v) w' ∧ K v w') ∨
  (∃ w', (execOp (opd ρ) o).run P w = .ok .skip w' ∧ K undef w') ∨
  (∃ f as w', (execOp (opd ρ) o).run P w = .ok (.enter f as) w' ∧ Calls P f as w' fun e w'' => ∃ v, e = .returned v ∧ K v w'')

theorem calls_ex {f : FuncId} {as : Array Value} {t : TypeId} (h : Calls P f as w fun e w' => exT P t fun v => e = .returned v ∧ K v w') :
    Calls P f as w fun e w' => ∃ v, e = .returned v ∧ K v w' := h.mono fun _ _ h => exT_sound h

theorem callW_sound {dst : Option Tmp} {c : Call} {type : TypeId} {pos : String} {after : Array Edge} {guard : Option (Nat × Bool)} {f : Operand} (hc : c.callee = .value f)
    (h : callW P (opd ρ f) (c.args.toList.map (opd ρ)) type w K) : Gives P ⟨dst, .call c, type, pos, after, guard⟩ ρ w K := by
  unfold callW at h
  split at h
  · rename_i g first cap hf
    have e1 : first ++ Array.map (opd ρ) c.args ++ cap = (first.toList ++ (c.args.toList.map (opd ρ) ++ cap.toList)).toArray := by
      rw [← Array.toList_inj]; simp
    cases hb : entersB P g with
    | true =>
      rw [hb] at h
      refine Or.inr (Or.inr ⟨g, _, w, ?_, calls_ex h⟩)
      simp [execOp, resolve, hc, hf, Deferred.ofValue, invoke]
      rw [← Array.append_assoc, e1, enters_of_B hb]
    | false =>
      rw [hb] at h
      obtain ⟨v, w', h1, h2⟩ := exT_sound h
      refine Or.inl ⟨v, w', ?_, h2⟩
      simp [execOp, resolve, hc, hf, Deferred.ofValue, invoke]
      rw [← Array.append_assoc, e1, h1]
  · exact h.elim

theorem nextW_gives (h : semW P (execOp (opd ρ) o) w (nextW K)) : Gives P o ρ w K := by
  obtain ⟨n, w', h1, h2⟩ := semW_sound _ _ _ h
  cases n <;> first | exact h2.elim | exact Or.inl ⟨_, _, h1, h2⟩ | exact Or.inr (Or.inl ⟨_, h1, h2⟩)

theorem map_args (c : Call) (ρ : Env) : c.args.map (opd ρ) = (c.args.toList.map (opd ρ)).toArray := by
  rw [← Array.toList_inj]; simp

theorem actW_sound {ops : Array Oper} (h : actW P ops o ρ w K) : Gives P o ρ w K := by
  obtain ⟨dst, op, type, pos, after, guard⟩ := o
  cases op
  case mapUpdate t m k x =>
    obtain ⟨w', h1, h2⟩ := h
    exact Or.inr (Or.inl ⟨w', by simp [execOp, h1], h2⟩)
  case insert t m k x =>
    obtain ⟨w', h1, h2⟩ := h
    exact Or.inr (Or.inl ⟨w', by simp [execOp, h1], h2⟩)
  case mapEntry t m k =>
    obtain ⟨v, n, w', h1, h2⟩ := h
    exact Or.inl ⟨_, w', by simp [execOp, h1], h2⟩
  case entryStore t m k x =>
    obtain ⟨w', h1, h2⟩ := h
    exact Or.inr (Or.inl ⟨w', by simp [execOp, h1], h2⟩)
  case range t x =>
    obtain ⟨v, w', h1, h2⟩ := h
    exact Or.inl ⟨v, w', by simp [execOp, h1], h2⟩
  case next it s =>
    simp only [actW] at h
    rcases h with ⟨w', h1, h2⟩ | h
    · exact Or.inl ⟨_, w', by simp [execOp, h1], h2⟩
    · cases s with
      | true => obtain ⟨i, c, w', h1, h2⟩ := h; exact Or.inl ⟨_, w', by simp [execOp, h1], h2⟩
      | false => obtain ⟨i, c, w', h1, h2⟩ := h; exact Or.inl ⟨_, w', by simp [execOp, h1], h2⟩
  case entry it =>
    obtain ⟨k, h⟩ := exO_sound h
    obtain ⟨v, w', h1, h2⟩ := exO_sound h
    exact Or.inl ⟨_, w', by simp [execOp, h1], h2⟩
  case convert s d x =>
    obtain ⟨v, w', h1, h2⟩ := exT_sound h
    exact Or.inl ⟨v, w', by simp [execOp, h1], h2⟩
  case makeSlice t l c =>
    obtain ⟨v, w', h1, h2⟩ := exT_sound h
    exact Or.inl ⟨v, w', by simp [execOp, h1], h2⟩
  case call c =>
    simp only [actW] at h
    split at h
    · rename_i f hc; exact callW_sound hc h
    · rename_i r m hc
      obtain ⟨f, as, h1, h2⟩ := h
      refine Or.inr (Or.inr ⟨f, as, w, ?_, calls_ex h2⟩)
      have e2 : List.take c.args.size (List.map (opd ρ) c.args.toList) = List.map (opd ρ) c.args.toList := List.take_of_length_le (by simp)
      simp [execOp, resolve, hc, invoke, map_args, e2, h1]
    · rename_i hc
      obtain ⟨v, w', h1, h2⟩ := exT_sound h
      exact Or.inl ⟨v, w', by simp [execOp, resolve, hc, invoke, builtin, map_args, h1], h2⟩
    · rename_i hc
      obtain ⟨v, w', h1, h2⟩ := exT_sound h
      exact Or.inl ⟨v, w', by simp [execOp, resolve, hc, invoke, builtin, map_args, h1], h2⟩
    · rename_i hc
      obtain ⟨w', h1, h2⟩ := h
      exact Or.inl ⟨_, w', by simp [execOp, resolve, hc, invoke, builtin, map_args, h1], h2⟩
    · rename_i hc
      obtain ⟨w', h1, h2⟩ := h
      exact Or.inl ⟨_, w', by simp [execOp, resolve, hc, invoke, builtin, map_args, h1], h2⟩
    · exact nextW_gives h
  all_goals exact nextW_gives h

theorem opW_sound {ops : Array Oper} (h : opW P ops o ρ w K) : Gives P o ρ w K := by
  unfold opW at h
  cases hs : stable o ρ with
  | true =>
    rw [hs] at h
    obtain ⟨v, h1, h2⟩ := stabW_sound (S := fun W => W = w) (fun φ hφ W hW => by rw [hW]; exact hφ) h
    exact Or.inl ⟨v, w, h1 w rfl, h2⟩
  | false =>
    rw [hs] at h
    exact actW_sound h

theorem Gives.wp {K' : Act → World → Prop} (h : Gives P o ρ w K) (hk : ∀ v w', K v w' → K' (act (put ρ o.dst v)) w') : o.wp P (act ρ) w K' Q := by
  unfold Oper.wp
  rw [act_eval]
  rcases h with ⟨v, w', h1, h2⟩ | ⟨w', h1, h2⟩ | ⟨f, as, w', h1, h2⟩
  · rw [h1, Oper.upon_value, act_put]; exact hk _ _ h2
  · rw [h1, Oper.upon_skip, act_put]; exact hk _ _ h2
  · rw [h1, Oper.upon_enter]
    refine h2.mono ?_
    rintro e w'' ⟨v, rfl, h3⟩
    show K' ((act ρ).put o.dst v) w''
    rw [act_put]; exact hk _ _ h3
end

/-! ### regions -/
def guardSrc (ops : Array Oper) (d : Option Tmp) : Bool :=
  match d with
  | none => false
  | some d => ops.any fun p => match p.guard with
    | some (j, _) => ((ops[j]?).bind (·.dst)) == some d
    | none => false

/-- what a guard looks at is parted at once -/
def partW (b : Bool) (v : Value) (k : Value → Prop) : Prop :=
  cond b (match v with
    | .bool x => cond x (k (.bool true)) (k (.bool false))
    | v => k v) (k v)

theorem partW_sound {b : Bool} {v : Value} {k : Value → Prop} (h : partW b v k) : k v := by
  unfold partW at h
  cases b with
  | false => exact h
  | true =>
    simp only [cond_true] at h
    split at h
    · rename_i x; cases x <;> exact h
    · exact h

def guardVal (ops : Array Oper) (ρ : Env) (j : Nat) : Option Bool :=
  match ((ops[j]?).bind (·.dst)).bind (ρ[·]?) with
  | some (.bool b) => some b
  | _ => none

theorem guardVal_eq (ops : Array Oper) (ρ : Env) : yielded ops (act ρ).tmps = guardVal ops ρ := by
  funext j
  unfold yielded guardVal
  have e : ∀ d : Nat, (act ρ).tmps[d]? = ρ[d]? := fun d => by simp [act]
  have e' : (fun x : Nat => (act ρ).tmps[x]?) = fun x : Nat => ρ[x]? := funext e
  rw [e']
  cases (ops[j]?.bind fun x => x.dst).bind fun x => ρ[x]? with
  | none => rfl
  | some v => cases v <;> rfl

def wantedB (ops : Array Oper) (o : Oper) (ρ : Env) : Bool :=
  match o.guard with
  | none => true
  | some (j, want) =>
    match guardVal ops ρ j with
    | some b => b == want
    | none => false

theorem wanted_eq (ops : Array Oper) (o : Oper) (ρ : Env) : Region.wanted o (yielded ops (act ρ).tmps) = wantedB ops o ρ := by
  rw [guardVal_eq]
  unfold Region.wanted wantedB
  cases hg : o.guard with
  | none => rfl
  | some g =>
    obtain ⟨j, want⟩ := g
    dsimp only
    cases h : guardVal ops ρ j <;> simp

def opsW (P : Program) (ops : Array Oper) : List Oper → Env → World → (Env → World → Prop) → Prop
  | [], ρ, w, K => K ρ w
  | o :: rest, ρ, w, K =>
    cond (wantedB ops o ρ)
      (opW P ops o ρ w fun v w' => partW (guardSrc ops o.dst) v fun v => opsW P ops rest (put ρ o.dst v) w' K)
      (opsW P ops rest (put ρ o.dst undef) w K)

theorem opsW_sound {P : Program} {ops : Array Oper} {Q : Exit → Act → World → Prop} {K : Env → World → Prop} (hQ : ∀ ρ w, K ρ w → Q .normal (act ρ) w) : ∀ (l : List Oper) (ρ : Env) (w : World),
    opsW P ops l ρ w K → wpList P ops Q l (act ρ) w := by
  intro l
  induction l with
  | nil => intro ρ w h; exact hQ _ _ h
  | cons o l ih =>
    intro ρ w h
    unfold opsW at h
    unfold wpList
    rw [wanted_eq]
    cases hw : wantedB ops o ρ with
    | true =>
      rw [hw] at h
      rw [if_pos rfl]
      have h : opW P ops o ρ w fun v w' => partW (guardSrc ops o.dst) v fun v => opsW P ops l (put ρ o.dst v) w' K := h
      exact Or.inl ((opW_sound h).wp fun v w' hk => ih _ _ (partW_sound (k := fun v => opsW P ops l (put ρ o.dst v) w' K) hk))
    | false =>
      rw [hw] at h
      rw [if_neg (by simp), act_put]
      exact ih _ _ h

/-- does this operation wait for all others? -/
def lastB (ops : Array Oper) (i : Nat) : Bool :=
  match ops[i]? with
  | some o => (List.range ops.size).all fun j => j == i || o.after.any fun e => Region.binds .any e && e.on == j
  | none => false

/-- an operation whose answer hangs on the world -/
def depB (o : Oper) : Bool :=
  match o.op with
  | .load .. => true
  | .lookup .. => true
  | .call c => match c.callee with | .builtin .len => true | _ => false
  | _ => false

/-- a store that waits for all whose answers hang on the world -/
def lateB (ops : Array Oper) (j : Nat) : Bool :=
  match ops[j]? with
  | some o => (match o.op with | .store .. => true | _ => false) && (List.range ops.size).all fun i =>
      match ops[i]? with
      | some oi => !depB oi || o.after.any fun e => Region.binds .any e && e.on == i
      | none => true
  | none => false

def lateDone (ops : Array Oper) (listed : Array Bool) : Bool := (List.range ops.size).any fun j => lateB ops j && listed.getD j false

/-- whatever order is picked, and S holds behind every operation, but one that waits for all others -/
def anyZ (P : Program) (ops : Array Oper) (Q : Exit → Act → World → Prop) (S : World → Prop) : Nat → Array Bool → Act → World → Prop
  | 0, listed, a, w => Region.ready .any ops listed = [] ∧ Q .normal a w
  | k + 1, listed, a, w =>
    (Region.ready .any ops listed = [] → Q .normal a w) ∧
    ∀ i ∈ Region.ready .any ops listed, wpOp P ops Q i (fun a' w' => (lastB ops i = true ∨ lateDone ops (listed.setIfInBounds i true) = true ∨ S w') ∧ anyZ P ops Q S k (listed.setIfInBounds i true) a' w') a w

section
variable {P : Program} {ops : Array Oper} {Q : Exit → Act → World → Prop} {S : World → Prop}

theorem anyZ_any : ∀ (k : Nat) (listed : Array Bool) (a : Act) (w : World), anyZ P ops Q S k listed a w → wpAny P .any ops Q k listed a w
  | 0, _, _, _, h => h
  | k + 1, _, _, _, h => ⟨h.1, fun i hi => wpOp_mono (fun a' w' h' => anyZ_any k _ a' w' h'.2) (h.2 i hi)⟩

theorem anyZ_done {listed : Array Bool} {a : Act} {w : World} (hr : Region.ready .any ops listed = []) (h : Q .normal a w) : ∀ k, anyZ P ops Q S k listed a w
  | 0 => ⟨hr, h⟩
  | _ + 1 => ⟨fun _ => h, by rw [hr]; simp⟩

theorem not_last {i j : Nat} {oj : Oper} {listed : Array Bool} (hj : ops[j]? = some oj) (hji : j ≠ i) (hi : i ∈ Region.ready .any ops listed)
    (hno : ∀ e ∈ oj.after, Region.binds .any e = true → e.on ≠ i) : lastB ops j = false := by
  cases hl : lastB ops j with
  | false => rfl
  | true =>
    unfold lastB at hl
    simp only [hj, List.all_eq_true, List.mem_range] at hl
    obtain ⟨_, oi, hoi, _⟩ := mem_ready.1 hi
    have h1 := hl i (Array.getElem?_eq_some_iff.1 hoi).1
    simp only [Bool.or_eq_true, beq_iff_eq] at h1
    rcases h1 with h1 | h1
    · exact absurd h1.symm hji
    · obtain ⟨e, he, hb⟩ := Array.any_eq_true'.1 h1
      simp only [Bool.and_eq_true, beq_iff_eq] at hb
      exact absurd hb.2 (hno e he hb.1)

theorem late_not {i j : Nat} {oi : Oper} {listed : Array Bool} (hi : ops[i]? = some oi) (hd : depB oi = true) (hr : i ∈ Region.ready .any ops listed) (hj : j ∈ Region.ready .any ops listed) : lateB ops j = false := by
  cases hl : lateB ops j with
  | false => rfl
  | true =>
    obtain ⟨_, oj, hoj, hall⟩ := mem_ready.1 hj
    unfold lateB at hl
    simp only [hoj, Bool.and_eq_true, List.all_eq_true, List.mem_range] at hl
    have h1 := hl.2 i (Array.getElem?_eq_some_iff.1 hi).1
    simp only [hi, hd, Bool.not_true, Bool.false_or] at h1
    obtain ⟨e, he, hb⟩ := Array.any_eq_true'.1 h1
    simp only [Bool.and_eq_true, beq_iff_eq] at hb
    have h2 := hall e he hb.1
    rw [hb.2] at h2
    have h0 := (mem_ready.1 hr).1
    rcases Nat.lt_or_ge i listed.size with h' | h'
    · simp [h'] at h0 h2; rw [h0] at h2; cases h2
    · simp [Array.getElem?_eq_none h'] at h2

theorem lateDone_set {i : Nat} {listed : Array Bool} (h : lateB ops i = false) : lateDone ops (listed.setIfInBounds i true) = lateDone ops listed := by
  unfold lateDone
  congr 1
  funext j
  by_cases hj : i = j
  · subst hj; rw [h]; rfl
  · rw [getD_set_ne false hj]

theorem lateDone_mono {i : Nat} {listed : Array Bool} (h : lateDone ops listed = true) : lateDone ops (listed.setIfInBounds i true) = true := by
  unfold lateDone at *
  rw [List.any_eq_true] at *
  obtain ⟨j, hj, hb⟩ := h
  refine ⟨j, hj, ?_⟩
  simp only [Bool.and_eq_true] at *
  refine ⟨hb.1, ?_⟩
  by_cases hij : i = j
  · subst hij
    rcases Nat.lt_or_ge i listed.size with h' | h'
    · simp [h']
    · have := hb.2; simp [Array.getElem?_eq_none h'] at this
  · rw [getD_set_ne false hij]; exact hb.2

theorem anyZ_first {i : Nat} {oi : Oper} {v : Value} (S0 : World → Prop) (hi : ops[i]? = some oi) (hsel : ∀ (j : Nat) (o : Oper) cs b, ops[j]? = some o → o.op ≠ .select cs b)
    (hQ : ∀ c a w, Q (.panic c) (a.put oi.dst v) w → Q (.panic c) a w) (hnl : lateB ops i = false) : ∀ (k : Nat) (listed : Array Bool) (a : Act) (w : World),
      (∀ j oj, ops[j]? = some oj → j ≠ i → listed.getD j true = false → (∀ e ∈ oj.after, Region.binds .any e = true → e.on ≠ i) → oi.apart ops oj = true) →
      i ∈ Region.ready .any ops listed → YieldsIf P ops S0 oi v a → ((∀ W, S0 W) ∨ (S0 = S ∧ depB oi = true ∧ lateDone ops listed = false)) → (S w ∨ lateDone ops listed = true) →
      anyZ P ops Q S k (listed.setIfInBounds i true) (a.put oi.dst v) w → anyZ P ops Q S (k + 1) listed a w := by
  intro k
  have now : ∀ (listed : Array Bool) (w : World), ((∀ W, S0 W) ∨ (S0 = S ∧ depB oi = true ∧ lateDone ops listed = false)) → (S w ∨ lateDone ops listed = true) →
      S0 w ∧ (lastB ops i = true ∨ lateDone ops (listed.setIfInBounds i true) = true ∨ S w) := by
    intro listed w hc hS
    refine ⟨?_, ?_⟩
    · rcases hc with hc | ⟨rfl, _, hc⟩
      · exact hc w
      · rcases hS with hS | hS
        · exact hS
        · rw [hc] at hS; cases hS
    · rcases hS with hS | hS
      · exact Or.inr (Or.inr hS)
      · exact Or.inr (Or.inl (lateDone_mono hS))
  induction k with
  | zero =>
    intro listed a w _ hr hy hc hS H
    refine ⟨fun h => absurd hr (by rw [h]; simp), fun j hj => ?_⟩
    by_cases hji : j = i
    · subst hji
      exact hy.wpOp hi (now listed w hc hS).1 ⟨(now listed w hc hS).2, H⟩
    · have h1 := ready_mono hj hji
      rw [H.1] at h1
      cases h1
  | succ k ih =>
    intro listed a w hfree hr hy hc hS H
    refine ⟨fun h => absurd hr (by rw [h]; simp), fun j hj => ?_⟩
    by_cases hji : j = i
    · subst hji
      exact hy.wpOp hi (now listed w hc hS).1 ⟨(now listed w hc hS).2, H⟩
    · obtain ⟨hun, oj, hoj, hall⟩ := mem_ready.1 hj
      have hnot : ∀ e ∈ oj.after, Region.binds .any e = true → e.on ≠ i := by
        intro e he hb heq
        have h1 := hall e he hb
        have h0 := (mem_ready.1 hr).1
        rw [heq] at h1
        rcases Nat.lt_or_ge i listed.size with h' | h'
        · simp [h'] at h0 h1; rw [h0] at h1; cases h1
        · simp [Array.getElem?_eq_none h'] at h1
      have hl := not_last hoj hji hr hnot
      have h2 := wpOp_putIf hoj (hfree j oj hoj hji hun hnot) (fun cs b => hsel i oi cs b hi) (fun cs b => hsel j oj cs b hoj) hQ hy (H.2 j (ready_mono hj hji))
      refine wpOp_mono (fun a' w' h3 => ?_) h2
      obtain ⟨hy', hS', hK⟩ := h3
      have hS' : S w' ∨ lateDone ops (listed.setIfInBounds j true) = true := by
        rcases hS' with h | h | h
        · rw [hl] at h; cases h
        · rw [Array.setIfInBounds_comm _ _ (Ne.symm hji), lateDone_set hnl] at h; exact Or.inr h
        · exact Or.inl h
      refine ⟨Or.inr (Or.symm hS'), ih (listed.setIfInBounds j true) a' w' ?_ (ready_mono hr (Ne.symm hji)) hy' ?_ hS' ?_⟩
      · intro l ol hol hli hunl hno
        refine hfree l ol hol hli ?_ hno
        by_cases hjl : j = l
        · subst hjl; exact hun
        · rw [getD_set_ne true hjl] at hunl; exact hunl
      · rcases hc with hc | ⟨h1, h2, h3⟩
        · exact Or.inl hc
        · exact Or.inr ⟨h1, h2, by rw [lateDone_set (late_not hi h2 hr hj)]; exact h3⟩
      · rw [Array.setIfInBounds_comm _ _ hji]
        exact hK

theorem ready_last {i : Nat} {listed : Array Bool} (hi : i ∈ Region.ready .any ops listed) (hl : lastB ops i = true) : Region.ready .any ops (listed.setIfInBounds i true) = [] := by
  obtain ⟨hun, oi, hoi, hall⟩ := mem_ready.1 hi
  cases hr : Region.ready .any ops (listed.setIfInBounds i true) with
  | nil => rfl
  | cons j r =>
    have hj : j ∈ Region.ready .any ops (listed.setIfInBounds i true) := by rw [hr]; simp
    obtain ⟨hunj, oj, hoj, _⟩ := mem_ready.1 hj
    exfalso
    by_cases hji : i = j
    · subst hji
      rcases Nat.lt_or_ge i listed.size with h' | h'
      · simp [h'] at hunj
      · simp [Array.getElem?_eq_none h'] at hun
    · rw [getD_set_ne true hji] at hunj
      unfold lastB at hl
      simp only [hoi, List.all_eq_true, List.mem_range] at hl
      have h1 := hl j (Array.getElem?_eq_some_iff.1 hoj).1
      simp only [Bool.or_eq_true, beq_iff_eq] at h1
      rcases h1 with h1 | h1
      · exact hji h1.symm
      · obtain ⟨e, he, hb⟩ := Array.any_eq_true'.1 h1
        simp only [Bool.and_eq_true, beq_iff_eq] at hb
        have h2 := hall e he hb.1
        rw [hb.2] at h2
        rcases Nat.lt_or_ge j listed.size with h' | h'
        · simp [h'] at hunj h2; rw [hunj] at h2; cases h2
        · simp [Array.getElem?_eq_none h'] at h2
end

theorem stabW_nodep {P : Program} {o : Oper} {ρ : Env} {at1 at2 : (World → Prop) → Prop} {K : Value → Prop} (hd : depB o = false) (h : stabW P o ρ at1 K) : stabW P o ρ at2 K := by
  unfold stabW at *
  cases ho : o.op
  case load => simp [depB, ho] at hd
  case lookup => simp [depB, ho] at hd
  case call c =>
    rw [ho] at h
    dsimp only at h ⊢
    have hc : c.callee ≠ .builtin .len := by
      intro e; simp [depB, ho, e] at hd
    split
    · rename_i e _; exact absurd e hc
    · split at h
      · rename_i e _; exact absurd e hc
      · exact h
  all_goals (rw [ho] at h; exact h)

/-- a region that draws its order: what is stable goes first, what acts in every order that is left -/
def regW (P : Program) (ops : Array Oper) (S : World → Prop) (Q : Env → World → Prop) : Nat → Array Bool → Env → World → Prop
  | 0, listed, ρ, w => cond (Region.ready .any ops listed).isEmpty (Q ρ w) False
  | k + 1, listed, ρ, w =>
    match (Region.ready .any ops listed).find? fun i => match ops[i]? with
        | some o => (!wantedB ops o ρ || (stable o ρ && (!depB o || !lateDone ops listed))) && Region.free .any ops listed i && !lateB ops i
        | none => false with
    | some i =>
      match ops[i]? with
      | some o =>
        cond (wantedB ops o ρ)
          (stabW P o ρ (fun φ => ∀ W, S W → φ W) fun v => partW (guardSrc ops o.dst) v fun v => regW P ops S Q k (listed.setIfInBounds i true) (put ρ o.dst v) w)
          (regW P ops S Q k (listed.setIfInBounds i true) (put ρ o.dst undef) w)
      | none => False
    | none => allW (Region.ready .any ops listed) (Q ρ w) fun i =>
      match ops[i]? with
      | some o =>
        cond (wantedB ops o ρ)
          (cond (lastB ops i)
            (opW P ops o ρ w fun v w' => Q (put ρ o.dst v) w')
            (cond (lateDone ops (listed.setIfInBounds i true))
              (opW P ops o ρ w fun v w' => partW (guardSrc ops o.dst) v fun v => regW P ops S Q k (listed.setIfInBounds i true) (put ρ o.dst v) w')
              (opW P ops o ρ w fun v w' => S w' ∧ partW (guardSrc ops o.dst) v fun v => regW P ops S Q k (listed.setIfInBounds i true) (put ρ o.dst v) w')))
          False
      | none => False
where
  allW : List Nat → Prop → (Nat → Prop) → Prop
  | [], d, _ => d
  | [i], _, f => f i
  | i :: j :: r, d, f => f i ∧ allW (j :: r) d f

theorem allW_all {f : Nat → Prop} {d : Prop} : ∀ (l : List Nat), l ≠ [] → regW.allW l d f → ∀ i ∈ l, f i := by
  intro l
  induction l with
  | nil => intro h; exact absurd rfl h
  | cons i r ih =>
    intro _ h j hj
    cases r with
    | nil =>
      simp at hj; subst hj; exact h
    | cons k r =>
      rcases List.mem_cons.1 hj with rfl | hj
      · exact h.1
      · exact ih (by simp) h.2 j hj

theorem find_spec {α : Type} {l : List α} {p : α → Bool} {a : α} (h : l.find? p = some a) : a ∈ l ∧ p a = true := ⟨List.mem_of_find?_eq_some h, List.find?_some h⟩

theorem regW_sound {P : Program} {ops : Array Oper} {S : World → Prop} {Q : Env → World → Prop} {Q' : Exit → Act → World → Prop} (hsel : Region.noSelect ops = true)
    (hQ : ∀ ρ w, Q ρ w → Q' .normal (act ρ) w) (hP : ∀ c a d v w, Q' (.panic c) (a.put d v) w → Q' (.panic c) a w) : ∀ (k : Nat) (listed : Array Bool) (ρ : Env) (w : World),
    (S w ∨ lateDone ops listed = true) → regW P ops S Q k listed ρ w → anyZ P ops Q' S k listed (act ρ) w := by
  intro k
  induction k with
  | zero =>
    intro listed ρ w _ h
    obtain ⟨he, h⟩ := cond_true_of h
    exact ⟨by simpa using he, hQ _ _ h⟩
  | succ k ih =>
    intro listed ρ w hS h
    unfold regW at h
    split at h
    · rename_i i hfi
      obtain ⟨hmem, hp⟩ := find_spec hfi
      split at h
      · rename_i o ho
        simp only [ho, Bool.and_eq_true] at hp
        obtain ⟨⟨hst, hfree⟩, hnl⟩ := hp
        have hnl : lateB ops i = false := by simpa using hnl
        cases hw : wantedB ops o ρ with
        | true =>
          rw [hw] at h hst
          simp only [Bool.not_true, Bool.false_or, Bool.and_eq_true, Bool.or_eq_true, Bool.not_eq_true'] at hst
          have hh : ∃ S0 : World → Prop, ((∀ W, S0 W) ∨ (S0 = S ∧ depB o = true ∧ lateDone ops listed = false)) ∧
              stabW P o ρ (fun φ => ∀ W, S0 W → φ W) fun v => partW (guardSrc ops o.dst) v fun v => regW P ops S Q k (listed.setIfInBounds i true) (put ρ o.dst v) w := by
            cases hd : depB o with
            | false => exact ⟨fun _ => True, Or.inl fun _ => trivial, stabW_nodep hd h⟩
            | true =>
              refine ⟨S, Or.inr ⟨rfl, rfl, ?_⟩, h⟩
              rcases hst.2 with h' | h'
              · rw [hd] at h'; cases h'
              · exact h'
          obtain ⟨S0, hc, h⟩ := hh
          obtain ⟨v, hv, hk⟩ := stabW_sound (S := S0) (fun φ hφ => hφ) h
          refine anyZ_first (v := v) S0 ho (Region.noSelect_spec hsel) (fun c a w hq => hP _ _ _ _ _ hq) hnl k listed (act ρ) w (Region.free_spec ho hfree) hmem (Or.inl ⟨by rw [wanted_eq]; exact hw, fun W hW => by rw [act_eval]; exact hv W hW⟩) hc hS ?_
          rw [act_put]
          exact ih _ _ _ (hS.imp id lateDone_mono) (partW_sound (k := fun v => regW P ops S Q k (listed.setIfInBounds i true) (put ρ o.dst v) w) hk)
        | false =>
          rw [hw] at h
          refine anyZ_first (v := undef) (fun _ => True) ho (Region.noSelect_spec hsel) (fun c a w hq => hP _ _ _ _ _ hq) hnl k listed (act ρ) w (Region.free_spec ho hfree) hmem (Or.inr ⟨by rw [wanted_eq]; exact hw, rfl⟩) (Or.inl fun _ => trivial) hS ?_
          rw [act_put]
          exact ih _ _ _ (hS.imp id lateDone_mono) h
      · exact h.elim
    · rename_i hn
      by_cases he : Region.ready .any ops listed = []
      · rw [he] at h
        exact anyZ_done he (hQ _ _ h) _
      · have h := allW_all _ he h
        refine ⟨fun h0 => absurd h0 he, fun i hmem => ?_⟩
        have hi := h i hmem
        unfold wpOp
        cases ho : ops[i]? with
        | none => rw [ho] at hi; exact hi.elim
        | some o =>
          rw [ho] at hi
          obtain ⟨hw, hi⟩ := cond_true_of hi
          dsimp only
          rw [wanted_eq, hw, if_pos rfl]
          cases hl : lastB ops i with
          | true =>
            rw [hl] at hi
            exact Or.inl ((opW_sound hi).wp fun v w' hk => ⟨Or.inl rfl, anyZ_done (ready_last hmem hl) (hQ _ _ hk) _⟩)
          | false =>
          rw [hl] at hi
          simp only [cond_false] at hi
          cases hld : lateDone ops (listed.setIfInBounds i true) with
          | true =>
            rw [hld] at hi
            simp only [cond_true] at hi
            exact Or.inl ((opW_sound hi).wp fun v w' hk => ⟨Or.inr (Or.inl rfl), ih _ _ _ (Or.inr hld) (partW_sound (k := fun v => regW P ops S Q k (listed.setIfInBounds i true) (put ρ o.dst v) w') hk)⟩)
          | false =>
          rw [hld] at hi
          simp only [cond_false] at hi
          exact Or.inl ((opW_sound hi).wp fun v w' hk => ⟨Or.inr (Or.inr hk.1), ih _ _ _ (Or.inl hk.1) (partW_sound (k := fun v => regW P ops S Q k (listed.setIfInBounds i true) (put ρ o.dst v) w') hk.2)⟩)

/-! ### code -/
def seqW (K : Env → World → Prop) (Q : Exit → Env → World → Prop) : Exit → Env → World → Prop
  | .normal, ρ, w => K ρ w
  | e, ρ, w => Q e ρ w
def blockW (id : Nat) (Q : Exit → Env → World → Prop) : Exit → Env → World → Prop
  | .exit id', ρ, w => cond (id' == id) (Q .normal ρ w) (Q (.exit id') ρ w)
  | e, ρ, w => Q e ρ w
def scopeW (Q : Exit → Env → World → Prop) : Exit → Env → World → Prop
  | .goto _, _, _ => False
  | e, ρ, w => Q e ρ w
/-- the kit's own post out of one over slots -/
def lift (Q : Exit → Env → World → Prop) (e : Exit) (a : Act) (w : World) : Prop :=
  match e with
  | .panic _ => False
  | .outgrown => False
  | e => ∃ ρ, a = act ρ ∧ Q e ρ w
/-- code that is not looked into here -/
def restW (P : Program) (c : Code) (ρ : Env) (w : World) (Q : Exit → Env → World → Prop) : Prop := c.wp P (lift Q) (act ρ) w

def firstRegion : Code → Option Nat
  | .region id _ _ => some id
  | .seq a _ => firstRegion a
  | .block _ c => firstRegion c
  | .scope c => firstRegion c
  | _ => none
def cutAt (cuts : List Nat) (c : Code) : Bool :=
  match firstRegion c with
  | some id => cuts.contains id
  | none => false

/-- a branch that its user knows not to be taken -/
def deadAt (cuts : List Nat) (c : Code) : Bool :=
  match firstRegion c with
  | some id => cuts.contains (id + 1000000)
  | none => false

def codeW (P : Program) (cuts : List Nat) : Code → Env → World → (Exit → Env → World → Prop) → Prop
  | .skip, ρ, w, Q => Q .normal ρ w
  | .exit id, ρ, w, Q => Q (.exit id) ρ w
  | .ret, ρ, w, Q => Q .ret ρ w
  | .region _ ops draw, ρ, w, Q =>
    cond draw
      (cond (Region.noSelect ops && P.follows .mixedOrders) (∀ w', w' = w.drew → ∃ S : World → Prop, S w' ∧ regW P ops S (Q .normal) ops.size (Array.replicate ops.size false) ρ w') False)
      (opsW P ops ops.toList ρ w (Q .normal))
  | .seq a b, ρ, w, Q => codeW P cuts a ρ w (seqW (fun ρ w => cond (cutAt cuts b) (restW P b ρ w Q) (codeW P cuts b ρ w Q)) Q)
  | .cond c t e, ρ, w, Q =>
    match opd ρ c with
    | .bool b => cond b (cond (deadAt cuts t) False (codeW P cuts t ρ w Q)) (cond (deadAt cuts e) False (codeW P cuts e ρ w Q))
    | _ => False
  | .block id c, ρ, w, Q => codeW P cuts c ρ w (blockW id Q)
  | .loop c, ρ, w, Q => restW P (.loop c) ρ w Q
  | .scope c, ρ, w, Q => codeW P cuts c ρ w (scopeW Q)
  | .label _, ρ, w, Q => Q .normal ρ w
  | _, _, _, _ => False

theorem lift_mono {Q Q' : Exit → Env → World → Prop} (h : ∀ e ρ w, Q e ρ w → Q' e ρ w) : ∀ e a w, lift Q e a w → lift Q' e a w := by
  intro e a w hq
  cases e <;> first | exact hq.elim | (obtain ⟨ρ, rfl, hq⟩ := hq; exact ⟨ρ, rfl, h _ _ _ hq⟩)

theorem codeW_sound {P : Program} {cuts : List Nat} (c : Code) : ∀ (ρ : Env) (w : World) (Q : Exit → Env → World → Prop), codeW P cuts c ρ w Q → restW P c ρ w Q := by
  induction c with
  | skip => intro ρ w Q h; exact wp_skip ⟨ρ, rfl, h⟩
  | exit id => intro ρ w Q h; exact wp_exit ⟨ρ, rfl, h⟩
  | ret => intro ρ w Q h; exact wp_ret ⟨ρ, rfl, h⟩
  | region id ops draw =>
    intro ρ w Q h
    cases draw with
    | false =>
      exact wp_region_list (opsW_sound (fun ρ w h => ⟨ρ, rfl, h⟩) _ _ _ h)
    | true =>
      obtain ⟨hb, h⟩ := cond_true_of (show cond (Region.noSelect ops && P.follows .mixedOrders) _ False from h)
      obtain ⟨S, hS, h⟩ := h _ rfl
      simp only [Bool.and_eq_true] at hb
      exact wp_region_any hb.2 (anyZ_any _ _ _ _ (regW_sound (Q' := lift Q) hb.1 (fun ρ w h => ⟨ρ, rfl, h⟩) (fun _ _ _ _ _ h => h) _ _ _ _ (Or.inl hS) h))
  | seq a b iha ihb =>
    intro ρ w Q h
    refine wp_seq (Code.wp_mono ?_ (iha _ _ _ h))
    intro e a' w' hq
    cases e <;> first
      | exact hq.elim
      | (obtain ⟨ρ', rfl, hq⟩ := hq
         first
           | exact ⟨ρ', rfl, hq⟩
           | (have hq : cond (cutAt cuts b) (restW P b ρ' w' Q) (codeW P cuts b ρ' w' Q) := hq
              cases hc : cutAt cuts b with
              | true => rw [hc] at hq; exact hq
              | false => rw [hc] at hq; exact ihb _ _ _ hq))
  | cond c t e iht ihe =>
    intro ρ w Q h
    unfold codeW at h
    split at h
    · rename_i b hb
      refine wp_cond (t := b) (by rw [act_eval]; exact hb) ?_
      cases b
      · cases hd : deadAt cuts e with
        | true => rw [hd] at h; exact h.elim
        | false => rw [hd] at h; exact ihe _ _ _ h
      · cases hd : deadAt cuts t with
        | true => rw [hd] at h; exact h.elim
        | false => rw [hd] at h; exact iht _ _ _ h
    · exact h.elim
  | block id c ih =>
    intro ρ w Q h
    refine wp_block (Code.wp_mono ?_ (ih _ _ _ h))
    intro e a' w' hq
    cases e with
    | exit id' =>
      obtain ⟨ρ', rfl, hq⟩ := hq
      by_cases hid : id' = id
      · subst hid
        simp only [Exit.inBlock, if_pos]
        simp only [blockW, beq_self_eq_true, cond_true] at hq
        exact ⟨ρ', rfl, hq⟩
      · simp only [Exit.inBlock, if_neg hid]
        have : (id' == id) = false := by simp [hid]
        simp only [blockW, this, cond_false] at hq
        exact ⟨ρ', rfl, hq⟩
    | _ => first | exact hq.elim | exact hq
  | loop c ih => intro ρ w Q h; exact h
  | scope c ih =>
    intro ρ w Q h
    refine wp_scope_straight (Code.wp_mono ?_ (ih _ _ _ h))
    intro e a' w' hq
    cases e <;> first | exact hq.elim | (obtain ⟨ρ', rfl, hq⟩ := hq; first | exact hq.elim | exact ⟨ρ', rfl, hq⟩)
  | label l => intro ρ w Q h; exact wp_label ⟨ρ, rfl, h⟩
  | _ => intro ρ w Q h; exact h.elim

/-- a loop, by what holds at every round's head, and a measure -/
theorem restW_loop {P : Program} {c : Code} {ρ : Env} {w : World} {Q : Exit → Env → World → Prop} (I : Env → World → Prop) (μ : Env → World → Nat) (h0 : I ρ w)
    (hr : ∀ ρ w, I ρ w → restW P c ρ w (seqW (fun ρ' w' => I ρ' w' ∧ μ ρ' w' < μ ρ w) Q)) : restW P (.loop c) ρ w Q := by
  refine wp_loop (fun a w => ∃ ρ, a = act ρ ∧ I ρ w) (fun a w => μ a.tmps.toList w) ⟨ρ, rfl, h0⟩ ?_
  rintro _ w ⟨ρ, rfl, hI⟩
  refine Code.wp_mono ?_ (hr ρ w hI)
  intro e a' w' hq
  cases e <;> first
    | exact hq.elim
    | (obtain ⟨ρ', rfl, hq⟩ := hq
       first
         | exact ⟨ρ', rfl, hq⟩
         | exact ⟨⟨ρ', rfl, hq.1⟩, hq.2⟩)

/-! ### functions -/
def retW (P : Program) : List ResultVar → Env → World → List Value → (List Value → Prop) → Prop
  | [], _, _, acc, K => K acc
  | .tmp t :: r, ρ, w, acc, K => retW P r ρ w (acc ++ [ρ.getD t undef]) K
  | .cell a t :: r, ρ, w, acc, K =>
    match ρ.getD a undef with
    | .pointer (some ad) => loadW P t ad (fun φ => φ w) fun v => retW P r ρ w (acc ++ [v]) K
    | _ => False

def oneOr (vs : List Value) : Value :=
  match vs with
  | [v] => v
  | vs => .tuple vs.toArray

def finW (P : Program) (fn : Func) (R : Ending → World → Prop) : Exit → Env → World → Prop
  | .normal, ρ, w => retW P fn.results.toList ρ w [] fun vs => R (.returned (oneOr vs)) w
  | .ret, ρ, w => retW P fn.results.toList ρ w [] fun vs => R (.returned (oneOr vs)) w
  | _, _, _ => False

def fnW (P : Program) (cuts : List Nat) (fn : Func) (args : List Value) (w : World) (R : Ending → World → Prop) : Prop :=
  match fn.body with
  | some c => codeW P cuts c (args ++ List.replicate (fn.ntmps - args.length) undef) w (finW P fn R)
  | none => False

def resF (tmps : Array Value) : ResultVar → Sem Value
  | .tmp t => pure (tmps.getD t undef)
  | .cell a t => do loadVar t (← asAddr (tmps.getD a undef))

theorem retW_sound {P : Program} {w : World} {ρ : Env} : ∀ (l : List ResultVar) (acc : List Value) (K : List Value → Prop), retW P l ρ w acc K →
    ∃ vs, (l.mapM (resF (act ρ).tmps)).run P w = .ok vs w ∧ K (acc ++ vs) := by
  intro l
  induction l with
  | nil => intro acc K h; exact ⟨[], rfl, by rw [List.append_nil]; exact h⟩
  | cons r l ih =>
    intro acc K h
    cases r with
    | tmp t =>
      obtain ⟨vs, h1, h2⟩ := ih _ _ h
      refine ⟨ρ.getD t undef :: vs, ?_, by simpa using h2⟩
      have e : (act ρ).tmps.getD t undef = ρ.getD t undef := by simp [act]
      rw [List.mapM_cons, run_bind_ok (a := ρ.getD t undef) (w' := w) (by simp [resF, e]), run_bind_ok h1]
      rfl
    | cell a t =>
      unfold retW at h
      split at h
      · rename_i ad had
        obtain ⟨v, h1, h2⟩ := loadW_sound (S := fun W => W = w) (fun φ hφ W hW => by rw [hW]; exact hφ) h
        obtain ⟨vs, h3, h4⟩ := ih _ _ h2
        refine ⟨v :: vs, ?_, by simpa using h4⟩
        have e : (act ρ).tmps.getD a undef = .pointer (some ad) := by rw [← had]; simp [act]
        rw [List.mapM_cons, run_bind_ok (a := v) (w' := w) (by simp [resF, e, asAddr, h1 w rfl]), run_bind_ok h3]
        rfl
      · exact h.elim

theorem results_run {P : Program} {fn : Func} {ρ : Env} {w : World} {R : Ending → World → Prop} (h : retW P fn.results.toList ρ w [] fun vs => R (.returned (oneOr vs)) w) :
    ∃ v, (results fn (act ρ).tmps).run P w = .ok v w ∧ R (.returned v) w := by
  obtain ⟨vs, h1, h2⟩ := retW_sound _ _ _ h
  refine ⟨_, ?_, h2⟩
  have e : fn.results.mapM (resF (act ρ).tmps) = List.toArray <$> fn.results.toList.mapM (resF (act ρ).tmps) := Array.mapM_eq_mapM_toList
  show (fn.results.mapM (resF (act ρ).tmps) >>= fun vs => (pure (if h : vs.size = 1 then vs[0] else .tuple vs) : Sem Value)).run P w = _
  rw [run_bind_ok (a := vs.toArray) (w' := w) (by rw [e]; simp [h1])]
  match vs with
  | [] => rfl
  | [v] => rfl
  | a :: b :: r => simp [oneOr]

theorem calls_of_fnW {P : Program} {cuts : List Nat} {f : FuncId} {fn : Func} {args : List Value} {w : World} {R : Ending → World → Prop} (hf : P.funcs[f]? = some fn) (h : fnW P cuts fn args w R) :
    Calls P f args.toArray w R := by
  unfold fnW at h
  split at h
  · rename_i c hc
    refine calls_of_wp hf hc (Code.wp_mono ?_ (by
      have := codeW_sound _ _ _ _ h
      unfold restW act at this
      have e : args.toArray ++ Array.replicate (fn.ntmps - args.toArray.size) undef = (args ++ List.replicate (fn.ntmps - args.length) undef).toArray := by
        rw [← Array.toList_inj]; simp
      rw [e]
      exact this))
    intro e a w hq
    cases e <;> first
      | exact hq.elim
      | (obtain ⟨ρ, rfl, hq⟩ := hq
         first
           | exact hq.elim
           | exact ⟨rfl, results_run hq⟩)
  · exact h.elim

/-! ### places in code -/
inductive Step where
  | l | r | b | t | e | lo | sc

def subC : Code → List Step → Code
  | c, [] => c
  | .seq a _, .l :: p => subC a p
  | .seq _ b, .r :: p => subC b p
  | .block _ c, .b :: p => subC c p
  | .cond _ a _, .t :: p => subC a p
  | .cond _ _ b, .e :: p => subC b p
  | .loop c, .lo :: p => subC c p
  | .scope c, .sc :: p => subC c p
  | _, _ => .skip

/-- what is asked behind a place; one K for each loop on the way -/
def contW (P : Program) (cuts : List Nat) : Code → List Step → List (Env → World → Prop) → (Exit → Env → World → Prop) → Exit → Env → World → Prop
  | _, [], _, Q => Q
  | .seq a b, .l :: p, Ks, Q => contW P cuts a p Ks (seqW (fun ρ w => cond (cutAt cuts b) (restW P b ρ w Q) (codeW P cuts b ρ w Q)) Q)
  | .seq _ b, .r :: p, Ks, Q => contW P cuts b p Ks Q
  | .block id c, .b :: p, Ks, Q => contW P cuts c p Ks (blockW id Q)
  | .cond _ a _, .t :: p, Ks, Q => contW P cuts a p Ks Q
  | .cond _ _ b, .e :: p, Ks, Q => contW P cuts b p Ks Q
  | .loop c, .lo :: p, K :: Ks, Q => contW P cuts c p Ks (seqW K Q)
  | .scope c, .sc :: p, Ks, Q => contW P cuts c p Ks (scopeW Q)
  | _, _, _, _ => fun _ _ _ => False

def bodyC (fn : Func) : Code :=
  match fn.body with
  | some c => c
  | none => .skip

/-- the value of a slot, by its kind -/
def sel (ρ : Env) (l : List Nat) : List Value := l.map fun i => ρ.getD i undef

theorem env_of_length {ρ : Env} : ∀ {n : Nat}, ρ.length = n → ρ = (List.range n).map fun i => ρ.getD i undef := by
  intro n h
  apply List.ext_getElem
  · simp [h]
  · intro i h1 h2
    simp [List.getD, h1]

/-- slots: some are said, the others are what they were -/
def lookN (i : Nat) : List (Nat × Value) → Option Value
  | [] => none
  | p :: r => cond (Nat.beq i p.1) (some p.2) (lookN i r)
def fillF (ps : List (Nat × Value)) (ds : List Value) (i : Nat) : Value :=
  match lookN i ps with
  | some v => v
  | none => ds.getD i undef
def fill (n : Nat) (ps : List (Nat × Value)) (ds : List Value) : Env := (List.range n).map (fillF ps ds)
theorem lookN_sel {ρ : Env} : ∀ {ps : List (Nat × Value)}, sel ρ (ps.map (·.1)) = ps.map (·.2) → ∀ {i : Nat} {v : Value}, lookN i ps = some v → v = ρ.getD i undef
  | [], _, _, _, h => by cases h
  | p :: r, hs, i, v, h => by
    simp only [sel, List.map_cons, List.cons.injEq] at hs
    unfold lookN at h
    cases hb : Nat.beq i p.1 with
    | true =>
      rw [hb] at h
      have e : i = p.1 := Nat.eq_of_beq_eq_true hb
      cases h
      rw [e]; exact hs.1.symm
    | false =>
      rw [hb] at h
      exact lookN_sel (ps := r) hs.2 h
theorem fill_eq {ρ : Env} {n : Nat} {ps : List (Nat × Value)} (hl : ρ.length = n) (hs : sel ρ (ps.map (·.1)) = ps.map (·.2)) : ρ = fill n ps ρ := by
  apply List.ext_getElem
  · simp [fill, hl]
  · intro i h1 h2
    simp only [fill, List.getElem_map, List.getElem_range, fillF]
    split
    · rename_i v hv
      rw [lookN_sel hs hv]; simp [h1]
    · simp [h1]

theorem restW_mono {P : Program} {c : Code} {ρ : Env} {w : World} {Q Q' : Exit → Env → World → Prop} (h : restW P c ρ w Q) (hq : ∀ e ρ w, Q e ρ w → Q' e ρ w) : restW P c ρ w Q' :=
  Code.wp_mono (lift_mono hq) h

theorem seqW_mono {K K' : Env → World → Prop} {Q : Exit → Env → World → Prop} (hk : ∀ ρ w, K ρ w → K' ρ w) : ∀ e ρ w, seqW K Q e ρ w → seqW K' Q e ρ w := by
  intro e ρ w h
  cases e <;> first | exact hk _ _ h | exact h

/-- a loop, by a relation that bears a number which every round lowers -/
theorem restW_loopG {P : Program} {c : Code} {ρ : Env} {w : World} {Q : Exit → Env → World → Prop} (J : Nat → Env → World → Prop) (n : Nat) (h0 : J n ρ w)
    (hr : ∀ n ρ w, J n ρ w → restW P c ρ w (seqW (fun ρ' w' => ∃ m, m < n ∧ J m ρ' w') Q)) : restW P (.loop c) ρ w Q := by
  refine wp_loop_ghost (fun n a w => ∃ ρ, a = act ρ ∧ J n ρ w) n ⟨ρ, rfl, h0⟩ ?_
  rintro n _ w ⟨ρ, rfl, hI⟩
  refine Code.wp_mono ?_ (hr n ρ w hI)
  intro e a' w' hq
  cases e <;> first
    | exact hq.elim
    | (obtain ⟨ρ', rfl, hq⟩ := hq
       first
         | exact ⟨ρ', rfl, hq⟩
         | (obtain ⟨m, hm, hq⟩ := hq
            exact ⟨m, hm, ρ', rfl, hq⟩))

end Go.Eng
