/-
  A verification-condition calculus over the model's wp: symbolic slots, a heap without the draws.
-/
import Derived.WalkKit
import Derived.OrdersHeld
import Derived.StillTail
import Derived.Scope
import Derived.Deep.LoopGhost
namespace Go.Vc

abbrev Heap := Array Obj
abbrev St := List (Nat × Value)

def lk {α : Type} : List (Nat × α) → Nat → Option α
  | [], _ => none
  | (k, v) :: r, t => match Nat.beq k t with | true => some v | false => lk r t

def opt {α : Type} (x : Option α) (K : α → Prop) : Prop := match x with | some a => K a | none => False

inductive TD where
  | int (k : IntKind)
  | bool
  | str
  | slice (e : TypeId)
  | array (n : Nat) (e : TypeId)
  | struct (fs : List (Nat × TypeId))
  | other

structure TI where
  td : TD
  size : Nat
  bytes : Nat
  zero : Value

def TI.agg? (ti : TI) : Option Nat := match ti.td with | .array _ _ => some ti.size | .struct _ => some ti.size | _ => none

structure Env where
  P : Program
  tab : List (Nat × TI)
  fns : Nat

def Env.ty (E : Env) (t : TypeId) : Option TI := lk E.tab t

def TD.ok (P : Program) (t : TypeId) : TD → Prop
  | .int k => P.underlying t = some (.int k)
  | .bool => P.underlying t = some .bool
  | .str => P.underlying t = some .string
  | .slice e => P.underlying t = some (.slice e)
  | .array n e => P.underlying t = some (.array n e)
  | .struct fs => ∃ fields, P.underlying t = some (.struct fields) ∧ fields.toList.map (fun f => (f.offset, f.type)) = fs
  | .other => ∃ d, P.underlying t = some d ∧ (∀ fs, d ≠ .struct fs) ∧ (∀ n e, d ≠ .array n e)

structure TI.ok (P : Program) (t : TypeId) (ti : TI) : Prop where
  info : ∃ i, P.info? t = some i ∧ i.size = ti.size ∧ i.bytes = ti.bytes ∧ i.zero = some ti.zero
  td : ti.td.ok P t
  zsize : ti.zero.cells.size = ti.size

structure Env.Ok (E : Env) : Prop where
  tab : ∀ t ti, E.ty t = some ti → ti.ok E.P t
  fn : ∀ f, 2 < f → f < E.fns → ∀ args w, (callFunc f args).run E.P w = .ok (.enter f args) w
  mixed : E.P.follows .mixedOrders = true

/-! ### worlds -/
structure Same (w w' : World) : Prop where
  os : w'.os = w.os
  tape : w'.tape = w.tape
  output : w'.output = w.output

theorem Same.rfl {w : World} : Same w w := ⟨Eq.refl _, Eq.refl _, Eq.refl _⟩
theorem Same.trans {a b c : World} (h : Same a b) (k : Same b c) : Same a c := ⟨k.os.trans h.os, k.tape.trans h.tape, k.output.trans h.output⟩
theorem Same.alloc {a w : World} (h : Same a w) (o : Obj) : Same a (w.alloc o) := ⟨h.os, h.tape, h.output⟩
theorem Same.drew {a w : World} (h : Same a w) : Same a w.drew := ⟨h.os, h.tape, h.output⟩

def cell (h : Heap) (b o : Nat) : Option Value := match h[b]? with | some (.cells c _ _) => c[o]? | _ => none

theorem cell?_eq (w : World) (b o : Nat) : w.cell? ⟨b, o, none⟩ = cell w.heap b o := by
  simp only [World.cell?, cell]; split <;> simp_all

/-- Old blocks are as they were. -/
structure Ext (h h' : Heap) : Prop where
  size : h.size ≤ h'.size
  get : ∀ k, k < h.size → h'[k]? = h[k]?

theorem Ext.rfl {h : Heap} : Ext h h := ⟨Nat.le_refl _, fun _ _ => Eq.refl _⟩
theorem Ext.trans {a b c : Heap} (h : Ext a b) (k : Ext b c) : Ext a c :=
  ⟨Nat.le_trans h.size k.size, fun i hi => (k.get i (Nat.lt_of_lt_of_le hi h.size)).trans (h.get i hi)⟩
theorem Ext.push (h : Heap) (o : Obj) : Ext h (h.push o) := ⟨by simp, fun k hk => by rw [Array.getElem?_push, if_neg (by omega)]⟩
theorem Ext.at {h h' : Heap} (e : Ext h h') {k : Nat} {o : Obj} (hk : h[k]? = some o) : h'[k]? = some o := by
  rw [e.get k (Array.getElem?_eq_some_iff.1 hk).1]; exact hk
theorem lt_of_get {h : Heap} {k : Nat} {o : Obj} (hk : h[k]? = some o) : k < h.size := (Array.getElem?_eq_some_iff.1 hk).1
theorem cell_lt {h : Heap} {b o : Nat} {v : Value} (hc : cell h b o = some v) : b < h.size := by
  unfold cell at hc
  cases hb : h[b]? with
  | none => rw [hb] at hc; cases hc
  | some x => exact lt_of_get hb
theorem Ext.cell {h h' : Heap} (e : Ext h h') {b o : Nat} {v : Value} (hc : cell h b o = some v) : Vc.cell h' b o = some v := by
  have := e.get b (cell_lt hc)
  unfold Vc.cell at *
  rw [this]; exact hc

/-- One block is now this; all else is as it was. -/
structure Upd (h : Heap) (b : Nat) (o : Obj) (h' : Heap) : Prop where
  size : h'.size = h.size
  at_ : h'[b]? = some o
  get : ∀ k, k ≠ b → h'[k]? = h[k]?

/-! ### slots -/
def ev (σ : St) : Operand → Option Value
  | .tmp t => lk σ t
  | .const v => some v
  | .global g => some (.pointer (some ⟨g, 0, none⟩))
  | .func f => some (.func (.func f) #[] #[])

def evs (σ : St) : List Operand → Option (List Value)
  | [] => some []
  | x :: r => match ev σ x with
    | some v => match evs σ r with | some vs => some (v :: vs) | none => none
    | none => none

def evp (σ : St) : List (Nat × Operand) → Option (List (Nat × Value))
  | [] => some []
  | (i, x) :: r => match ev σ x with
    | some v => match evp σ r with | some vs => some ((i, v) :: vs) | none => none
    | none => none

structure Fits (n : Nat) (σ : St) (a : Act) : Prop where
  defers : a.defers = []
  size : a.tmps.size = n
  get : ∀ t v, lk σ t = some v → a.tmps.getD t undef = v

theorem Fits.ev {n : Nat} {σ : St} {a : Act} (h : Fits n σ a) {x : Operand} {v : Value} (hx : ev σ x = some v) : a.eval x = v := by
  cases x with
  | tmp t => exact h.get t v hx
  | const u => simpa [Vc.ev, Act.eval] using hx
  | global g => simpa [Vc.ev, Act.eval] using hx
  | func f => simpa [Vc.ev, Act.eval] using hx

theorem Fits.evs {n : Nat} {σ : St} {a : Act} (h : Fits n σ a) : ∀ {xs : List Operand} {vs : List Value}, evs σ xs = some vs → xs.map a.eval = vs
  | [], vs, e => by simp [Vc.evs] at e; subst e; rfl
  | x :: r, vs, e => by
    simp only [Vc.evs] at e
    cases h1 : Vc.ev σ x with
    | none => rw [h1] at e; cases e
    | some v =>
      rw [h1] at e
      cases h2 : Vc.evs σ r with
      | none => rw [h2] at e; cases e
      | some us => rw [h2] at e; simp at e; subst e; simp [h.ev h1, h.evs h2]

theorem Fits.evp {n : Nat} {σ : St} {a : Act} (h : Fits n σ a) : ∀ {xs : List (Nat × Operand)} {vs : List (Nat × Value)}, evp σ xs = some vs → xs.map (fun p => (p.1, a.eval p.2)) = vs
  | [], vs, e => by simp [Vc.evp] at e; subst e; rfl
  | (i, x) :: r, vs, e => by
    simp only [Vc.evp] at e
    cases h1 : Vc.ev σ x with
    | none => rw [h1] at e; cases e
    | some v =>
      rw [h1] at e
      cases h2 : Vc.evp σ r with
      | none => rw [h2] at e; cases e
      | some us => rw [h2] at e; simp at e; subst e; simp [h.ev h1, h.evp h2]

theorem lk_cons {α : Type} (k : Nat) (v : α) (r : List (Nat × α)) (t : Nat) : lk ((k, v) :: r) t = if k = t then some v else lk r t := by
  simp only [lk]
  cases h : Nat.beq k t with
  | true => rw [if_pos (Nat.eq_of_beq_eq_true h)]
  | false => rw [if_neg (Nat.ne_of_beq_eq_false h)]

theorem Fits.put {n : Nat} {σ : St} {a : Act} (h : Fits n σ a) {d : Nat} (hd : d < n) (v : Value) : Fits n ((d, v) :: σ) (a.put (some d) v) := by
  refine ⟨h.defers, by simp [Act.put, h.size], fun t u ht => ?_⟩
  rw [lk_cons] at ht
  simp only [Act.put]
  by_cases e : d = t
  · subst e
    rw [if_pos rfl] at ht
    simp only [Option.some.injEq] at ht; subst ht
    simp [h.size, hd]
  · rw [if_neg e] at ht
    have := h.get t u ht
    rw [← this]
    simp [Array.getElem?_setIfInBounds_ne e]

theorem Fits.put_none {n : Nat} {σ : St} {a : Act} (h : Fits n σ a) (v : Value) : Fits n σ (a.put none v) := h

/-! ### demands -/
def CellsAt (h : Heap) (b : Nat) : Nat → List Value → Prop
  | _, [] => True
  | off, c :: r => cell h b off = some c ∧ CellsAt h b (off + 1) r

theorem CellsAt.get {h : Heap} {b : Nat} : ∀ {off : Nat} {cs : List Value}, CellsAt h b off cs → ∀ j v, cs[j]? = some v → cell h b (off + j) = some v
  | _, [], _, j, v, hj => by simp at hj
  | off, c :: r, hc, 0, v, hj => by simp at hj; subst hj; exact hc.1
  | off, c :: r, hc, j + 1, v, hj => by
    have := hc.2.get j v (by simpa using hj)
    rw [show off + (j + 1) = off + 1 + j by omega]; exact this

theorem CellsAt.mk {h : Heap} {b : Nat} : ∀ {off : Nat} {cs : List Value}, (∀ j v, cs[j]? = some v → cell h b (off + j) = some v) → CellsAt h b off cs
  | _, [], _ => trivial
  | off, c :: r, H => ⟨H 0 c rfl, CellsAt.mk fun j v hj => by
      have := H (j + 1) v (by simpa using hj)
      rw [show off + (j + 1) = off + 1 + j by omega] at this; exact this⟩

theorem CellsAt.ext {h h' : Heap} (e : Ext h h') {b off : Nat} {cs : List Value} (hc : CellsAt h b off cs) : CellsAt h' b off cs :=
  CellsAt.mk fun j v hj => e.cell (hc.get j v hj)

def Loads : Option Nat → Nat → Nat → Heap → Value → Prop
  | none, b, off, h, v => cell h b off = some v
  | some n, b, off, h, v => ∃ cs : List Value, cs.length = n ∧ CellsAt h b off cs ∧ v = .agg cs.toArray

structure DNew (o : Obj) (h : Heap) (K : Nat → Heap → Prop) : Prop where
  mk ::
  out : K h.size (h.push o)
structure DLoad (n : Option Nat) (b off : Nat) (h : Heap) (K : Value → Prop) : Prop where
  mk ::
  out : ∃ v, Loads n b off h v ∧ K v
def splice (c : List Value) (off : Nat) (vs : List Value) : List Value := c.take off ++ vs ++ c.drop (off + vs.length)
structure DStore (n b off : Nat) (v : Value) (h : Heap) (K : Heap → Prop) : Prop where
  mk ::
  out : ∃ (c : List Value) (e : TypeId) (vs : List Value), h[b]? = some (.cells c.toArray e (0, 0)) ∧ v.cells = vs.toArray ∧ vs.length = n ∧ off + n ≤ c.length ∧
    (∀ u ∈ vs, u.oneCell' = true) ∧ ∀ h', Upd h b (.cells (splice c off vs).toArray e (0, 0)) h' → K h'
structure DIdx (a : Option Addr) (i : Int) (len : Nat) (K : Nat → Nat → Nat → Prop) : Prop where
  mk ::
  out : ∃ b off j : Nat, a = some ⟨b, off, none⟩ ∧ i = (j : Int) ∧ j < len ∧ K b off j
def slV (size : Nat) (a : Option Addr) (cap l h : Nat) : Value := .slice (if cap = l then a else a.map (·.add (l * size))) (h - l) (cap - l)
structure DSlice (size : Nat) (a : Option Addr) (len cap : Nat) (lo hi : Option Int) (K : Value → Prop) : Prop where
  mk ::
  out : ∃ l h : Nat, lo.getD 0 = (l : Int) ∧ hi.getD (len : Int) = (h : Int) ∧ l ≤ h ∧ h ≤ cap ∧ K (slV size a cap l h)
structure DMake (bytes : Nat) (e : TypeId) (zs : List Value) (L C : Int) (h : Heap) (K : Value → Heap → Prop) : Prop where
  mk ::
  out : ∃ l c : Nat, L = (l : Int) ∧ C = (c : Int) ∧ l ≤ c ∧ bytes * c ≤ 281474976710656 ∧ c ≤ 9223372036854775807 ∧
    K (.slice (some ⟨h.size, 0, none⟩) l c) (h.push (.cells (List.replicate c zs).flatten.toArray e))
structure DWrap (k : IntKind) (n : Int) (K : Int → Prop) : Prop where
  mk ::
  out : K (k.wrap n)
def bsp (b : Bool) (X Y : Prop) : Prop := match b with | true => X | false => Y
structure Spec (P : Program) (f : FuncId) (args : Array Value) (h : Heap) (S : Value → Heap → Prop) : Prop where
  mk ::
  out : ∀ w : World, w.heap = h → Calls P f args w fun e w' => Same w w' ∧ ∃ v, e = .returned v ∧ S v w'.heap
structure DRun (E : Env) (s : Sem Value) (h : Heap) (K : Value → Heap → Prop) : Prop where
  mk ::
  out : ∀ w : World, w.heap = h → ∃ v w', s.run E.P w = .ok v w' ∧ Same w w' ∧ K v w'.heap

end Go.Vc

namespace Go.Vc
def kSame : IntKind → IntKind → Bool
  | .i8, .i8 | .i16, .i16 | .i32, .i32 | .i64, .i64 | .u8, .u8 | .u16, .u16 | .u32, .u32 | .u64, .u64 => true
  | _, _ => false

theorem kSame_eq {k k' : IntKind} (h : kSame k k' = true) : k = k' := by cases k <;> cases k' <;> first | rfl | (simp [kSame] at h)

def onPtr (v : Value) (K : Nat → Nat → Prop) : Prop := match v with | .pointer (some ⟨b, off, none⟩) => K b off | _ => False
def onPtrA (v : Value) (K : Option Addr → Prop) : Prop := match v with | .pointer a => K a | _ => False
def onInt (v : Value) (K : IntKind → Int → Prop) : Prop := match v with | .int k n => K k n | _ => False
def onBool (v : Value) (K : Bool → Prop) : Prop := match v with | .bool b => K b | _ => False
def onSlice (v : Value) (K : Option Addr → Nat → Nat → Prop) : Prop := match v with | .slice a l c => K a l c | _ => False
def onAgg (v : Value) (K : Array Value → Prop) : Prop := match v with | .agg c => K c | _ => False
def onTuple (v : Value) (K : Array Value → Prop) : Prop := match v with | .tuple c => K c | _ => False
def onFn (v : Value) (K : FuncId → Array Value → Array Value → Prop) : Prop := match v with | .func (.func f) a b => K f a b | _ => False
def onElem (td : TD) (K : TypeId → Prop) : Prop := match td with | .slice e => K e | _ => False
def onStruct (td : TD) (K : List (Nat × TypeId) → Prop) : Prop := match td with | .struct fs => K fs | _ => False
def onIntT (td : TD) (K : IntKind → Prop) : Prop := match td with | .int k => K k | _ => False

def onTI (ti : TI) (K : TD → Nat → Nat → Value → Prop) : Prop := match ti with | ⟨td, s, b, z⟩ => K td s b z
def stepTo (size off j : Nat) (K : Nat → Prop) : Prop := match size with | 1 => K (off + j) | s => K (off + j * s)

/-- two integers of one kind -/
def vcInt (op : BinOp) (k : IntKind) (m n : Int) (K : Value → Prop) : Prop :=
  match op with
  | .add => DWrap k (m + n) fun r => K (.int k r)
  | .sub => DWrap k (m - n) fun r => K (.int k r)
  | .mul => DWrap k (m * n) fun r => K (.int k r)
  | .quo => n ≠ 0 ∧ DWrap k (m.tdiv n) fun r => K (.int k r)
  | .rem => n ≠ 0 ∧ K (.int k (m.tmod n))
  | .and => K (.int k (bits .and k m n))
  | .or => K (.int k (bits .or k m n))
  | .xor => K (.int k (bits .xor k m n))
  | .andNot => K (.int k (bits .andNot k m n))
  | .eql => K (.bool (m == n))
  | .neq => K (.bool (m != n))
  | .lss => K (.bool (decide (m < n)))
  | .leq => K (.bool (decide (m ≤ n)))
  | .gtr => K (.bool (decide (m > n)))
  | .geq => K (.bool (decide (m ≥ n)))
  | _ => False

/-- a computation that looks at no memory and makes none -/
structure DPure (E : Env) (s : Sem Value) (K : Value → Prop) : Prop where
  mk ::
  out : ∃ v, (∀ w : World, s.run E.P w = .ok v w) ∧ K v

def vcBin (E : Env) (op : BinOp) (t : TypeId) (x y : Operand) (a b : Value) (K : Value → Prop) : Prop :=
  match a, b with
  | .int k m, .int k' n =>
    match op with
    | .shl => 0 ≤ n ∧ DWrap k (m * 2 ^ (min n.toNat k.bits)) fun r => K (.int k r)
    | .shr => 0 ≤ n ∧ K (.int k (m.fdiv (2 ^ (min n.toNat k.bits))))
    | op => match kSame k k' with | true => vcInt op k m n K | false => False
  | .bool p, .bool q =>
    match op with
    | .eql => opt (E.ty t) fun ti => match ti.td with | .bool => K (.bool (p == q)) | _ => False
    | .neq => opt (E.ty t) fun ti => match ti.td with | .bool => K (.bool (p != q)) | _ => False
    | _ => False
  | a, b => DPure E (do eqGuard op t x y a b; binOp op t a b) K

def inOrder (size : Nat) : Nat → List (Nat × Value) → Prop
  | _, [] => True
  | n, (i, v) :: r => i = n ∧ v.cells.size = size ∧ inOrder size (n + 1) r

def catCells : List (Nat × Value) → List Value
  | [] => []
  | (_, v) :: r => v.cells.toList ++ catCells r

def pickK (c : Bool) (a b : Option Value) (K : Value → Prop) : Prop :=
  match a, b with
  | some (.bool x), some (.bool y) => K (.bool (cond c x y))
  | some x, some y => bsp c (K x) (K y)
  | _, _ => False

def vcLen (E : Env) (vs : List Value) (ts : List TypeId) (K : Value → Prop) : Prop :=
  match vs, ts with
  | [.slice _ n _], [t] => opt (E.ty t) fun ti => match ti.td with | .slice _ => K (.int .i64 n) | _ => False
  | [.string s], [t] => opt (E.ty t) fun ti => match ti.td with | .str => K (.int .i64 s.size) | _ => False
  | _, _ => False

def vcTwo (vs : List Value) (ts : List TypeId) (K : Value → Value → TypeId → TypeId → Prop) : Prop :=
  match vs, ts with
  | [s, x], [t, u] => K s x t u
  | _, _ => False

def vcOne (vs : List Value) (ts : List TypeId) (K : Value → TypeId → Prop) : Prop :=
  match vs, ts with
  | [x], [t] => K x t
  | _, _ => False

def vcMax (vs : List Value) (K : Value → Prop) : Prop := match vs with | [.int k m, .int _ n] => K (.int k (if n > m then n else m)) | _ => False
def vcMin (vs : List Value) (K : Value → Prop) : Prop := match vs with | [.int k m, .int _ n] => K (.int k (if n < m then n else m)) | _ => False

def vcBuiltinR (E : Env) (b : Builtin) (vs : List Value) (ts : List TypeId) (K : Value → Prop) : Prop :=
  match b with
  | .len => vcLen E vs ts K
  | .max => vcMax vs K
  | .min => vcMin vs K
  | _ => False

def vcBuiltin (E : Env) (b : Builtin) (vs : List Value) (ts : List TypeId) (ty : TypeId) (h : Heap) (K : Value → Heap → Prop) : Prop :=
  match b with
  | .append => vcTwo vs ts fun s x t u => DRun E (Builtin.append_ #[t, u] ty #[s, x]) h K
  | .copy => vcTwo vs ts fun s x t u => DRun E (Builtin.copy_ #[t, u] ty #[s, x]) h K
  | .clear => vcOne vs ts fun x t => DRun E (Builtin.clear_ #[t] ty #[x]) h K
  | b => vcBuiltinR E b vs ts fun v => K v h

def vcCall (E : Env) (c : Call) (ty : TypeId) (σ : St) (h : Heap) (K : Value → Heap → Prop) : Prop :=
  match c.callee with
  | .value f => opt (ev σ f) fun v => onFn v fun g first captured => opt (evs σ c.args.toList) fun vs =>
        match Nat.blt 2 g && Nat.blt g E.fns with
        | true => Spec E.P g (first.toList ++ vs ++ captured.toList).toArray h K
        | false => False
  | .builtin b => opt (evs σ c.args.toList) fun vs => vcBuiltin E b vs c.argTypes.toList ty h K
  | .invoke _ _ => False

/-- calls that look at no memory: len, max, min -/
def vcCallR (E : Env) (c : Call) (σ : St) (K : Value → Prop) : Prop :=
  match c.callee with
  | .builtin b => opt (evs σ c.args.toList) fun vs => vcBuiltinR E b vs c.argTypes.toList K
  | _ => False

def optInt (σ : St) : Option Operand → Option (Option Int)
  | none => some none
  | some x => match ev σ x with | some (.int _ n) => some (some n) | _ => none

def vcSlice (E : Env) (td : TD) (x : Value) (lo hi : Option Int) (K : Value → Prop) : Prop :=
  match td with
  | .slice e => opt (E.ty e) fun ei => onTI ei fun _ size _ _ => onSlice x fun a len cap => DSlice size a len cap lo hi K
  | .array n e => match lo, hi with
    | none, none => opt (E.ty e) fun _ => onPtr x fun b off => K (.slice (some ⟨b, off, none⟩) n n)
    | _, _ => False
  | _ => False

def vcIdx (E : Env) (td : TD) (x : Value) (n : Int) (K : Value → Prop) : Prop :=
  match td with
  | .slice e => opt (E.ty e) fun ei => onTI ei fun _ size _ _ => onSlice x fun a len _ => DIdx a n len fun b off j => stepTo size off j fun o => K (.pointer (some ⟨b, o, none⟩))
  | .array len e => opt (E.ty e) fun ei => onTI ei fun _ size _ _ => onPtrA x fun a => DIdx a n len fun b off j => stepTo size off j fun o => K (.pointer (some ⟨b, o, none⟩))
  | _ => False

def vcUn (op : UnOp) (v : Value) (K : Value → Prop) : Prop :=
  match v with
  | .bool b => match op with | .not => K (.bool (!b)) | _ => False
  | .int k n => match op with
    | .neg => DWrap k (0 - n) fun r => K (.int k r)
    | .xor => K (.int k (bits .xor k (if k.signed then -1 else k.max) n))
    | _ => False
  | _ => False

def vcField (cs : List Value) (o : Nat) (n : Option Nat) (K : Value → Prop) : Prop :=
  match n with
  | some n => K (.agg ((cs.drop o).take n).toArray)
  | none => opt (cs[o]?) K

def nz (n : Nat) (X : Prop) : Prop := match n with | 0 => False | _ => X

def vcNil (v : Value) (K : Value → Prop) : Prop :=
  match v with
  | .pointer (some a) => K (.pointer (some a))
  | .func (.func f) a b => K (.func (.func f) a b)
  | _ => False

def vcConvR (E : Env) (s d : TypeId) (v : Value) (K : Value → Prop) : Prop :=
  match v with
  | .int _ n => opt (E.ty s) fun _ => opt (E.ty d) fun di => onIntT di.td fun k => DWrap k n fun r => K (.int k r)
  | v => DPure E (convert s d v) K

def vcConv (E : Env) (s d : TypeId) (v : Value) (h : Heap) (K : Value → Heap → Prop) : Prop :=
  match v with
  | .int k n => vcConvR E s d (.int k n) fun v => K v h
  | v => DRun E (convert s d v) h K

/-- operations that look at no memory and make none -/
def vcReg (E : Env) (o : Op) (σ : St) (K : Value → Prop) : Prop :=
  match o with
  | .move x => opt (ev σ x) K
  | .assign x => opt (ev σ x) K
  | .pick c a b => opt (ev σ c) fun v => onBool v fun c => pickK c (ev σ a) (ev σ b) K
  | .fieldAddr s x f => opt (E.ty s) fun ti => onStruct ti.td fun fs => opt fs[f]? fun q => opt (E.ty q.2) fun fi => nz fi.size (opt (ev σ x) fun p => onPtr p fun b off => K (.pointer (some ⟨b, off + q.1, none⟩)))
  | .field s x f => opt (E.ty s) fun ti => onStruct ti.td fun fs => opt fs[f]? fun q => opt (E.ty q.2) fun fi => opt (ev σ x) fun v => onAgg v fun cs => vcField cs.toList q.1 fi.agg? K
  | .indexAddr t x i => opt (E.ty t) fun ti => opt (ev σ i) fun v => onInt v fun _ n => opt (ev σ x) fun x => vcIdx E ti.td x n K
  | .index t x i => opt (ev σ x) fun x => opt (ev σ i) fun i => DPure E (Instr.index t x i) K
  | .slice t x lo hi none => opt (E.ty t) fun ti => opt (ev σ x) fun x => opt (optInt σ lo) fun lo => opt (optInt σ hi) fun hi => vcSlice E ti.td x lo hi K
  | .build t ps => opt (evp σ ps.toList) fun vs => DPure E (Instr.build t vs.toArray) K
  | .binOp op t x y _ => opt (ev σ x) fun a => opt (ev σ y) fun b => vcBin E op t x y a b K
  | .unOp op _ x => opt (ev σ x) fun v => vcUn op v K
  | .convert s d x => opt (ev σ x) fun v => vcConvR E s d v K
  | .makeFunc fn first captured => opt (evs σ first.toList) fun fs => opt (evs σ captured.toList) fun cs => K (.func fn fs.toArray cs.toArray)
  | .extract x i => opt (ev σ x) fun v => onTuple v fun vs => opt (vs.toList[i]?) K
  | .nilCheck x => opt (ev σ x) fun v => vcNil v K
  | .call c => vcCallR E c σ K
  | _ => False

def vcOp (E : Env) (o : Op) (ty : TypeId) (σ : St) (h : Heap) (K : Value → Heap → Prop) : Prop :=
  match o with
  | .alloc e => opt (E.ty e) fun ti => DNew (.cells ti.zero.cells e) h fun b h' => K (.pointer (some ⟨b, 0, none⟩)) h'
  | .box e x => opt (ev σ x) fun v => DNew (.cells v.cells e) h fun b h' => K (.pointer (some ⟨b, 0, none⟩)) h'
  | .load t a => opt (E.ty t) fun ti => opt (ev σ a) fun p => onPtr p fun b off => DLoad ti.agg? b off h fun v => K v h
  | .store t a x => opt (E.ty t) fun ti => opt (ev σ a) fun p => onPtr p fun b off => opt (ev σ x) fun v => DStore ti.size b off v h fun h' => K undef h'
  | .makeSlice t l c => opt (E.ty t) fun ti => onElem ti.td fun e => opt (E.ty e) fun ei => opt (ev σ l) fun l => onInt l fun _ L => opt (ev σ c) fun c => onInt c fun _ C => onTI ei fun _ _ bytes z => DMake bytes e z.cells.toList L C h K
  | .buildSlice t n ps => opt (E.ty t) fun ti => onElem ti.td fun e => opt (E.ty e) fun ei => opt (evp σ ps.toList) fun vs =>
        onTI ei fun _ size _ _ => (vs.length = n ∧ n * size ≤ 16777216 ∧ inOrder size 0 vs) ∧ DNew (.cells (catCells vs).toArray e) h fun b h' => K (.slice (some ⟨b, 0, none⟩) n n) h'
  | .convert s d x => opt (ev σ x) fun v => vcConv E s d v h K
  | .makeMap t none => DRun E (Instr.makeMap t none) h K
  | .makeInterface t x => opt (ev σ x) fun v => DRun E (Instr.makeInterface t v) h K
  | .call c => vcCall E c ty σ h K
  | o => vcReg E o σ fun v => K v h

/-! ### soundness of one operation -/
theorem onTI_eq {ti : TI} {K : TD → Nat → Nat → Value → Prop} (h : onTI ti K) : K ti.td ti.size ti.bytes ti.zero := by cases ti; exact h
theorem stepTo_eq {size off j : Nat} {K : Nat → Prop} (h : stepTo size off j K) : K (off + j * size) := by
  unfold stepTo at h
  split at h
  · simpa using h
  · exact h
theorem onSlice_some {v : Value} {K : Option Addr → Nat → Nat → Prop} (h : onSlice v K) : ∃ a l c, v = .slice a l c ∧ K a l c := by
  cases v <;> first | exact h.elim | exact ⟨_, _, _, rfl, h⟩
theorem onPtr_some {v : Value} {K : Nat → Nat → Prop} (h : onPtr v K) : ∃ b off, v = .pointer (some ⟨b, off, none⟩) ∧ K b off := by
  unfold onPtr at h; split at h
  · exact ⟨_, _, rfl, h⟩
  · exact h.elim
theorem onPtrA_some {v : Value} {K : Option Addr → Prop} (h : onPtrA v K) : ∃ a, v = .pointer a ∧ K a := by
  cases v <;> first | exact h.elim | exact ⟨_, rfl, h⟩
theorem onElem_some {v : TD} {K : TypeId → Prop} (h : onElem v K) : ∃ e, v = .slice e ∧ K e := by
  cases v <;> first | exact h.elim | exact ⟨_, rfl, h⟩

theorem opt_some {α : Type} {x : Option α} {K : α → Prop} (h : opt x K) : ∃ a, x = some a ∧ K a := by
  cases x with
  | none => exact h.elim
  | some a => exact ⟨a, rfl, h⟩

end Go.Vc

namespace Go.Vc
section
variable {E : Env} {o : Oper} {σ : St} {n : Nat} {a : Act} {w : World} {K : Value → Heap → Prop} {next : Act → World → Prop} {Q : Exit → Act → World → Prop}

theorem wp_value (hr : ∃ v w', (execOp a.eval o).run E.P w = .ok (.value v) w' ∧ Same w w' ∧ K v w'.heap)
    (hn : ∀ v w', Same w w' → K v w'.heap → next (a.put o.dst v) w') : o.wp E.P a w next Q := by
  obtain ⟨v, w', hr, hs, hk⟩ := hr
  unfold Oper.wp
  rw [hr]
  exact hn v w' hs hk

theorem wp_skip' (hr : ∃ w', (execOp a.eval o).run E.P w = .ok .skip w' ∧ Same w w' ∧ K undef w'.heap)
    (hn : ∀ v w', Same w w' → K v w'.heap → next (a.put o.dst v) w') : o.wp E.P a w next Q := by
  obtain ⟨w', hr, hs, hk⟩ := hr
  unfold Oper.wp
  rw [hr]
  exact hn _ w' hs hk

theorem run_val (s : Sem Value) (v : Value) (w' : World) (h : s.run E.P w = .ok v w') :
    (do pure (Next.value (← s)) : Sem Next).run E.P w = .ok (.value v) w' := by
  simp [h]

theorem of_DRun {s : Sem Value} {h : Heap} (hd : DRun E s h K) (hw : w.heap = h) : ∃ v w', s.run E.P w = .ok v w' ∧ Same w w' ∧ K v w'.heap := by
  replace hd := hd.out; exact hd w hw

theorem run_underlying' {t : TypeId} {d : TypeDesc} (h : E.P.underlying t = some d) (w : World) : (underlying t).run E.P w = .ok d w := run_underlying h w

theorem TI.ok.size {t : TypeId} {ti : TI} (h : ti.ok E.P t) (w : World) : (sizeOf t).run E.P w = .ok ti.size w := by
  obtain ⟨i, hi, hs, _, _⟩ := h.info
  simp [Go.sizeOf, typeInfo, hi, hs]

theorem TI.ok.info' {t : TypeId} {ti : TI} (h : ti.ok E.P t) (w : World) : ∃ i, (typeInfo t).run E.P w = .ok i w ∧ i.size = ti.size ∧ i.bytes = ti.bytes ∧ i.zero = some ti.zero := by
  obtain ⟨i, hi, hs, hb, hz⟩ := h.info
  exact ⟨i, by simp [typeInfo, hi], hs, hb, hz⟩

theorem TI.ok.zero {t : TypeId} {ti : TI} (h : ti.ok E.P t) (w : World) : (zeroValue t).run E.P w = .ok ti.zero w := by
  obtain ⟨i, hi, _, _, hz⟩ := h.info
  simp [zeroValue, typeInfo, hi, hz]

theorem TI.ok.agg {t : TypeId} {ti : TI} (h : ti.ok E.P t) (w : World) : (isAgg t).run E.P w = .ok ti.agg?.isSome w := by
  have := h.td
  unfold isAgg TI.agg?
  cases hd : ti.td with
  | int k => rw [hd] at this; simp [run_underlying this]
  | bool => rw [hd] at this; simp [run_underlying this]
  | str => rw [hd] at this; simp [run_underlying this]
  | slice e => rw [hd] at this; simp [run_underlying this]
  | array m e => rw [hd] at this; simp [run_underlying this]
  | struct fs =>
    rw [hd] at this
    obtain ⟨fields, h1, _⟩ := this
    simp [run_underlying h1]
  | other =>
    rw [hd] at this
    obtain ⟨d, h1, h2, h3⟩ := this
    simp only [Sem.run_bind, run_underlying h1, Result.andThen_ok]
    cases d <;> first | rfl | exact absurd rfl (h2 _) | exact absurd rfl (h3 _ _)

theorem TI.agg_size {ti : TI} {m : Nat} (h : ti.agg? = some m) : m = ti.size := by
  unfold TI.agg? at h
  split at h <;> simp_all

theorem addr_add (b off k : Nat) : (⟨b, off, none⟩ : Addr).add k = ⟨b, off + k, none⟩ := by
  unfold Addr.add; split <;> simp_all

theorem run_loads {t : TypeId} {ti : TI} (hti : ti.ok E.P t) {b off : Nat} {v : Value} (hl : Loads ti.agg? b off w.heap v) :
    (loadVar t ⟨b, off, none⟩).run E.P w = .ok v w := by
  unfold loadVar
  simp only [Sem.run_bind, hti.agg w, Result.andThen_ok]
  cases hm : ti.agg? with
  | none =>
    rw [hm] at hl
    have : cell w.heap b off = some v := hl
    simp [run_load, cell?_eq, this]
  | some m =>
    rw [hm] at hl
    obtain ⟨cs, hlen, hc, rfl⟩ := hl
    have hms := TI.agg_size hm
    simp only [Option.isSome_some, if_true, Sem.run_bind, hti.size w, Result.andThen_ok]
    have := run_loadCells_list (P := E.P) w ⟨b, off, none⟩ cs (fun j v hj => by rw [addr_add, cell?_eq]; exact hc.get j v hj)
    rw [hlen, hms] at this
    simp [this]

theorem setRow_upd {w : World} {g : Nat} {cs cs' : Array Value} {t : TypeId} (hg : w.heap[g]? = some (.cells cs t (0, 0))) :
    Upd w.heap g (.cells cs' t (0, 0)) (w.setRow g cs').heap := by
  refine ⟨by simp [World.setRow], ?_, fun k hk => ?_⟩
  · simp [World.setRow, Array.getElem?_modify, hg]
  · simp only [World.setRow, Array.getElem?_modify]
    rw [if_neg (fun e => hk e.symm)]

theorem same_setRow {w : World} {g : Nat} {cs : Array Value} : Same w (w.setRow g cs) := ⟨rfl, rfl, rfl⟩

theorem vcBin_sound (hE : E.Ok) {op : BinOp} {t : TypeId} {x y : Operand} {u v : Value} {K : Value → Prop} (hv : vcBin E op t x y u v K) :
    ∃ r, (∀ w, (do eqGuard op t x y u v; binOp op t u v : Sem Value).run E.P w = .ok r w) ∧ K r := by
  have gi : ∀ w k m k' m', (eqGuard op t x y (.int k m) (.int k' m')).run E.P w = .ok () w := by
    intro w k m k' m'; unfold eqGuard; cases op <;> simp
  have gb : ∀ w p q, (eqGuard op t x y (.bool p) (.bool q)).run E.P w = .ok () w := by
    intro w p q; unfold eqGuard; cases op <;> simp
  unfold vcBin at hv
  split at hv
  · rename_i k m k' m'
    simp only [Sem.run_bind, gi, Result.andThen_ok]
    split at hv
    · obtain ⟨h0, hk⟩ := hv
      replace hk := hk.out
      exact ⟨_, fun w => by simp [binOp, Op.shift, Int.not_lt.2 h0], hk⟩
    · obtain ⟨h0, hk⟩ := hv
      exact ⟨_, fun w => by simp [binOp, Op.shift, Int.not_lt.2 h0], hk⟩
    · rename_i op' h1 h2
      split at hv
      · rename_i hk
        have := kSame_eq hk; subst this
        unfold vcInt at hv
        split at hv
        · replace hv := hv.out; exact ⟨_, fun w => by simp [binOp, Op.intArith], hv⟩
        · replace hv := hv.out; exact ⟨_, fun w => by simp [binOp, Op.intArith], hv⟩
        · replace hv := hv.out; exact ⟨_, fun w => by simp [binOp, Op.intArith], hv⟩
        · exact ⟨_, fun w => by simp [binOp, Op.intDiv, hv.1], hv.2.out⟩
        · exact ⟨_, fun w => by simp [binOp, Op.intDiv, hv.1], hv.2⟩
        · exact ⟨_, fun w => by simp [binOp, Op.intBits, bits], hv⟩
        · exact ⟨_, fun w => by simp [binOp, Op.intBits, bits], hv⟩
        · exact ⟨_, fun w => by simp [binOp, Op.intBits, bits], hv⟩
        · exact ⟨_, fun w => by simp [binOp, Op.intBits, bits], hv⟩
        · exact ⟨_, fun w => by simp [binOp, Op.intCmp], hv⟩
        · exact ⟨_, fun w => by simp [binOp, Op.intCmp], hv⟩
        · exact ⟨_, fun w => by simp [binOp, Op.intCmp], hv⟩
        · exact ⟨_, fun w => by simp [binOp, Op.intCmp], hv⟩
        · exact ⟨_, fun w => by simp [binOp, Op.intCmp], hv⟩
        · exact ⟨_, fun w => by simp [binOp, Op.intCmp], hv⟩
        · exact hv.elim
      · exact hv.elim
  · rename_i p q
    simp only [Sem.run_bind, gb, Result.andThen_ok]
    split at hv
    · obtain ⟨ti, hti, hv⟩ := opt_some hv
      split at hv
      · rename_i htd
        have h1 := (hE.tab t ti hti).td
        rw [htd] at h1
        have h1' : E.P.underlying t = some .bool := h1
        exact ⟨_, fun w => by simp only [binOp, Sem.run_bind, run_equal_bool (P := E.P) w t p q h1', Result.andThen_ok, Sem.run_pure], hv⟩
      · exact hv.elim
    · obtain ⟨ti, hti, hv⟩ := opt_some hv
      split at hv
      · rename_i htd
        have h1 := (hE.tab t ti hti).td
        rw [htd] at h1
        have h1' : E.P.underlying t = some .bool := h1
        exact ⟨_, fun w => by simp only [binOp, Sem.run_bind, run_equal_bool (P := E.P) w t p q h1', Result.andThen_ok, Sem.run_pure]; rfl, hv⟩
      · exact hv.elim
    · exact hv.elim
  · replace hv := hv.out; exact hv
end
end Go.Vc

namespace Go.Vc
section
variable {E : Env} {o : Oper} {σ : St} {n : Nat} {a : Act} {w : World} {K : Value → Heap → Prop} {next : Act → World → Prop} {Q : Exit → Act → World → Prop}

theorem inOrder_fill {size : Nat} {zero : List Value} : ∀ (vs : List (Nat × Value)) (k : Nat) (pre : List Value) (suf : List Value), inOrder size k vs → pre.length = k * size → suf.length = vs.length * size →
    Instr.fill (fun i => some (i * size, size)) (pre ++ suf).toArray vs = some (pre ++ catCells vs).toArray
  | [], k, pre, suf, _, hp, hs => by
    have : suf = [] := List.eq_nil_of_length_eq_zero (by simpa using hs)
    subst this; simp [Instr.fill, catCells]
  | (i, v) :: r, k, pre, suf, ho, hp, hs => by
    obtain ⟨rfl, hv, hr⟩ := ho
    have hvl : v.cells.toList.length = size := by simpa using hv
    have hsl : size ≤ suf.length := by rw [hs, List.length_cons, Nat.add_mul]; omega
    have key : ∀ (us : List Value) (m : Nat) (q : List Value), m + us.length ≤ size → q.length = (i * size + m) →
        (us.zipIdx m).foldl (fun (cs : Array Value) (x : Value × Nat) => cs.setIfInBounds (i * size + x.2) x.1) (q ++ suf.drop m).toArray = (q ++ us ++ suf.drop (m + us.length)).toArray := by
      intro us
      induction us with
      | nil => intro m q _ _; simp
      | cons u us ih =>
        intro m q hm hq
        simp only [List.zipIdx_cons, List.foldl_cons]
        have hml : m < suf.length := by simp only [List.length_cons] at hm; omega
        have e1 : (q ++ suf.drop m).toArray.setIfInBounds (i * size + m) u = ((q ++ [u]) ++ suf.drop (m + 1)).toArray := by
          rw [List.setIfInBounds_toArray, ← hq, List.set_append_right _ _ (Nat.le_refl _), Nat.sub_self]
          rw [List.drop_eq_getElem_cons hml]
          simp only [List.set_cons_zero, List.append_assoc, List.cons_append, List.nil_append]
        rw [e1, ih (m + 1) (q ++ [u]) (by simp only [List.length_cons] at hm; omega) (by simp [hq]; omega)]
        have e2 : m + 1 + us.length = m + (u :: us).length := by simp only [List.length_cons]; omega
        rw [e2]
        simp only [List.append_assoc, List.cons_append, List.nil_append]
    unfold Instr.fill
    have hne : ¬ (v.cells.size ≠ size || decide (i * size + v.cells.size > (pre ++ suf).toArray.size)) = true := by
      simp [hv]; omega
    simp only [hne, if_false, Bool.false_eq_true]
    have hz : (v.cells.zipIdx.foldl (fun cs (c, j) => cs.setIfInBounds (i * size + j) c) (pre ++ suf).toArray) = (pre ++ v.cells.toList ++ suf.drop size).toArray := by
      have := key v.cells.toList 0 pre (by omega) (by simpa using hp)
      simp only [List.drop_zero, Nat.zero_add, hvl] at this
      rw [← this, ← Array.foldl_toList, Array.toList_zipIdx]
    rw [hz]
    have := inOrder_fill (zero := zero) r (i + 1) (pre ++ v.cells.toList) (suf.drop size) hr (by simp [hp, hv, Nat.add_mul]) (by simp [hs, Nat.add_mul])
    rw [this]
    simp [catCells]
end
end Go.Vc

namespace Go.Vc
section
variable {E : Env} {o : Oper} {σ : St} {n : Nat} {a : Act} {w : World} {K : Value → Heap → Prop} {next : Act → World → Prop} {Q : Exit → Act → World → Prop}

/-- what each operation comes to -/
def OpOk (E : Env) (o : Oper) (a : Act) (w : World) (K : Value → Heap → Prop) : Prop :=
  (∃ v w', (execOp a.eval o).run E.P w = .ok (.value v) w' ∧ Same w w' ∧ K v w'.heap) ∨
  (∃ w', (execOp a.eval o).run E.P w = .ok .skip w' ∧ Same w w' ∧ K undef w'.heap) ∨
  (∃ f args, (execOp a.eval o).run E.P w = .ok (.enter f args) w ∧ Spec E.P f args w.heap K)

theorem OpOk.wp (h : OpOk E o a w K) (hn : ∀ v w', Same w w' → K v w'.heap → next (a.put o.dst v) w') : o.wp E.P a w next Q := by
  rcases h with h | h | ⟨f, args, hr, hs⟩
  · exact wp_value h hn
  · exact wp_skip' h hn
  · unfold Oper.wp
    rw [hr]
    replace hs := hs.out
    refine (hs w rfl).mono fun e w' ⟨h1, v, he, hk⟩ => ?_
    subst he
    exact hn v w' h1 hk

theorem OpOk.of_val {s : Sem Value} (he : execOp a.eval o = (do pure (.value (← s)))) (h : ∃ v w', s.run E.P w = .ok v w' ∧ Same w w' ∧ K v w'.heap) : OpOk E o a w K := by
  obtain ⟨v, w', hr, hs, hk⟩ := h
  exact .inl ⟨v, w', by rw [he]; simp [hr], hs, hk⟩

theorem slice_ok {size : Nat} {b : Option Addr} {len cap : Nat} {lo hi : Option Int} {t e : TypeId} {ei : TI} {k k' : IntKind} (ht : E.P.underlying t = some (.slice e)) (hei : ei.ok E.P e) (hsz : size = ei.size)
    {K : Value → Prop} (h : DSlice size b len cap lo hi K) (lo' hi' : Option Value) (hlo : lo' = lo.map (Value.int k)) (hhi : hi' = hi.map (Value.int k')) :
    ∃ v, (∀ w, (Instr.sliceAt t (.slice b len cap) lo' hi' none).run E.P w = .ok v w) ∧ K v := by
  replace h := h.out
  obtain ⟨l, u, hl, hu, h1, h2, hk⟩ := h
  refine ⟨_, fun w => ?_, hk⟩
  subst hlo hhi hsz
  have hs := hei.size w
  cases lo with
  | none =>
    have hl0 : l = 0 := by simpa using hl.symm
    subst hl0
    cases hi with
    | none =>
      have : u = len := by have := hu; simp at this; omega
      subst this
      simp [Instr.sliceAt, run_underlying ht, Instr.slice, Instr.sliceBounds, hs, slV]
    | some v =>
      have : v = (u : Int) := by simpa using hu
      subst this
      simp [Instr.sliceAt, run_underlying ht, Instr.slice, Instr.sliceBounds, Instr.sliceBound, asIntOf, h2, hs, slV]
  | some m =>
    have : m = (l : Int) := by simpa using hl
    subst this
    cases hi with
    | none =>
      have : u = len := by have := hu; simp at this; omega
      subst this
      simp [Instr.sliceAt, run_underlying ht, Instr.slice, Instr.sliceBounds, Instr.sliceBound, asIntOf, h1, hs, slV]
    | some v =>
      have : v = (u : Int) := by simpa using hu
      subst this
      simp [Instr.sliceAt, run_underlying ht, Instr.slice, Instr.sliceBounds, Instr.sliceBound, asIntOf, h1, h2, hs, slV]

theorem optInt_some (hf : Fits n σ a) {x : Option Operand} {r : Option Int} (h : optInt σ x = some r) : ∃ k, x.map a.eval = r.map (Value.int k) := by
  cases x with
  | none => simp only [optInt, Option.some.injEq] at h; subst h; exact ⟨.i64, rfl⟩
  | some x =>
    simp only [optInt] at h
    split at h
    · rename_i k m hx
      simp only [Option.some.injEq] at h; subst h
      exact ⟨k, by simp [hf.ev hx]⟩
    · cases h

theorem store_ok {t : TypeId} {ti : TI} (hti : ti.ok E.P t) {b off : Nat} {v : Value} {K : Heap → Prop} (h : DStore ti.size b off v w.heap K) :
    ∃ w', (storeVar t ⟨b, off, none⟩ v).run E.P w = .ok () w' ∧ Same w w' ∧ K w'.heap := by
  replace h := h.out
  obtain ⟨c, e, vs, hb, hv, hl, hfit, h1, hk⟩ := h
  have hs := hti.size w
  have hst := run_storeCells_at E.P b off e vs 0 c.toArray w hb (by simp; omega) h1
  refine ⟨_, ?_, same_setRow, hk _ (setRow_upd hb)⟩
  unfold storeVar
  simp only [Sem.run_bind, hs, Result.andThen_ok, hv, List.size_toArray, hl, ne_eq, not_true, if_false]
  simp only [Nat.add_zero] at hst
  simp [hst, splice]

theorem idx_slice_ok {k : IntKind} {t e : TypeId} {ei : TI} (ht : E.P.underlying t = some (.slice e)) (hei : ei.ok E.P e) {b : Option Addr} {len cap : Nat} {i : Int} {K : Value → Prop}
    (h : DIdx b i len fun b off j => stepTo ei.size off j fun o => K (.pointer (some ⟨b, o, none⟩))) : ∃ v, (∀ w, (Instr.indexAt t (.slice b len cap) (.int k i)).run E.P w = .ok v w) ∧ K v := by
  replace h := h.out
  obtain ⟨g, off, j, rfl, rfl, hj, hk⟩ := h
  refine ⟨_, fun w => ?_, stepTo_eq hk⟩
  have hs := hei.size w
  simp [Instr.indexAt, asIntOf, run_underlying ht, hj, hs, addr_add]

theorem idx_array_ok {k : IntKind} {t e : TypeId} {ei : TI} {len : Nat} (ht : E.P.underlying t = some (.array len e)) (hei : ei.ok E.P e) {b : Option Addr} {i : Int} {K : Value → Prop}
    (h : DIdx b i len fun b off j => stepTo ei.size off j fun o => K (.pointer (some ⟨b, o, none⟩))) : ∃ v, (∀ w, (Instr.indexAt t (.pointer b) (.int k i)).run E.P w = .ok v w) ∧ K v := by
  replace h := h.out
  obtain ⟨g, off, j, rfl, rfl, hj, hk⟩ := h
  refine ⟨_, fun w => ?_, stepTo_eq hk⟩
  have hs := hei.size w
  simp [Instr.indexAt, asIntOf, run_underlying ht, hj, hs, addr_add, Instr.sureAddr]

/-- in whatever world the operation yields v and does nothing else -/
def RegOk (E : Env) (o : Oper) (a : Act) (K : Value → Prop) : Prop := ∃ v, (∀ w, (execOp a.eval o).run E.P w = .ok (.value v) w) ∧ K v

theorem RegOk.of_val {K : Value → Prop} {s : Sem Value} (he : execOp a.eval o = (do pure (.value (← s)))) (h : ∃ v, (∀ w, s.run E.P w = .ok v w) ∧ K v) : RegOk E o a K := by
  obtain ⟨v, hr, hk⟩ := h
  exact ⟨v, fun w => by rw [he]; simp [hr w], hk⟩

theorem exec_builtin (hf : Fits n σ a) {c : Call} {b : Builtin} {vs : List Value} (ho : o.op = .call c) (hc : c.callee = .builtin b) (hvs : evs σ c.args.toList = some vs) :
    execOp a.eval o = builtin b c.argTypes o.type (c.args.map fun | .const _ => true | _ => false) vs.toArray := by
  have hargs : (c.args.map a.eval) = vs.toArray := by
    have := hf.evs hvs
    apply Array.toList_inj.1
    simpa using this
  have hex : execOp a.eval o = (do let d ← resolve a.eval c o.type; invoke d.target d.args) := by simp [execOp, ho]
  rw [hex]; simp only [resolve, hc, hargs, invoke]; rfl

theorem vcBuiltinR_ok (hE : E.Ok) {c : Call} {b : Builtin} {vs : List Value} {K : Value → Prop}
    (hex2 : execOp a.eval o = builtin b c.argTypes o.type (c.args.map fun | .const _ => true | _ => false) vs.toArray) (hv : vcBuiltinR E b vs c.argTypes.toList K) : RegOk E o a K := by
  unfold vcBuiltinR at hv
  split at hv
  · unfold vcLen at hv
    split at hv
    · rename_i sa m sc t ht
      obtain ⟨ti, hti, hv⟩ := opt_some hv
      split at hv
      · rename_i e htd
        have h1 := (hE.tab t ti hti).td
        rw [htd] at h1
        have h1' : E.P.underlying t = some (.slice e) := h1
        have htys : c.argTypes = #[t] := by apply Array.toList_inj.1; simpa using ht
        refine .of_val (s := Builtin.len_ #[t] o.type [Value.slice sa m sc].toArray) (by rw [hex2, htys]; rfl) ⟨.int .i64 m, fun w => ?_, hv⟩
        simp [Builtin.len_, run_underlying h1', goInt]
      · exact hv.elim
    · rename_i s t ht
      obtain ⟨ti, hti, hv⟩ := opt_some hv
      split at hv
      · rename_i htd
        have h1 := (hE.tab t ti hti).td
        rw [htd] at h1
        have h1' : E.P.underlying t = some .string := h1
        have htys : c.argTypes = #[t] := by apply Array.toList_inj.1; simpa using ht
        refine .of_val (s := Builtin.len_ #[t] o.type [Value.string s].toArray) (by rw [hex2, htys]; rfl) ⟨.int .i64 s.size, fun w => ?_, hv⟩
        simp [Builtin.len_, run_underlying h1', goInt]
      · exact hv.elim
    · exact hv.elim
  · unfold vcMax at hv
    split at hv
    · rename_i k m k' m'
      refine .of_val (s := Builtin.max_ c.argTypes o.type [Value.int k m, Value.int k' m'].toArray) (by rw [hex2]; rfl) ⟨_, fun w => ?_, hv⟩
      simp [Builtin.max_, Builtin.max2]
    · exact hv.elim
  · unfold vcMin at hv
    split at hv
    · rename_i k m k' m'
      refine .of_val (s := Builtin.min_ c.argTypes o.type [Value.int k m, Value.int k' m'].toArray) (by rw [hex2]; rfl) ⟨_, fun w => ?_, hv⟩
      simp [Builtin.min_, Builtin.min2]
    · exact hv.elim
  · exact hv.elim

theorem RegOk.op {K' : Value → Heap → Prop} (h : RegOk E o a fun v => K' v w.heap) : OpOk E o a w K' := by
  obtain ⟨v, hr, hk⟩ := h
  exact .inl ⟨v, w, hr w, .rfl, hk⟩

theorem vcCall_sound (hE : E.Ok) {c : Call} {ty : TypeId} (ho : o.op = .call c) (hoty : o.type = ty) (hf : Fits n σ a) (hv : vcCall E c ty σ w.heap K) : OpOk E o a w K := by
  have hex : execOp a.eval o = (do let d ← resolve a.eval c o.type; invoke d.target d.args) := by simp [execOp, ho]
  unfold vcCall at hv
  cases hc : c.callee with
  | invoke r m => rw [hc] at hv; exact hv.elim
  | value f =>
    simp only [hc] at hv
    obtain ⟨v, hfv, hv⟩ := opt_some hv
    have hev := hf.ev hfv
    unfold onFn at hv
    split at hv
    · rename_i g first captured
      obtain ⟨vs, hvs, hv⟩ := opt_some hv
      split at hv
      · rename_i hlt
        have hg : 2 < g ∧ g < E.fns := by simpa [Nat.blt_eq] using hlt
        have hargs : (c.args.map a.eval) = vs.toArray := by
          have := hf.evs hvs
          apply Array.toList_inj.1
          simpa using this
        refine .inr (.inr ⟨g, _, ?_, hv⟩)
        rw [hex]
        simp only [resolve, hc, hev, Deferred.ofValue, hargs, Sem.run_bind, Sem.run_pure, Result.andThen_ok, invoke]
        rw [hE.fn g hg.1 hg.2]
        simp
      · exact hv.elim
    · exact hv.elim
  | builtin b =>
    simp only [hc] at hv
    obtain ⟨vs, hvs, hv⟩ := opt_some hv
    have hex2 := exec_builtin hf ho hc hvs
    unfold vcBuiltin at hv
    split at hv
    · unfold vcTwo at hv
      split at hv
      · rename_i s x t u ht
        have htys : c.argTypes = #[t, u] := by apply Array.toList_inj.1; simpa using ht
        exact .of_val (s := Builtin.append_ #[t, u] o.type #[s, x]) (by rw [hex2, htys]; rfl) (hoty ▸ of_DRun hv rfl)
      · exact hv.elim
    · unfold vcTwo at hv
      split at hv
      · rename_i s x t u ht
        have htys : c.argTypes = #[t, u] := by apply Array.toList_inj.1; simpa using ht
        exact .of_val (s := Builtin.copy_ #[t, u] o.type #[s, x]) (by rw [hex2, htys]; rfl) (hoty ▸ of_DRun hv rfl)
      · exact hv.elim
    · unfold vcOne at hv
      split at hv
      · rename_i x t ht
        have htys : c.argTypes = #[t] := by apply Array.toList_inj.1; simpa using ht
        exact .of_val (s := Builtin.clear_ #[t] o.type #[x]) (by rw [hex2, htys]; rfl) (hoty ▸ of_DRun hv rfl)
      · exact hv.elim
    · exact (vcBuiltinR_ok hE hex2 hv).op
end
end Go.Vc

namespace Go.Vc
section
variable {E : Env} {o : Oper} {σ : St} {n : Nat} {a : Act} {w : World} {K : Value → Heap → Prop} {next : Act → World → Prop} {Q : Exit → Act → World → Prop}

theorem madeCells_eq (z : Array Value) (c : Nat) {s : Nat} (hz : z.size = s) : madeCells z (c * s) = (List.replicate c z.toList).flatten.toArray := by
  apply Array.toList_inj.1
  subst hz
  induction c with
  | zero => simp [madeCells]
  | succ c ih =>
    have e : madeCells z ((c + 1) * z.size) = z ++ madeCells z (c * z.size) := by
      apply Array.ext
      · simp [madeCells, Nat.add_mul]; omega
      · intro i h1 h2
        simp only [madeCells, Array.getElem_map, Array.getElem_range, Array.getElem_append]
        split
        · rename_i h
          rw [Nat.mod_eq_of_lt h]; simp [h]
        · rename_i h
          congr 1
          rw [Nat.mod_eq_sub_mod (by omega)]
    rw [e, Array.toList_append, ih]
    simp [List.replicate_succ]

theorem vcReg_ok (hE : E.Ok) (hf : Fits n σ a) {K : Value → Prop} (hv : vcReg E o.op σ K) : RegOk E o a K := by
  cases hop : o.op with
  | move x =>
    rw [hop] at hv
    obtain ⟨v, hx, hk⟩ := opt_some hv
    exact ⟨v, fun w => by simp [execOp, hop, hf.ev hx], hk⟩
  | assign x =>
    rw [hop] at hv
    obtain ⟨v, hx, hk⟩ := opt_some hv
    exact ⟨v, fun w => by simp [execOp, hop, hf.ev hx], hk⟩
  | pick c x y =>
    rw [hop] at hv
    obtain ⟨v, hc, hv⟩ := opt_some hv
    unfold onBool at hv
    split at hv
    · rename_i b
      have hc' := hf.ev hc
      unfold pickK at hv
      split at hv
      · rename_i p q hp hq
        refine ⟨_, fun w => ?_, hv⟩
        have h1 := hf.ev hp
        have h2 := hf.ev hq
        simp only [execOp, hop, hc', asBool, h1, h2]
        cases b <;> rfl
      · rename_i p q _ hp hq
        have h1 := hf.ev hp
        have h2 := hf.ev hq
        cases b with
        | true => exact ⟨p, fun w => by simp [execOp, hop, hc', asBool, h1], hv⟩
        | false => exact ⟨q, fun w => by simp [execOp, hop, hc', asBool, h2], hv⟩
      · exact hv.elim
    · exact hv.elim
  | alloc e => rw [hop] at hv; exact hv.elim
  | box e x => rw [hop] at hv; exact hv.elim
  | build t ps =>
    rw [hop] at hv
    obtain ⟨vs, hvs, hv⟩ := opt_some hv
    have hps : (ps.map fun (i, x) => (i, a.eval x)) = vs.toArray := by
      have := hf.evp hvs
      apply Array.toList_inj.1
      simpa using this
    exact .of_val (s := Instr.build t vs.toArray) (by simp only [execOp, hop, hps]) (by replace hv := hv.out; exact hv)
  | buildSlice t m ps => rw [hop] at hv; exact hv.elim
  | insert m x k v => rw [hop] at hv; exact hv.elim
  | load t x => rw [hop] at hv; exact hv.elim
  | store t x y => rw [hop] at hv; exact hv.elim
  | ready g => rw [hop] at hv; exact hv.elim
  | waits g => rw [hop] at hv; exact hv.elim
  | nilCheck x =>
    rw [hop] at hv
    obtain ⟨v, hx, hv⟩ := opt_some hv
    have hx' := hf.ev hx
    unfold vcNil at hv
    split at hv
    · rename_i ad
      exact ⟨_, fun w => by simp [execOp, hop, hx'], hv⟩
    · exact ⟨_, fun w => by simp [execOp, hop, hx'], hv⟩
    · exact hv.elim
  | binOp op t x y t' =>
    rw [hop] at hv
    obtain ⟨u, hu, hv⟩ := opt_some hv
    obtain ⟨v, hv', hv⟩ := opt_some hv
    exact .of_val (s := do eqGuard op t x y u v; binOp op t u v) (by simp only [execOp, hop, hf.ev hu, hf.ev hv']) (vcBin_sound hE hv)
  | unOp op t x =>
    rw [hop] at hv
    obtain ⟨v, hx, hv⟩ := opt_some hv
    refine .of_val (s := Op.unary op v) (by simp only [execOp, hop, hf.ev hx]) ?_
    unfold vcUn at hv
    split at hv
    · split at hv
      · exact ⟨_, fun w => rfl, hv⟩
      · exact hv.elim
    · split at hv
      · replace hv := hv.out; exact ⟨_, fun w => rfl, hv⟩
      · exact ⟨_, fun w => rfl, hv⟩
      · exact hv.elim
    · exact hv.elim
  | convert s d x =>
    rw [hop] at hv
    obtain ⟨v, hx, hv⟩ := opt_some hv
    refine .of_val (s := convert s d v) (by simp only [execOp, hop, hf.ev hx]) ?_
    unfold vcConvR at hv
    split at hv
    · rename_i k m
      obtain ⟨si, hsi, hv⟩ := opt_some hv
      obtain ⟨di, hdi, hv⟩ := opt_some hv
      unfold onIntT at hv
      split at hv
      · rename_i k' htd
        have h1 := (hE.tab d di hdi).td
        rw [htd] at h1
        have h1' : E.P.underlying d = some (.int k') := h1
        have h2 : ∃ ds, E.P.underlying s = some ds := by
          have := (hE.tab s si hsi).td
          cases hd : si.td with
          | struct fs => rw [hd] at this; obtain ⟨f, h, _⟩ := this; exact ⟨_, h⟩
          | other => rw [hd] at this; obtain ⟨f, h, _⟩ := this; exact ⟨_, h⟩
          | int k => rw [hd] at this; exact ⟨_, this⟩
          | bool => rw [hd] at this; exact ⟨_, this⟩
          | str => rw [hd] at this; exact ⟨_, this⟩
          | slice e => rw [hd] at this; exact ⟨_, this⟩
          | array n e => rw [hd] at this; exact ⟨_, this⟩
        obtain ⟨ds, h2⟩ := h2
        replace hv := hv.out
        refine ⟨_, fun w => ?_, hv⟩
        simp only [Go.convert, Sem.run_bind, run_underlying h2, run_underlying h1', Result.andThen_ok]
        cases ds <;> rfl
      · exact hv.elim
    · replace hv := hv.out; exact hv
  | sliceToArrayPointer d x => rw [hop] at hv; exact hv.elim
  | makeInterface t x => rw [hop] at hv; exact hv.elim
  | makeFunc fn first captured =>
    rw [hop] at hv
    obtain ⟨fs, hfs, hv⟩ := opt_some hv
    obtain ⟨cs, hcs, hv⟩ := opt_some hv
    have h1 : first.map a.eval = fs.toArray := by
      have := hf.evs hfs
      apply Array.toList_inj.1
      simpa using this
    have h2 : captured.map a.eval = cs.toArray := by
      have := hf.evs hcs
      apply Array.toList_inj.1
      simpa using this
    exact ⟨_, fun w => by simp [execOp, hop, Instr.makeFunc, h1, h2], hv⟩
  | makeMap t r => rw [hop] at hv; exact hv.elim
  | makeChan t s => rw [hop] at hv; exact hv.elim
  | makeSlice t l c => rw [hop] at hv; exact hv.elim
  | slice t x lo hi mx =>
    rw [hop] at hv
    cases mx with
    | some m => exact hv.elim
    | none =>
      obtain ⟨ti, hti, hv⟩ := opt_some hv
      obtain ⟨v, hx, hv⟩ := opt_some hv
      obtain ⟨l, hl, hv⟩ := opt_some hv
      obtain ⟨u, hu, hv⟩ := opt_some hv
      obtain ⟨k1, hl'⟩ := optInt_some hf hl
      obtain ⟨k2, hu'⟩ := optInt_some hf hu
      have hti' := (hE.tab t ti hti).td
      unfold vcSlice at hv
      split at hv
      · rename_i e htd
        rw [htd] at hti'
        obtain ⟨ei, hei, hv⟩ := opt_some hv
        obtain ⟨sa, len, cap, rfl, hv⟩ := onSlice_some (onTI_eq hv)
        · obtain ⟨r, hr, hk⟩ := slice_ok (show E.P.underlying t = some (.slice e) from hti') (hE.tab e ei hei) rfl hv (lo.map a.eval) (hi.map a.eval) hl' hu'
          exact .of_val (s := Instr.sliceAt t (.slice sa len cap) (lo.map a.eval) (hi.map a.eval) none) (by simp only [execOp, hop, hf.ev hx, Option.map_none]) ⟨r, hr, hk⟩
      · rename_i m e htd
        rw [htd] at hti'
        have ht' : E.P.underlying t = some (.array m e) := hti'
        split at hv
        · obtain ⟨ei, hei, hv⟩ := opt_some hv
          obtain ⟨b, off, rfl, hv⟩ := onPtr_some hv
          · simp only [Option.map_none] at hl' hu'
            refine .of_val (s := Instr.sliceAt t (.pointer (some ⟨b, off, none⟩)) none none none) (by simp only [execOp, hop, hf.ev hx, Option.map_none, hl', hu']) ⟨_, fun w => ?_, hv⟩
            have hsz := (hE.tab e ei hei).size w
            simp [Instr.sliceAt, run_underlying ht', Instr.sureAddr, Instr.sliceBounds, hsz, addr_add]
        · exact hv.elim
      · exact hv.elim
  | fieldAddr s x f =>
    rw [hop] at hv
    obtain ⟨ti, hti, hv⟩ := opt_some hv
    unfold onStruct at hv
    split at hv
    · rename_i fs htd
      obtain ⟨q, hq, hv⟩ := opt_some hv
      obtain ⟨fi, hfi, hv⟩ := opt_some hv
      have hsz : fi.size ≠ 0 := by intro h0; rw [h0] at hv; exact hv
      have hv' : opt (ev σ x) fun p => onPtr p fun b off => K (.pointer (some ⟨b, off + q.1, none⟩)) := by
        unfold nz at hv
        split at hv
        · exact hv.elim
        · exact hv
      obtain ⟨p, hp, hv⟩ := opt_some hv'
      unfold onPtr at hv
      split at hv
      · rename_i b off
        have ht := (hE.tab s ti hti).td
        rw [htd] at ht
        obtain ⟨fields, hu, hfl⟩ := ht
        have hfld : ∃ fd, fields[f]? = some fd ∧ (fd.offset, fd.type) = q := by
          rw [← hfl] at hq
          simpa using hq
        obtain ⟨fd, hfd, rfl⟩ := hfld
        have hs := fun w => (hE.tab _ fi hfi).size w
        refine .of_val (s := Instr.fieldAt s (.pointer (some ⟨b, off, none⟩)) f) (by simp only [execOp, hop, hf.ev hp]) ⟨_, fun w => ?_, hv⟩
        simp only [Instr.fieldAt, Sem.run_bind, run_underlying hu, Result.andThen_ok, hfd, Instr.sureAddr, Sem.run_pure, fieldPlace]
        simp only at hs
        rw [hs]
        simp [hsz, addr_add]
      · exact hv.elim
    · exact hv.elim
  | field s x f =>
    rw [hop] at hv
    obtain ⟨ti, hti, hv⟩ := opt_some hv
    unfold onStruct at hv
    split at hv
    · rename_i fs htd
      obtain ⟨q, hq, hv⟩ := opt_some hv
      obtain ⟨fi, hfi, hv⟩ := opt_some hv
      obtain ⟨v, hx, hv⟩ := opt_some hv
      unfold onAgg at hv
      split at hv
      · rename_i cs
        have ht := (hE.tab s ti hti).td
        rw [htd] at ht
        obtain ⟨fields, hu, hfl⟩ := ht
        have hfld : ∃ fd, fields[f]? = some fd ∧ (fd.offset, fd.type) = q := by
          rw [← hfl] at hq
          simpa using hq
        obtain ⟨fd, hfd, rfl⟩ := hfld
        have hs := fun w => (hE.tab _ fi hfi).size w
        have hag := fun w => (hE.tab _ fi hfi).agg w
        simp only at hs hag
        refine .of_val (s := Instr.field s (.agg cs) f) (by simp only [execOp, hop, hf.ev hx]) ?_
        simp only [Instr.field, Sem.run_bind, run_underlying hu, Result.andThen_ok, hfd, asAgg, Sem.run_pure, part, hag]
        unfold vcField at hv
        cases hm : fi.agg? with
        | some m =>
          rw [hm] at hv
          have := TI.agg_size hm
          refine ⟨_, fun w => ?_, hv⟩
          simp only [Option.isSome_some, if_true, Sem.run_bind, hs, Result.andThen_ok, Sem.run_pure]
          congr 2
          apply Array.toList_inj.1
          simp [this]
        | none =>
          rw [hm] at hv
          obtain ⟨u, hu', hk⟩ := opt_some hv
          refine ⟨u, fun w => ?_, hk⟩
          have hu'' : cs[fd.offset]? = some u := by simpa using hu'
          simp [hu'']
      · exact hv.elim
    · exact hv.elim
  | indexAddr t x i =>
    rw [hop] at hv
    obtain ⟨ti, hti, hv⟩ := opt_some hv
    obtain ⟨iv, hi, hv⟩ := opt_some hv
    unfold onInt at hv
    split at hv
    · rename_i k m
      obtain ⟨xv, hx, hv⟩ := opt_some hv
      have ht := (hE.tab t ti hti).td
      unfold vcIdx at hv
      split at hv
      · rename_i e htd
        rw [htd] at ht
        obtain ⟨ei, hei, hv⟩ := opt_some hv
        obtain ⟨sa, len, cap, rfl, hv2⟩ := onSlice_some (onTI_eq hv)
        · obtain ⟨v, hr, hk⟩ := idx_slice_ok (K := K) (k := k) (cap := cap) (show E.P.underlying t = some (.slice e) from ht) (hE.tab e ei hei) hv2
          exact .of_val (s := Instr.indexAt t (.slice sa len cap) (.int k m)) (by simp only [execOp, hop, hf.ev hx, hf.ev hi]) ⟨v, hr, hk⟩
      · rename_i len e htd
        rw [htd] at ht
        obtain ⟨ei, hei, hv⟩ := opt_some hv
        obtain ⟨sa, rfl, hv2⟩ := onPtrA_some (onTI_eq hv)
        · obtain ⟨v, hr, hk⟩ := idx_array_ok (K := K) (k := k) (show E.P.underlying t = some (.array len e) from ht) (hE.tab e ei hei) hv2
          exact .of_val (s := Instr.indexAt t (.pointer sa) (.int k m)) (by simp only [execOp, hop, hf.ev hx, hf.ev hi]) ⟨v, hr, hk⟩
      · exact hv.elim
    · exact hv.elim
  | index t x i =>
    rw [hop] at hv
    obtain ⟨xv, hx, hv⟩ := opt_some hv
    obtain ⟨iv, hi, hv⟩ := opt_some hv
    exact .of_val (s := Instr.index t xv iv) (by simp only [execOp, hop, hf.ev hx, hf.ev hi]) (by replace hv := hv.out; exact hv)
  | lookup t x i ok => rw [hop] at hv; exact hv.elim
  | mapUpdate t m k v => rw [hop] at hv; exact hv.elim
  | mapEntry t m k => rw [hop] at hv; exact hv.elim
  | entryStore t m k v => rw [hop] at hv; exact hv.elim
  | range t x => rw [hop] at hv; exact hv.elim
  | next x s => rw [hop] at hv; exact hv.elim
  | entry x => rw [hop] at hv; exact hv.elim
  | typeAssert x t u ok => rw [hop] at hv; exact hv.elim
  | extract x i =>
    rw [hop] at hv
    obtain ⟨v, hx, hv⟩ := opt_some hv
    unfold onTuple at hv
    split at hv
    · rename_i vs
      obtain ⟨u, hu, hk⟩ := opt_some hv
      have hu' : vs[i]? = some u := by simpa using hu
      exact .of_val (s := Instr.extract (.tuple vs) i) (by simp only [execOp, hop, hf.ev hx]) ⟨u, fun w => by simp [Instr.extract, hu'], hk⟩
    · exact hv.elim
  | call c =>
    rw [hop] at hv
    have hv1 : vcCallR E c σ K := hv
    unfold vcCallR at hv1
    split at hv1
    · rename_i b hc
      obtain ⟨vs, hvs, hv⟩ := opt_some hv1
      exact vcBuiltinR_ok hE (exec_builtin hf hop hc hvs) hv
    · exact hv1.elim
  | go c => rw [hop] at hv; exact hv.elim
  | defer c => rw [hop] at hv; exact hv.elim
  | panic x => rw [hop] at hv; exact hv.elim
  | send c x => rw [hop] at hv; exact hv.elim
  | recv t c ok => rw [hop] at hv; exact hv.elim
  | select cs b => rw [hop] at hv; exact hv.elim

theorem vcOp_ok (hE : E.Ok) (hf : Fits n σ a) (hv : vcOp E o.op o.type σ w.heap K) : OpOk E o a w K := by
  cases hop : o.op with
  | move x => exact RegOk.op (vcReg_ok hE hf (by rw [hop] at hv; rw [hop]; exact hv))
  | assign x => exact RegOk.op (vcReg_ok hE hf (by rw [hop] at hv; rw [hop]; exact hv))
  | pick c x y => exact RegOk.op (vcReg_ok hE hf (by rw [hop] at hv; rw [hop]; exact hv))
  | alloc e =>
    rw [hop] at hv
    obtain ⟨ti, hti, hv⟩ := opt_some hv
    replace hv := hv.out
    have hz := (hE.tab e ti hti).zero w
    refine .inl ⟨_, w.alloc (.cells ti.zero.cells e), ?_, Same.rfl.alloc _, hv⟩
    simp [execOp, hop, Instr.alloc, hz, newVar, newRow]
  | box e x =>
    rw [hop] at hv
    obtain ⟨v, hx, hv⟩ := opt_some hv
    replace hv := hv.out
    refine .inl ⟨_, w.alloc (.cells v.cells e), ?_, Same.rfl.alloc _, hv⟩
    simp [execOp, hop, Instr.box, hf.ev hx, newVar, newRow]
  | build t ps => exact RegOk.op (vcReg_ok hE hf (by rw [hop] at hv; rw [hop]; exact hv))
  | buildSlice t m ps =>
    rw [hop] at hv
    obtain ⟨ti, hti, hv⟩ := opt_some hv
    unfold onElem at hv
    split at hv
    · rename_i e htd
      obtain ⟨ei, hei, hv⟩ := opt_some hv
      obtain ⟨vs, hvs, hv⟩ := opt_some hv
      obtain ⟨⟨hl, hsz, hin⟩, hv⟩ := onTI_eq hv
      have hps : (ps.map fun (i, x) => (i, a.eval x)) = vs.toArray := by
        have := hf.evp hvs
        apply Array.toList_inj.1
        simpa using this
      have h1 := (hE.tab t ti hti).td
      rw [htd] at h1
      have h1' : E.P.underlying t = some (.slice e) := h1
      have hok := hE.tab e ei hei
      replace hv := hv.out
      refine .inl ⟨_, w.alloc (.cells (catCells vs).toArray e), ?_, Same.rfl.alloc _, hv⟩
      have hz := hok.zero w
      have hs := hok.size w
      have hfill : ∀ z : Array Value, z.size = m * ei.size → Instr.fill (fun i => some (i * ei.size, ei.size)) z vs = some (catCells vs).toArray := by
        intro z hzs
        have := inOrder_fill (zero := []) vs 0 [] z.toList hin (by simp) (by simp [hzs, hl])
        simpa using this
      simp only [execOp, hop, hps, Instr.buildSlice, Sem.run_bind, run_underlying h1', Result.andThen_ok, hs]
      have hnb : ¬ (m * ei.size > 2 ^ 24) := by omega
      by_cases h0 : m * ei.size = 0
      · simp only [h0, gt_iff_lt, Nat.not_lt_zero, if_false, if_true, pure_bind]
        rw [hfill _ (by simp [h0])]
        simp [newRow]
      · simp only [hnb, if_false, h0, Sem.run_bind, hz, Result.andThen_ok, Sem.run_pure]
        rw [hfill _ (by simp)]
        simp [newRow]
    · exact hv.elim
  | insert m x k v => exact RegOk.op (vcReg_ok hE hf (by rw [hop] at hv; rw [hop]; exact hv))
  | load t x =>
    rw [hop] at hv
    obtain ⟨ti, hti, hv⟩ := opt_some hv
    obtain ⟨p, hp, hv⟩ := opt_some hv
    unfold onPtr at hv
    split at hv
    · rename_i b off
      replace hv := hv.out
      obtain ⟨v, hl, hk⟩ := hv
      exact .of_val (s := loadVar t ⟨b, off, none⟩) (by simp only [execOp, hop, Instr.loadAt, hf.ev hp, Instr.sureAddr, pure_bind]) ⟨v, w, run_loads (hE.tab t ti hti) hl, .rfl, hk⟩
    · exact hv.elim
  | store t x y =>
    rw [hop] at hv
    obtain ⟨ti, hti, hv⟩ := opt_some hv
    obtain ⟨p, hp, hv⟩ := opt_some hv
    unfold onPtr at hv
    split at hv
    · rename_i b off
      obtain ⟨v, hy, hv⟩ := opt_some hv
      obtain ⟨w', hr, hs, hk⟩ := store_ok (hE.tab t ti hti) hv
      refine .inr (.inl ⟨w', ?_, hs, hk⟩)
      simp only [execOp, hop, Instr.storeAt, hf.ev hp, hf.ev hy, Instr.sureAddr, pure_bind, Sem.run_bind, hr, Result.andThen_ok, Sem.run_pure]
    · exact hv.elim
  | ready g => exact RegOk.op (vcReg_ok hE hf (by rw [hop] at hv; rw [hop]; exact hv))
  | waits g => exact RegOk.op (vcReg_ok hE hf (by rw [hop] at hv; rw [hop]; exact hv))
  | nilCheck x => exact RegOk.op (vcReg_ok hE hf (by rw [hop] at hv; rw [hop]; exact hv))
  | binOp op t x y t' => exact RegOk.op (vcReg_ok hE hf (by rw [hop] at hv; rw [hop]; exact hv))
  | unOp op t x => exact RegOk.op (vcReg_ok hE hf (by rw [hop] at hv; rw [hop]; exact hv))
  | convert s d x =>
    rw [hop] at hv
    obtain ⟨v, hx, hv⟩ := opt_some hv
    unfold vcConv at hv
    split at hv
    · rename_i k m
      refine RegOk.op (vcReg_ok hE hf ?_)
      rw [hop]
      show opt (ev σ x) fun v => vcConvR E s d v fun v => K v w.heap
      rw [hx]
      exact hv
    · exact .of_val (s := convert s d v) (by simp only [execOp, hop, hf.ev hx]) (of_DRun hv rfl)
  | sliceToArrayPointer d x => exact RegOk.op (vcReg_ok hE hf (by rw [hop] at hv; rw [hop]; exact hv))
  | makeInterface t x =>
    rw [hop] at hv
    obtain ⟨v, hx, hv⟩ := opt_some hv
    exact .of_val (s := Instr.makeInterface t v) (by simp only [execOp, hop, hf.ev hx]) (of_DRun hv rfl)
  | makeFunc fn first captured => exact RegOk.op (vcReg_ok hE hf (by rw [hop] at hv; rw [hop]; exact hv))
  | makeMap t r =>
    rw [hop] at hv
    cases r with
    | none => exact .of_val (s := Instr.makeMap t none) (by simp only [execOp, hop, Option.map_none]) (of_DRun hv rfl)
    | some r => exact hv.elim
  | makeChan t s => exact RegOk.op (vcReg_ok hE hf (by rw [hop] at hv; rw [hop]; exact hv))
  | makeSlice t l c =>
    rw [hop] at hv
    obtain ⟨ti, hti, hv⟩ := opt_some hv
    unfold onElem at hv
    split at hv
    · rename_i e htd
      obtain ⟨ei, hei, hv⟩ := opt_some hv
      obtain ⟨lv, hl, hv⟩ := opt_some hv
      unfold onInt at hv
      split at hv
      · rename_i kl L
        obtain ⟨cv, hc, hv⟩ := opt_some hv
        split at hv
        · rename_i kc C
          replace hv := onTI_eq hv
          replace hv := hv.out
          obtain ⟨l', c', rfl, rfl, h1, h2, h3, hk⟩ := hv
          have ht := (hE.tab t ti hti).td
          rw [htd] at ht
          have ht' : E.P.underlying t = some (.slice e) := ht
          have hok := hE.tab e ei hei
          obtain ⟨i, hi, his, hib, hiz⟩ := hok.info
          have hr := run_make (P := E.P) w t e i ei.zero ht' hi hiz kl kc (l' : Int) (c' : Int) (by omega) (by omega) (by rw [hib, ← Int.natCast_mul]; omega) (by omega)
          refine .of_val (s := Instr.makeSlice t (.int kl l') (.int kc c')) (by simp only [execOp, hop, hf.ev hl, hf.ev hc]) ⟨_, _, hr, Same.rfl.alloc _, ?_⟩
          have hm : madeCells ei.zero.cells ((c' : Int).toNat * i.size) = (List.replicate c' ei.zero.cells.toList).flatten.toArray := by
            have hz := hok.zsize
            rw [his]
            simp only [Int.toNat_natCast]
            exact madeCells_eq _ _ hz
          simp only [Int.toNat_natCast] at hm ⊢
          rw [hm]
          exact hk
        · exact hv.elim
      · exact hv.elim
    · exact hv.elim
  | slice t x lo hi mx => exact RegOk.op (vcReg_ok hE hf (by rw [hop] at hv; rw [hop]; exact hv))
  | fieldAddr s x f => exact RegOk.op (vcReg_ok hE hf (by rw [hop] at hv; rw [hop]; exact hv))
  | field s x f => exact RegOk.op (vcReg_ok hE hf (by rw [hop] at hv; rw [hop]; exact hv))
  | indexAddr t x i => exact RegOk.op (vcReg_ok hE hf (by rw [hop] at hv; rw [hop]; exact hv))
  | index t x i => exact RegOk.op (vcReg_ok hE hf (by rw [hop] at hv; rw [hop]; exact hv))
  | lookup t x i ok => exact RegOk.op (vcReg_ok hE hf (by rw [hop] at hv; rw [hop]; exact hv))
  | mapUpdate t m k v => exact RegOk.op (vcReg_ok hE hf (by rw [hop] at hv; rw [hop]; exact hv))
  | mapEntry t m k => exact RegOk.op (vcReg_ok hE hf (by rw [hop] at hv; rw [hop]; exact hv))
  | entryStore t m k v => exact RegOk.op (vcReg_ok hE hf (by rw [hop] at hv; rw [hop]; exact hv))
  | range t x => exact RegOk.op (vcReg_ok hE hf (by rw [hop] at hv; rw [hop]; exact hv))
  | next x s => exact RegOk.op (vcReg_ok hE hf (by rw [hop] at hv; rw [hop]; exact hv))
  | entry x => exact RegOk.op (vcReg_ok hE hf (by rw [hop] at hv; rw [hop]; exact hv))
  | typeAssert x t u ok => exact RegOk.op (vcReg_ok hE hf (by rw [hop] at hv; rw [hop]; exact hv))
  | extract x i => exact RegOk.op (vcReg_ok hE hf (by rw [hop] at hv; rw [hop]; exact hv))
  | call c => rw [hop] at hv; exact vcCall_sound hE hop rfl hf hv
  | go c => exact RegOk.op (vcReg_ok hE hf (by rw [hop] at hv; rw [hop]; exact hv))
  | defer c => exact RegOk.op (vcReg_ok hE hf (by rw [hop] at hv; rw [hop]; exact hv))
  | panic x => exact RegOk.op (vcReg_ok hE hf (by rw [hop] at hv; rw [hop]; exact hv))
  | send c x => exact RegOk.op (vcReg_ok hE hf (by rw [hop] at hv; rw [hop]; exact hv))
  | recv t c ok => exact RegOk.op (vcReg_ok hE hf (by rw [hop] at hv; rw [hop]; exact hv))
  | select cs b => exact RegOk.op (vcReg_ok hE hf (by rw [hop] at hv; rw [hop]; exact hv))
end
end Go.Vc

namespace Go.Vc
/-! ### code -/
inductive Ex where
  | exit (id : Nat)
  | ret

abbrev Nx := St → Heap → Prop
abbrev Kx := Ex → St → Heap → Prop

def vcPut (E : Env) (o : Oper) (σ : St) (h : Heap) (K : St → Heap → Prop) : Prop :=
  match o.dst with
  | some d => vcOp E o.op o.type σ h fun v h' => K ((d, v) :: σ) h'
  | none => vcOp E o.op o.type σ h fun _ h' => K σ h'

def vcSkip (o : Oper) (σ : St) (K : St → Prop) : Prop :=
  match o.dst with
  | some d => K ((d, undef) :: σ)
  | none => K σ

def guardOf (ops : List Oper) (j : Nat) : Option Nat := match ops[j]? with | some o => o.dst | none => none

def onGuard (d : Nat) (v : Value) (want : Bool) (σ : St) (X Y : St → Prop) : Prop :=
  match v with
  | .bool b => bsp b (match want with | true => X ((d, .bool true) :: σ) | false => Y ((d, .bool true) :: σ)) (match want with | true => Y ((d, .bool false) :: σ) | false => X ((d, .bool false) :: σ))
  | .tuple _ => Y σ
  | _ => False

/-- the operations of a region, one after the other -/
def vcOps (E : Env) (all : List Oper) (K : St → Heap → Prop) : List Oper → St → Heap → Prop
  | [], σ, h => K σ h
  | o :: r, σ, h => match o.guard with
    | none => vcPut E o σ h (vcOps E all K r)
    | some (j, want) => opt (guardOf all j) fun d => opt (lk σ d) fun v =>
        onGuard d v want σ (fun σ => vcPut E o σ h (vcOps E all K r)) (fun σ => vcSkip o σ fun σ' => vcOps E all K r σ' h)

def postOf (n : Nat) (N : Nx) (K : Kx) (w₀ : World) : Exit → Act → World → Prop
  | .normal, a, w => Same w₀ w ∧ ∃ σ, Fits n σ a ∧ N σ w.heap
  | .exit i, a, w => Same w₀ w ∧ ∃ σ, Fits n σ a ∧ K (.exit i) σ w.heap
  | .ret, a, w => Same w₀ w ∧ ∃ σ, Fits n σ a ∧ K .ret σ w.heap
  | _, _, _ => False

def CodeOk (E : Env) (n : Nat) (c : Code) (N : Nx) (K : Kx) (σ : St) (h : Heap) : Prop :=
  ∀ a w, w.heap = h → Fits n σ a → c.wp E.P (postOf n N K w) a w

/-- a loop, a region that draws: to be taken by a law of their own -/
structure DLoop (E : Env) (n : Nat) (c : Code) (K : Kx) (σ : St) (h : Heap) : Prop where
  mk ::
  out : CodeOk E n (.loop c) (fun _ _ => False) K σ h
structure DDraw (E : Env) (n : Nat) (id : Nat) (ops : Array Oper) (N : Nx) (σ : St) (h : Heap) : Prop where
  mk ::
  out : CodeOk E n (.region id ops true) N (fun _ _ _ => False) σ h

/-- may a run fall out of the end of this code? -/
def falls : Code → Bool
  | .seq x y => falls x && falls y
  | .cond _ x y => falls x || falls y
  | .exit _ => false
  | .ret => false
  | .loop _ => false
  | .scope c => falls c
  | _ => true

/-- do two ways through this code meet at its end? -/
def joins : Code → Bool
  | .seq _ y => joins y
  | .cond _ x y => falls x && falls y
  | _ => false

/-- at how many places the block is left -/
def exitsTo (id : Nat) : Code → Nat
  | .seq x y => exitsTo id x + exitsTo id y
  | .cond _ x y => exitsTo id x + exitsTo id y
  | .exit i => match Nat.beq i id with | true => 1 | false => 0
  | .loop c => exitsTo id c
  | .scope c => exitsTo id c
  | .block _ c => exitsTo id c
  | _ => 0

def manyExits (id : Nat) (c : Code) : Bool := match falls c with | true => Nat.ble 1 (exitsTo id c) | false => Nat.ble 2 (exitsTo id c)

structure DJoin (E : Env) (n : Nat) (x y : Code) (N : Nx) (K : Kx) (σ : St) (h : Heap) : Prop where
  mk ::
  out : CodeOk E n (.seq x y) N K σ h

structure DBlock (E : Env) (n : Nat) (id : Nat) (c : Code) (N : Nx) (K : Kx) (σ : St) (h : Heap) : Prop where
  mk ::
  out : CodeOk E n (.block id c) N K σ h

def blockK (id : Nat) (N : Nx) (K : Kx) : Kx
  | .exit i, σ, h => match Nat.beq i id with | true => N σ h | false => K (.exit i) σ h
  | .ret, σ, h => K .ret σ h

def vc (E : Env) (n : Nat) : Code → Nx → Kx → St → Heap → Prop
  | .skip, N, _, σ, h => N σ h
  | .region _ ops false, N, _, σ, h => vcOps E ops.toList N ops.toList σ h
  | .region id ops true, N, _, σ, h => DDraw E n id ops N σ h
  | .seq x y, N, K, σ, h => match joins x with | true => DJoin E n x y N K σ h | false => vc E n x (vc E n y N K) K σ h
  | .cond c x y, N, K, σ, h => opt (ev σ c) fun v => onBool v fun b => bsp b (vc E n x N K σ h) (vc E n y N K σ h)
  | .block id c, N, K, σ, h => match manyExits id c with | true => DBlock E n id c N K σ h | false => vc E n c N (blockK id N K) σ h
  | .loop c, _, K, σ, h => DLoop E n c K σ h
  | .exit id, _, K, σ, h => K (.exit id) σ h
  | .scope c, N, K, σ, h => vc E n c N K σ h
  | .label _, N, _, σ, h => N σ h
  | .ret, _, K, σ, h => K .ret σ h
  | _, _, _, _, _ => False

/-- every slot that is written lies within the frame -/
def dstsOk (n : Nat) : Code → Bool
  | .region _ ops _ => ops.toList.all fun o => match o.dst with | some d => Nat.blt d n | none => true
  | .seq x y => dstsOk n x && dstsOk n y
  | .cond _ x y => dstsOk n x && dstsOk n y
  | .block _ c => dstsOk n c
  | .loop c => dstsOk n c
  | .scope c => dstsOk n c
  | _ => true

section
variable {E : Env} {n : Nat} {N : Nx} {K : Kx}

theorem same_post {n : Nat} {N : Nx} {K : Kx} {w w' : World} (hs : Same w w') {e : Exit} {a : Act} {w'' : World} (h : postOf n N K w' e a w'') : postOf n N K w e a w'' := by
  cases e <;> first | exact ⟨hs.trans h.1, h.2⟩ | exact h

theorem CodeOk.mono {c : Code} {σ : St} {h : Heap} (hc : CodeOk E n c N K σ h) {N' : Nx} {K' : Kx} (hn : ∀ σ h, N σ h → N' σ h) (hk : ∀ e σ h, K e σ h → K' e σ h) : CodeOk E n c N' K' σ h := by
  intro a w hw hf
  refine wp_mono (hc a w hw hf) fun e a' w' hq => ?_
  cases e with
  | normal => obtain ⟨h1, σ', h2, h3⟩ := hq; exact ⟨h1, σ', h2, hn _ _ h3⟩
  | exit i => obtain ⟨h1, σ', h2, h3⟩ := hq; exact ⟨h1, σ', h2, hk _ _ _ h3⟩
  | ret => obtain ⟨h1, σ', h2, h3⟩ := hq; exact ⟨h1, σ', h2, hk _ _ _ h3⟩
  | _ => exact hq.elim

theorem put_ok (hE : E.Ok) {o : Oper} {σ : St} {a : Act} {w : World} (hd : ∀ d, o.dst = some d → d < n) (hf : Fits n σ a) {N : St → Heap → Prop} (hv : vcPut E o σ w.heap N)
    {next : Act → World → Prop} {Q : Exit → Act → World → Prop} (hn : ∀ σ' a' w', Same w w' → Fits n σ' a' → N σ' w'.heap → next a' w') : o.wp E.P a w next Q := by
  unfold vcPut at hv
  cases hdst : o.dst with
  | some d =>
    rw [hdst] at hv
    refine (vcOp_ok hE hf hv).wp fun v w' hs hk => ?_
    rw [hdst]
    exact hn _ _ _ hs (hf.put (hd d hdst) v) hk
  | none =>
    rw [hdst] at hv
    refine (vcOp_ok hE hf hv).wp fun v w' hs hk => ?_
    rw [hdst]
    exact hn _ _ _ hs (hf.put_none v) hk

theorem skip_ok {o : Oper} {σ : St} {a : Act} (hd : ∀ d, o.dst = some d → d < n) (hf : Fits n σ a) {N : St → Prop} (hv : vcSkip o σ N) :
    ∃ σ', Fits n σ' (a.put o.dst undef) ∧ N σ' := by
  unfold vcSkip at hv
  cases hdst : o.dst with
  | some d => rw [hdst] at hv; exact ⟨_, hf.put (hd d hdst) undef, hv⟩
  | none => rw [hdst] at hv; exact ⟨_, hf, hv⟩

theorem guard_cases {d : Nat} {v : Value} {want : Bool} {σ : St} {X Y : St → Prop} (h : onGuard d v want σ X Y) : (∃ b, v = .bool b ∧ ((b = want ∧ X ((d, .bool b) :: σ)) ∨ (b ≠ want ∧ Y ((d, .bool b) :: σ)))) ∨ (∃ c, v = .tuple c ∧ Y σ) := by
  unfold onGuard at h
  split at h
  · rename_i b
    refine .inl ⟨b, rfl, ?_⟩
    cases b <;> cases want <;> simp_all [bsp]
  · exact .inr ⟨_, rfl, h⟩
  · exact h.elim

theorem yielded_undef {l : List Oper} {σ : St} {a : Act} (hf : Fits n σ a) {j d : Nat} (hj : guardOf l j = some d) {c : Array Value} (hv : lk σ d = some (.tuple c)) : yielded l.toArray a.tmps j = none := by
  unfold guardOf at hj
  split at hj
  · rename_i o ho
    have h1 := hf.get d _ hv
    cases hd : a.tmps[d]? with
    | none => simp [yielded, ho, hj, hd]
    | some x =>
      simp [Array.getD_eq_getD_getElem?, hd] at h1
      subst h1
      simp [yielded, ho, hj, hd]
  · cases hj

theorem Fits.know {σ : St} {a : Act} (hf : Fits n σ a) {d : Nat} {v : Value} (hd : lk σ d = some v) : Fits n ((d, v) :: σ) a :=
  ⟨hf.defers, hf.size, fun t u ht => by
    rw [lk_cons] at ht
    by_cases e : d = t
    · subst e; rw [if_pos rfl] at ht; simp only [Option.some.injEq] at ht; subst ht; exact hf.get d _ hd
    · rw [if_neg e] at ht; exact hf.get t u ht⟩

theorem yielded_of {l : List Oper} {σ : St} {a : Act} (hf : Fits n σ a) {j d : Nat} (hj : guardOf l j = some d) {b : Bool} (hv : lk σ d = some (.bool b)) : yielded l.toArray a.tmps j = some b := by
  unfold guardOf at hj
  split at hj
  · rename_i o ho
    have h1 := hf.get d _ hv
    have h2 : a.tmps[d]? = some (.bool b) := by
      cases hd : a.tmps[d]? with
      | none => simp [Array.getD_eq_getD_getElem?, hd, undef] at h1
      | some x => simp [Array.getD_eq_getD_getElem?, hd] at h1; rw [h1]
    simp [yielded, ho, hj, h2]
  · cases hj

theorem vcOps_ok (hE : E.Ok) {l : List Oper} {N : St → Heap → Prop} {Q : Exit → Act → World → Prop} : ∀ (r : List Oper) (σ : St) (a : Act) (w : World), (∀ o ∈ r, ∀ d, o.dst = some d → d < n) → Fits n σ a →
    vcOps E l N r σ w.heap → (∀ σ' a' w', Same w w' → Fits n σ' a' → N σ' w'.heap → Q .normal a' w') → wpList E.P l.toArray Q r a w
  | [], σ, a, w, _, hf, hv, hn => hn σ a w .rfl hf hv
  | o :: r, σ, a, w, hd, hf, hv, hn => by
    have hd0 : ∀ d, o.dst = some d → d < n := hd o (by simp)
    have hdr : ∀ o ∈ r, ∀ d, o.dst = some d → d < n := fun o ho => hd o (by simp [ho])
    unfold vcOps at hv
    unfold wpList
    cases hg : o.guard with
    | none =>
      rw [hg] at hv
      rw [if_pos (by simp [Region.wanted, hg])]
      exact .inl (put_ok hE hd0 hf hv fun σ' a' w' hs hf' hk => vcOps_ok hE r σ' a' w' hdr hf' hk fun σ'' a'' w'' hs' => hn σ'' a'' w'' (hs.trans hs'))
    | some g =>
      obtain ⟨j, want⟩ := g
      rw [hg] at hv
      obtain ⟨d, hj, hv⟩ := opt_some hv
      obtain ⟨v, hdv, hv⟩ := opt_some hv
      rcases guard_cases hv with ⟨b, rfl, hgc⟩ | ⟨c, rfl, hskip⟩
      · have hy := yielded_of hf hj hdv
        replace hf := hf.know hdv
        rcases hgc with ⟨hb, hv⟩ | ⟨hb, hv⟩
        · rw [if_pos (by simp [Region.wanted, hg, hy, hb])]
          exact .inl (put_ok hE hd0 hf hv fun σ' a' w' hs hf' hk => vcOps_ok hE r σ' a' w' hdr hf' hk fun σ'' a'' w'' hs' => hn σ'' a'' w'' (hs.trans hs'))
        · rw [if_neg (by simp [Region.wanted, hg, hy, hb])]
          obtain ⟨σ', hf', hk⟩ := skip_ok hd0 hf hv
          exact vcOps_ok hE r σ' _ w hdr hf' hk hn
      · have hy := yielded_undef hf hj hdv
        rw [if_neg (by simp [Region.wanted, hg, hy])]
        obtain ⟨σ', hf', hk⟩ := skip_ok hd0 hf hskip
        exact vcOps_ok hE r σ' _ w hdr hf' hk hn

theorem CodeOk.seq {x y : Code} {σ : St} {h : Heap} {N' : Nx} (h1 : CodeOk E n x N' K σ h) (h2 : ∀ σ' h', N' σ' h' → CodeOk E n y N K σ' h') : CodeOk E n (.seq x y) N K σ h := by
  intro a w hw hf
  refine wp_seq (wp_mono (h1 a w hw hf) fun e a' w' hq => ?_)
  cases e with
  | normal =>
    obtain ⟨hs, σ', hf', hk⟩ := hq
    exact wp_mono (h2 σ' w'.heap hk a' w' rfl hf') fun e a'' w'' hq' => same_post hs hq'
  | exit i => exact hq
  | ret => exact hq
  | _ => exact hq.elim

theorem CodeOk.block {id : Nat} {c : Code} {σ : St} {h : Heap} (h1 : CodeOk E n c N (blockK id N K) σ h) : CodeOk E n (.block id c) N K σ h := by
  intro a w hw hf
  refine wp_block (wp_mono (h1 a w hw hf) fun e a' w' hq => ?_)
  cases e with
  | normal => exact hq
  | exit i =>
    obtain ⟨hs, σ', hf', hk⟩ := hq
    simp only [blockK] at hk
    simp only [Exit.inBlock]
    cases hb : Nat.beq i id with
    | true => rw [hb] at hk; rw [if_pos (Nat.eq_of_beq_eq_true hb)]; exact ⟨hs, σ', hf', hk⟩
    | false => rw [hb] at hk; rw [if_neg (Nat.ne_of_beq_eq_false hb)]; exact ⟨hs, σ', hf', hk⟩
  | ret => exact hq
  | _ => exact hq.elim

theorem vc_sound (hE : E.Ok) : ∀ (c : Code) (N : Nx) (K : Kx) (σ : St) (h : Heap), dstsOk n c = true → vc E n c N K σ h → CodeOk E n c N K σ h := by
  intro c
  induction c with
  | skip => intro N K σ h _ hv a w hw hf; subst hw; exact wp_skip ⟨.rfl, σ, hf, hv⟩
  | region id ops draw =>
    intro N K σ h hd hv
    cases draw with
    | true => unfold vc at hv; replace hv := hv.out; exact hv.mono (fun _ _ x => x) (fun _ _ _ x => x.elim)
    | false =>
      intro a w hw hf; subst hw
      refine wp_region_list ?_
      have := vcOps_ok (Q := postOf n N K w) hE (l := ops.toList) ops.toList σ a w (fun o ho d hod => ?_) hf hv (fun σ' a' w' hs hf' hk => ⟨hs, σ', hf', hk⟩)
      · simpa using this
      · simp only [dstsOk, List.all_eq_true] at hd
        have := hd o ho
        rw [hod] at this
        simpa using Nat.blt_eq ▸ this
  | seq x y ihx ihy =>
    intro N K σ h hd hv
    simp only [dstsOk, Bool.and_eq_true] at hd
    unfold vc at hv
    split at hv
    · exact hv.out
    · exact (ihx _ _ σ h hd.1 hv).seq fun σ' h' hk => ihy N K σ' h' hd.2 hk
  | cond c x y ihx ihy =>
    intro N K σ h hd hv a w hw hf
    simp only [dstsOk, Bool.and_eq_true] at hd
    obtain ⟨v, hc, hv⟩ := opt_some hv
    unfold onBool at hv
    split at hv
    · rename_i b
      have hev := hf.ev hc
      cases b with
      | true => exact wp_cond_split hev (fun _ => ihx N K σ h hd.1 hv a w hw hf) (fun h => by cases h)
      | false => exact wp_cond_split hev (fun h => by cases h) (fun _ => ihy N K σ h hd.2 hv a w hw hf)
    · exact hv.elim
  | block id c ih =>
    intro N K σ h hd hv
    unfold vc at hv
    split at hv
    · exact hv.out
    · exact (ih _ _ σ h hd hv).block
  | loop c ih => intro N K σ h hd hv; unfold vc at hv; replace hv := hv.out; exact hv.mono (fun _ _ x => x.elim) (fun _ _ _ x => x)
  | rangeFunc f ps asg body => intro N K σ h hd hv; exact hv.elim
  | exit id => intro N K σ h _ hv a w hw hf; subst hw; exact wp_exit ⟨.rfl, σ, hf, hv⟩
  | scope c ih =>
    intro N K σ h hd hv a w hw hf
    refine wp_scope_straight (wp_mono (ih N K σ h hd hv a w hw hf) fun e a' w' hq => ?_)
    cases e <;> first | exact hq | exact hq.elim
  | label l => intro N K σ h _ hv a w hw hf; subst hw; exact wp_label ⟨.rfl, σ, hf, hv⟩
  | goto l => intro N K σ h hd hv; exact hv.elim
  | ret => intro N K σ h _ hv a w hw hf; subst hw; exact wp_ret ⟨.rfl, σ, hf, hv⟩
  | refuse s => intro N K σ h hd hv; exact hv.elim
end
end Go.Vc

namespace Go.Vc
/-! ### functions -/
def resVals (h : Heap) (tab : Nat → Option TI) (σ : St) : List ResultVar → (List Value → Prop) → Prop
  | [], K => K []
  | .tmp t :: r, K => opt (lk σ t) fun v => resVals h tab σ r fun vs => K (v :: vs)
  | .cell p ty :: r, K => opt (tab ty) fun ti => opt (lk σ p) fun q => onPtr q fun b off => DLoad ti.agg? b off h fun v => resVals h tab σ r fun vs => K (v :: vs)

def asRes (S : Value → Prop) : List Value → Prop
  | [v] => S v
  | vs => S (.tuple vs.toArray)

def retN (E : Env) (rs : List ResultVar) (S : Value → Heap → Prop) : Nx := fun σ h => resVals h E.ty σ rs (asRes fun v => S v h)
def retK (E : Env) (rs : List ResultVar) (S : Value → Heap → Prop) : Kx
  | .exit _, _, _ => False
  | .ret, σ, h => retN E rs S σ h

def argSt : Nat → List Value → St
  | _, [] => []
  | i, v :: r => (i, v) :: argSt (i + 1) r

section
variable {E : Env}

theorem argSt_lk : ∀ (l : List Value) (i t : Nat) (v : Value), lk (argSt i l) t = some v → i ≤ t ∧ l[t - i]? = some v
  | [], i, t, v, h => by simp [argSt, lk] at h
  | x :: l, i, t, v, h => by
    simp only [argSt, lk_cons] at h
    by_cases e : i = t
    · subst e; rw [if_pos rfl] at h; exact ⟨Nat.le_refl _, by simpa using h⟩
    · rw [if_neg e] at h
      obtain ⟨h1, h2⟩ := argSt_lk l (i + 1) t v h
      refine ⟨by omega, ?_⟩
      rw [show t - i = (t - (i + 1)) + 1 by omega]
      simpa using h2

def resOne (tmps : Array Value) : ResultVar → Sem Value
  | .tmp t => pure (tmps.getD t undef)
  | .cell a t => do loadVar t (← asAddr (tmps.getD a undef))

theorem run_resOnes (hE : E.Ok) {n : Nat} {σ : St} {a : Act} {w : World} (hf : Fits n σ a) : ∀ (rs : List ResultVar) (K : List Value → Prop), resVals w.heap E.ty σ rs K →
    ∃ vs, (rs.mapM (resOne a.tmps)).run E.P w = .ok vs w ∧ K vs
  | [], K, h => ⟨[], by simp, h⟩
  | .tmp t :: r, K, h => by
    obtain ⟨v, hv, hk⟩ := opt_some h
    obtain ⟨vs, h1, h3⟩ := run_resOnes hE hf r _ hk
    have := hf.get t v hv
    have h0 : (resOne a.tmps (.tmp t)).run E.P w = .ok v w := by simp [resOne, ← this]
    exact ⟨v :: vs, by simp only [List.mapM_cons, Sem.run_bind, Sem.run_pure, Result.andThen_ok, h1, h0], h3⟩
  | .cell p ty :: r, K, h => by
    obtain ⟨ti, hti, hk⟩ := opt_some h
    obtain ⟨q, hq, hk⟩ := opt_some hk
    obtain ⟨b, off, rfl, hk⟩ := onPtr_some hk
    replace hk := hk.out
    obtain ⟨v, hl, hk⟩ := hk
    obtain ⟨vs, h1, h3⟩ := run_resOnes hE hf r _ hk
    have := hf.get p _ hq
    have hl' := run_loads (hE.tab ty ti hti) hl
    have h0 : (resOne a.tmps (.cell p ty)).run E.P w = .ok v w := by
      simp only [resOne, Sem.run_bind, this, asAddr, Sem.run_pure, Result.andThen_ok, hl']
    exact ⟨v :: vs, by simp only [List.mapM_cons, Sem.run_bind, Sem.run_pure, Result.andThen_ok, h1, h0], h3⟩

theorem run_results (hE : E.Ok) {fn : Func} {n : Nat} {σ : St} {a : Act} {w : World} (hf : Fits n σ a) {S : Value → Prop} (h : resVals w.heap E.ty σ fn.results.toList (asRes S)) :
    ∃ v, (results fn a.tmps).run E.P w = .ok v w ∧ S v := by
  obtain ⟨vs, h1, h2⟩ := run_resOnes hE hf _ _ h
  have e : results fn a.tmps = (do let vs ← fn.results.mapM (resOne a.tmps); pure (if h : vs.size = 1 then vs[0] else .tuple vs)) := by
    unfold results
    congr 2
  rw [e, Array.mapM_eq_mapM_toList]
  simp only [Sem.run_bind, Sem.run_map, h1, Result.andThen_ok, Sem.run_pure]
  refine ⟨_, rfl, ?_⟩
  match vs, h2 with
  | [], h2 => exact h2
  | [v], h2 => exact h2
  | u :: v :: r, h2 => exact h2

theorem Spec.intro (hE : E.Ok) {f : FuncId} {fn : Func} {c : Code} {args : List Value} {h : Heap} {S : Value → Heap → Prop} (hf : E.P.funcs[f]? = some fn) (hb : fn.body = some c)
    (hd : dstsOk fn.ntmps c = true) (hn : args.length ≤ fn.ntmps) (hv : vc E fn.ntmps c (retN E fn.results.toList S) (retK E fn.results.toList S) (argSt 0 args) h) : Spec E.P f args.toArray h S := by
  refine Spec.mk ?_; 
  intro w hw
  refine calls_of_wp hf hb ?_
  have hfit : Fits fn.ntmps (argSt 0 args) { tmps := args.toArray ++ Array.replicate (fn.ntmps - args.toArray.size) undef, defers := [] } := by
    refine ⟨rfl, by simp; omega, fun t v ht => ?_⟩
    obtain ⟨_, h2⟩ := argSt_lk args 0 t v ht
    have h3 : args[t]? = some v := by simpa using h2
    have hlt : t < args.length := (List.getElem?_eq_some_iff.1 h3).1
    have h4 : (args.toArray ++ Array.replicate (fn.ntmps - args.toArray.size) undef)[t]? = some v := by
      rw [Array.getElem?_append_left (by simpa using hlt)]; simpa using h3
    rw [Array.getD_eq_getD_getElem?, h4]; rfl
  refine wp_mono (vc_sound hE c _ _ _ h hd hv _ w hw hfit) fun e a' w' hq => ?_
  cases e with
  | normal =>
    obtain ⟨hs, σ, hfs, hk⟩ := hq
    obtain ⟨v, hr, hS⟩ := run_results hE hfs hk
    exact ⟨hfs.defers, v, hr, hs, v, rfl, hS⟩
  | ret =>
    obtain ⟨hs, σ, hfs, hk⟩ := hq
    obtain ⟨v, hr, hS⟩ := run_results hE hfs hk
    exact ⟨hfs.defers, v, hr, hs, v, rfl, hS⟩
  | exit i => obtain ⟨_, _, _, hk⟩ := hq; exact hk.elim
  | _ => exact hq.elim

theorem Spec.mono {f : FuncId} {args : Array Value} {h : Heap} {S S' : Value → Heap → Prop} (hs : Spec E.P f args h S) (hk : ∀ v h', S v h' → S' v h') : Spec E.P f args h S' := by
  refine Spec.mk ?_
  intro w hw
  exact (hs.out w hw).mono fun e w' ⟨h1, v, he, hv⟩ => ⟨h1, v, he, hk _ _ hv⟩

theorem Spec.calls {P : Program} {f : FuncId} {args : Array Value} {w : World} {S : Value → Heap → Prop} (hs : Spec P f args w.heap S) :
    Calls P f args w fun e w' => Same w w' ∧ ∃ v, e = .returned v ∧ S v w'.heap := by
  replace hs := hs.out; exact hs w rfl

/-! ### meeting the demands -/
theorem bsp.intro {b : Bool} {X Y : Prop} (ht : b = true → X) (hf : b = false → Y) : bsp b X Y := by
  cases b with
  | true => exact ht rfl
  | false => exact hf rfl
theorem bsp.dec {p : Prop} [Decidable p] {X Y : Prop} (ht : p → X) (hf : ¬ p → Y) : bsp (decide p) X Y :=
  bsp.intro (fun h => ht (of_decide_eq_true h)) (fun h => hf (of_decide_eq_false h))
theorem bsp.yes {b : Bool} {X Y : Prop} (h : b = true) (hx : X) : bsp b X Y := by subst h; exact hx
theorem bsp.no {b : Bool} {X Y : Prop} (h : b = false) (hy : Y) : bsp b X Y := by subst h; exact hy

theorem DNew.intro {o : Obj} {h : Heap} {K : Nat → Heap → Prop} (hk : ∀ b h', b = h.size → Ext h h' → h'.size = h.size + 1 → h'[b]? = some o → K b h') : DNew o h K := by
  refine DNew.mk ?_; 
  exact hk _ _ rfl (Ext.push h o) (by simp) (by simp)
theorem DNew.here {o : Obj} {h : Heap} {K : Nat → Heap → Prop} (hk : K h.size (h.push o)) : DNew o h K := by refine DNew.mk ?_; exact hk

theorem DLoad.scalar {b off : Nat} {h : Heap} {K : Value → Prop} {v : Value} (hc : cell h b off = some v) (hk : K v) : DLoad none b off h K := by
  refine DLoad.mk ?_; exact ⟨v, hc, hk⟩
theorem DLoad.agg {n b off : Nat} {h : Heap} {K : Value → Prop} (cs : List Value) (hl : cs.length = n) (hc : CellsAt h b off cs) (hk : K (.agg cs.toArray)) : DLoad (some n) b off h K := by
  refine DLoad.mk ?_; exact ⟨_, ⟨cs, hl, hc, rfl⟩, hk⟩

theorem DStore.intro {n b off : Nat} {v : Value} {h : Heap} {K : Heap → Prop} {c : List Value} {e : TypeId} {vs : List Value} (hb : h[b]? = some (.cells c.toArray e (0, 0))) (hv : v.cells = vs.toArray)
    (hl : vs.length = n) (hfit : off + n ≤ c.length) (h1 : ∀ u ∈ vs, u.oneCell' = true) (hk : ∀ h', Upd h b (.cells (splice c off vs).toArray e (0, 0)) h' → K h') : DStore n b off v h K := by
  refine DStore.mk ?_; exact ⟨c, e, vs, hb, hv, hl, hfit, h1, hk⟩

theorem DIdx.intro {a : Option Addr} {i : Int} {len : Nat} {K : Nat → Nat → Nat → Prop} {b off : Nat} (j : Nat) (ha : a = some ⟨b, off, none⟩) (hi : i = (j : Int)) (hj : j < len) (hk : K b off j) : DIdx a i len K := by
  refine DIdx.mk ?_; exact ⟨b, off, j, ha, hi, hj, hk⟩

theorem DSlice.intro {size : Nat} {a : Option Addr} {len cap : Nat} {lo hi : Option Int} {K : Value → Prop} (l u : Nat) (hl : lo.getD 0 = (l : Int)) (hu : hi.getD (len : Int) = (u : Int)) (h1 : l ≤ u) (h2 : u ≤ cap)
    (hk : K (slV size a cap l u)) : DSlice size a len cap lo hi K := by
  refine DSlice.mk ?_; exact ⟨l, u, hl, hu, h1, h2, hk⟩

theorem DMake.intro {bytes : Nat} {e : TypeId} {zs : List Value} {L C : Int} {h : Heap} {K : Value → Heap → Prop} (l c : Nat) (hL : L = (l : Int)) (hC : C = (c : Int)) (h1 : l ≤ c) (h2 : bytes * c ≤ 281474976710656) (h3 : c ≤ 9223372036854775807)
    (hk : ∀ b h', b = h.size → Ext h h' → h'.size = h.size + 1 → h'[b]? = some (.cells (List.replicate c zs).flatten.toArray e) → K (.slice (some ⟨b, 0, none⟩) l c) h') : DMake bytes e zs L C h K := by
  refine DMake.mk ?_; 
  exact ⟨l, c, hL, hC, h1, h2, h3, hk _ _ rfl (Ext.push h _) (by simp) (by simp)⟩

theorem DWrap.i64 {n : Int} {K : Int → Prop} (hb : -9223372036854775808 ≤ n ∧ n ≤ 9223372036854775807) (hk : K n) : DWrap .i64 n K := by
  refine DWrap.mk ?_; rw [IntWalk.i64_in n hb]; exact hk
theorem DWrap.eq {k : IntKind} {n m : Int} {K : Int → Prop} (he : k.wrap n = m) (hk : K m) : DWrap k n K := by
  refine DWrap.mk ?_; rw [he]; exact hk

theorem DRun.intro {s : Sem Value} {h : Heap} {K : Value → Heap → Prop} (hr : ∀ w : World, w.heap = h → ∃ v w', s.run E.P w = .ok v w' ∧ Same w w' ∧ K v w'.heap) : DRun E s h K := by
  refine DRun.mk ?_; exact hr

/-- the slots that the state τ knows are known to σ alike -/
def SubL (σ : St) : St → Prop
  | [] => True
  | (t, v) :: r => lk σ t = some v ∧ SubL σ r

theorem SubL.get {σ : St} : ∀ {τ : St}, SubL σ τ → ∀ t v, lk τ t = some v → lk σ t = some v
  | [], _, t, v, h => by simp [lk] at h
  | (k, u) :: r, hs, t, v, h => by
    rw [lk_cons] at h
    by_cases e : k = t
    · subst e; rw [if_pos rfl] at h; simp only [Option.some.injEq] at h; subst h; exact hs.1
    · rw [if_neg e] at h; exact hs.2.get t v h

theorem Fits.sub {n : Nat} {σ τ : St} {a : Act} (hf : Fits n σ a) (hs : SubL σ τ) : Fits n τ a := ⟨hf.defers, hf.size, fun t v ht => hf.get t v (hs.get t v ht)⟩

theorem DLoop.intro (hE : E.Ok) {n : Nat} {c : Code} {K : Kx} {σ : St} {h : Heap} {ι : Type} (τ : ι → St) (R : ι → Heap → Prop) (μ : ι → Nat) (i₀ : ι) (hd : dstsOk n c = true) (h0 : SubL σ (τ i₀)) (hR : R i₀ h)
    (round : ∀ i h', R i h' → vc E n c (fun σ' h'' => ∃ j, SubL σ' (τ j) ∧ R j h'' ∧ μ j < μ i) K (τ i) h') : DLoop E n c K σ h := by
  refine DLoop.mk ?_; 
  intro a w hw hf
  refine wp_loop_ghost (fun m a' w' => Same w w' ∧ ∃ i, μ i = m ∧ Fits n (τ i) a' ∧ R i w'.heap) (μ i₀) ⟨.rfl, i₀, rfl, hf.sub h0, hw ▸ hR⟩ ?_
  rintro m a' w' ⟨hs, i, rfl, hf', hr⟩
  refine wp_mono (vc_sound hE c _ _ _ _ hd (round i _ hr) a' w' rfl hf') fun e a'' w'' hq => ?_
  cases e with
  | normal =>
    obtain ⟨hs', σ', hf'', j, hsub, hRj, hlt⟩ := hq
    exact ⟨μ j, hlt, hs.trans hs', j, rfl, hf''.sub hsub, hRj⟩
  | exit i => exact same_post hs hq
  | ret => exact same_post hs hq
  | _ => exact hq.elim

/-- two ways meet: behind them only R and the slots τ are known -/
theorem DJoin.cut (hE : E.Ok) {n : Nat} {x y : Code} {N : Nx} {K : Kx} {σ : St} {h : Heap} {ι : Type} (τ : ι → St) (R : ι → Heap → Prop) (hd : dstsOk n (.seq x y) = true)
    (h1 : vc E n x (fun σ' h' => ∃ i, SubL σ' (τ i) ∧ R i h') K σ h) (h2 : ∀ i h', R i h' → vc E n y N K (τ i) h') : DJoin E n x y N K σ h := by
  refine DJoin.mk ?_
  simp only [dstsOk, Bool.and_eq_true] at hd
  refine (vc_sound hE x _ _ σ h hd.1 h1).seq ?_
  rintro σ' h' ⟨i, hs, hr⟩ a w hw hf
  exact vc_sound hE y N K (τ i) h' hd.2 (h2 i h' hr) a w hw (hf.sub hs)

/-- two ways that do not meet: each goes on by itself -/
theorem DJoin.split (hE : E.Ok) {n : Nat} {x y : Code} {N : Nx} {K : Kx} {σ : St} {h : Heap} (hd : dstsOk n (.seq x y) = true) (h1 : vc E n x (vc E n y N K) K σ h) : DJoin E n x y N K σ h := by
  refine DJoin.mk ?_
  simp only [dstsOk, Bool.and_eq_true] at hd
  exact (vc_sound hE x _ _ σ h hd.1 h1).seq fun σ' h' hk => vc_sound hE y N K σ' h' hd.2 hk

theorem DBlock.cut (hE : E.Ok) {n : Nat} {id : Nat} {c : Code} {N : Nx} {K : Kx} {σ : St} {h : Heap} {ι : Type} (τ : ι → St) (R : ι → Heap → Prop) (hd : dstsOk n c = true)
    (h1 : vc E n c (fun σ' h' => ∃ i, SubL σ' (τ i) ∧ R i h') (blockK id (fun σ' h' => ∃ i, SubL σ' (τ i) ∧ R i h') K) σ h) (h2 : ∀ i h', R i h' → N (τ i) h') : DBlock E n id c N K σ h := by
  refine DBlock.mk ?_
  have := (vc_sound hE c _ _ σ h hd h1).block
  intro a w hw hf
  refine wp_mono (this a w hw hf) fun e a' w' hq => ?_
  cases e with
  | normal =>
    obtain ⟨hs, σ', hf', i, hsub, hr⟩ := hq
    exact ⟨hs, τ i, hf'.sub hsub, h2 i _ hr⟩
  | exit i => exact hq
  | ret => exact hq
  | _ => exact hq.elim

theorem DBlock.split (hE : E.Ok) {n : Nat} {id : Nat} {c : Code} {N : Nx} {K : Kx} {σ : St} {h : Heap} (hd : dstsOk n c = true) (h1 : vc E n c N (blockK id N K) σ h) : DBlock E n id c N K σ h :=
  DBlock.mk (vc_sound hE c _ _ σ h hd h1).block

/-- forgetting slots -/
theorem CodeOk.sub {n : Nat} {c : Code} {N : Nx} {K : Kx} {σ τ : St} {h : Heap} (hs : SubL σ τ) (hc : CodeOk E n c N K τ h) : CodeOk E n c N K σ h :=
  fun a w hw hf => hc a w hw (hf.sub hs)
end
end Go.Vc

namespace Go.Vc
theorem DWrap.is {n : Int} {K : Int → Prop} (m : Int) (he : n = m) (hb : -9223372036854775808 ≤ m ∧ m ≤ 9223372036854775807) (hk : K m) : DWrap .i64 n K := by
  subst he; exact DWrap.i64 hb hk

theorem slV_zero (size : Nat) (a : Option Addr) (cap n : Nat) : slV size a cap 0 n = .slice a n cap := by
  unfold slV
  have : a.map (fun x => x.add (0 * size)) = a := by
    cases a with
    | none => rfl
    | some x => simp [Addr.add]
  rw [this]; simp

theorem slV_at (size : Nat) (b off : Nat) (cap l n : Nat) (h : l < cap) : slV size (some ⟨b, off, none⟩) cap l n = .slice (some ⟨b, off + l * size, none⟩) (n - l) (cap - l) := by
  unfold slV
  rw [if_neg (by omega)]
  simp [addr_add]

/-! ### a slice of the call's own, which grows -/
/-- v, of n elements of 'size' cells each, owns the cells xs: nil, or at the head of a row of its own at 'base' or behind. -/
def Own (h : Heap) (base : Nat) (e : TypeId) (size : Nat) (v : Value) (n : Nat) (xs : List Value) : Prop :=
  xs.length = n * size ∧
  ((v = .slice none 0 0 ∧ n = 0) ∨
   ∃ g cap cur, v = .slice (some ⟨g, 0, none⟩) n cap ∧ base ≤ g ∧ h[g]? = some (.cells cur e (0, 0)) ∧ n ≤ cap ∧ cap ≤ maxLen ∧ cur.size = cap * size ∧ cur.toList.take (n * size) = xs)

/-- h' is h with new blocks, and with writes to the block 'row' alone -/
structure Grown (h h' : Heap) (row : Option Nat) : Prop where
  size : h.size ≤ h'.size
  get : ∀ k, k < h.size → some k ≠ row → h'[k]? = h[k]?

theorem Grown.at {h h' : Heap} {row : Option Nat} (g : Grown h h' row) {k : Nat} {o : Obj} (hk : h[k]? = some o) (hne : some k ≠ row) : h'[k]? = some o := by
  rw [g.get k (lt_of_get hk) hne]; exact hk

section
variable {E : Env}
/-- what append leaves -/
theorem DRun.append (hE : E.Ok) {t ty e : TypeId} {ti ei : TI} (ht : E.ty t = some ti) (htd : ti.td = .slice e) (he : E.ty e = some ei) {h : Heap} {base : Nat} {v : Value} {n : Nat} {xs : List Value} (hown : Own h base e ei.size v n xs) (hsz : 0 < ei.size)
    {b off m c : Nat} {news : List Value} (hl : news.length = m * ei.size) (hnews : CellsAt h b off news) (h1 : ∀ u ∈ news, u.oneCell' = true)
    (h63 : n + m ≤ 9223372036854775807) (hbytes : (n + m) * ei.bytes ≤ 140737488355328) (hbase : base ≤ h.size) {K : Value → Heap → Prop}
    (hk : ∀ v' h', Own h' base e ei.size v' (n + m) (xs ++ news) → Grown h h' v.ownBlock → (v' = .slice none 0 0 ↔ v = .slice none 0 0 ∧ m = 0) → K v' h') :
    DRun E (Builtin.append_ #[t, t] ty #[v, .slice (some ⟨b, off, none⟩) m c]) h K := by
  refine DRun.intro fun w hw => ?_
  subst hw
  have h2 := (hE.tab t ti ht).td
  rw [htd] at h2
  obtain ⟨i, hi, his, hib, hiz⟩ := (hE.tab e ei he).info
  have hz := (hE.tab e ei he).zsize
  obtain ⟨v', w', hr, ho, hg, hnil⟩ := run_append_own (P := E.P) w base t ty e i ei.zero ei.size ei.bytes h2 hi hiz his hib hz hsz v n xs hown ⟨b, off, none⟩ m c news hl (fun j u hu => by rw [addr_add, cell?_eq]; exact hnews.get j u hu) h1
    (by unfold maxLen; omega) hbytes hbase
  exact ⟨v', w', hr, ⟨hg.os, hg.tape, hg.output⟩, hk v' w'.heap ho ⟨hg.size, fun k hk hne => hg.block k hk hne⟩ hnil⟩

theorem Own.nil (h : Heap) (base : Nat) (e : TypeId) (size : Nat) : Own h base e size (.slice none 0 0) 0 [] := ⟨by simp, .inl ⟨rfl, rfl⟩⟩

theorem Own.made {h : Heap} {base : Nat} {e : TypeId} {size g n cap : Nat} {cur : List Value} (hb : base ≤ g) (hg : h[g]? = some (.cells cur.toArray e (0, 0))) (hn : n ≤ cap) (hm : cap ≤ 9223372036854775807) (hs : cur.length = cap * size) :
    Own h base e size (.slice (some ⟨g, 0, none⟩) n cap) n (cur.take (n * size)) :=
  ⟨by rw [List.length_take, hs]; exact Nat.min_eq_left (Nat.mul_le_mul_right _ hn), .inr ⟨g, cap, cur.toArray, rfl, hb, hg, hn, by unfold maxLen; exact hm, by simpa using hs, by simp⟩⟩

theorem Own.cells {h : Heap} {base : Nat} {e : TypeId} {size n : Nat} {v : Value} {xs : List Value} (ho : Own h base e size v n xs) (hne : n ≠ 0) :
    ∃ g cap, v = .slice (some ⟨g, 0, none⟩) n cap ∧ n ≤ cap ∧ cap ≤ 9223372036854775807 ∧ base ≤ g ∧ CellsAt h g 0 xs ∧ (∃ cur, h[g]? = some (.cells cur e (0, 0)) ∧ cur.size = cap * size ∧ cur.toList.take (n * size) = xs) := by
  rcases ho.2 with ⟨_, h0⟩ | ⟨g, cap, cur, hv, hb, hg, hn, hm, hs, ht⟩
  · exact absurd h0 hne
  · refine ⟨g, cap, hv, hn, hm, hb, CellsAt.mk fun j u hj => ?_, cur, hg, hs, ht⟩
    unfold cell
    rw [hg]
    simp only [Nat.zero_add]
    rw [← ht, List.getElem?_take] at hj
    split at hj
    · simpa using hj
    · cases hj

theorem Own.form {h : Heap} {base : Nat} {e : TypeId} {size n : Nat} {v : Value} {xs : List Value} (ho : Own h base e size v n xs) : ∃ a cap, v = .slice a n cap ∧ n ≤ cap ∧ cap ≤ 9223372036854775807 := by
  rcases ho.2 with ⟨hv, h0⟩ | ⟨g, cap, cur, hv, hb, hg, hn, hm, hs, ht⟩
  · subst h0; exact ⟨none, 0, hv, Nat.le_refl _, by omega⟩
  · exact ⟨_, cap, hv, hn, hm⟩

theorem Own.keep {h h' : Heap} {base : Nat} {e : TypeId} {size n : Nat} {v : Value} {xs : List Value} (ho : Own h base e size v n xs) (hk : ∀ k, v.ownBlock = some k → base ≤ k → h'[k]? = h[k]?) : Own h' base e size v n xs := by
  refine ⟨ho.1, ?_⟩
  rcases ho.2 with hn | ⟨g, cap, cur, rfl, hb, hg, rest⟩
  · exact .inl hn
  · exact .inr ⟨g, cap, cur, rfl, hb, (hk g rfl hb).trans hg, rest⟩

theorem Own.ext {h h' : Heap} (x : Ext h h') {base : Nat} {e : TypeId} {size n : Nat} {v : Value} {xs : List Value} (ho : Own h base e size v n xs) : Own h' base e size v n xs := by
  refine ⟨ho.1, ?_⟩
  rcases ho.2 with hn | ⟨g, cap, cur, rfl, hb, hg, rest⟩
  · exact .inl hn
  · exact .inr ⟨g, cap, cur, rfl, hb, x.at hg, rest⟩

theorem Own.block {h : Heap} {base : Nat} {e : TypeId} {size n : Nat} {v : Value} {xs : List Value} (ho : Own h base e size v n xs) {k : Nat} (hk : v.ownBlock = some k) : base ≤ k ∧ k < h.size ∧ ∃ cur, h[k]? = some (.cells cur e (0, 0)) := by
  rcases ho.2 with ⟨rfl, _⟩ | ⟨g, cap, cur, rfl, hb, hg, _⟩
  · simp [Value.ownBlock] at hk
  · simp [Value.ownBlock] at hk
    subst hk
    exact ⟨hb, lt_of_get hg, cur, hg⟩
end
end Go.Vc

namespace Go.Vc
/-! ### regions that draw their order -/
section
variable {P : Program} {ops : Array Oper} {Q : Exit → Act → World → Prop} {S : Array Bool → World → Prop}

def wpAnyS (P : Program) (ops : Array Oper) (Q : Exit → Act → World → Prop) (S : Array Bool → World → Prop) : Nat → Array Bool → Act → World → Prop
  | 0, listed, a, w => Region.ready .any ops listed = [] ∧ Q .normal a w
  | fuel + 1, listed, a, w =>
    (Region.ready .any ops listed = [] → Q .normal a w) ∧
    ∀ i ∈ Region.ready .any ops listed, wpOp P ops Q i (fun a' w' => S (listed.setIfInBounds i true) w' ∧ wpAnyS P ops Q S fuel (listed.setIfInBounds i true) a' w') a w

theorem wpAny_of_S : ∀ (fuel : Nat) (listed : Array Bool) (a : Act) (w : World), wpAnyS P ops Q S fuel listed a w → wpAny P .any ops Q fuel listed a w
  | 0, _, _, _, h => h
  | fuel + 1, _, _, _, h => ⟨h.1, fun i hi => wpOp_mono (fun a' w' h' => wpAny_of_S fuel _ a' w' h'.2) (h.2 i hi)⟩

def Closed (ops : Array Oper) (listed : Array Bool) : Prop :=
  ∀ j oj, ops[j]? = some oj → listed.getD j false = true → ∀ e ∈ oj.after, Region.binds .any e = true → listed.getD e.on false = true

theorem Closed.set {listed : Array Bool} (hc : Closed ops listed) {i : Nat} (hi : i ∈ Region.ready .any ops listed) : Closed ops (listed.setIfInBounds i true) := by
  obtain ⟨_, oi, hoi, hall⟩ := mem_ready.1 hi
  intro j oj hj hl e he hb
  by_cases hij : i = j
  · subst hij
    have : oj = oi := Option.some.inj (hj.symm.trans hoi)
    subst this
    exact getD_set_true (hall e he hb)
  · rw [getD_set_ne false hij] at hl
    exact getD_set_true (hc j oj hj hl e he hb)

theorem wpAnyS_first {i : Nat} {oi : Oper} {v : Value} (hi : ops[i]? = some oi) (hsel : ∀ (j : Nat) (o : Oper) cs b, ops[j]? = some o → o.op ≠ .select cs b)
    (hQ : ∀ c a w, Q (.panic c) (a.put oi.dst v) w → Q (.panic c) a w) (S₀ : World → Prop)
    (hS₀ : ∀ listed w, Closed ops listed → listed.getD i false = false → S listed w → S₀ w)
    (hM : ∀ listed w, S (listed.setIfInBounds i true) w ↔ S listed w) :
    ∀ (fuel : Nat) (listed : Array Bool) (a : Act) (w : World),
      (∀ j oj, ops[j]? = some oj → j ≠ i → listed.getD j true = false → (∀ e ∈ oj.after, Region.binds .any e = true → e.on ≠ i) → oi.apart ops oj = true) →
      i ∈ Region.ready .any ops listed → YieldsIf P ops S₀ oi v a → Closed ops listed → S listed w →
      wpAnyS P ops Q S fuel (listed.setIfInBounds i true) (a.put oi.dst v) w → wpAnyS P ops Q S (fuel + 1) listed a w := by
  intro fuel
  induction fuel with
  | zero =>
    intro listed a w _ hr hy hc hS H
    have hun : listed.getD i false = false := getD_both (mem_ready.1 hr).1
    refine ⟨fun h => (by rw [h] at hr; cases hr), fun j hj => ?_⟩
    by_cases hji : j = i
    · subst hji
      exact hy.wpOp hi (hS₀ listed w hc hun hS) ⟨(hM _ _).2 hS, H⟩
    · have := ready_mono hj hji
      rw [H.1] at this
      cases this
  | succ fuel ih =>
    intro listed a w hfree hr hy hc hS H
    have hun : listed.getD i false = false := getD_both (mem_ready.1 hr).1
    refine ⟨fun h => (by rw [h] at hr; cases hr), fun j hj => ?_⟩
    by_cases hji : j = i
    · subst hji
      exact hy.wpOp hi (hS₀ listed w hc hun hS) ⟨(hM _ _).2 hS, H⟩
    · have h1 := H.2 j (ready_mono hj hji)
      obtain ⟨hjun, oj, hoj, hall⟩ := mem_ready.1 hj
      have hnot : ∀ e ∈ oj.after, Region.binds .any e = true → e.on ≠ i := fun e he hb heq => by
        have h1 := hall e he hb
        rw [heq, hun] at h1
        cases h1
      have h2 := wpOp_putIf hoj (hfree j oj hoj hji hjun hnot) (fun cs b => hsel i oi cs b hi) (fun cs b => hsel j oj cs b hoj) hQ hy h1
      have hfree' : ∀ k ok, ops[k]? = some ok → k ≠ i → (listed.setIfInBounds j true).getD k true = false →
          (∀ e ∈ ok.after, Region.binds .any e = true → e.on ≠ i) → oi.apart ops ok = true := fun k ok hk hki hun' hno => by
        refine hfree k ok hk hki ?_ hno
        by_cases hjk : j = k
        · subst hjk; exact hjun
        · rw [getD_set_ne true hjk] at hun'; exact hun'
      refine wpOp_mono (fun a' w' h3 => ?_) h2
      obtain ⟨hy', hS', H'⟩ := h3
      rw [Array.setIfInBounds_comm _ _ (Ne.symm hji)] at hS' H'
      have hSj : S (listed.setIfInBounds j true) w' := (hM _ _).1 hS'
      exact ⟨hSj, ih (listed.setIfInBounds j true) a' w' hfree' (ready_mono hr (Ne.symm hji)) hy' (hc.set hj) hSj H'⟩
end

inductive Plan where
  | take (i : Nat) (p : Plan)
  | one (i : Nat) (p : Plan)
  | two (i j : Nat) (p q : Plan)
  | done

def Plan.len : Plan → Nat
  | .take _ p => p.len + 1
  | .one _ p => p.len + 1
  | .two _ _ p _ => p.len + 1
  | .done => 0

def isLoad : Op → Bool
  | .load _ _ => true
  | _ => false

/-- the plan fits the region's edges; t: the operation behind which the condition is dropped: each load that is taken first comes before it -/
def Plan.ok (ops : Array Oper) (t : Option Nat) : Plan → Array Bool → Bool
  | .take i p, l => (Region.ready .any ops l).contains i && Region.free .any ops l i && (t != some i) &&
      (match ops[i]? with
        | some o => !isLoad o.op || (match t with | some t => (match ops[t]? with | some ot => ot.after.any (fun e => Region.binds .any e && e.on == i) | none => false) | none => true)
        | none => false) && p.ok ops t (l.setIfInBounds i true)
  | .one i p, l => Region.ready .any ops l == [i] && p.ok ops t (l.setIfInBounds i true)
  | .two i j p q, l => Region.ready .any ops l == [i, j] && p.len == q.len && p.ok ops t (l.setIfInBounds i true) && q.ok ops t (l.setIfInBounds j true)
  | .done, l => Region.ready .any ops l == []

def Plan.okAll (n : Nat) (ops : Array Oper) (t : Option Nat) (p : Plan) : Bool :=
  Region.noSelect ops && p.len == ops.size && p.ok ops t (Array.replicate ops.size false) && (ops.toList.all fun o => match o.dst with | some d => Nat.blt d n | none => true)

structure QLoad (S : Heap → Prop) (n : Option Nat) (b off : Nat) (K : Value → Prop) : Prop where
  mk ::
  out : ∃ v, (∀ h, S h → Loads n b off h v) ∧ K v

def vcQ (E : Env) (S : Heap → Prop) (o : Op) (σ : St) (K : Value → Prop) : Prop :=
  match o with
  | .load t a => opt (E.ty t) fun ti => opt (ev σ a) fun p => onPtr p fun b off => QLoad S ti.agg? b off K
  | o => vcReg E o σ K

def vcQPut (E : Env) (S : Heap → Prop) (o : Oper) (σ : St) (K : St → Prop) : Prop :=
  match o.dst with
  | some d => vcQ E S o.op σ fun v => K ((d, v) :: σ)
  | none => False

/-- one operation under its guard -/
def guarded (all : List Oper) (o : Oper) (σ : St) (X : St → Prop) (Y : St → Prop) : Prop :=
  match o.guard with
  | none => X σ
  | some (j, want) => opt (guardOf all j) fun d => opt (lk σ d) fun v => onGuard d v want σ X (fun σ => vcSkip o σ Y)

def keepS (t : Option Nat) (started : Bool) (i : Nat) (X Y : Prop) : Prop :=
  match started with
  | true => Y
  | false => match t with
    | some t => match Nat.beq t i with | true => Y | false => X ∧ Y
    | none => X ∧ Y

def begun (t : Option Nat) (started : Bool) (i : Nat) : Bool :=
  match started with
  | true => true
  | false => match t with | some t => Nat.beq t i | none => false

def vcPlan (E : Env) (ops : Array Oper) (t : Option Nat) (S : Heap → Prop) (N : Nx) : Plan → Bool → St → Heap → Prop
  | .take i p, st, σ, h => opt (ops.toList[i]?) fun o => guarded ops.toList o σ (fun σ => vcQPut E S o σ fun σ' => vcPlan E ops t S N p st σ' h) (fun σ' => vcPlan E ops t S N p st σ' h)
  | .one i p, st, σ, h => opt (ops.toList[i]?) fun o => guarded ops.toList o σ (fun σ => vcPut E o σ h fun σ' h' => keepS t st i (S h') (vcPlan E ops t S N p (begun t st i) σ' h')) (fun σ' => vcPlan E ops t S N p (begun t st i) σ' h)
  | .two i j p q, st, σ, h =>
    (opt (ops.toList[i]?) fun o => guarded ops.toList o σ (fun σ => vcPut E o σ h fun σ' h' => keepS t st i (S h') (vcPlan E ops t S N p (begun t st i) σ' h')) (fun σ' => vcPlan E ops t S N p (begun t st i) σ' h)) ∧
    (opt (ops.toList[j]?) fun o => guarded ops.toList o σ (fun σ => vcPut E o σ h fun σ' h' => keepS t st j (S h') (vcPlan E ops t S N q (begun t st j) σ' h')) (fun σ' => vcPlan E ops t S N q (begun t st j) σ' h))
  | .done, _, σ, h => N σ h

end Go.Vc

namespace Go.Vc
section
variable {E : Env} {n : Nat} {N : Nx} {ops : Array Oper} {t : Option Nat} {Sh : Heap → Prop}

theorem vcQ_ok (hE : E.Ok) {o : Oper} {σ : St} {a : Act} (hf : Fits n σ a) {K : Value → Prop} (hv : vcQ E Sh o.op σ K) :
    ∃ v, (∀ w, (isLoad o.op = true → Sh w.heap) → (execOp a.eval o).run E.P w = .ok (.value v) w) ∧ K v := by
  unfold vcQ at hv
  split at hv
  · rename_i t x hop
    obtain ⟨ti, hti, hv⟩ := opt_some hv
    obtain ⟨p, hp, hv⟩ := opt_some hv
    obtain ⟨b, off, rfl, hv⟩ := onPtr_some hv
    replace hv := hv.out
    obtain ⟨v, hl, hk⟩ := hv
    refine ⟨v, fun w hw => ?_, hk⟩
    have := run_loads (w := w) (hE.tab t ti hti) (hl w.heap (hw (by rw [hop]; rfl)))
    have he : execOp a.eval o = (do pure (.value (← loadVar t ⟨b, off, none⟩))) := by simp only [execOp, hop, Instr.loadAt, hf.ev hp, Instr.sureAddr, pure_bind]
    rw [he]; simp [this]
  · obtain ⟨v, hr, hk⟩ := vcReg_ok hE hf hv
    exact ⟨v, fun w _ => hr w, hk⟩

theorem guarded_ok {o : Oper} {σ : St} {a : Act} (hf : Fits n σ a) {X Y : St → Prop} (h : guarded ops.toList o σ X Y) :
    (Region.wanted o (yielded ops a.tmps) = true ∧ ∃ σ', Fits n σ' a ∧ X σ') ∨ (Region.wanted o (yielded ops a.tmps) = false ∧ ∃ σ', Fits n σ' a ∧ vcSkip o σ' Y) := by
  unfold guarded at h
  cases hg : o.guard with
  | none => rw [hg] at h; exact .inl ⟨by simp [Region.wanted, hg], σ, hf, h⟩
  | some g =>
    obtain ⟨j, want⟩ := g
    rw [hg] at h
    obtain ⟨d, hj, h⟩ := opt_some h
    obtain ⟨v, hdv, h⟩ := opt_some h
    rcases guard_cases h with ⟨b, rfl, hgc⟩ | ⟨c, rfl, hy'⟩
    · have hy := yielded_of hf hj hdv
      simp only [Array.toArray_toList] at hy
      have hf' := hf.know hdv
      rcases hgc with ⟨hb, hx⟩ | ⟨hb, hx⟩
      · exact .inl ⟨by simp [Region.wanted, hg, hy, hb], _, hf', hx⟩
      · exact .inr ⟨by simp [Region.wanted, hg, hy, hb], _, hf', hx⟩
    · have hy := yielded_undef hf hj hdv
      simp only [Array.toArray_toList] at hy
      exact .inr ⟨by simp [Region.wanted, hg, hy], _, hf, hy'⟩

def startedIn (t : Option Nat) (listed : Array Bool) : Bool := match t with | some t => listed.getD t false | none => false
def Sf (t : Option Nat) (Sh : Heap → Prop) (listed : Array Bool) (w : World) : Prop := startedIn t listed = false → Sh w.heap

theorem begun_eq {listed : Array Bool} {i : Nat} (hi : i < listed.size) : begun t (startedIn t listed) i = startedIn t (listed.setIfInBounds i true) := by
  unfold begun startedIn
  cases t with
  | none => rfl
  | some t =>
    simp only
    cases hl : listed.getD t false with
    | true => rw [getD_set_true hl]
    | false =>
      cases hb : Nat.beq t i with
      | true =>
        have := Nat.eq_of_beq_eq_true hb
        subst this
        simp [hi]
      | false =>
        rw [getD_set_ne false (fun e => Nat.ne_of_beq_eq_false hb e.symm), hl]

theorem keepS_ok {st : Bool} {i : Nat} {X Y : Prop} (h : keepS t st i X Y) : Y ∧ (begun t st i = false → X) := by
  unfold keepS at h
  unfold begun
  cases st with
  | true => exact ⟨h, by simp⟩
  | false =>
    cases t with
    | none => exact ⟨h.2, fun _ => h.1⟩
    | some t =>
      simp only at h ⊢
      cases hb : Nat.beq t i with
      | true => rw [hb] at h; exact ⟨h, by simp⟩
      | false => rw [hb] at h; exact ⟨h.2, fun _ => h.1⟩

theorem size_of_ready {listed : Array Bool} {i : Nat} (h : i ∈ Region.ready .any ops listed) : i < listed.size := by
  rcases Nat.lt_or_ge i listed.size with h' | h'
  · exact h'
  · have := (mem_ready.1 h).1; simp [Array.getElem?_eq_none h'] at this

theorem step_one (hE : E.Ok) (hd : ∀ o ∈ ops.toList, ∀ d, o.dst = some d → d < n) {w₀ : World} {Q : Exit → Act → World → Prop} {i : Nat} {listed : Array Bool} {σ : St} {a : Act} {w : World} {p : Plan} {fuel : Nat}
    (hi : i < listed.size) (hf : Fits n σ a) (hw : Same w₀ w) (hS : startedIn t listed = false → Sh w.heap)
    (hv : opt (ops.toList[i]?) fun o => guarded ops.toList o σ (fun σ => vcPut E o σ w.heap fun σ' h' => keepS t (startedIn t listed) i (Sh h') (vcPlan E ops t Sh N p (begun t (startedIn t listed) i) σ' h')) (fun σ' => vcPlan E ops t Sh N p (begun t (startedIn t listed) i) σ' w.heap))
    (next : ∀ σ' a' w', Same w₀ w' → Fits n σ' a' → (startedIn t (listed.setIfInBounds i true) = false → Sh w'.heap) → vcPlan E ops t Sh N p (startedIn t (listed.setIfInBounds i true)) σ' w'.heap → wpAnyS E.P ops Q (Sf t Sh) fuel (listed.setIfInBounds i true) a' w') :
    wpOp E.P ops Q i (fun a' w' => Sf t Sh (listed.setIfInBounds i true) w' ∧ wpAnyS E.P ops Q (Sf t Sh) fuel (listed.setIfInBounds i true) a' w') a w := by
  obtain ⟨o, ho, hv⟩ := opt_some hv
  have ho' : ops[i]? = some o := by simpa using ho
  have hod := hd o (List.mem_of_getElem? ho)
  unfold wpOp
  rw [ho']
  simp only
  rcases guarded_ok hf hv with ⟨hwt, σ', hf', hx⟩ | ⟨hwt, σ', hf', hx⟩
  · rw [if_pos hwt]
    refine .inl (put_ok hE hod hf' hx fun σ'' a' w' hs hf'' hk => ?_)
    obtain ⟨hk1, hk2⟩ := keepS_ok hk
    rw [begun_eq hi] at hk1 hk2
    exact ⟨hk2, next σ'' a' w' (hw.trans hs) hf'' hk2 hk1⟩
  · rw [if_neg (by simp [hwt])]
    obtain ⟨σ'', hf'', hk⟩ := skip_ok hod hf' hx
    rw [begun_eq hi] at hk
    have hS' : startedIn t (listed.setIfInBounds i true) = false → Sh w.heap := fun h => hS (by
      rw [← begun_eq hi] at h
      unfold begun at h
      cases hst : startedIn t listed with
      | false => rfl
      | true => rw [hst] at h; cases h)
    exact ⟨hS', next σ'' _ w hw hf'' hS' hk⟩

theorem plan_sound (hE : E.Ok) (hsel : Region.noSelect ops = true) (hd : ∀ o ∈ ops.toList, ∀ d, o.dst = some d → d < n) {w₀ : World} : ∀ (p : Plan) (listed : Array Bool) (σ : St) (a : Act) (w : World),
    p.ok ops t listed = true → Closed ops listed → Fits n σ a → Same w₀ w → (startedIn t listed = false → Sh w.heap) → vcPlan E ops t Sh N p (startedIn t listed) σ w.heap →
    wpAnyS E.P ops (postOf n N (fun _ _ _ => False) w₀) (Sf t Sh) p.len listed a w
  | .done, listed, σ, a, w, hok, hc, hf, hw, hS, hv => by
    simp only [Plan.ok, beq_iff_eq] at hok
    exact ⟨hok, hw, σ, hf, hv⟩
  | .one i p, listed, σ, a, w, hok, hc, hf, hw, hS, hv => by
    simp only [Plan.ok, Bool.and_eq_true, beq_iff_eq] at hok
    obtain ⟨hr, hok⟩ := hok
    have him : i ∈ Region.ready .any ops listed := by rw [hr]; simp
    refine ⟨fun h => (by rw [hr] at h; cases h), fun j hj => ?_⟩
    rw [hr] at hj
    have : j = i := by simpa using hj
    subst this
    exact step_one hE hd (size_of_ready him) hf hw hS hv fun σ' a' w' hw' hf' hS' hk => plan_sound hE hsel hd p _ σ' a' w' hok (hc.set him) hf' hw' hS' hk
  | .two i j p q, listed, σ, a, w, hok, hc, hf, hw, hS, hv => by
    simp only [Plan.ok, Bool.and_eq_true, beq_iff_eq] at hok
    obtain ⟨⟨⟨hr, hlen⟩, hok1⟩, hok2⟩ := hok
    have him : i ∈ Region.ready .any ops listed := by rw [hr]; simp
    have hjm : j ∈ Region.ready .any ops listed := by rw [hr]; simp
    refine ⟨fun h => (by rw [hr] at h; cases h), fun k hk => ?_⟩
    rw [hr] at hk
    simp only [List.mem_cons, List.not_mem_nil, or_false] at hk
    rcases hk with rfl | rfl
    · exact step_one hE hd (size_of_ready him) hf hw hS hv.1 fun σ' a' w' hw' hf' hS' hk => plan_sound hE hsel hd p _ σ' a' w' hok1 (hc.set him) hf' hw' hS' hk
    · refine step_one hE hd (size_of_ready hjm) hf hw hS hv.2 fun σ' a' w' hw' hf' hS' hk => ?_
      rw [hlen]
      exact plan_sound hE hsel hd q _ σ' a' w' hok2 (hc.set hjm) hf' hw' hS' hk
  | .take i p, listed, σ, a, w, hok, hc, hf, hw, hS, hv => by
    simp only [Plan.ok, Bool.and_eq_true, bne_iff_ne] at hok
    obtain ⟨⟨⟨⟨hr, hfree⟩, hne⟩, hload⟩, hok⟩ := hok
    have him : i ∈ Region.ready .any ops listed := by simpa using hr
    obtain ⟨o, ho, hv⟩ := opt_some hv
    have ho' : ops[i]? = some o := by simpa using ho
    rw [ho'] at hload
    have hod := hd o (List.mem_of_getElem? ho)
    have hM : ∀ listed w, Sf t Sh (listed.setIfInBounds i true) w ↔ Sf t Sh listed w := by
      intro listed w
      unfold Sf startedIn
      cases t with
      | none => exact Iff.rfl
      | some t =>
        simp only
        rw [getD_set_ne false (fun e => hne (by rw [e]))]
    have hst : startedIn t (listed.setIfInBounds i true) = startedIn t listed := by
      unfold startedIn
      cases t with
      | none => rfl
      | some t => simp only; rw [getD_set_ne false (fun e => hne (by rw [e]))]
    -- the worlds in which a load is taken first
    have hS₀ : ∀ listed w, Closed ops listed → listed.getD i false = false → Sf t Sh listed w → (isLoad o.op = true → Sh w.heap) := by
      intro listed w hcl hun hs hl
      refine hs ?_
      unfold startedIn
      cases t with
      | none => rfl
      | some t =>
        simp only [hl, Bool.not_true, Bool.false_or] at hload ⊢
        cases htl : listed.getD t false with
        | false => rfl
        | true =>
          exfalso
          cases hot : ops[t]? with
          | none => rw [hot] at hload; cases hload
          | some ot =>
            rw [hot] at hload
            obtain ⟨e, he, hb⟩ := Array.any_eq_true'.1 hload
            simp only [Bool.and_eq_true, beq_iff_eq] at hb
            have := hcl t ot hot htl e he hb.1
            rw [hb.2, hun] at this
            cases this
    have hun : listed.getD i false = false := getD_both (mem_ready.1 him).1
    have fin : ∀ (v : Value) σ', Fits n σ' (a.put o.dst v) → YieldsIf E.P ops (fun w => isLoad o.op = true → Sh w.heap) o v a → vcPlan E ops t Sh N p (startedIn t listed) σ' w.heap →
        wpAnyS E.P ops (postOf n N (fun _ _ _ => False) w₀) (Sf t Sh) (Plan.take i p).len listed a w := by
      intro v σ' hf' hy hk
      refine wpAnyS_first ho' (Region.noSelect_spec hsel) (fun _ _ _ h => h.elim) _ hS₀ hM p.len listed a w (Region.free_spec ho' hfree) him hy hc hS ?_
      rw [← hst] at hk
      exact plan_sound hE hsel hd p _ σ' _ w hok (hc.set him) hf' hw (fun h => hS (by rw [hst] at h; exact h)) hk
    rcases guarded_ok hf hv with ⟨hwt, σ', hf', hx⟩ | ⟨hwt, σ', hf', hx⟩
    · unfold vcQPut at hx
      cases hdst : o.dst with
      | none => rw [hdst] at hx; exact hx.elim
      | some d =>
        rw [hdst] at hx
        obtain ⟨v, hr, hk⟩ := vcQ_ok hE hf' hx
        exact fin v _ (by rw [hdst]; exact hf'.put (hod d hdst) v) (.inl ⟨hwt, fun w hw => hr w hw⟩) hk
    · obtain ⟨σ'', hf'', hk⟩ := skip_ok hod hf' hx
      exact fin undef σ'' hf'' (.inr ⟨hwt, rfl⟩) hk

theorem DDraw.intro (hE : E.Ok) {id : Nat} {σ : St} {h : Heap} (p : Plan) (t : Option Nat) (Sh : Heap → Prop) (hok : p.okAll n ops t = true) (hS : Sh h) (hv : vcPlan E ops t Sh N p false σ h) : DDraw E n id ops N σ h := by
  refine DDraw.mk ?_; 
  intro a w hw hf
  simp only [Plan.okAll, Bool.and_eq_true, beq_iff_eq] at hok
  obtain ⟨⟨⟨hsel, hlen⟩, hok⟩, hd⟩ := hok
  have hd' : ∀ o ∈ ops.toList, ∀ d, o.dst = some d → d < n := by
    intro o ho d hod
    simp only [List.all_eq_true] at hd
    have := hd o ho
    rw [hod] at this
    simpa using Nat.blt_eq ▸ this
  have hc : Closed ops (Array.replicate ops.size false) := fun j oj _ hl => (by rw [getD_replicate_false] at hl; cases hl)
  have hst : startedIn t (Array.replicate ops.size false) = false := by
    unfold startedIn; cases t with
    | none => rfl
    | some t => exact getD_replicate_false _ _
  refine wp_region_any hE.mixed (wpAny_of_S (S := Sf t Sh) _ _ _ _ ?_)
  have hdr : ({ w with drawn := w.drawn + 1 } : World).heap = h := hw
  have := plan_sound (N := N) (t := t) (Sh := Sh) (w₀ := w) hE hsel hd' p _ σ a { w with drawn := w.drawn + 1 } hok hc hf ⟨rfl, rfl, rfl⟩ (fun _ => by rw [hdr]; exact hS) (by rw [hst, hdr]; exact hv)
  rw [hlen] at this
  exact this

theorem QLoad.scalar {S : Heap → Prop} {b off : Nat} {K : Value → Prop} {v : Value} (hc : ∀ h, S h → cell h b off = some v) (hk : K v) : QLoad S none b off K := by
  refine QLoad.mk ?_; exact ⟨v, hc, hk⟩
theorem QLoad.agg {S : Heap → Prop} {n b off : Nat} {K : Value → Prop} (cs : List Value) (hl : cs.length = n) (hc : ∀ h, S h → CellsAt h b off cs) (hk : K (.agg cs.toArray)) : QLoad S (some n) b off K := by
  refine QLoad.mk ?_; exact ⟨_, fun h hs => ⟨cs, hl, hc h hs, rfl⟩, hk⟩
theorem DPure.intro {s : Sem Value} {K : Value → Prop} (v : Value) (hr : ∀ w : World, s.run E.P w = .ok v w) (hk : K v) : DPure E s K := by
  refine DPure.mk ?_; exact ⟨v, hr, hk⟩
end
end Go.Vc

namespace Go.Vc
theorem splice_nil (c : List Value) (off : Nat) : splice c off [] = c := by simp [splice]
theorem Upd.self {h : Heap} {b : Nat} {o : Obj} (hb : h[b]? = some o) : Upd h b o h := ⟨rfl, hb, fun _ _ => rfl⟩
theorem Upd.at_ne {h h' : Heap} {b k : Nat} {o o' : Obj} (u : Upd h b o h') (hk : h[k]? = some o') (hne : k ≠ b) : h'[k]? = some o' := by rw [u.get k hne]; exact hk
theorem Upd.cell_ne {h h' : Heap} {b k i : Nat} {o : Obj} {v : Value} (u : Upd h b o h') (hk : cell h k i = some v) (hne : k ≠ b) : cell h' k i = some v := by
  unfold cell at *; rw [u.get k hne]; exact hk
/-- blocks below B are as they were -/
def Old (B : Nat) (h h' : Heap) : Prop := h.size ≤ h'.size ∧ ∀ k, k < B → h'[k]? = h[k]?
theorem Old.rfl {B : Nat} {h : Heap} : Old B h h := ⟨Nat.le_refl _, fun _ _ => Eq.refl _⟩
theorem Old.ext {B : Nat} {h a b : Heap} (o : Old B h a) (e : Ext a b) (hB : B ≤ h.size) : Old B h b :=
  ⟨Nat.le_trans o.1 e.size, fun k hk => (e.get k (by have := o.1; omega)).trans (o.2 k hk)⟩
theorem Old.upd {B : Nat} {h a b : Heap} {g : Nat} {x : Obj} (o : Old B h a) (u : Upd a g x b) (hg : B ≤ g) : Old B h b :=
  ⟨by rw [u.size]; exact o.1, fun k hk => (u.get k (by omega)).trans (o.2 k hk)⟩
theorem Old.grown {B : Nat} {h a b : Heap} {r : Option Nat} (o : Old B h a) (g : Grown a b r) (hB : B ≤ h.size) (hr : ∀ k, r = some k → B ≤ k) : Old B h b :=
  ⟨Nat.le_trans o.1 g.size, fun k hk => (g.get k (by have := o.1; omega) (fun e => by have := hr k e.symm; omega)).trans (o.2 k hk)⟩
theorem Old.trans {B : Nat} {h a b : Heap} (o : Old B h a) (p : Old B a b) : Old B h b := ⟨Nat.le_trans o.1 p.1, fun k hk => (p.2 k hk).trans (o.2 k hk)⟩
theorem Old.toExt {h h' : Heap} (o : Old h.size h h') : Ext h h' := ⟨o.1, o.2⟩
theorem Ext.old {B : Nat} {h h' : Heap} (e : Ext h h') (hB : B ≤ h.size) : Old B h h' := ⟨e.size, fun k hk => e.get k (by omega)⟩
theorem Old.cell {B : Nat} {h h' : Heap} (o : Old B h h') {k i : Nat} {v : Value} (hk : cell h k i = some v) (hB : k < B) : Vc.cell h' k i = some v := by
  unfold Vc.cell at *; rw [o.2 k hB]; exact hk
theorem Old.at {B : Nat} {h h' : Heap} (o : Old B h h') {k : Nat} {x : Obj} (hk : h[k]? = some x) (hB : k < B) : h'[k]? = some x := by rw [o.2 k hB]; exact hk

theorem DRun.copy {E : Env} (hE : E.Ok) {t u ty e ee : TypeId} {ti ei : TI} (ht : E.ty t = some ti) (htd : ti.td = .slice ee) (he : E.ty ee = some ei) (hs1 : ei.size = 1) {h : Heap} {g o dLen dCap sLen sCap : Nat} {a : Option Addr} {cur : List Value}
    (hg : h[g]? = some (.cells cur.toArray e (0, 0))) (cs : List Value) (hn : cs.length = min sLen dLen) (hfit : o + cs.length ≤ cur.length) (hsrc : cs ≠ [] → ∃ b off, a = some ⟨b, off, none⟩ ∧ CellsAt h b off cs) (h1 : ∀ u ∈ cs, u.oneCell' = true)
    {K : Value → Heap → Prop} (hk : ∀ h', Upd h g (.cells (splice cur o cs).toArray e (0, 0)) h' → K (.int .i64 cs.length) h') :
    DRun E (Builtin.copy_ #[t, u] ty #[.slice (some ⟨g, o, none⟩) dLen dCap, .slice a sLen sCap]) h K := by
  refine DRun.intro fun w hw => ?_
  subst hw
  have h2 := (hE.tab t ti ht).td
  rw [htd] at h2
  obtain ⟨i, hi, his, _, _⟩ := (hE.tab ee ei he).info
  have hsz : (E.P.info? ee).map (·.size) = some 1 := by rw [hi]; simp [his, hs1]
  by_cases hne : cs = []
  · subst hne
    refine ⟨_, w, run_copy_none w t u ty ee _ a dLen dCap sLen sCap h2 hsz (by simpa using hn.symm), .rfl, hk _ ?_⟩
    rw [splice_nil]; exact Upd.self hg
  · obtain ⟨b, off, ha, hc⟩ := hsrc hne
    subst ha
    have hr := run_copy_row (P := E.P) w t u ty ee g o dLen dCap ⟨b, off, none⟩ sLen sCap cur.toArray e cs h2 hsz hg hn (fun j v hj => by rw [addr_add, cell?_eq]; exact hc.get j v hj) (by simpa using hfit) h1
    refine ⟨_, _, hr, same_setRow, hk _ ?_⟩
    have := setRow_upd (cs' := (cur.toArray.toList.take o ++ cs ++ cur.toArray.toList.drop (o + cs.length)).toArray) hg
    simpa [splice] using this
end Go.Vc
