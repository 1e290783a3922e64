import Derived.Calls
import Derived.Orders
import Derived.Below
import Derived.KernelRfl
import Derived.Laws.Cells
import Derived.Laws.CopyRow
import Derived.Laws.Entries
import Derived.ChangeKeysEq
import Derived.Laws.MakeOwn
import Derived.Laws.AppendOwn
import Derived.WalkSpells
import Derived.Laws.BytesString
import Derived.Laws.StructEq
/-! The plain machine: values as trees, own memory apart; what a function's code asks, as a statement without memory. -/
namespace Go.Ab
set_option linter.unusedVariables false

/-- A value, plain: a word; a slice over cells that nobody writes any more (with room behind it, or full); a pointer at such cells; a struct; a tuple; an interface value; a function value; anything. -/
inductive AV where
  | w (v : Value)
  | fs (xs : List AV) (n : Nat)
  | ff (xs : List AV) (n : Nat)
  | fp (xs : List AV)
  | agg (xs : List AV)
  | tup (xs : List AV)
  | ifc (t : TypeId) (x : AV)
  | fn (f : Fn) (first cap : List AV)
  | any
  deriving Inhabited

/-- A block of the call's own: what is known of its first cells; how many it has. -/
structure Ob where
  xs : List AV
  cap : Nat

abbrev Own := Nat → Option Ob
abbrev Env := List (Nat × AV)

def upd (σ : Own) (b : Nat) (o : Ob) : Own := fun i => if i = b then some o else σ i
def del (σ : Own) (b : Nat) : Own := fun i => if i = b then none else σ i

inductive Opd where
  | t (i : Nat)
  | c (v : Value)
  | g (b : Nat)
  | f (f : FuncId)

/-- how a field is compared -/
inductive EK where
  | i
  | b
  | s

/-- What an operation is, its types looked up. -/
inductive SOp where
  | mv (x : Opd)
  | pick (c a b : Opd)
  | bin (op : BinOp) (x y : Opd)
  | beq (neg : Bool) (x y : Opd)
  | isnil (neg : Bool) (x : Opd)
  | un (op : UnOp) (x : Opd)
  | conv (k : IntKind) (x : Opd)
  | cstr (x : Opd)
  | bstr (x : Opd)
  | len (x : Opd)
  | lens (x : Opd)
  | ld (agg : Bool) (size : Nat) (a : Opd)
  | st (size : Nat) (a v : Opd)
  | stp (size : Nat) (a v : Opd) (os : List Opd)
  | eqa (neg : Bool) (ks : List EK) (x y : Opd)
  | nilck (x : Opd)
  | ix (size : Nat) (x i : Opd)
  | ixa (n size : Nat) (x i : Opd)
  | idx (agg : Bool) (n size : Nat) (x i : Opd)
  | idxs (x i : Opd)
  | fa (off : Nat) (x : Opd)
  | fld (agg : Bool) (off size : Nat) (x : Opd)
  | sl (size : Nat) (x : Opd) (lo hi mx : Option Opd)
  | sls (x : Opd) (lo hi : Option Opd)
  | call (f : FuncId) (args : List Opd)
  | callq (f : FuncId) (args : List Opd)
  | callk (f : FuncId) (args : List Opd)
  | callf (f : FuncId) (args : List Opd)
  | ldp (agg : Bool) (size : Nat) (a : Opd) (os : List Opd)
  | calln (f : FuncId) (args : List Opd)
  | callv (q : Bool) (x : Opd) (args : List Opd)
  | mkf (f : Fn) (first cap : List Opd)
  | ext (x : Opd) (i : Nat)
  | box (own : Bool) (size : Nat) (x : Opd)
  | alloc (own : Bool) (size : Nat) (zero : List Value)
  | build (zero : List Value) (parts : List (Nat × Nat × Opd))
  | bsl (own : Bool) (size len : Nat) (zero : List Value) (parts : List (Nat × Opd))
  | mks (size bytes : Nat) (zero : List Value) (len cap : Opd)
  | app (str : Bool) (size bytes : Nat) (x y : Opd)

structure SI where
  d : Option Nat
  op : SOp
  guard : Option (Nat × Bool)

inductive SC where
  | skip
  | region (ops : List SI) (keep : List Nat)
  | drawn (perm : List Nat) (ops : List SI) (keep : List Nat)
  | says
  | seq (a b : SC)
  | cond (c : Opd) (thn els : SC)
  | block (id : Nat) (keep : List Nat) (body : SC)
  | loop (keep : List Nat) (body : SC)
  | exit (id : Nat)
  | ret
  | dead

def find : Env → Nat → AV
  | [], _ => .any
  | (i, v) :: r, t => match Nat.beq i t with | true => v | false => find r t

def look : Env → Nat → (AV → Prop) → Prop
  | [], _, K => K .any
  | (i, v) :: r, t, K => match Nat.beq i t with | true => K v | false => look r t K

theorem look_eq : ∀ (env : Env) (t : Nat) (K : AV → Prop), look env t K = K (find env t)
  | [], _, _ => rfl
  | (i, v) :: r, t, K => by
    simp only [look, find]
    cases Nat.beq i t
    · exact look_eq r t K
    · rfl

/-- A constant's plain value. -/
def cAV : Value → AV
  | .agg cs => .agg (cs.toList.map .w)
  | .bool b => .w (.bool b)
  | .int k n => .w (.int k n)
  | .string s => .w (.string s)
  | .slice a n c => .w (.slice a n c)
  | .tuple _ => .any
  | v => .w v

def opdAV (gl : Nat → Option (List AV)) (env : Env) : Opd → AV
  | .t i => find env i
  | .c v => cAV v
  | .g b => match gl b with
    | some xs => .fp xs
    | none => .w (.pointer (some ⟨b, 0, none⟩))
  | .f f => .w (.func (.func f) #[] #[])

def ev (gl : Nat → Option (List AV)) (env : Env) : Opd → (AV → Prop) → Prop
  | .t i, K => look env i K
  | .c v, K => match v with
    | .agg cs => K (.agg (cs.toList.map .w))
    | .bool b => K (.w (.bool b))
    | .int k n => K (.w (.int k n))
    | .string s => K (.w (.string s))
    | .slice a n c => K (.w (.slice a n c))
    | .tuple _ => K .any
    | v => K (.w v)
  | .g b, K => match gl b with
    | some xs => K (.fp xs)
    | none => K (.w (.pointer (some ⟨b, 0, none⟩)))
  | .f f, K => K (.w (.func (.func f) #[] #[]))

theorem ev_eq (gl : Nat → Option (List AV)) (env : Env) (o : Opd) (K : AV → Prop) : ev gl env o K = K (opdAV gl env o) := by
  cases o with
  | t i => exact look_eq env i K
  | c v => cases v <;> rfl
  | g b => simp only [ev, opdAV]; cases gl b <;> rfl
  | f f => rfl

def evs (gl : Nat → Option (List AV)) (env : Env) : List Opd → (List AV → Prop) → Prop
  | [], K => K []
  | o :: r, K => ev gl env o fun v => evs gl env r fun vs => K (v :: vs)

theorem evs_eq (gl : Nat → Option (List AV)) (env : Env) : ∀ (l : List Opd) (K : List AV → Prop), evs gl env l K = K (l.map (opdAV gl env))
  | [], _ => rfl
  | o :: r, K => by simp only [evs, ev_eq, List.map_cons]; exact evs_eq gl env r _

def sameK : IntKind → IntKind → Bool
  | .i8, .i8 => true | .i16, .i16 => true | .i32, .i32 => true | .i64, .i64 => true
  | .u8, .u8 => true | .u16, .u16 => true | .u32, .u32 => true | .u64, .u64 => true
  | _, _ => false

theorem sameK_eq {a b : IntKind} (h : sameK a b = true) : a = b := by cases a <;> cases b <;> first | rfl | cases h

def binI (op : BinOp) (k : IntKind) (x y : Int) (K : AV → Prop) : Prop :=
  match op with
  | .add => ∃ z, k.wrap (x + y) = z ∧ K (.w (.int k z))
  | .sub => ∃ z, k.wrap (x - y) = z ∧ K (.w (.int k z))
  | .mul => ∃ z, k.wrap (x * y) = z ∧ K (.w (.int k z))
  | .quo => y ≠ 0 ∧ ∃ z, k.wrap (x.tdiv y) = z ∧ K (.w (.int k z))
  | .rem => y ≠ 0 ∧ ∃ z, x.tmod y = z ∧ K (.w (.int k z))
  | .and => ∃ z, k.wrap ((BitVec.ofInt k.bits x &&& BitVec.ofInt k.bits y).toNat) = z ∧ K (.w (.int k z))
  | .or => ∃ z, k.wrap ((BitVec.ofInt k.bits x ||| BitVec.ofInt k.bits y).toNat) = z ∧ K (.w (.int k z))
  | .xor => ∃ z, k.wrap ((BitVec.ofInt k.bits x ^^^ BitVec.ofInt k.bits y).toNat) = z ∧ K (.w (.int k z))
  | .andNot => ∃ z, k.wrap ((BitVec.ofInt k.bits x &&& ~~~ BitVec.ofInt k.bits y).toNat) = z ∧ K (.w (.int k z))
  | .shl | .shr => False
  | .eql => K (.w (.bool (x == y)))
  | .neq => K (.w (.bool (x != y)))
  | .lss => K (.w (.bool (decide (x < y))))
  | .leq => K (.w (.bool (decide (x ≤ y))))
  | .gtr => K (.w (.bool (decide (x > y))))
  | .geq => K (.w (.bool (decide (x ≥ y))))

def binS (op : BinOp) (x y : ByteArray) (K : AV → Prop) : Prop :=
  match op with
  | .add => x.size + y.size ≤ 9223372036854775807 ∧ K (.w (.string (x ++ y)))
  | .eql => K (.w (.bool (x.toList == y.toList)))
  | .neq => K (.w (.bool (!(x.toList == y.toList))))
  | .lss => K (.w (.bool (Op.bytesLess x.toList y.toList)))
  | .leq => K (.w (.bool (Op.bytesLess x.toList y.toList || x.toList == y.toList)))
  | .gtr => K (.w (.bool (!(Op.bytesLess x.toList y.toList || x.toList == y.toList))))
  | .geq => K (.w (.bool (!Op.bytesLess x.toList y.toList)))
  | _ => False

def binR (op : BinOp) (a b : AV) (K : AV → Prop) : Prop :=
  match a, b with
  | .w (.int k x), .w (.int j y) =>
    match op with
    | .shl => 0 ≤ y ∧ ∃ z, k.wrap (x * 2 ^ (min y.toNat k.bits)) = z ∧ K (.w (.int k z))
    | .shr => 0 ≤ y ∧ ∃ z, x.fdiv (2 ^ (min y.toNat k.bits)) = z ∧ K (.w (.int k z))
    | op => match sameK k j with
      | true => binI op k x y K
      | false => False
  | .w (.string x), .w (.string y) => binS op x y K
  | _, _ => False

/-- May this value lie in one cell? -/
def oneCell : AV → Bool
  | .w (.agg _) => false
  | .w (.tuple _) => false
  | .w _ => true
  | .fs _ _ => true
  | .ff _ _ => true
  | .fp _ => true
  | .ifc _ _ => true
  | .fn _ _ _ => true
  | _ => false

/-- A value's cells. -/
def avCells : AV → List AV
  | .agg xs => xs
  | v => [v]

/-- May this value be laid into cells? -/
def boxable : AV → Bool
  | .agg _ => true
  | v => oneCell v

abbrev AC := FuncId → List AV → Own → (AV → Own → Prop) → Prop

/-- What is known (values, own memory) may be said otherwise: blocks that are written no more are given up. -/
structure SubL (S : List AV → Own → List AV → Own → Prop) (vs : List AV) (σ : Own) (vs' : List AV) (σ' : Own) : Prop where
  out : S vs σ vs' σ'

/-- A call: its arguments, said otherwise, and its contract. -/
structure CallVC (A : AC) (S : List AV → Own → List AV → Own → Prop) (f : FuncId) (args : List AV) (σ : Own) (K : AV → Own → Prop) : Prop where
  out : ∃ args' σ', S args σ args' σ' ∧ A f args' σ' K

/-- A call that leaves own memory alone and has one answer. -/
structure CallQ (A : AC) (S : List AV → Own → List AV → Own → Prop) (f : FuncId) (args : List AV) (σ : Own) (K : AV → Prop) : Prop where
  out : ∃ args' v, S args σ args' σ ∧ A f args' σ (fun v' σ' => v' = v ∧ σ' = σ) ∧ K v

/-- more own memory, the rest as it was -/
def More (σ E : Own) : Prop := ∀ b ob, σ b = some ob → E b = some ob
/-- A call that leaves own memory alone and has one answer, whatever own memory there is besides. -/
structure CallK (A : AC) (S : List AV → Own → List AV → Own → Prop) (f : FuncId) (args : List AV) (σ : Own) (K : AV → Prop) : Prop where
  out : ∃ args' v, (∀ E, More σ E → S args E args' E ∧ A f args' E (fun v' σ' => v' = v ∧ σ' = E)) ∧ K v
/-- A call that leaves own memory alone and has one answer, whatever own memory there is. -/
structure CallF (A : AC) (S : List AV → Own → List AV → Own → Prop) (f : FuncId) (args : List AV) (K : AV → Prop) : Prop where
  out : ∃ args' v, (∀ E, S args E args' E ∧ A f args' E (fun v' σ' => v' = v ∧ σ' = E)) ∧ K v
/-- A call that makes own memory. -/
structure CallN (A : AC) (S : List AV → Own → List AV → Own → Prop) (f : FuncId) (args : List AV) (σ : Own) (K : AV → Own → Prop) : Prop where
  out : ∃ args', S args σ args' σ ∧ A f args' σ (fun v σ' => More σ σ' ∧ K v σ')

structure Cx where
  A : AC
  S : List AV → Own → List AV → Own → Prop
  gl : Nat → Option (List AV)

/-- Bounds of a slice expression. -/
def bnd (gl : Nat → Option (List AV)) (env : Env) (d : Nat) : Option Opd → (Int → Prop) → Prop
  | none, K => K d
  | some o, K => ev gl env o fun
    | .w (.int _ n) => K n
    | _ => False

def slR (x : AV) (size : Nat) (l h : Int) (mx : Option Int) (K : AV → Prop) : Prop :=
  match x with
  | .fs xs n => match mx with
    | none => ∃ l' h' : Nat, l = l' ∧ h = h' ∧ l' ≤ h' ∧ h' ≤ n ∧ K (.fs ((xs.drop (l' * size)).take ((h' - l') * size)) (h' - l'))
    | some m => ∃ l' h' : Nat, l = l' ∧ h = h' ∧ l' ≤ h' ∧ h' ≤ n ∧ m = h ∧ K (.ff ((xs.drop (l' * size)).take ((h' - l') * size)) (h' - l'))
  | .ff xs n => match mx with
    | none => ∃ l' h' : Nat, l = l' ∧ h = h' ∧ l' ≤ h' ∧ h' ≤ n ∧ K (.fs ((xs.drop (l' * size)).take ((h' - l') * size)) (h' - l'))
    | some m => ∃ l' h' : Nat, l = l' ∧ h = h' ∧ l' ≤ h' ∧ h' ≤ n ∧ m = h ∧ K (.ff ((xs.drop (l' * size)).take ((h' - l') * size)) (h' - l'))
  | .w (.slice (some ⟨b, o, none⟩) n c) => match mx with
    | none => ∃ l' h' : Nat, l = l' ∧ h = h' ∧ l' ≤ h' ∧ h' ≤ c ∧ ∃ o', (l' < c → o' = o + l' * size) ∧ (l' = c → o' = o) ∧ K (.w (.slice (some ⟨b, o', none⟩) (h' - l') (c - l')))
    | some m => ∃ l' h' m' : Nat, l = l' ∧ h = h' ∧ m = m' ∧ l' ≤ h' ∧ h' ≤ m' ∧ m' ≤ c ∧ ∃ o', (l' < m' → o' = o + l' * size) ∧ (l' = m' → o' = o) ∧ K (.w (.slice (some ⟨b, o', none⟩) (h' - l') (m' - l')))
  | .w (.slice none n c) => l = 0 ∧ h = 0 ∧ mx.getD 0 = 0 ∧ c = 0 ∧ K (.w (.slice none 0 0))
  | _ => False

def lenAV : AV → Nat
  | .fs _ n => n
  | .ff _ n => n
  | .w (.slice _ n _) => n
  | _ => 0

def ldR (agg : Bool) (size : Nat) (xs : List AV) (K : AV → Prop) : Prop :=
  match agg with
  | true => ∃ ys, xs.take size = ys ∧ ys.length = size ∧ K (.agg ys)
  | false => ∃ x, xs.head? = some x ∧ K x

/-- Parts laid over a row of cells. -/
def lay (gl : Nat → Option (List AV)) (env : Env) : List (Nat × Nat × Opd) → List AV → (List AV → Prop) → Prop
  | [], cs, K => K cs
  | (off, size, x) :: r, cs, K => ev gl env x fun v => match boxable v, Nat.beq (avCells v).length size, Nat.ble (off + size) cs.length with
    | true, true, true => lay gl env r (cs.take off ++ avCells v ++ cs.drop (off + size)) K
    | _, _, _ => False

/-- What an appended operand holds: its cells and how many elements. -/
def srcR (str : Bool) (size : Nat) (y : AV) (σ : Own) (K : List AV → Nat → Prop) : Prop :=
  match str with
  | false => match y with
    | .fs ys n => n * size ≤ ys.length ∧ K (ys.take (n * size)) n
    | .ff ys n => n * size ≤ ys.length ∧ K (ys.take (n * size)) n
    | .w (.slice none n _) => n = 0 ∧ K [] 0
    | .w (.slice (some ⟨b, o, none⟩) n _) => ∃ ob, σ b = some ob ∧ o + n * size ≤ ob.xs.length ∧ K ((ob.xs.drop o).take (n * size)) n
    | _ => False
  | true => match y with
    | .w (.string s) => size = 1 ∧ K (s.toList.map fun b => .w (.int .u8 b.toNat)) s.size
    | _ => False

/-- Appending: to nothing, to full cells that nobody writes (new memory), to a block of the call's own (there, or new memory). -/
def appR (size bytes : Nat) (x : AV) (ys : List AV) (n : Nat) (σ : Own) (K : AV → Own → Prop) : Prop :=
  match x with
  | .w (.slice none m c) => m = 0 ∧ c = 0 ∧ (n = 0 → K (.w (.slice none 0 0)) σ) ∧ (0 < n → n ≤ 9223372036854775807 ∧ n * 2 * bytes ≤ 281474976710656 ∧ ∀ b c', σ b = none → n ≤ c' → K (.w (.slice (some ⟨b, 0, none⟩) n c')) (upd σ b ⟨ys, c' * size⟩))
  | .ff xs m => m * size ≤ xs.length ∧ (n = 0 → K (.ff xs m) σ) ∧ (0 < n → m + n ≤ 9223372036854775807 ∧ (m + n) * 2 * bytes ≤ 281474976710656 ∧ ∀ b c', σ b = none → m + n ≤ c' → K (.w (.slice (some ⟨b, 0, none⟩) (m + n) c')) (upd σ b ⟨xs.take (m * size) ++ ys, c' * size⟩))
  | .w (.slice (some ⟨b, o, none⟩) m c) => ∃ ob, σ b = some ob ∧ o + m * size ≤ ob.xs.length ∧ o + c * size ≤ ob.cap ∧ m ≤ c ∧ m + n ≤ 9223372036854775807 ∧ (m + n) * 2 * bytes ≤ 281474976710656 ∧ ys.all oneCell = true ∧
      (m + n ≤ c → K (.w (.slice (some ⟨b, o, none⟩) (m + n) c)) (upd σ b ⟨ob.xs.take (o + m * size) ++ ys ++ ob.xs.drop (o + (m + n) * size), ob.cap⟩)) ∧
      (c < m + n → ∀ b' c', σ b' = none → m + n ≤ c' → K (.w (.slice (some ⟨b', 0, none⟩) (m + n) c')) (upd σ b' ⟨(ob.xs.drop o).take (m * size) ++ ys, c' * size⟩))
  | _ => False

def unV (op : UnOp) (v : AV) (K : AV → Prop) : Prop :=
  match op, v with
  | .not, .w (.bool b) => K (.w (.bool (!b)))
  | .neg, .w (.int k n) => ∃ z, k.wrap (0 - n) = z ∧ K (.w (.int k z))
  | .xor, .w (.int k n) => ∃ z, k.wrap ((BitVec.ofInt k.bits (if k.signed then -1 else k.max) ^^^ BitVec.ofInt k.bits n).toNat) = z ∧ K (.w (.int k z))
  | _, _ => False

def beqV (neg : Bool) (a b : AV) (K : AV → Prop) : Prop :=
  match a, b with
  | .w (.bool x), .w (.bool y) => match neg with
    | false => K (.w (.bool (x == y)))
    | true => K (.w (.bool (!(x == y))))
  | _, _ => False

def nilV (neg : Bool) (a : AV) (K : AV → Prop) : Prop :=
  match a with
  | .fs _ n => ∀ b : Bool, (0 < n → b = false) → match neg with
    | false => K (.w (.bool b))
    | true => K (.w (.bool (!b)))
  | .ff _ n => ∀ b : Bool, (0 < n → b = false) → match neg with
    | false => K (.w (.bool b))
    | true => K (.w (.bool (!b)))
  | .w (.slice none _ _) => match neg with
    | false => K (.w (.bool true))
    | true => K (.w (.bool false))
  | .w (.slice (some _) _ _) => match neg with
    | false => K (.w (.bool false))
    | true => K (.w (.bool true))
  | _ => False

def convV (k : IntKind) (v : AV) (K : AV → Prop) : Prop :=
  match v with
  | .w (.int _ n) => ∃ z, k.wrap n = z ∧ K (.w (.int k z))
  | _ => False

def lenV (v : AV) (K : AV → Prop) : Prop :=
  match v with
  | .fs _ n => K (.w (.int .i64 n))
  | .ff _ n => K (.w (.int .i64 n))
  | .w (.slice _ n _) => K (.w (.int .i64 n))
  | _ => False

def cstrV (v : AV) (K : AV → Prop) : Prop :=
  match v with
  | .w (.string s) => K (.w (.string s))
  | _ => False

def lensV (v : AV) (K : AV → Prop) : Prop :=
  match v with
  | .w (.string s) => K (.w (.int .i64 s.size))
  | _ => False

def ldV (agg : Bool) (size : Nat) (σ : Own) (v : AV) (K : AV → Prop) : Prop :=
  match v with
  | .fp xs => ldR agg size xs K
  | .w (.pointer (some ⟨b, o, none⟩)) => ∃ ob, σ b = some ob ∧ ldR agg size (ob.xs.drop o) K
  | _ => False

def ixV (size : Nat) (a i : AV) (K : AV → Prop) : Prop :=
  match i with
  | .w (.int _ j) => match a with
    | .fs xs n => ∃ j' : Nat, j = j' ∧ j' < n ∧ K (.fp (xs.drop (j' * size)))
    | .ff xs n => ∃ j' : Nat, j = j' ∧ j' < n ∧ K (.fp (xs.drop (j' * size)))
    | .w (.slice (some ⟨b, o, none⟩) n _) => ∃ j' : Nat, j = j' ∧ j' < n ∧ K (.w (.pointer (some ⟨b, o + j' * size, none⟩)))
    | _ => False
  | _ => False

def ixaV (n size : Nat) (a i : AV) (K : AV → Prop) : Prop :=
  match i with
  | .w (.int _ j) => match a with
    | .fp xs => ∃ j' : Nat, j = j' ∧ j' < n ∧ K (.fp (xs.drop (j' * size)))
    | .w (.pointer (some ⟨b, o, none⟩)) => ∃ j' : Nat, j = j' ∧ j' < n ∧ K (.w (.pointer (some ⟨b, o + j' * size, none⟩)))
    | _ => False
  | _ => False

def idxV (agg : Bool) (n size : Nat) (a i : AV) (K : AV → Prop) : Prop :=
  match i with
  | .w (.int _ j) => match a with
    | .agg xs => ∃ j' : Nat, j = j' ∧ j' < n ∧ ldR agg size (xs.drop (j' * size)) K
    | _ => False
  | _ => False

def idxsV (a i : AV) (K : AV → Prop) : Prop :=
  match i with
  | .w (.int _ j) => match a with
    | .w (.string s) => ∃ j' : Nat, j = j' ∧ ∃ c : UInt8, s.toList[j']? = some c ∧ K (.w (.int .u8 c.toNat))
    | _ => False
  | _ => False

def faV (off : Nat) (v : AV) (K : AV → Prop) : Prop :=
  match v with
  | .fp xs => K (.fp (xs.drop off))
  | .w (.pointer (some ⟨b, o, none⟩)) => K (.w (.pointer (some ⟨b, o + off, none⟩)))
  | _ => False

def fldV (agg : Bool) (off size : Nat) (v : AV) (K : AV → Prop) : Prop :=
  match v with
  | .agg xs => ldR agg size (xs.drop off) K
  | _ => False

def stV (size : Nat) (σ : Own) (a x : AV) (K : Own → Prop) : Prop :=
  match a with
  | .w (.pointer (some ⟨b, o, none⟩)) => match Nat.beq (avCells x).length size, (avCells x).all oneCell with
    | true, true => ∃ ob, σ b = some ob ∧ o + size ≤ ob.xs.length ∧ ∃ σ', upd σ b ⟨ob.xs.take o ++ avCells x ++ ob.xs.drop (o + size), ob.cap⟩ = σ' ∧ K σ'
    | _, _ => False
  | _ => False

/-- Other addresses lie in other blocks. -/
def apart (gl : Nat → Option (List AV)) (env : Env) (b : Nat) : List Opd → Prop
  | [] => True
  | o :: r => (ev gl env o fun
    | .w (.pointer (some ⟨b', _, none⟩)) => b' ≠ b
    | _ => False) ∧ apart gl env b r
def apartV (gl : Nat → Option (List AV)) (env : Env) (p : AV) (os : List Opd) : Prop :=
  match p with
  | .w (.pointer (some ⟨b, _, none⟩)) => apart gl env b os
  | _ => False

def apartF (gl : Nat → Option (List AV)) (env : Env) (p : AV) (os : List Opd) : Prop :=
  match p with
  | .fp _ => True
  | .w (.pointer (some ⟨b, _, none⟩)) => apart gl env b os
  | _ => False

def eqL : List EK → List AV → List AV → Bool → (Bool → Prop) → Prop
  | [], [], [], acc, K => K acc
  | .i :: ks, .w (.int k a) :: xs, .w (.int j b) :: ys, acc, K => match sameK k j with
    | true => eqL ks xs ys (acc && (a == b)) K
    | false => False
  | .b :: ks, .w (.bool a) :: xs, .w (.bool b) :: ys, acc, K => eqL ks xs ys (acc && (a == b)) K
  | .s :: ks, .w (.string a) :: xs, .w (.string b) :: ys, acc, K => eqL ks xs ys (acc && (a.toList == b.toList)) K
  | _, _, _, _, _ => False
def eqaV (neg : Bool) (ks : List EK) (a b : AV) (K : AV → Prop) : Prop :=
  match a, b with
  | .agg xs, .agg ys => eqL ks xs ys true fun r => match neg with
    | false => K (.w (.bool r))
    | true => K (.w (.bool (!r)))
  | _, _ => False
def nilckV (v : AV) (K : AV → Prop) : Prop :=
  match v with
  | .fp xs => K (.fp xs)
  | .w (.pointer (some a)) => K (.w (.pointer (some a)))
  | _ => False

def extV (v : AV) (i : Nat) (K : AV → Prop) : Prop :=
  match v with
  | .tup xs => ∃ x, xs[i]? = some x ∧ K x
  | _ => False

def mksV (size bytes : Nat) (zero : List Value) (l c : AV) (σ : Own) (K : AV → Own → Prop) : Prop :=
  match l, c with
  | .w (.int _ n), .w (.int _ m) => ∃ n' m' : Nat, n = n' ∧ m = m' ∧ n' ≤ m' ∧ m' * bytes ≤ 281474976710656 ∧ m' ≤ 9223372036854775807 ∧
      ∀ b, σ b = none → K (.w (.slice (some ⟨b, 0, none⟩) n' m')) (upd σ b ⟨(List.range (m' * size)).map fun i => cAV (zero[i % zero.length]!), m' * size⟩)
  | _, _ => False

def boxV (own : Bool) (xs : List AV) (σ : Own) (K : AV → Own → Prop) : Prop :=
  match own with
  | false => K (.fp xs) σ
  | true => ∀ b, σ b = none → K (.w (.pointer (some ⟨b, 0, none⟩))) (upd σ b ⟨xs, xs.length⟩)

def bslV (own : Bool) (len : Nat) (cs : List AV) (σ : Own) (K : AV → Own → Prop) : Prop :=
  match own with
  | false => K (.ff cs len) σ
  | true => ∀ b, σ b = none → K (.w (.slice (some ⟨b, 0, none⟩) len len)) (upd σ b ⟨cs, cs.length⟩)

def pickV (v : AV) (A B : Prop) : Prop :=
  match v with
  | .w (.bool t) => (t = true → A) ∧ (t = false → B)
  | _ => False

def slsV (gl : Nat → Option (List AV)) (env : Env) (v : AV) (lo hi : Option Opd) (K : AV → Prop) : Prop :=
  match v with
  | .w (.string s) => bnd gl env 0 lo fun l => bnd gl env s.size hi fun h => ∃ l' h' : Nat, l = l' ∧ h = h' ∧ l' ≤ h' ∧ h' ≤ s.size ∧ K (.w (.string (s.extract l' h')))
  | _ => False

/-- Which function a value calls, and with what. -/
def fnV (v : AV) (args : List AV) (K : FuncId → List AV → Prop) : Prop :=
  match v with
  | .w (.func (.func f) ⟨[]⟩ ⟨[]⟩) => K f args
  | .fn (.func f) vs ws => K f (vs ++ args ++ ws)
  | _ => False

def mkfV (f : Fn) (vs ws : List AV) (K : AV → Prop) : Prop :=
  match vs, ws with
  | [], [] => K (.w (.func f #[] #[]))
  | vs, ws => K (.fn f vs ws)

def callX (cx : Cx) (q : Bool) (f : FuncId) (vs : List AV) (σ : Own) (K : AV → Own → Prop) : Prop :=
  match q with
  | false => CallVC cx.A cx.S f vs σ K
  | true => CallQ cx.A cx.S f vs σ fun v => K v σ

def opR (cx : Cx) (env : Env) (σ : Own) : SOp → (AV → Own → Prop) → Prop
  | .mv x, K => ev cx.gl env x fun v => K v σ
  | .pick c a b, K => ev cx.gl env c fun v => pickV v (ev cx.gl env a fun v => K v σ) (ev cx.gl env b fun v => K v σ)
  | .bin op x y, K => ev cx.gl env x fun a => ev cx.gl env y fun b => binR op a b fun v => K v σ
  | .beq neg x y, K => ev cx.gl env x fun a => ev cx.gl env y fun b => beqV neg a b fun v => K v σ
  | .isnil neg x, K => ev cx.gl env x fun a => nilV neg a fun v => K v σ
  | .un op x, K => ev cx.gl env x fun v => unV op v fun v => K v σ
  | .conv k x, K => ev cx.gl env x fun v => convV k v fun v => K v σ
  | .cstr x, K => ev cx.gl env x fun v => cstrV v fun v => K v σ
  | .bstr x, K => ev cx.gl env x fun y => srcR false 1 y σ fun ys n => ∃ bs : List UInt8, ys = bs.map (fun b => .w (.int .u8 b.toNat)) ∧ K (.w (.string ⟨bs.toArray⟩)) σ
  | .len x, K => ev cx.gl env x fun v => lenV v fun v => K v σ
  | .lens x, K => ev cx.gl env x fun v => lensV v fun v => K v σ
  | .ld agg size a, K => ev cx.gl env a fun v => ldV agg size σ v fun v => K v σ
  | .ix size x i, K => ev cx.gl env x fun a => ev cx.gl env i fun j => ixV size a j fun v => K v σ
  | .ixa n size x i, K => ev cx.gl env x fun a => ev cx.gl env i fun j => ixaV n size a j fun v => K v σ
  | .idx agg n size x i, K => ev cx.gl env x fun a => ev cx.gl env i fun j => idxV agg n size a j fun v => K v σ
  | .idxs x i, K => ev cx.gl env x fun a => ev cx.gl env i fun j => idxsV a j fun v => K v σ
  | .fa off x, K => ev cx.gl env x fun v => faV off v fun v => K v σ
  | .fld agg off size x, K => ev cx.gl env x fun v => fldV agg off size v fun v => K v σ
  | .st size a v, K => ev cx.gl env a fun p => ev cx.gl env v fun x => stV size σ p x fun σ' => K .any σ'
  | .stp size a v os, K => ev cx.gl env a fun p => ev cx.gl env v fun x => stV size σ p x fun σ' => apartV cx.gl env p os ∧ K .any σ'
  | .eqa neg ks x y, K => ev cx.gl env x fun a => ev cx.gl env y fun b => eqaV neg ks a b fun v => K v σ
  | .nilck x, K => ev cx.gl env x fun v => nilckV v fun v => K v σ
  | .call f args, K => evs cx.gl env args fun vs => CallVC cx.A cx.S f vs σ K
  | .callq f args, K => evs cx.gl env args fun vs => CallQ cx.A cx.S f vs σ fun v => K v σ
  | .callk f args, K => evs cx.gl env args fun vs => CallK cx.A cx.S f vs σ fun v => K v σ
  | .callf f args, K => evs cx.gl env args fun vs => CallF cx.A cx.S f vs fun v => K v σ
  | .ldp agg size a os, K => ev cx.gl env a fun v => apartF cx.gl env v os ∧ ldV agg size σ v fun v => K v σ
  | .calln f args, K => evs cx.gl env args fun vs => CallN cx.A cx.S f vs σ K
  | .callv q x args, K => ev cx.gl env x fun v => evs cx.gl env args fun vs => fnV v vs fun f vs => callX cx q f vs σ K
  | .mkf f first cap, K => evs cx.gl env first fun vs => evs cx.gl env cap fun ws => mkfV f vs ws fun v => K v σ
  | .ext x i, K => ev cx.gl env x fun v => extV v i fun v => K v σ
  | .mks size bytes zero len cap, K => ev cx.gl env len fun l => ev cx.gl env cap fun c => mksV size bytes zero l c σ K
  | .sl size x lo hi mx, K => ev cx.gl env x fun a => bnd cx.gl env 0 lo fun l => bnd cx.gl env (lenAV a) hi fun h => match mx with
    | none => slR a size l h none fun v => K v σ
    | some m => bnd cx.gl env 0 (some m) fun mv => slR a size l h (some mv) fun v => K v σ
  | .sls x lo hi, K => ev cx.gl env x fun v => slsV cx.gl env v lo hi fun v => K v σ
  | .box own size x, K => ev cx.gl env x fun v => match boxable v with
    | true => boxV own (avCells v) σ K
    | false => False
  | .alloc own size zero, K => boxV own (zero.map cAV) σ K
  | .build zero parts, K => lay cx.gl env parts (zero.map cAV) fun cs => K (.agg cs) σ
  | .bsl own size len zero parts, K => lay cx.gl env (parts.map fun p => (p.1 * size, size, p.2)) ((List.range (len * size)).map fun i => cAV (zero[i % zero.length]!)) fun cs => bslV own len cs σ K
  | .app str size bytes x y, K => ev cx.gl env x fun a => ev cx.gl env y fun b => srcR str size b σ fun ys n => appR size bytes a ys n σ K

inductive AEx where
  | normal
  | exit (id : Nat)
  | ret

def putO (env : Env) (d : Option Nat) (v : AV) : Env := match d with
  | some d => (d, v) :: env
  | none => env

def opsR (cx : Cx) : List SI → (Env → Own → Prop) → Env → Own → Prop
  | [], K, env, σ => K env σ
  | i :: l, K, env, σ =>
    match i.guard with
    | none => opR cx env σ i.op fun v σ' => match i.d with
      | some d => opsR cx l K ((d, v) :: env) σ'
      | none => opsR cx l K env σ'
    | some (t, want) => look env t fun
      | .w (.bool b) => (b = want → opR cx env σ i.op fun v σ' => match i.d with
          | some d => opsR cx l K ((d, v) :: env) σ'
          | none => opsR cx l K env σ') ∧ (b = !want → match i.d with
          | some d => opsR cx l K ((d, .w (.tuple #[])) :: env) σ
          | none => opsR cx l K env σ)
      | .w (.tuple _) => match i.d with
        | some d => opsR cx l K ((d, .w (.tuple #[])) :: env) σ
        | none => opsR cx l K env σ
      | _ => False

/-- what a guard has told already -/
def findB : List (Nat × Bool) → Nat → Option Bool
  | [], _ => none
  | (i, b) :: r, t => match Nat.beq i t with | true => some b | false => findB r t
def dropB : List (Nat × Bool) → Nat → List (Nat × Bool)
  | [], _ => []
  | (i, b) :: r, t => match Nat.beq i t with | true => dropB r t | false => (i, b) :: dropB r t
def dropO (γ : List (Nat × Bool)) : Option Nat → List (Nat × Bool)
  | none => γ
  | some d => dropB γ d

def opG (cx : Cx) (γ : List (Nat × Bool)) (env : Env) (σ : Own) (s : SOp) (K : AV → Own → Prop) : Prop :=
  match s with
  | .pick (.t t) a b => match findB γ t with
    | some true => ev cx.gl env a fun v => K v σ
    | some false => ev cx.gl env b fun v => K v σ
    | none => opR cx env σ (.pick (.t t) a b) K
  | s => opR cx env σ s K

/-- the operations of a region, guards asked once -/
def opsG (cx : Cx) : List SI → List (Nat × Bool) → (Env → Own → Prop) → Env → Own → Prop
  | [], _, K, env, σ => K env σ
  | i :: l, γ, K, env, σ =>
    match i.guard with
    | none => opG cx γ env σ i.op fun v σ' => match i.d with
      | some d => opsG cx l (dropB γ d) K ((d, v) :: env) σ'
      | none => opsG cx l γ K env σ'
    | some (t, want) => match findB γ t with
      | some b => match b, want with
        | true, true => opG cx γ env σ i.op fun v σ' => match i.d with
          | some d => opsG cx l (dropB γ d) K ((d, v) :: env) σ'
          | none => opsG cx l γ K env σ'
        | false, false => opG cx γ env σ i.op fun v σ' => match i.d with
          | some d => opsG cx l (dropB γ d) K ((d, v) :: env) σ'
          | none => opsG cx l γ K env σ'
        | _, _ => match i.d with
          | some d => opsG cx l (dropB γ d) K ((d, .w (.tuple #[])) :: env) σ
          | none => opsG cx l γ K env σ
      | none => look env t fun
        | .w (.bool b) => (b = want → opG cx ((t, want) :: γ) env σ i.op fun v σ' => match i.d with
            | some d => opsG cx l (dropB ((t, want) :: γ) d) K ((d, v) :: env) σ'
            | none => opsG cx l ((t, want) :: γ) K env σ') ∧ (b = !want → match i.d with
            | some d => opsG cx l (dropB ((t, !want) :: γ) d) K ((d, .w (.tuple #[])) :: env) σ
            | none => opsG cx l ((t, !want) :: γ) K env σ)
        | .w (.tuple _) => match i.d with
          | some d => opsG cx l (dropB γ d) K ((d, .w (.tuple #[])) :: env) σ
          | none => opsG cx l γ K env σ
        | _ => False

def keepR (env : Env) : List Nat → Env → (Env → Prop) → Prop
  | [], acc, K => K acc
  | i :: r, acc, K => look env i fun v => keepR env r ((i, v) :: acc) K

def keepE (env : Env) : List Nat → Env → Env
  | [], acc => acc
  | i :: r, acc => keepE env r ((i, find env i) :: acc)

theorem keepR_eq (env : Env) : ∀ (l : List Nat) (acc : Env) (K : Env → Prop), keepR env l acc K = K (keepE env l acc)
  | [], _, _ => rfl
  | i :: r, acc, K => by simp only [keepR, keepE, look_eq]; exact keepR_eq env r _ K

/-- What is known, said otherwise. -/
structure Wk (S : List AV → Own → List AV → Own → Prop) (env : Env) (σ : Own) (J : Env → Own → Prop) : Prop where
  out : ∃ env' σ', env'.map (·.1) = env.map (·.1) ∧ (env.map (·.1)).Nodup ∧ S (env.map (·.2)) σ (env'.map (·.2)) σ' ∧ J env' σ'

structure LoopVC (S : List AV → Own → List AV → Own → Prop) (B : (AEx → Env → Own → Prop) → Env → Own → Prop) (keep : List Nat) (Q : AEx → Env → Own → Prop) (env : Env) (σ : Own) : Prop where
  out : ∃ (I : Nat → Env → Own → Prop), Wk S env σ (fun env' σ' => ∃ m, I m env' σ') ∧ ∀ m env σ, I m env σ → B (fun e env' σ' => match e with
    | .normal => keepR env' keep [] fun env'' => Wk S env'' σ' fun env3 σ3 => ∃ m', m' < m ∧ I m' env3 σ3
    | e => Q e env' σ') env σ

def vc (cx : Cx) : SC → (AEx → Env → Own → Prop) → Env → Own → Prop
  | .skip, Q, env, σ => Q .normal env σ
  | .region ops keep, Q, env, σ => opsG cx ops [] (fun env' σ' => keepR env' keep [] fun env'' => Q .normal env'' σ') env σ
  | .says, Q, env, σ => Wk cx.S env σ fun env' σ' => Q .normal env' σ'
  | .drawn _ ops keep, Q, env, σ => opsG cx ops [] (fun env' σ' => keepR env' keep [] fun env'' => Q .normal env'' σ') env σ
  | .seq a b, Q, env, σ => vc cx a (fun e env' σ' => match e with
    | .normal => vc cx b Q env' σ'
    | e => Q e env' σ') env σ
  | .cond c x y, Q, env, σ => ev cx.gl env c fun
    | .w (.bool b) => (b = true → vc cx x Q env σ) ∧ (b = false → vc cx y Q env σ)
    | _ => False
  | .block id keep c, Q, env, σ => vc cx c (fun e env' σ' => match e with
    | .exit id' => match Nat.beq id' id with
      | true => keepR env' keep [] fun env'' => Q .normal env'' σ'
      | false => Q (.exit id') env' σ'
    | .normal => keepR env' keep [] fun env'' => Q .normal env'' σ'
    | .ret => Q .ret env' σ') env σ
  | .loop keep c, Q, env, σ => keepR env keep [] fun env' => LoopVC cx.S (vc cx c) keep Q env' σ
  | .exit id, Q, env, σ => Q (.exit id) env σ
  | .ret, Q, env, σ => Q .ret env σ
  | .dead, Q, env, σ => False

end Go.Ab
/-! The plain machine's values, read in memory; what stays from step to step. -/
namespace Go.Ab
set_option linter.unusedVariables false

inductive VR (I : Nat → Prop) (w : World) : AV → Value → Prop
  | w (v : Value) : VR I w (.w v) v
  | any (v : Value) : VR I w .any v
  | fs (xs : List AV) (n : Nat) (a : Addr) (c : Nat) (cv : Nat → Value) (hn : n ≤ c)
      (hc : ∀ i, i < xs.length → I a.block ∧ w.cell? (a.add i) = some (cv i)) (h : ∀ i (hi : i < xs.length), VR I w (xs[i]) (cv i)) : VR I w (.fs xs n) (.slice (some a) n c)
  | fs0 : VR I w (.fs [] 0) (.slice none 0 0)
  | ff (xs : List AV) (n : Nat) (a : Addr) (cv : Nat → Value)
      (hc : ∀ i, i < xs.length → I a.block ∧ w.cell? (a.add i) = some (cv i)) (h : ∀ i (hi : i < xs.length), VR I w (xs[i]) (cv i)) : VR I w (.ff xs n) (.slice (some a) n n)
  | ff0 : VR I w (.ff [] 0) (.slice none 0 0)
  | fp (xs : List AV) (a : Addr) (cv : Nat → Value)
      (hc : ∀ i, i < xs.length → I a.block ∧ w.cell? (a.add i) = some (cv i)) (h : ∀ i (hi : i < xs.length), VR I w (xs[i]) (cv i)) : VR I w (.fp xs) (.pointer (some a))
  | agg (xs : List AV) (cs : Array Value) (hl : cs.size = xs.length) (h : ∀ i (hi : i < xs.length), VR I w (xs[i]) (cs.getD i undef)) : VR I w (.agg xs) (.agg cs)
  | tup (xs : List AV) (cs : Array Value) (hl : cs.size = xs.length) (h : ∀ i (hi : i < xs.length), VR I w (xs[i]) (cs.getD i undef)) : VR I w (.tup xs) (.tuple cs)
  | ifc (t : TypeId) (x : AV) (v : Value) (h : VR I w x v) : VR I w (.ifc t x) (.iface t v)
  | fn (f : Fn) (xs ys : List AV) (cs ds : Array Value) (hl : cs.size = xs.length) (h : ∀ i (hi : i < xs.length), VR I w (xs[i]) (cs.getD i undef))
      (kl : ds.size = ys.length) (k : ∀ i (hi : i < ys.length), VR I w (ys[i]) (ds.getD i undef)) : VR I w (.fn f xs ys) (.func f cs ds)

/-- A row of values against a row of plain ones. -/
def VRs (I : Nat → Prop) (w : World) (xs : List AV) (cs : List Value) : Prop :=
  cs.length = xs.length ∧ ∀ i (hi : i < xs.length), VR I w (xs[i]) (cs.getD i undef)

/-- Cells behind an address against plain ones. -/
def VRa (I : Nat → Prop) (w : World) (xs : List AV) (a : Addr) : Prop :=
  ∀ i (hi : i < xs.length), I a.block ∧ ∃ v, w.cell? (a.add i) = some v ∧ VR I w (xs[i]) v

theorem add_block (a : Addr) (n : Nat) : (a.add n).block = a.block := by unfold Addr.add; split <;> rfl
theorem add_add (a : Addr) (i j : Nat) : (a.add i).add j = a.add (i + j) := by
  unfold Addr.add
  by_cases hi : i = 0 <;> by_cases hj : j = 0 <;> simp [hi, hj, Nat.add_assoc]
theorem add_lit (b o n : Nat) : (⟨b, o, none⟩ : Addr).add n = ⟨b, o + n, none⟩ := by unfold Addr.add; split <;> simp_all

theorem cell_of_block {w w' : World} {a : Addr} (h : w'.heap[a.block]? = w.heap[a.block]?) : w'.cell? a = w.cell? a := by
  unfold World.cell?; rw [h]

theorem VR.mono {I I' : Nat → Prop} {w w' : World} (H : ∀ b, I b → I' b ∧ w'.heap[b]? = w.heap[b]?) {x : AV} {v : Value} (h : VR I w x v) : VR I' w' x v := by
  induction h with
  | w v => exact .w v
  | any v => exact .any v
  | fs xs n a c cv hn hc h ih => exact .fs xs n a c cv hn (fun i hi => ⟨(H _ (hc i hi).1).1, by rw [cell_of_block (w := w)]; exact (hc i hi).2; rw [add_block]; exact (H _ (hc i hi).1).2⟩) ih
  | fs0 => exact .fs0
  | ff xs n a cv hc h ih => exact .ff xs n a cv (fun i hi => ⟨(H _ (hc i hi).1).1, by rw [cell_of_block (w := w)]; exact (hc i hi).2; rw [add_block]; exact (H _ (hc i hi).1).2⟩) ih
  | ff0 => exact .ff0
  | fp xs a cv hc h ih => exact .fp xs a cv (fun i hi => ⟨(H _ (hc i hi).1).1, by rw [cell_of_block (w := w)]; exact (hc i hi).2; rw [add_block]; exact (H _ (hc i hi).1).2⟩) ih
  | agg xs cs hl h ih => exact .agg xs cs hl ih
  | tup xs cs hl h ih => exact .tup xs cs hl ih
  | ifc t x v h ih => exact .ifc t x v ih
  | fn f xs ys cs ds hl h kl k ih ik => exact .fn f xs ys cs ds hl ih kl ik

theorem VRs.mono {I I' : Nat → Prop} {w w' : World} (H : ∀ b, I b → I' b ∧ w'.heap[b]? = w.heap[b]?) {xs : List AV} {cs : List Value} (h : VRs I w xs cs) : VRs I' w' xs cs :=
  ⟨h.1, fun i hi => (h.2 i hi).mono H⟩

theorem VRs.nil {I : Nat → Prop} {w : World} : VRs I w [] [] := ⟨rfl, fun i hi => by simp at hi⟩
theorem VRs.cons {I : Nat → Prop} {w : World} {x : AV} {v : Value} {xs : List AV} {cs : List Value} (h : VR I w x v) (hs : VRs I w xs cs) : VRs I w (x :: xs) (v :: cs) :=
  ⟨by simp [hs.1], fun i hi => by
    cases i with
    | zero => exact h
    | succ i => exact hs.2 i (by simpa using hi)⟩
theorem VRs.head {I : Nat → Prop} {w : World} {x : AV} {xs : List AV} {cs : List Value} (h : VRs I w (x :: xs) cs) : ∃ v vs, cs = v :: vs ∧ VR I w x v ∧ VRs I w xs vs := by
  obtain ⟨hl, h⟩ := h
  cases cs with
  | nil => simp at hl
  | cons v vs => exact ⟨v, vs, rfl, h 0 (by simp), by simpa using hl, fun i hi => h (i + 1) (by simpa using hi)⟩
theorem VRs.nil_inv {I : Nat → Prop} {w : World} {cs : List Value} (h : VRs I w [] cs) : cs = [] := by
  have := h.1; simpa using this
theorem VRs.append {I : Nat → Prop} {w : World} : ∀ {xs : List AV} {cs : List Value} {ys : List AV} {ds : List Value}, VRs I w xs cs → VRs I w ys ds → VRs I w (xs ++ ys) (cs ++ ds)
  | [], cs, ys, ds, h, k => by rw [h.nil_inv]; exact k
  | x :: xs, cs, ys, ds, h, k => by
    obtain ⟨v, vs, rfl, hv, hs⟩ := h.head
    exact .cons hv (VRs.append hs k)
theorem VRs.take {I : Nat → Prop} {w : World} {xs : List AV} {cs : List Value} (h : VRs I w xs cs) (n : Nat) : VRs I w (xs.take n) (cs.take n) :=
  ⟨by simp [h.1], fun i hi => by
    have hi' : i < n ∧ i < xs.length := by simp at hi; omega
    have := h.2 i hi'.2
    rw [List.getElem_take]
    simpa [List.getD, hi'.1] using this⟩
theorem VRs.drop {I : Nat → Prop} {w : World} {xs : List AV} {cs : List Value} (h : VRs I w xs cs) (n : Nat) : VRs I w (xs.drop n) (cs.drop n) :=
  ⟨by simp [h.1], fun i hi => by
    have hi' : n + i < xs.length := by simp at hi; omega
    have := h.2 (n + i) hi'
    rw [List.getElem_drop]
    simpa [List.getD] using this⟩
theorem VRs.get {I : Nat → Prop} {w : World} {xs : List AV} {cs : List Value} (h : VRs I w xs cs) {i : Nat} {x : AV} (hx : xs[i]? = some x) : ∃ v, cs[i]? = some v ∧ VR I w x v := by
  obtain ⟨hi, rfl⟩ := List.getElem?_eq_some_iff.1 hx
  have := h.2 i hi
  have hi' : i < cs.length := by rw [h.1]; exact hi
  refine ⟨cs[i], by simp [hi'], ?_⟩
  simpa [List.getD, hi'] using this
theorem VRs.arr {I : Nat → Prop} {w : World} {xs : List AV} {cs : Array Value} (h : VRs I w xs cs.toList) : cs.size = xs.length ∧ ∀ i (hi : i < xs.length), VR I w (xs[i]) (cs.getD i undef) := by
  refine ⟨by simpa using h.1, fun i hi => ?_⟩
  have := h.2 i hi
  simpa [List.getD, Array.getD_eq_getD_getElem?] using this
theorem VRs.of_arr {I : Nat → Prop} {w : World} {xs : List AV} {cs : Array Value} (hl : cs.size = xs.length) (h : ∀ i (hi : i < xs.length), VR I w (xs[i]) (cs.getD i undef)) : VRs I w xs cs.toList := by
  refine ⟨by simpa using hl, fun i hi => ?_⟩
  have := h i hi
  simpa [List.getD, Array.getD_eq_getD_getElem?] using this

theorem VRa.drop {I : Nat → Prop} {w : World} {xs : List AV} {a : Addr} (h : VRa I w xs a) (n : Nat) : VRa I w (xs.drop n) (a.add n) := by
  intro i hi
  obtain ⟨hI, v, hc, hv⟩ := h (n + i) (by simp at hi; omega)
  exact ⟨by rw [add_block]; exact hI, v, by rw [add_add]; exact hc, by rw [List.getElem_drop]; exact hv⟩
theorem VRa.take {I : Nat → Prop} {w : World} {xs : List AV} {a : Addr} (h : VRa I w xs a) (n : Nat) : VRa I w (xs.take n) a := by
  intro i hi
  obtain ⟨hI, v, hc, hv⟩ := h i (by simp at hi; omega)
  exact ⟨hI, v, hc, by rw [List.getElem_take]; exact hv⟩
theorem VRa.of {I : Nat → Prop} {w : World} {xs : List AV} {a : Addr} {cv : Nat → Value} (hc : ∀ i, i < xs.length → I a.block ∧ w.cell? (a.add i) = some (cv i))
    (h : ∀ i (hi : i < xs.length), VR I w (xs[i]) (cv i)) : VRa I w xs a := fun i hi => ⟨(hc i hi).1, cv i, (hc i hi).2, h i hi⟩
theorem VRa.cv {I : Nat → Prop} {w : World} {xs : List AV} {a : Addr} (h : VRa I w xs a) : ∃ cv : Nat → Value, (∀ i, i < xs.length → I a.block ∧ w.cell? (a.add i) = some (cv i)) ∧ ∀ i (hi : i < xs.length), VR I w (xs[i]) (cv i) := by
  refine ⟨fun i => (w.cell? (a.add i)).getD undef, fun i hi => ?_, fun i hi => ?_⟩
  · obtain ⟨hI, v, hc, hv⟩ := h i hi
    exact ⟨hI, by simp [hc]⟩
  · obtain ⟨hI, v, hc, hv⟩ := h i hi
    simpa [hc] using hv
theorem VR.mk_fs {I : Nat → Prop} {w : World} {xs : List AV} {n : Nat} {a : Addr} {c : Nat} (hn : n ≤ c) (h : VRa I w xs a) : VR I w (.fs xs n) (.slice (some a) n c) := by
  obtain ⟨cv, h1, h2⟩ := h.cv; exact .fs xs n a c cv hn h1 h2
theorem VR.mk_ff {I : Nat → Prop} {w : World} {xs : List AV} {n : Nat} {a : Addr} (h : VRa I w xs a) : VR I w (.ff xs n) (.slice (some a) n n) := by
  obtain ⟨cv, h1, h2⟩ := h.cv; exact .ff xs n a cv h1 h2
theorem VR.mk_fp {I : Nat → Prop} {w : World} {xs : List AV} {a : Addr} (h : VRa I w xs a) : VR I w (.fp xs) (.pointer (some a)) := by
  obtain ⟨cv, h1, h2⟩ := h.cv; exact .fp xs a cv h1 h2
theorem VR.mk_agg {I : Nat → Prop} {w : World} {xs : List AV} {cs : Array Value} (h : VRs I w xs cs.toList) : VR I w (.agg xs) (.agg cs) := .agg xs cs h.arr.1 h.arr.2
theorem VR.mk_tup {I : Nat → Prop} {w : World} {xs : List AV} {cs : Array Value} (h : VRs I w xs cs.toList) : VR I w (.tup xs) (.tuple cs) := .tup xs cs h.arr.1 h.arr.2

/-- What memory holds: the call's own blocks as said, the package's variables that are known. -/
def Im (σ : Own) (w : World) : Nat → Prop := fun b => b < w.heap.size ∧ σ b = none

structure Rel (gl : Nat → Option (List AV)) (σ : Own) (w : World) : Prop where
  own : ∀ b ob, σ b = some ob → ∃ cs T, w.heap[b]? = some (.cells cs T (0, 0)) ∧ cs.size = ob.cap ∧ ob.xs.length ≤ ob.cap ∧ VRs (Im σ w) w ob.xs (cs.toList.take ob.xs.length)
  glo : ∀ b xs, gl b = some xs → VRa (Im σ w) w xs ⟨b, 0, none⟩

/-- From one moment to a later one: what was no own block is as it was, and is none now. -/
structure Stays (σ : Own) (w : World) (σ' : Own) (w' : World) : Prop where
  size : w.heap.size ≤ w'.heap.size
  im : ∀ b, b < w.heap.size → σ b = none → σ' b = none ∧ w'.heap[b]? = w.heap[b]?
  os : w'.os = w.os
  tape : w'.tape = w.tape
  output : w'.output = w.output

theorem Stays.refl (σ : Own) (w : World) : Stays σ w σ w := ⟨Nat.le_refl _, fun _ _ h => ⟨h, rfl⟩, rfl, rfl, rfl⟩
theorem Stays.trans {σ σ' σ'' : Own} {w w' w'' : World} (h : Stays σ w σ' w') (k : Stays σ' w' σ'' w'') : Stays σ w σ'' w'' :=
  ⟨Nat.le_trans h.size k.size, fun b hb hn => by
    obtain ⟨h1, h2⟩ := h.im b hb hn
    obtain ⟨k1, k2⟩ := k.im b (Nat.lt_of_lt_of_le hb h.size) h1
    exact ⟨k1, k2.trans h2⟩, k.os.trans h.os, k.tape.trans h.tape, k.output.trans h.output⟩
theorem Stays.I {σ σ' : Own} {w w' : World} (h : Stays σ w σ' w') : ∀ b, Im σ w b → Im σ' w' b ∧ w'.heap[b]? = w.heap[b]? :=
  fun b hb => ⟨⟨Nat.lt_of_lt_of_le hb.1 h.size, (h.im b hb.1 hb.2).1⟩, (h.im b hb.1 hb.2).2⟩
theorem Stays.vr {σ σ' : Own} {w w' : World} (h : Stays σ w σ' w') {x : AV} {v : Value} (k : VR (Im σ w) w x v) : VR (Im σ' w') w' x v := k.mono h.I
theorem VRa.mono {I I' : Nat → Prop} {w w' : World} (H : ∀ b, I b → I' b ∧ w'.heap[b]? = w.heap[b]?) {xs : List AV} {a : Addr} (h : VRa I w xs a) : VRa I' w' xs a := by
  intro i hi
  obtain ⟨hI, v, hc, hv⟩ := h i hi
  exact ⟨(H _ hI).1, v, by rw [cell_of_block (w := w)]; exact hc; rw [add_block]; exact (H _ hI).2, hv.mono H⟩

theorem Rel.lt {gl : Nat → Option (List AV)} {σ : Own} {w : World} (h : Rel gl σ w) {b : Nat} {ob : Ob} (hb : σ b = some ob) : b < w.heap.size := by
  obtain ⟨cs, T, h1, _⟩ := h.own b ob hb
  exact (Array.getElem?_eq_some_iff.1 h1).1
theorem Rel.fresh {gl : Nat → Option (List AV)} {σ : Own} {w : World} (h : Rel gl σ w) : σ w.heap.size = none := by
  cases hb : σ w.heap.size with
  | none => rfl
  | some ob => exact absurd (h.lt hb) (Nat.lt_irrefl _)

/-- A draw. -/
theorem Stays.drew (σ : Own) (w : World) (n : Nat) : Stays σ w σ { w with drawn := n } := ⟨Nat.le_refl _, fun _ _ h => ⟨h, rfl⟩, rfl, rfl, rfl⟩

/-- Another world with the same own blocks, more immutable ones. -/
theorem Rel.stay {gl : Nat → Option (List AV)} {σ : Own} {w w' : World} (h : Rel gl σ w) (hs : Stays σ w σ w') (ho : ∀ b ob, σ b = some ob → w'.heap[b]? = w.heap[b]?) : Rel gl σ w' :=
  ⟨fun b ob hb => by
    obtain ⟨cs, T, h1, h2, h3, h4⟩ := h.own b ob hb
    exact ⟨cs, T, by rw [ho b ob hb, h1], h2, h3, h4.mono hs.I⟩, fun b xs hb => (h.glo b xs hb).mono hs.I⟩

/-- New memory that nobody writes. -/
theorem stays_new (σ : Own) (w : World) (o : Obj) : Stays σ w σ (w.alloc o) :=
  ⟨by rw [World.size_alloc]; omega, fun b hb hn => ⟨hn, Go.RowKit.Below.heap_alloc w o b hb⟩, rfl, rfl, rfl⟩
theorem rel_new {gl : Nat → Option (List AV)} {σ : Own} {w : World} (h : Rel gl σ w) (o : Obj) : Rel gl σ (w.alloc o) :=
  h.stay (stays_new σ w o) fun b ob hb => Go.RowKit.Below.heap_alloc w o b (h.lt hb)

/-- New memory of the call's own. -/
theorem rel_own {gl : Nat → Option (List AV)} {σ : Own} {w : World} (h : Rel gl σ w) {ob : Ob} {cs : Array Value} {T : TypeId} (hc : cs.size = ob.cap) (hl : ob.xs.length ≤ ob.cap)
    (hv : VRs (Im σ w) w ob.xs (cs.toList.take ob.xs.length)) :
    Rel gl (upd σ w.heap.size ob) (w.alloc (.cells cs T)) ∧ Stays σ w (upd σ w.heap.size ob) (w.alloc (.cells cs T)) := by
  have hs : Stays σ w (upd σ w.heap.size ob) (w.alloc (.cells cs T)) := by
    refine ⟨by rw [World.size_alloc]; omega, fun b hb hn => ⟨?_, Go.RowKit.Below.heap_alloc w _ b hb⟩, rfl, rfl, rfl⟩
    unfold upd
    rw [if_neg (by omega)]
    exact hn
  refine ⟨⟨fun b ob' hb => ?_, fun b xs hb => (h.glo b xs hb).mono hs.I⟩, hs⟩
  by_cases e : b = w.heap.size
  · subst e
    have : ob = ob' := by simpa [upd] using hb
    subst this
    exact ⟨cs, T, by show (w.heap.push _)[w.heap.size]? = _; simp, hc, hl, hv.mono hs.I⟩
  · have hb' : σ b = some ob' := by simpa [upd, e] using hb
    obtain ⟨cs', T', h1, h2, h3, h4⟩ := h.own b ob' hb'
    exact ⟨cs', T', (Go.RowKit.Below.heap_alloc w _ b (h.lt hb')).trans h1, h2, h3, h4.mono hs.I⟩

/-- A row of the call's own, written. -/
theorem rel_set {gl : Nat → Option (List AV)} {σ : Own} {w : World} (h : Rel gl σ w) {b : Nat} {ob ob' : Ob} (hb : σ b = some ob) {cs cs' : Array Value} {T : TypeId}
    (hw : w.heap[b]? = some (.cells cs T (0, 0))) (hc : cs'.size = ob'.cap) (hl : ob'.xs.length ≤ ob'.cap) (hv : VRs (Im σ w) w ob'.xs (cs'.toList.take ob'.xs.length)) :
    Rel gl (upd σ b ob') (w.setRow b cs') ∧ Stays σ w (upd σ b ob') (w.setRow b cs') := by
  have hs : Stays σ w (upd σ b ob') (w.setRow b cs') := by
    refine ⟨by simp, fun k hk hn => ?_, rfl, rfl, rfl⟩
    have hkb : k ≠ b := by rintro rfl; rw [hb] at hn; cases hn
    exact ⟨by simp [upd, hkb, hn], setRow_other w b k cs' hkb⟩
  refine ⟨⟨fun k obk hk => ?_, fun k xs hk => (h.glo k xs hk).mono hs.I⟩, hs⟩
  by_cases e : k = b
  · subst e
    have : ob' = obk := by simpa [upd] using hk
    subst this
    exact ⟨cs', T, setRow_heap w k cs cs' T (0, 0) hw, hc, hl, hv.mono hs.I⟩
  · have hk' : σ k = some obk := by simpa [upd, e] using hk
    obtain ⟨ck, Tk, h1, h2, h3, h4⟩ := h.own k obk hk'
    exact ⟨ck, Tk, (setRow_other w b k cs' e).trans h1, h2, h3, h4.mono hs.I⟩

structure EnvR (N : Nat) (σ : Own) (w : World) (env : Env) (a : Act) : Prop where
  defers : a.defers = []
  size : a.tmps.size = N
  val : ∀ i, VR (Im σ w) w (find env i) (a.tmps.getD i undef)

theorem EnvR.stay {N : Nat} {σ σ' : Own} {w w' : World} {env : Env} {a : Act} (h : EnvR N σ w env a) (hs : Stays σ w σ' w') : EnvR N σ' w' env a :=
  ⟨h.defers, h.size, fun i => hs.vr (h.val i)⟩
theorem find_cons (env : Env) (d i : Nat) (v : AV) : find ((d, v) :: env) i = if d = i then v else find env i := by
  simp only [find]
  by_cases h : d = i
  · simp [h]
  · rw [if_neg h]
    have : Nat.beq d i = false := by
      cases hb : Nat.beq d i with
      | true => exact absurd (Nat.eq_of_beq_eq_true hb) h
      | false => rfl
    rw [this]
theorem EnvR.put {N : Nat} {σ : Own} {w : World} {env : Env} {a : Act} (h : EnvR N σ w env a) {d : Nat} (hd : d < N) {x : AV} {v : Value} (hv : VR (Im σ w) w x v) :
    EnvR N σ w ((d, x) :: env) (a.put (some d) v) := by
  refine ⟨h.defers, by simp [Act.put, h.size], fun i => ?_⟩
  rw [find_cons]
  by_cases e : d = i
  · subst e
    have : d < a.tmps.size := by rw [h.size]; exact hd
    simpa [Act.put, Array.getD_eq_getD_getElem?, this] using hv
  · rw [if_neg e]
    have := h.val i
    simpa [Act.put, Array.getD_eq_getD_getElem?, Array.getElem?_setIfInBounds, e] using this
theorem keepE_find : ∀ (l : List Nat) (env acc : Env) (i : Nat), find (keepE env l acc) i = find env i ∨ find (keepE env l acc) i = find acc i
  | [], env, acc, i => .inr rfl
  | k :: r, env, acc, i => by
    rcases keepE_find r env ((k, find env k) :: acc) i with h | h
    · exact .inl h
    · rw [find_cons] at h
      by_cases e : k = i
      · subst e; rw [if_pos rfl] at h; exact .inl h
      · rw [if_neg e] at h; exact .inr h
theorem EnvR.keep {N : Nat} {σ : Own} {w : World} {env : Env} {a : Act} (h : EnvR N σ w env a) (l : List Nat) : EnvR N σ w (keepE env l []) a := by
  refine ⟨h.defers, h.size, fun i => ?_⟩
  rcases keepE_find l env [] i with k | k
  · rw [k]; exact h.val i
  · rw [k]; exact .any _

def cOpd : Operand → Opd
  | .tmp t => .t t
  | .const v => .c v
  | .global g => .g g
  | .func f => .f f

theorem cAV_vr {I : Nat → Prop} {w : World} (v : Value) : VR I w (cAV v) v := by
  cases v <;> first
    | exact .w _
    | exact .any _
    | (rename_i cs
       refine .mk_agg ⟨by simp, fun i hi => ?_⟩
       have hi' : i < cs.toList.length := by simpa using hi
       rw [List.getElem_map]
       have : cs.toList.getD i undef = cs.toList[i] := by rw [List.getD_eq_getElem?_getD, List.getElem?_eq_getElem hi']; rfl
       rw [this]
       exact .w _)

theorem opd_vr {gl : Nat → Option (List AV)} {N : Nat} {σ : Own} {w : World} {env : Env} {a : Act} (hr : Rel gl σ w) (h : EnvR N σ w env a) (o : Operand) :
    VR (Im σ w) w (opdAV gl env (cOpd o)) (a.eval o) := by
  cases o with
  | tmp t => exact h.val t
  | const v => exact cAV_vr v
  | global g =>
    simp only [cOpd, opdAV, Act.eval]
    cases hg : gl g with
    | none => exact .w _
    | some xs => exact .mk_fp (hr.glo g xs hg)
  | func f => exact .w _

theorem opds_vr {gl : Nat → Option (List AV)} {N : Nat} {σ : Own} {w : World} {env : Env} {a : Act} (hr : Rel gl σ w) (h : EnvR N σ w env a) : ∀ (l : List Operand),
    VRs (Im σ w) w (l.map fun o => opdAV gl env (cOpd o)) (l.map a.eval)
  | [] => .nil
  | o :: r => .cons (opd_vr hr h o) (opds_vr hr h r)

/-- What becomes of one operation. -/
def OpOut (P : Program) (r : Result Next) (Post : Value → World → Prop) : Prop :=
  match r with
  | .ok (.value v) w' => Post v w'
  | .ok .skip w' => Post undef w'
  | .ok (.enter f args) w' => Calls P f args w' fun e w'' => ∃ v, e = .returned v ∧ Post v w''
  | .ok (.row row args) w' => Rows P row args w' Post
  | _ => False

theorem OpOut.mono {P : Program} {r : Result Next} {Post Post' : Value → World → Prop} (h : OpOut P r Post) (k : ∀ v w, Post v w → Post' v w) : OpOut P r Post' := by
  unfold OpOut at *
  split at h
  · exact k _ _ h
  · exact k _ _ h
  · exact Calls.mono h fun e w ⟨v, h1, h2⟩ => ⟨v, h1, k _ _ h2⟩
  · exact Rows.mono h fun v w q => k _ _ q
  · exact h.elim

/-- A function upon plain values: in whatever memory they are read. -/
def ACalls (P : Program) (gl : Nat → Option (List AV)) (f : FuncId) (args : List AV) (σ : Own) (R : AV → Own → Prop) : Prop :=
  ∀ (w : World) (cargs : Array Value), Rel gl σ w → VRs (Im σ w) w args cargs.toList →
    OpOut P ((callFunc f cargs).run P w) fun cv w' => ∃ v σ', R v σ' ∧ Rel gl σ' w' ∧ Stays σ w σ' w' ∧ VR (Im σ' w') w' v cv

/-- Values and own memory, said otherwise. -/
def Says (gl : Nat → Option (List AV)) (vs : List AV) (σ : Own) (vs' : List AV) (σ' : Own) : Prop :=
  ∀ (w : World) (cs : List Value), Rel gl σ w → VRs (Im σ w) w vs cs → Rel gl σ' w ∧ (∀ b, σ b = none → σ' b = none) ∧ VRs (Im σ' w) w vs' cs

def cx (P : Program) (gl : Nat → Option (List AV)) : Cx := ⟨ACalls P gl, Says gl, gl⟩

theorem ACalls.mono {P : Program} {gl : Nat → Option (List AV)} {f : FuncId} {args : List AV} {σ : Own} {R R' : AV → Own → Prop} (h : ACalls P gl f args σ R) (k : ∀ v σ', R v σ' → R' v σ') : ACalls P gl f args σ R' :=
  fun w cargs hr hv => (h w cargs hr hv).mono fun cv w' ⟨v, σ', h1, h2, h3, h4⟩ => ⟨v, σ', k _ _ h1, h2, h3, h4⟩

theorem stays_says {σ σ' : Own} {w : World} (h : ∀ b, σ b = none → σ' b = none) : Stays σ w σ' w := ⟨Nat.le_refl _, fun b _ hn => ⟨h b hn, rfl⟩, rfl, rfl, rfl⟩

end Go.Ab
/-! From the model's operations to the plain machine's; each operation's soundness. -/
namespace Go.Ab
set_option linter.unusedVariables false

def szOf (P : Program) (t : TypeId) : Option Nat := (P.info? t).map (·.size)
def aggT (P : Program) (t : TypeId) : Option Bool :=
  match P.underlying t with
  | none => none
  | some (.struct _) => some true
  | some (.array _ _) => some true
  | some _ => some false
def zeroOf (P : Program) (t : TypeId) : Option (List Value) := (P.info? t).bind fun i => i.zero.map fun v => v.cells.toList
def ownOf : SOp → Bool
  | .box o _ _ => o
  | .alloc o _ _ => o
  | .bsl o _ _ _ _ => o
  | _ => false
def quietOf : SOp → Bool
  | .callq _ _ => true
  | .callv q _ _ => q
  | _ => false
def kindOf : SOp → Nat
  | .callq _ _ => 1
  | .callk _ _ => 2
  | .calln _ _ => 3
  | .callf _ _ => 4
  | _ => 0
def cOpt : Option Operand → Option Opd
  | none => none
  | some o => some (cOpd o)

/-- fields that lie one behind the other, each one cell that is compared by its kind -/
def eqKinds (P : Program) : List Field → Nat → Option (List EK)
  | [], _ => some []
  | f :: fs, i => match f.name != "_" && f.offset == i && szOf P f.type == some 1, P.underlying f.type, eqKinds P fs (i + 1) with
    | true, some (.int _), some l => some (.i :: l)
    | true, some .bool, some l => some (.b :: l)
    | true, some .string, some l => some (.s :: l)
    | _, _, _ => none
def eqaOk (P : Program) (t : TypeId) (fs : Array Field) : Option (List EK) := match !P.stoodInHeld t && !P.eqGuardType P.depth t with
  | true => eqKinds P fs.toList 0
  | false => none

/-- An operation's plain form. -/
def cOp (P : Program) (g : SOp) : Op → Option SOp
  | .move x => some (.mv (cOpd x))
  | .assign x => some (.mv (cOpd x))
  | .pick c a b => some (.pick (cOpd c) (cOpd a) (cOpd b))
  | .binOp op xt x y _ =>
    match op, P.underlying xt with
    | .eql, some .bool => some (.beq false (cOpd x) (cOpd y))
    | .neq, some .bool => some (.beq true (cOpd x) (cOpd y))
    | .eql, some (.slice _) => match y with
      | .const (.slice none 0 0) => some (.isnil false (cOpd x))
      | _ => none
    | .neq, some (.slice _) => match y with
      | .const (.slice none 0 0) => some (.isnil true (cOpd x))
      | _ => none
    | .eql, some (.struct fs) => match eqaOk P xt fs with
      | some ks => some (.eqa false ks (cOpd x) (cOpd y))
      | none => none
    | .neq, some (.struct fs) => match eqaOk P xt fs with
      | some ks => some (.eqa true ks (cOpd x) (cOpd y))
      | none => none
    | op, some (.int _) => some (.bin op (cOpd x) (cOpd y))
    | op, some .string => some (.bin op (cOpd x) (cOpd y))
    | _, _ => none
  | .unOp op _ x => some (.un op (cOpd x))
  | .convert src dst x =>
    match P.underlying src, P.underlying dst with
    | some (.int _), some (.int k) => some (.conv k (cOpd x))
    | some .string, some .string => some (.cstr (cOpd x))
    | some (.slice e), some .string => match P.underlying e with
      | some (.int .u8) => some (.bstr (cOpd x))
      | _ => none
    | _, _ => none
  | .load t a => match aggT P t, szOf P t with
    | some b, some n => match g with
      | .ldp _ _ _ os => some (.ldp b n (cOpd a) os)
      | _ => some (.ld b n (cOpd a))
    | _, _ => none
  | .store t a v => match szOf P t with
    | some n => match g with
      | .stp _ _ _ os => some (.stp n (cOpd a) (cOpd v) os)
      | _ => some (.st n (cOpd a) (cOpd v))
    | none => none
  | .indexAddr t x i => match P.underlying t with
    | some (.slice e) => match szOf P e with
      | some n => some (.ix n (cOpd x) (cOpd i))
      | none => none
    | some (.array l e) => match szOf P e with
      | some n => if 1 < l then some (.ixa l n (cOpd x) (cOpd i)) else none
      | none => none
    | _ => none
  | .index t x i => match P.underlying t with
    | some .string => some (.idxs (cOpd x) (cOpd i))
    | some (.array l e) => match aggT P e, szOf P e with
      | some b, some n => some (.idx b l n (cOpd x) (cOpd i))
      | _, _ => none
    | _ => none
  | .fieldAddr s x f => match P.underlying s with
    | some (.struct fs) => match fs[f]? with
      | some fd => match szOf P fd.type with
        | some (_ + 1) => some (.fa fd.offset (cOpd x))
        | _ => none
      | none => none
    | _ => none
  | .field s x f => match P.underlying s with
    | some (.struct fs) => match fs[f]? with
      | some fd => match aggT P fd.type, szOf P fd.type with
        | some b, some n => some (.fld b fd.offset n (cOpd x))
        | _, _ => none
      | none => none
    | _ => none
  | .slice t x lo hi mx => match P.underlying t with
    | some (.slice e) => match szOf P e with
      | some n => match mx, hi with
        | some _, none => none
        | _, _ => some (.sl n (cOpd x) (cOpt lo) (cOpt hi) (cOpt mx))
      | none => none
    | some .string => match mx with
      | none => some (.sls (cOpd x) (cOpt lo) (cOpt hi))
      | some _ => none
    | _ => none
  | .nilCheck x => some (.nilck (cOpd x))
  | .extract t i => some (.ext (cOpd t) i)
  | .makeFunc f first cap => some (.mkf f (first.toList.map cOpd) (cap.toList.map cOpd))
  | .makeSlice t l c => match P.underlying t with
    | some (.slice e) => match P.info? e with
      | some i => match i.zero with
        | some z => some (.mks i.size i.bytes z.cells.toList (cOpd l) (cOpd c))
        | none => none
      | none => none
    | _ => none
  | .call c => match c.callee with
    | .value (.func f) => match kindOf g with
      | 1 => some (.callq f (c.args.toList.map cOpd))
      | 2 => some (.callk f (c.args.toList.map cOpd))
      | 3 => some (.calln f (c.args.toList.map cOpd))
      | 4 => some (.callf f (c.args.toList.map cOpd))
      | _ => some (.call f (c.args.toList.map cOpd))
    | .value (.tmp t) => some (.callv (quietOf g) (.t t) (c.args.toList.map cOpd))
    | .builtin .len => match c.argTypes.toList, c.args.toList with
      | [t], [x] => match P.underlying t with
        | some (.slice _) => some (.len (cOpd x))
        | some .string => some (.lens (cOpd x))
        | _ => none
      | _, _ => none
    | .builtin .append => match c.argTypes.toList, c.args.toList with
      | [t, u], [x, y] => match P.underlying t with
        | some (.slice e) => match P.info? e with
          | some i => match i.zero, P.underlying u with
            | some z, some (.slice _) => if z.cells.size = i.size then some (.app false i.size i.bytes (cOpd x) (cOpd y)) else none
            | some z, some .string => if z.cells.size = i.size then some (.app true i.size i.bytes (cOpd x) (cOpd y)) else none
            | _, _ => none
          | none => none
        | _ => none
      | _, _ => none
    | _ => none
  | .box t x => match szOf P t with
    | some n => some (.box (ownOf g) n (cOpd x))
    | none => none
  | .alloc t => match szOf P t, zeroOf P t with
    | some n, some z => if z.length = n ∧ z.all (·.oneCell') then some (.alloc (ownOf g) n z) else none
    | _, _ => none
  | .build t parts => match P.underlying t, zeroOf P t with
    | some (.struct fs), some z => match parts.toList.mapM (fun p => match fs[p.1]? with
        | some fd => (szOf P fd.type).map fun n => (fd.offset, n, cOpd p.2)
        | none => none) with
      | some l => if fs.all (fun f => (szOf P f.type).isSome) then some (.build z l) else none
      | none => none
    | some (.array _ e), some z => match szOf P e with
      | some n => some (.build z (parts.toList.map fun p => (p.1 * n, n, cOpd p.2)))
      | none => none
    | _, _ => none
  | .buildSlice t len parts => match P.underlying t with
    | some (.slice e) => match szOf P e, zeroOf P e with
      | some n, some z => if len * n ≤ 16777216 ∧ 0 < z.length then some (.bsl (ownOf g) n len z (parts.toList.map fun p => (p.1, cOpd p.2))) else none
      | _, _ => none
    | _ => none
  | _ => none

variable {P : Program} {gl : Nat → Option (List AV)} {N : Nat} {σ : Own} {w : World} {env : Env} {a : Act}

/-- What an operation's soundness says. -/
def Sound (P : Program) (gl : Nat → Option (List AV)) (σ : Own) (w : World) (K : AV → Own → Prop) (cv : Value) (w' : World) : Prop :=
  ∃ v σ', K v σ' ∧ Rel gl σ' w' ∧ Stays σ w σ' w' ∧ VR (Im σ' w') w' v cv

theorem sound_pure {K : AV → Own → Prop} (hr : Rel gl σ w) {v : AV} {cv : Value} (h : K v σ) (hv : VR (Im σ w) w v cv) : Sound P gl σ w K cv w :=
  ⟨v, σ, h, hr, .refl _ _, hv⟩

theorem out_value {s : Sem Value} {w w' : World} {v : Value} {Post : Value → World → Prop} (h : s.run P w = .ok v w') (k : Post v w') : OpOut P ((do pure (.value (← s)) : Sem Next).run P w) Post := by
  show OpOut P ((s >>= fun v => (pure (.value v) : Sem Next)).run P w) Post
  rw [Sem.run_bind, h]; exact k
theorem out_unit {s : Sem Unit} {w w' : World} {Post : Value → World → Prop} (h : s.run P w = .ok () w') (k : Post undef w') : OpOut P ((do s; pure .skip : Sem Next).run P w) Post := by
  show OpOut P ((s >>= fun _ => (pure .skip : Sem Next)).run P w) Post
  rw [Sem.run_bind, h]; exact k

theorem VR.w_inv {I : Nat → Prop} {u v : Value} (h : VR I w (.w u) v) : v = u := by cases h; rfl
theorem VR.tup_inv {I : Nat → Prop} {xs : List AV} {v : Value} (h : VR I w (.tup xs) v) : ∃ cs, v = .tuple cs ∧ VRs I w xs cs.toList := by
  cases h with | tup _ cs hl h => exact ⟨cs, rfl, .of_arr hl h⟩
theorem VR.agg_inv {I : Nat → Prop} {xs : List AV} {v : Value} (h : VR I w (.agg xs) v) : ∃ cs, v = .agg cs ∧ VRs I w xs cs.toList := by
  cases h with | agg _ cs hl h => exact ⟨cs, rfl, .of_arr hl h⟩
theorem VR.fp_inv {I : Nat → Prop} {xs : List AV} {v : Value} (h : VR I w (.fp xs) v) : ∃ a, v = .pointer (some a) ∧ VRa I w xs a := by
  cases h with | fp _ a cv hc h => exact ⟨a, rfl, .of hc h⟩
theorem VR.fs_inv {I : Nat → Prop} {xs : List AV} {n : Nat} {v : Value} (h : VR I w (.fs xs n) v) : (∃ a c, v = .slice (some a) n c ∧ n ≤ c ∧ VRa I w xs a) ∨ (v = .slice none 0 0 ∧ xs = [] ∧ n = 0) := by
  cases h with
  | fs _ _ a c cv hn hc h => exact .inl ⟨a, c, rfl, hn, .of hc h⟩
  | fs0 => exact .inr ⟨rfl, rfl, rfl⟩
theorem VR.ff_inv {I : Nat → Prop} {xs : List AV} {n : Nat} {v : Value} (h : VR I w (.ff xs n) v) : (∃ a, v = .slice (some a) n n ∧ VRa I w xs a) ∨ (v = .slice none 0 0 ∧ xs = [] ∧ n = 0) := by
  cases h with
  | ff _ _ a cv hc h => exact .inl ⟨a, rfl, .of hc h⟩
  | ff0 => exact .inr ⟨rfl, rfl, rfl⟩

/-- integers -/
theorem binI_sound {op : BinOp} {k : IntKind} {x y : Int} {K : AV → Prop} (t : TypeId) (h1 : op ≠ .shl) (h2 : op ≠ .shr) (h : binI op k x y K) :
    ∃ v, (binOp op t (.int k x) (.int k y)).run P w = .ok v w ∧ K (.w v) := by
  cases op
  case shl => exact absurd rfl h1
  case shr => exact absurd rfl h2
  case quo => obtain ⟨h0, z, rfl, h⟩ := h; exact ⟨_, by simp [binOp, Op.intDiv, h0], h⟩
  case rem => obtain ⟨h0, z, rfl, h⟩ := h; exact ⟨_, by simp [binOp, Op.intDiv, h0], h⟩
  case add => obtain ⟨z, rfl, h⟩ := h; exact ⟨_, by rw [binOp_add]; rfl, h⟩
  case sub => obtain ⟨z, rfl, h⟩ := h; exact ⟨_, by rw [binOp_sub]; rfl, h⟩
  case mul => obtain ⟨z, rfl, h⟩ := h; exact ⟨_, by rw [binOp_mul]; rfl, h⟩
  case and => obtain ⟨z, rfl, h⟩ := h; exact ⟨_, by rw [binOp_and]; rfl, h⟩
  case or => obtain ⟨z, rfl, h⟩ := h; exact ⟨_, by rw [binOp_or]; rfl, h⟩
  case xor => obtain ⟨z, rfl, h⟩ := h; exact ⟨_, by rw [binOp_xor]; rfl, h⟩
  case andNot => obtain ⟨z, rfl, h⟩ := h; exact ⟨_, by rw [binOp_andNot]; rfl, h⟩
  case eql => exact ⟨_, by rw [binOp_eql]; rfl, h⟩
  case neq => exact ⟨_, by rw [binOp_neq]; rfl, h⟩
  case lss => exact ⟨_, by rw [binOp_lss]; rfl, h⟩
  case leq => exact ⟨_, by rw [binOp_leq]; rfl, h⟩
  case gtr => exact ⟨_, by rw [binOp_gtr]; rfl, h⟩
  case geq => exact ⟨_, by rw [binOp_geq]; rfl, h⟩

theorem binS_sound {op : BinOp} {x y : ByteArray} {K : AV → Prop} (t : TypeId) (h : binS op x y K) :
    ∃ v, (binOp op t (.string x) (.string y)).run P w = .ok v w ∧ K (.w v) := by
  cases op
  case add =>
    obtain ⟨h0, h⟩ := h
    refine ⟨_, ?_, h⟩
    have : ¬ ((x.size + y.size : Nat) : Int) > IntKind.i64.max := by rw [IntKind.max_i64]; omega
    simp only [binOp, Op.stringOp]
    rw [if_neg this]; rfl
  case eql => exact ⟨_, by simp [binOp, Op.stringOp], h⟩
  case neq => exact ⟨_, by simp [binOp, Op.stringOp], h⟩
  case lss => exact ⟨_, by simp [binOp, Op.stringOp], h⟩
  case leq => exact ⟨_, by simp [binOp, Op.stringOp], h⟩
  case gtr => exact ⟨_, by simp [binOp, Op.stringOp], h⟩
  case geq => exact ⟨_, by simp [binOp, Op.stringOp], h⟩
  all_goals exact h.elim

theorem binR_sound {op : BinOp} {x y : AV} {u v : Value} {K : AV → Prop} (t : TypeId) (hx : VR (Im σ w) w x u) (hy : VR (Im σ w) w y v) (h : binR op x y K) :
    ∃ z, (binOp op t u v).run P w = .ok z w ∧ K (.w z) := by
  unfold binR at h
  split at h
  · rename_i k x j y
    cases hx.w_inv; cases hy.w_inv
    split at h
    · obtain ⟨h0, z, rfl, h⟩ := h
      exact ⟨_, by simp [binOp, Op.shift, Int.not_lt.2 h0], h⟩
    · obtain ⟨h0, z, rfl, h⟩ := h
      exact ⟨_, by simp [binOp, Op.shift, Int.not_lt.2 h0], h⟩
    · split at h
      · rename_i hk
        cases sameK_eq hk
        exact binI_sound t (by assumption) (by assumption) h
      · exact h.elim
  · cases hx.w_inv; cases hy.w_inv
    exact binS_sound t h
  · exact h.elim

end Go.Ab
/-! Each operation of the plain machine is sound: operations that write no memory. -/
namespace Go.Ab
set_option linter.unusedVariables false
set_option linter.unusedSimpArgs false
variable {P : Program} {gl : Nat → Option (List AV)} {N : Nat} {σ : Own} {w : World} {env : Env} {a : Act}

theorem lt_of_szOf {t : TypeId} {n : Nat} (h : szOf P t = some n) : ∃ i, P.info? t = some i ∧ i.size = n := by
  unfold szOf at h
  cases hi : P.info? t with
  | none => simp [hi] at h
  | some i => exact ⟨i, rfl, by simpa [hi] using h⟩
theorem run_sizeOf_sz {t : TypeId} {n : Nat} (h : szOf P t = some n) (w : World) : (sizeOf t).run P w = .ok n w := by
  obtain ⟨i, hi, rfl⟩ := lt_of_szOf h
  rw [run_sizeOf w hi]
  simp [Program.cellsOf, hi]
theorem run_isAgg {t : TypeId} {b : Bool} (h : aggT P t = some b) (w : World) : (isAgg t).run P w = .ok b w := by
  unfold aggT at h
  cases hu : P.underlying t with
  | none => simp [hu] at h
  | some d =>
    unfold isAgg
    rw [Sem.run_bind, run_underlying hu, Result.andThen_ok]
    cases d <;> simp [hu] at h <;> subst h <;> rfl

theorem vra_list {I : Nat → Prop} {xs : List AV} {a : Addr} (h : VRa I w xs a) : ∃ cs : List Value, VRs I w xs cs ∧ ∀ j v, cs[j]? = some v → w.cell? (a.add j) = some v := by
  obtain ⟨cv, h1, h2⟩ := h.cv
  refine ⟨(List.range xs.length).map cv, ⟨by simp, fun i hi => ?_⟩, fun j v hj => ?_⟩
  · have : ((List.range xs.length).map cv).getD i undef = cv i := by
      simp [List.getD, hi]
    rw [this]; exact h2 i hi
  · have hj' : j < xs.length := by
      have := (List.getElem?_eq_some_iff.1 hj).1
      simpa using this
    have : v = cv j := by
      rw [List.getElem?_map, List.getElem?_range hj'] at hj
      simpa using hj.symm
    rw [this]; exact (h1 j hj').2

theorem run_loadVar {t : TypeId} {b : Bool} {n : Nat} (hb : aggT P t = some b) (hn : szOf P t = some n) {xs : List AV} {a : Addr} {I : Nat → Prop} (h : VRa I w xs a) {K : AV → Prop}
    (hk : ldR b n xs K) : ∃ x v, (loadVar t a).run P w = .ok v w ∧ K x ∧ VR I w x v := by
  unfold loadVar
  rw [Sem.run_bind, run_isAgg hb, Result.andThen_ok]
  cases b with
  | true =>
    obtain ⟨ys, h1, h2, h3⟩ := hk
    subst h1
    obtain ⟨cs, hv, hcell⟩ := vra_list (h.take n)
    have hl : cs.length = n := by rw [hv.1, h2]
    refine ⟨_, .agg cs.toArray, ?_, h3, .mk_agg (by simpa using hv)⟩
    simp only [if_true]
    rw [Sem.run_bind, run_sizeOf_sz hn, Result.andThen_ok, Sem.run_bind, ← hl, run_loadCells_list w a cs hcell]
    rfl
  | false =>
    obtain ⟨x, h1, h2⟩ := hk
    cases xs with
    | nil => simp at h1
    | cons y ys =>
      have e : y = x := by simpa using h1
      subst e
      obtain ⟨_, v, hc, hv⟩ := h 0 (by simp)
      have hc' : w.cell? a = some v := by simpa [Addr.add] using hc
      refine ⟨_, v, ?_, h2, hv⟩
      simp [hc']

/-- Cells of a block of the call's own, from a place on. -/
theorem own_vra (hr : Rel gl σ w) {b : Nat} {ob : Ob} (hb : σ b = some ob) (o : Nat) : ∃ cs T, w.heap[b]? = some (.cells cs T (0, 0)) ∧ cs.size = ob.cap ∧ ob.xs.length ≤ ob.cap ∧ VRs (Im σ w) w ob.xs (cs.toList.take ob.xs.length) ∧
    ∀ i (hi : i < (ob.xs.drop o).length), ∃ v, w.cell? ((⟨b, o, none⟩ : Addr).add i) = some v ∧ VR (Im σ w) w ((ob.xs.drop o)[i]) v := by
  obtain ⟨cs, T, h1, h2, h3, h4⟩ := hr.own b ob hb
  refine ⟨cs, T, h1, h2, h3, h4, fun i hi => ?_⟩
  have hi' : o + i < ob.xs.length := by simp at hi; omega
  have := h4.2 (o + i) hi'
  rw [List.getElem_drop]
  have hc : o + i < cs.size := by omega
  refine ⟨cs[o + i], ?_, ?_⟩
  · rw [add_lit]; simp [World.cell?, h1, hc]
  · have e : (cs.toList.take ob.xs.length).getD (o + i) undef = cs[o + i] := by
      simp [List.getD, hi', hc]
    rw [e] at this; exact this

theorem run_loadVar_own {t : TypeId} {b : Bool} {n : Nat} (hb : aggT P t = some b) (hn : szOf P t = some n) (hr : Rel gl σ w) {k : Nat} {ob : Ob} (hk : σ k = some ob) (o : Nat) {K : AV → Prop}
    (h : ldR b n (ob.xs.drop o) K) : ∃ x v, (loadVar t ⟨k, o, none⟩).run P w = .ok v w ∧ K x ∧ VR (Im σ w) w x v := by
  obtain ⟨cs, T, h1, h2, h3, h4, h5⟩ := own_vra hr hk o
  -- the same proof, the block being the call's own
  unfold loadVar
  rw [Sem.run_bind, run_isAgg hb, Result.andThen_ok]
  cases b with
  | true =>
    obtain ⟨ys, e1, e2, e3⟩ := h
    subst e1
    have hv : VRs (Im σ w) w ((ob.xs.drop o).take n) (((cs.toList.take ob.xs.length).drop o).take n) := (h4.drop o).take n
    have hl : (((cs.toList.take ob.xs.length).drop o).take n).length = n := by rw [hv.1, e2]
    refine ⟨_, .agg (((cs.toList.take ob.xs.length).drop o).take n).toArray, ?_, e3, .mk_agg (by simpa using hv)⟩
    simp only [if_true]
    rw [Sem.run_bind, run_sizeOf_sz hn, Result.andThen_ok, Sem.run_bind]
    have := run_loadCells_list (P := P) w ⟨k, o, none⟩ (((cs.toList.take ob.xs.length).drop o).take n) (fun j v hj => by
      rw [add_lit]
      rw [List.getElem?_take] at hj
      split at hj
      · rw [List.getElem?_drop, List.getElem?_take] at hj
        split at hj
        · simp [World.cell?, h1]; simpa using hj
        · cases hj
      · cases hj)
    rw [hl] at this
    rw [this]; rfl
  | false =>
    obtain ⟨x, e1, e2⟩ := h
    have hpos : 0 < (ob.xs.drop o).length := by
      cases hd : ob.xs.drop o with
      | nil => rw [hd] at e1; simp at e1
      | cons y ys => simp
    obtain ⟨v, hc, hv⟩ := h5 0 hpos
    have e : (ob.xs.drop o)[0] = x := by
      rw [List.head?_eq_getElem?, List.getElem?_eq_getElem hpos] at e1
      simpa using e1
    rw [e] at hv
    have hc' : w.cell? ⟨k, o, none⟩ = some v := by simpa [Addr.add] using hc
    refine ⟨_, v, ?_, e2, hv⟩
    simp [hc']

theorem run_part {t : TypeId} {b : Bool} {n : Nat} (hb : aggT P t = some b) (hn : szOf P t = some n) {xs : List AV} {cs : Array Value} {I : Nat → Prop} (h : VRs I w xs cs.toList) (off : Nat) {K : AV → Prop}
    (hk : ldR b n (xs.drop off) K) : ∃ x v, (part t cs off).run P w = .ok v w ∧ K x ∧ VR I w x v := by
  unfold part
  rw [Sem.run_bind, run_isAgg hb, Result.andThen_ok]
  cases b with
  | true =>
    obtain ⟨ys, e1, e2, e3⟩ := hk
    subst e1
    refine ⟨_, .agg (cs.extract off (off + n)), ?_, e3, .mk_agg ?_⟩
    · simp only [if_true]
      rw [Sem.run_bind, run_sizeOf_sz hn, Result.andThen_ok]; rfl
    · have := (h.drop off).take n
      simpa [Array.toList_extract, List.extract_eq_take_drop] using this
  | false =>
    obtain ⟨x, e1, e2⟩ := hk
    have e3 : xs[off]? = some x := by rw [List.head?_drop] at e1; exact e1
    obtain ⟨v, hv1, hv2⟩ := h.get e3
    refine ⟨_, v, ?_, e2, hv2⟩
    have : cs[off]? = some v := by simpa using hv1
    simp [this]

theorem asInt_vr {I : Nat → Prop} {k : IntKind} {j : Int} {v : Value} (h : VR I w (.w (.int k j)) v) : v = .int k j := h.w_inv

/-- an element's address -/
theorem run_indexAt_slice {t e : TypeId} {n size : Nat} (ht : P.underlying t = some (.slice e)) (hn : szOf P e = some size) (b : Addr) (c : Nat) (k : IntKind) (j : Int) (h0 : 0 ≤ j) (h1 : j < n) :
    (Instr.indexAt t (.slice (some b) n c) (.int k j)).run P w = .ok (.pointer (some (b.add (j.toNat * size)))) w := by
  unfold Instr.indexAt
  simp only [asIntOf, Sem.run_bind, Sem.run_pure, Result.andThen_ok, run_underlying ht]
  rw [if_pos ⟨h0, h1⟩, Sem.run_bind, run_sizeOf_sz hn, Result.andThen_ok]
  rfl
theorem run_indexAt_array {t e : TypeId} {n size : Nat} (ht : P.underlying t = some (.array n e)) (hn : szOf P e = some size) (b : Addr) (k : IntKind) (j : Int) (h0 : 0 ≤ j) (h1 : j < n) :
    (Instr.indexAt t (.pointer (some b)) (.int k j)).run P w = .ok (.pointer (some (b.add (j.toNat * size)))) w := by
  unfold Instr.indexAt
  simp only [asIntOf, Sem.run_bind, Sem.run_pure, Result.andThen_ok, run_underlying ht, Instr.sureAddr]
  rw [if_pos ⟨h0, h1⟩, Sem.run_bind, run_sizeOf_sz hn, Result.andThen_ok]
  rfl

theorem run_sliceBound (k : IntKind) (i : Int) (y : Nat) (c : BoundsCode) (h0 : 0 ≤ i) (h1 : i ≤ y) : (Instr.sliceBound (.int k i) y c).run P w = .ok i.toNat w := by
  unfold Instr.sliceBound
  simp only [asIntOf, Sem.run_bind, Sem.run_pure, Result.andThen_ok]
  rw [if_pos ⟨h0, h1⟩]; rfl

/-- a bound that is given, or the one that stands for it -/
def BndV (o : Option Value) (d : Int) (n : Int) : Prop := (o = none ∧ n = d) ∨ ∃ k, o = some (.int k n)

theorem bnd_sound (hr : Rel gl σ w) (he : EnvR N σ w env a) {d : Nat} {o : Option Operand} {K : Int → Prop} (h : bnd gl env d (cOpt o) K) : ∃ n, BndV (o.map a.eval) d n ∧ K n := by
  cases o with
  | none => exact ⟨d, .inl ⟨rfl, rfl⟩, h⟩
  | some o =>
    simp only [cOpt, bnd, ev_eq] at h
    have hv := opd_vr (gl := gl) hr he o
    split at h
    · rename_i k n heq
      rw [heq] at hv
      exact ⟨n, .inr ⟨k, by simp [hv.w_inv]⟩, h⟩
    · exact h.elim

theorem run_sliceBounds {isS : Bool} {len cap : Nat} {lo hi mx : Option Value} {l h m : Int} (hl : BndV lo 0 l) (hh : BndV hi len h) (hm : BndV mx cap m) (h0 : 0 ≤ l) (h1 : l ≤ h)
    (h2 : h ≤ m) (h3 : m ≤ cap) (h4 : mx ≠ none → hi ≠ none) : (Instr.sliceBounds isS len cap lo hi mx).run P w = .ok (l.toNat, h.toNat, m.toNat) w := by
  have b1 : ∀ k c, (Instr.sliceBound (.int k l) h.toNat c).run P w = .ok l.toNat w := fun k c => run_sliceBound k l h.toNat c h0 (by omega)
  have b2 : ∀ k c, (Instr.sliceBound (.int k h) cap c).run P w = .ok h.toNat w := fun k c => run_sliceBound k h cap c (by omega) (by omega)
  have b3 : ∀ k c, (Instr.sliceBound (.int k h) m.toNat c).run P w = .ok h.toNat w := fun k c => run_sliceBound k h m.toNat c (by omega) (by omega)
  have b4 : ∀ k c, (Instr.sliceBound (.int k m) cap c).run P w = .ok m.toNat w := fun k c => run_sliceBound k m cap c (by omega) h3
  unfold Instr.sliceBounds
  rcases hl with ⟨rfl, rfl⟩ | ⟨kl, rfl⟩ <;> rcases hh with ⟨rfl, rfl⟩ | ⟨kh, rfl⟩ <;> rcases hm with ⟨rfl, rfl⟩ | ⟨km, rfl⟩ <;>
    first
      | (simp [b1, b2, b3, b4]; done)
      | (simp only [Int.toNat_natCast] at b1 b2 b3 b4
         simp [b1, b2, b3, b4]; done)
      | exact absurd rfl (h4 (by simp))

/-- a slice expression over a slice -/
theorem run_slice_slice {t e : TypeId} {size : Nat} (ht : P.underlying t = some (.slice e)) (hn : szOf P e = some size) (x : Option Addr) (len cap : Nat) {lo hi mx : Option Value} {l h m : Int}
    (hl : BndV lo 0 l) (hh : BndV hi len h) (hm : BndV mx cap m) (h0 : 0 ≤ l) (h1 : l ≤ h) (h2 : h ≤ m) (h3 : m ≤ cap) (h4 : mx ≠ none → hi ≠ none) :
    (Instr.sliceAt t (.slice x len cap) lo hi mx).run P w = .ok (.slice (if m.toNat = l.toNat then x else x.map (·.add (l.toNat * size))) (h.toNat - l.toNat) (m.toNat - l.toNat)) w := by
  unfold Instr.sliceAt
  rw [Sem.run_bind, run_underlying ht, Result.andThen_ok]
  show (Instr.slice t (.slice x len cap) lo hi mx).run P w = _
  unfold Instr.slice
  rw [Sem.run_bind, run_underlying ht, Result.andThen_ok]
  simp only [Sem.run_bind]
  rw [run_sliceBounds hl hh hm h0 h1 h2 h3 h4]
  simp only [Result.andThen_ok]
  rw [run_sizeOf_sz hn]
  rfl
theorem run_slice_string {t : TypeId} (ht : P.underlying t = some .string) (s : ByteArray) {lo hi : Option Value} {l h : Int}
    (hl : BndV lo 0 l) (hh : BndV hi s.size h) (h0 : 0 ≤ l) (h1 : l ≤ h) (h2 : h ≤ s.size) :
    (Instr.sliceAt t (.string s) lo hi none).run P w = .ok (.string (s.extract l.toNat h.toNat)) w := by
  unfold Instr.sliceAt
  rw [Sem.run_bind, run_underlying ht, Result.andThen_ok]
  show (Instr.slice t (.string s) lo hi none).run P w = _
  unfold Instr.slice
  rw [Sem.run_bind, run_underlying ht, Result.andThen_ok]
  simp only [Sem.run_bind, Option.isSome_none, Bool.false_eq_true, if_false]
  rw [run_sliceBounds hl hh (.inl ⟨rfl, rfl⟩) h0 h1 h2 (by omega) (fun h => absurd rfl h)]
  rfl

/-- Operations that leave memory alone. -/
theorem sound_mv {K : AV → Own → Prop} (hr : Rel gl σ w) (he : EnvR N σ w env a) (x : Operand) (h : ev gl env (cOpd x) fun v => K v σ) : Sound P gl σ w K (a.eval x) w := by
  rw [ev_eq] at h
  exact sound_pure hr h (opd_vr hr he x)

theorem ldR_mono {b : Bool} {n : Nat} {xs : List AV} {K K' : AV → Prop} (h : ldR b n xs K) (k : ∀ v, K v → K' v) : ldR b n xs K' := by
  cases b with
  | true => obtain ⟨ys, h1, h2, h3⟩ := h; exact ⟨ys, h1, h2, k _ h3⟩
  | false => obtain ⟨x, h1, h2⟩ := h; exact ⟨x, h1, k _ h2⟩

theorem sound_ld {t : TypeId} {b : Bool} {n : Nat} (hb : aggT P t = some b) (hn : szOf P t = some n) {K : AV → Own → Prop} (hr : Rel gl σ w) {x : AV} {v : Value} (hv : VR (Im σ w) w x v)
    (h : ldV b n σ x fun v => K v σ) : ∃ u, (Instr.loadAt t v).run P w = .ok u w ∧ Sound P gl σ w K u w := by
  unfold ldV at h
  split at h
  · obtain ⟨ad, rfl, hA⟩ := hv.fp_inv
    obtain ⟨y, u, h1, h2, h3⟩ := run_loadVar (P := P) hb hn hA h
    exact ⟨u, by simp [Instr.loadAt, Instr.sureAddr, h1], sound_pure hr h2 h3⟩
  · cases hv.w_inv
    obtain ⟨ob, hk, h⟩ := h
    obtain ⟨y, u, h1, h2, h3⟩ := run_loadVar_own (P := P) hb hn hr hk _ h
    exact ⟨u, by simp [Instr.loadAt, Instr.sureAddr, h1], sound_pure hr h2 h3⟩
  · exact h.elim

theorem sound_ix {t e : TypeId} {size : Nat} (ht : P.underlying t = some (.slice e)) (hn : szOf P e = some size) {K : AV → Own → Prop} (hr : Rel gl σ w) {x y : AV} {u v : Value} (hx : VR (Im σ w) w x u) (hy : VR (Im σ w) w y v)
    (h : ixV size x y fun v => K v σ) : ∃ z, (Instr.indexAt t u v).run P w = .ok z w ∧ Sound P gl σ w K z w := by
  unfold ixV at h
  split at h
  · cases hy.w_inv
    split at h
    · obtain ⟨j', rfl, h1, h2⟩ := h
      rcases hx.fs_inv with ⟨ad, c, rfl, hc, hA⟩ | ⟨rfl, rfl, rfl⟩
      · exact ⟨_, run_indexAt_slice ht hn ad c _ _ (by omega) (by omega), sound_pure hr h2 (by simpa using VR.mk_fp (hA.drop _))⟩
      · omega
    · obtain ⟨j', rfl, h1, h2⟩ := h
      rcases hx.ff_inv with ⟨ad, rfl, hA⟩ | ⟨rfl, rfl, rfl⟩
      · exact ⟨_, run_indexAt_slice ht hn ad _ _ _ (by omega) (by omega), sound_pure hr h2 (by simpa using VR.mk_fp (hA.drop _))⟩
      · omega
    · cases hx.w_inv
      obtain ⟨j', rfl, h1, h2⟩ := h
      refine ⟨_, run_indexAt_slice ht hn _ _ _ _ (by omega) (by omega), sound_pure hr h2 ?_⟩
      rw [add_lit]; simpa using VR.w _
    · exact h.elim
  · exact h.elim

theorem sound_ixa {t e : TypeId} {n size : Nat} (ht : P.underlying t = some (.array n e)) (hn : szOf P e = some size) {K : AV → Own → Prop} (hr : Rel gl σ w) {x y : AV} {u v : Value} (hx : VR (Im σ w) w x u) (hy : VR (Im σ w) w y v)
    (h : ixaV n size x y fun v => K v σ) : ∃ z, (Instr.indexAt t u v).run P w = .ok z w ∧ Sound P gl σ w K z w := by
  unfold ixaV at h
  split at h
  · cases hy.w_inv
    split at h
    · obtain ⟨j', rfl, h1, h2⟩ := h
      obtain ⟨ad, rfl, hA⟩ := hx.fp_inv
      exact ⟨_, run_indexAt_array ht hn ad _ _ (by omega) (by omega), sound_pure hr h2 (by simpa using VR.mk_fp (hA.drop _))⟩
    · cases hx.w_inv
      obtain ⟨j', rfl, h1, h2⟩ := h
      refine ⟨_, run_indexAt_array ht hn _ _ _ (by omega) (by omega), sound_pure hr h2 ?_⟩
      rw [add_lit]; simpa using VR.w _
    · exact h.elim
  · exact h.elim

theorem sound_idx {t e : TypeId} {n size : Nat} {b : Bool} (ht : P.underlying t = some (.array n e)) (hb : aggT P e = some b) (hn : szOf P e = some size) {K : AV → Own → Prop} (hr : Rel gl σ w) {x y : AV} {u v : Value} (hx : VR (Im σ w) w x u) (hy : VR (Im σ w) w y v)
    (h : idxV b n size x y fun v => K v σ) : ∃ z, (Instr.index t u v).run P w = .ok z w ∧ Sound P gl σ w K z w := by
  unfold idxV at h
  split at h
  · cases hy.w_inv
    split at h
    · obtain ⟨j', rfl, h1, h2⟩ := h
      obtain ⟨cs, rfl, hc⟩ := hx.agg_inv
      obtain ⟨y, z, k1, k2, k3⟩ := run_part (P := P) hb hn hc _ h2
      refine ⟨z, ?_, sound_pure hr k2 k3⟩
      unfold Instr.index
      simp only [asIntOf, Sem.run_bind, Sem.run_pure, Result.andThen_ok, run_underlying ht]
      rw [if_pos ⟨by omega, by omega⟩, Sem.run_bind, run_sizeOf_sz hn, Result.andThen_ok, Int.toNat_natCast, k1]
    · exact h.elim
  · exact h.elim

theorem bytes_get {s : ByteArray} {i : Nat} {c : UInt8} (h : s.toList[i]? = some c) : s[i]? = some c := by
  rw [ByteArray.toList_eq] at h
  obtain ⟨hl, h⟩ := List.getElem?_eq_some_iff.1 h
  have hi : i < s.size := by simpa using hl
  rw [getElem?_pos s i hi, ← h]
  rfl

theorem sound_idxs {t : TypeId} (ht : P.underlying t = some .string) {K : AV → Own → Prop} (hr : Rel gl σ w) {x y : AV} {u v : Value} (hx : VR (Im σ w) w x u) (hy : VR (Im σ w) w y v)
    (h : idxsV x y fun v => K v σ) : ∃ z, (Instr.index t u v).run P w = .ok z w ∧ Sound P gl σ w K z w := by
  unfold idxsV at h
  split at h
  · cases hy.w_inv
    split at h
    · cases hx.w_inv
      obtain ⟨j', rfl, c, h2, h3⟩ := h
      refine ⟨_, ?_, sound_pure hr h3 (.w _)⟩
      unfold Instr.index
      simp only [asIntOf, Sem.run_bind, Sem.run_pure, Result.andThen_ok, run_underlying ht]
      rw [if_pos (by omega), Int.toNat_natCast, bytes_get h2]; rfl
    · exact h.elim
  · exact h.elim

end Go.Ab
/-! Each operation of the plain machine is sound: the rest of those that write no memory; calls. -/
namespace Go.Ab
set_option linter.unusedVariables false
set_option linter.unusedSimpArgs false
variable {P : Program} {gl : Nat → Option (List AV)} {N : Nat} {σ : Own} {w : World} {env : Env} {a : Act}

theorem sound_bin {op : BinOp} {t t' : TypeId} {x y : AV} {u v : Value} {ox oy : Operand} {K : AV → Own → Prop} (hr : Rel gl σ w) (hx : VR (Im σ w) w x u) (hy : VR (Im σ w) w y v)
    (h : binR op x y fun v => K v σ) : ∃ z, (do eqGuard op t ox oy u v; binOp op t u v : Sem Value).run P w = .ok z w ∧ Sound P gl σ w K z w := by
  obtain ⟨z, h1, h2⟩ := binR_sound (P := P) (w := w) (σ := σ) t hx hy h
  have hg : eqGuard op t ox oy u v = pure () := by
    unfold binR at h
    split at h
    · cases hx.w_inv; cases op <;> rfl
    · cases hx.w_inv; cases op <;> rfl
    · exact h.elim
  refine ⟨z, ?_, sound_pure hr h2 (.w _)⟩
  rw [hg]; exact h1

theorem sound_beq {neg : Bool} {t : TypeId} (ht : P.underlying t = some .bool) {x y : AV} {u v : Value} {ox oy : Operand} {K : AV → Own → Prop} (hr : Rel gl σ w) (hx : VR (Im σ w) w x u) (hy : VR (Im σ w) w y v)
    (h : beqV neg x y fun v => K v σ) : ∃ z, (do eqGuard (if neg then .neq else .eql) t ox oy u v; binOp (if neg then .neq else .eql) t u v : Sem Value).run P w = .ok z w ∧ Sound P gl σ w K z w := by
  unfold beqV at h
  split at h
  · rename_i x y
    cases hx.w_inv; cases hy.w_inv
    have he : (Op.equal t (.bool x) (.bool y)).run P w = .ok (x == y) w := by
      show (Op.equalIn 10000 t (.bool x) (.bool y)).run P w = _
      unfold Op.equalIn
      rw [Sem.run_bind, run_underlying ht, Result.andThen_ok]
      rfl
    cases neg with
    | false =>
      refine ⟨_, ?_, sound_pure hr h (.w _)⟩
      have : (binOp .eql t (.bool x) (.bool y)).run P w = .ok (.bool (x == y)) w := by
        simp only [binOp, Sem.run_bind, he, Result.andThen_ok]; rfl
      exact this
    | true =>
      refine ⟨_, ?_, sound_pure hr h (.w _)⟩
      have : (binOp .neq t (.bool x) (.bool y)).run P w = .ok (.bool (!(x == y))) w := by
        simp only [binOp, Sem.run_bind, he, Result.andThen_ok]; rfl
      exact this
  · exact h.elim

theorem run_nil {neg : Bool} {t e : TypeId} (ht : P.underlying t = some (.slice e)) (b : Option Addr) (n c : Nat) {ox : Operand} :
    (do eqGuard (if neg then .neq else .eql) t ox (.const (.slice none 0 0)) (.slice b n c) (.slice none 0 0); binOp (if neg then .neq else .eql) t (.slice b n c) (.slice none 0 0) : Sem Value).run P w =
      .ok (.bool (if neg then !b.isNone else b.isNone)) w := by
  have he : (Op.equal t (.slice b n c) (.slice none 0 0)).run P w = .ok b.isNone w := by
    show (Op.equalIn 10000 t (.slice b n c) (.slice none 0 0)).run P w = _
    unfold Op.equalIn
    rw [Sem.run_bind, run_underlying ht, Result.andThen_ok]
    cases b <;> rfl
  cases neg with
  | false =>
    have : (binOp .eql t (.slice b n c) (.slice none 0 0)).run P w = .ok (.bool b.isNone) w := by
      simp only [binOp, Sem.run_bind, he, Result.andThen_ok]; rfl
    exact this
  | true =>
    have : (binOp .neq t (.slice b n c) (.slice none 0 0)).run P w = .ok (.bool (!b.isNone)) w := by
      simp only [binOp, Sem.run_bind, he, Result.andThen_ok]; rfl
    exact this

theorem sound_nil {neg : Bool} {t e : TypeId} (ht : P.underlying t = some (.slice e)) {x : AV} {u : Value} {ox : Operand} {K : AV → Own → Prop} (hr : Rel gl σ w) (hx : VR (Im σ w) w x u)
    (h : nilV neg x fun v => K v σ) : ∃ z, (do eqGuard (if neg then .neq else .eql) t ox (.const (.slice none 0 0)) u (.slice none 0 0); binOp (if neg then .neq else .eql) t u (.slice none 0 0) : Sem Value).run P w = .ok z w ∧ Sound P gl σ w K z w := by
  unfold nilV at h
  split at h
  · rcases hx.fs_inv with ⟨ad, c, rfl, hc, hA⟩ | ⟨rfl, rfl, rfl⟩
    · refine ⟨_, run_nil ht _ _ _, sound_pure (v := .w _) hr ?_ (.w _)⟩
      have := h false (fun _ => rfl)
      cases neg <;> exact this
    · refine ⟨_, run_nil ht _ _ _, sound_pure (v := .w _) hr ?_ (.w _)⟩
      have := h true (fun h => absurd h (by omega))
      cases neg <;> exact this
  · rcases hx.ff_inv with ⟨ad, rfl, hA⟩ | ⟨rfl, rfl, rfl⟩
    · refine ⟨_, run_nil ht _ _ _, sound_pure (v := .w _) hr ?_ (.w _)⟩
      have := h false (fun _ => rfl)
      cases neg <;> exact this
    · refine ⟨_, run_nil ht _ _ _, sound_pure (v := .w _) hr ?_ (.w _)⟩
      have := h true (fun h => absurd h (by omega))
      cases neg <;> exact this
  · cases hx.w_inv
    refine ⟨_, run_nil ht _ _ _, sound_pure (v := .w _) hr ?_ (.w _)⟩
    cases neg <;> exact h
  · cases hx.w_inv
    refine ⟨_, run_nil ht _ _ _, sound_pure (v := .w _) hr ?_ (.w _)⟩
    cases neg <;> exact h
  · exact h.elim

theorem sound_un {op : UnOp} {x : AV} {u : Value} {K : AV → Own → Prop} (hr : Rel gl σ w) (hx : VR (Im σ w) w x u) (h : unV op x fun v => K v σ) :
    ∃ z, (Op.unary op u).run P w = .ok z w ∧ Sound P gl σ w K z w := by
  unfold unV at h
  split at h
  · cases hx.w_inv; exact ⟨_, rfl, sound_pure hr h (.w _)⟩
  · cases hx.w_inv; obtain ⟨z, rfl, h⟩ := h; exact ⟨_, rfl, sound_pure hr h (.w _)⟩
  · cases hx.w_inv; obtain ⟨z, rfl, h⟩ := h; exact ⟨_, rfl, sound_pure hr h (.w _)⟩
  · exact h.elim

theorem sound_conv {k j : IntKind} {s d : TypeId} (hs : P.underlying s = some (.int j)) (hd : P.underlying d = some (.int k)) {x : AV} {u : Value} {K : AV → Own → Prop} (hr : Rel gl σ w) (hx : VR (Im σ w) w x u)
    (h : convV k x fun v => K v σ) : ∃ z, (convert s d u).run P w = .ok z w ∧ Sound P gl σ w K z w := by
  unfold convV at h
  split at h
  · cases hx.w_inv
    obtain ⟨z, rfl, h⟩ := h
    refine ⟨_, ?_, sound_pure hr h (.w _)⟩
    unfold convert
    rw [Sem.run_bind, run_underlying hs, Result.andThen_ok, Sem.run_bind, run_underlying hd, Result.andThen_ok]
    rfl
  · exact h.elim

theorem sound_len {t e ty : TypeId} (ht : P.underlying t = some (.slice e)) {x : AV} {u : Value} {K : AV → Own → Prop} (hr : Rel gl σ w) (hx : VR (Im σ w) w x u)
    (h : lenV x fun v => K v σ) : ∃ z, (Builtin.len_ #[t] ty #[u]).run P w = .ok z w ∧ Sound P gl σ w K z w := by
  have sl : ∀ b n c, (Builtin.len_ #[t] ty #[.slice b n c]).run P w = .ok (.int .i64 n) w := by
    intro b n c
    simp [Builtin.len_, run_underlying ht, goInt]
  unfold lenV at h
  split at h
  · rcases hx.fs_inv with ⟨ad, c, rfl, hc, hA⟩ | ⟨rfl, rfl, rfl⟩
    · exact ⟨_, sl _ _ _, sound_pure hr h (.w _)⟩
    · exact ⟨_, sl _ _ _, sound_pure hr h (.w _)⟩
  · rcases hx.ff_inv with ⟨ad, rfl, hA⟩ | ⟨rfl, rfl, rfl⟩
    · exact ⟨_, sl _ _ _, sound_pure hr h (.w _)⟩
    · exact ⟨_, sl _ _ _, sound_pure hr h (.w _)⟩
  · cases hx.w_inv; exact ⟨_, sl _ _ _, sound_pure hr h (.w _)⟩
  · exact h.elim

theorem sound_lens {t ty : TypeId} (ht : P.underlying t = some .string) {x : AV} {u : Value} {K : AV → Own → Prop} (hr : Rel gl σ w) (hx : VR (Im σ w) w x u)
    (h : lensV x fun v => K v σ) : ∃ z, (Builtin.len_ #[t] ty #[u]).run P w = .ok z w ∧ Sound P gl σ w K z w := by
  unfold lensV at h
  split at h
  · rename_i s
    cases hx.w_inv
    refine ⟨.int .i64 s.size, ?_, sound_pure hr h (.w _)⟩
    simp [Builtin.len_, run_underlying ht, goInt]
  · exact h.elim

theorem sound_fa {s : TypeId} {fs : Array Field} {i : Nat} {fd : Field} {n : Nat} (ht : P.underlying s = some (.struct fs)) (hf : fs[i]? = some fd) (hn : szOf P fd.type = some (n + 1))
    {x : AV} {u : Value} {K : AV → Own → Prop} (hr : Rel gl σ w) (hx : VR (Im σ w) w x u) (h : faV fd.offset x fun v => K v σ) :
    ∃ z, (Instr.fieldAt s u i).run P w = .ok z w ∧ Sound P gl σ w K z w := by
  have run : ∀ ad : Addr, (Instr.fieldAt s (.pointer (some ad)) i).run P w = .ok (.pointer (some (ad.add fd.offset))) w := by
    intro ad
    unfold Instr.fieldAt
    rw [Sem.run_bind, run_underlying ht, Result.andThen_ok]
    simp only [hf, Instr.sureAddr, fieldPlace, Sem.run_bind, Sem.run_pure, Result.andThen_ok, run_sizeOf_sz hn]
    simp
  unfold faV at h
  split at h
  · obtain ⟨ad, rfl, hA⟩ := hx.fp_inv
    exact ⟨_, run ad, sound_pure hr h (.mk_fp (hA.drop _))⟩
  · cases hx.w_inv
    refine ⟨_, run _, sound_pure hr h ?_⟩
    rw [add_lit]; exact .w _
  · exact h.elim

theorem sound_fld {s : TypeId} {fs : Array Field} {i : Nat} {fd : Field} {n : Nat} {b : Bool} (ht : P.underlying s = some (.struct fs)) (hf : fs[i]? = some fd) (hb : aggT P fd.type = some b) (hn : szOf P fd.type = some n)
    {x : AV} {u : Value} {K : AV → Own → Prop} (hr : Rel gl σ w) (hx : VR (Im σ w) w x u) (h : fldV b fd.offset n x fun v => K v σ) :
    ∃ z, (Instr.field s u i).run P w = .ok z w ∧ Sound P gl σ w K z w := by
  unfold fldV at h
  split at h
  · obtain ⟨cs, rfl, hc⟩ := hx.agg_inv
    obtain ⟨y, z, k1, k2, k3⟩ := run_part (P := P) hb hn hc _ h
    refine ⟨z, ?_, sound_pure hr k2 k3⟩
    unfold Instr.field
    rw [Sem.run_bind, run_underlying ht, Result.andThen_ok]
    simp only [hf, asAgg, Sem.run_bind, Sem.run_pure, Result.andThen_ok, k1]
  · exact h.elim

theorem sound_ext {x : AV} {u : Value} {i : Nat} {K : AV → Own → Prop} (hr : Rel gl σ w) (hx : VR (Im σ w) w x u) (h : extV x i fun v => K v σ) :
    ∃ z, (Instr.extract u i).run P w = .ok z w ∧ Sound P gl σ w K z w := by
  unfold extV at h
  split at h
  · obtain ⟨cs, rfl, hc⟩ := hx.tup_inv
    obtain ⟨y, h1, h2⟩ := h
    obtain ⟨v, h3, h4⟩ := hc.get h1
    refine ⟨v, ?_, sound_pure hr h2 h4⟩
    have : cs[i]? = some v := by simpa using h3
    simp [Instr.extract, this]
  · exact h.elim

/-- a slice expression -/
theorem slR_sound {x : AV} {u : Value} {size : Nat} {l h : Int} {mx : Option Int} {K : AV → Own → Prop} {t e : TypeId} (ht : P.underlying t = some (.slice e)) (hn : szOf P e = some size)
    (hr : Rel gl σ w) (hx : VR (Im σ w) w x u) {lo hi m : Option Value} (hl : BndV lo 0 l) (hh : BndV hi (lenAV x) h)
    (hm : (m = none ∧ mx = none) ∨ ∃ k j, m = some (.int k j) ∧ mx = some j) (h4 : m ≠ none → hi ≠ none)
    (hs : slR x size l h mx fun v => K v σ) : ∃ z, (Instr.sliceAt t u lo hi m).run P w = .ok z w ∧ Sound P gl σ w K z w := by
  have hbm : ∀ c : Nat, BndV m c (mx.getD c) := by
    intro c
    rcases hm with ⟨rfl, rfl⟩ | ⟨k, j, rfl, rfl⟩
    · exact .inl ⟨rfl, rfl⟩
    · exact .inr ⟨k, rfl⟩
  unfold slR at hs
  split at hs
  · rename_i xs n
    rcases hx.fs_inv with ⟨ad, c, rfl, hc, hA⟩ | ⟨rfl, rfl, rfl⟩
    · split at hs
      · obtain ⟨l', h', rfl, rfl, h1, h2, hk⟩ := hs
        refine ⟨_, run_slice_slice ht hn (some ad) n c hl hh (hbm c) (by omega) (by omega) (by simp; omega) (by simp) h4, sound_pure hr hk ?_⟩
        simp only [Option.getD_none, Int.toNat_natCast]
        split
        · refine .mk_fs (by omega) ?_
          have : h' - l' = 0 := by omega
          rw [this]; simp only [Nat.zero_mul, List.take_zero]
          intro i hi; simp at hi
        · exact .mk_fs (by omega) ((hA.drop _).take _)
      · rename_i m'
        obtain ⟨l', h', rfl, rfl, h1, h2, rfl, hk⟩ := hs
        refine ⟨_, run_slice_slice ht hn (some ad) n c hl hh (hbm c) (by omega) (by omega) (by simp) (by simp; omega) h4, sound_pure hr hk ?_⟩
        simp only [Option.getD_some, Int.toNat_natCast]
        split
        · refine .mk_ff ?_
          have : h' - l' = 0 := by omega
          rw [this]; simp only [Nat.zero_mul, List.take_zero]
          intro i hi; simp at hi
        · exact .mk_ff ((hA.drop _).take _)
    · split at hs
      · obtain ⟨l', h', rfl, rfl, h1, h2, hk⟩ := hs
        obtain rfl : h' = 0 := by omega
        obtain rfl : l' = 0 := by omega
        exact ⟨_, run_slice_slice ht hn none 0 0 hl hh (hbm 0) (by omega) (by omega) (by simp) (by simp) h4, sound_pure hr hk (by simpa using .fs0)⟩
      · obtain ⟨l', h', rfl, rfl, h1, h2, rfl, hk⟩ := hs
        obtain rfl : h' = 0 := by omega
        obtain rfl : l' = 0 := by omega
        exact ⟨_, run_slice_slice ht hn none 0 0 hl hh (hbm 0) (by omega) (by omega) (by simp) (by simp) h4, sound_pure hr hk (by simpa using .ff0)⟩
  · rename_i xs n
    rcases hx.ff_inv with ⟨ad, rfl, hA⟩ | ⟨rfl, rfl, rfl⟩
    · split at hs
      · obtain ⟨l', h', rfl, rfl, h1, h2, hk⟩ := hs
        refine ⟨_, run_slice_slice ht hn (some ad) n n hl hh (hbm n) (by omega) (by omega) (by simp; omega) (by simp) h4, sound_pure hr hk ?_⟩
        simp only [Option.getD_none, Int.toNat_natCast]
        split
        · refine .mk_fs (by omega) ?_
          have : h' - l' = 0 := by omega
          rw [this]; simp only [Nat.zero_mul, List.take_zero]
          intro i hi; simp at hi
        · exact .mk_fs (by omega) ((hA.drop _).take _)
      · rename_i m'
        obtain ⟨l', h', rfl, rfl, h1, h2, rfl, hk⟩ := hs
        refine ⟨_, run_slice_slice ht hn (some ad) n n hl hh (hbm n) (by omega) (by omega) (by simp) (by simp; omega) h4, sound_pure hr hk ?_⟩
        simp only [Option.getD_some, Int.toNat_natCast]
        split
        · refine .mk_ff ?_
          have : h' - l' = 0 := by omega
          rw [this]; simp only [Nat.zero_mul, List.take_zero]
          intro i hi; simp at hi
        · exact .mk_ff ((hA.drop _).take _)
    · split at hs
      · obtain ⟨l', h', rfl, rfl, h1, h2, hk⟩ := hs
        obtain rfl : h' = 0 := by omega
        obtain rfl : l' = 0 := by omega
        exact ⟨_, run_slice_slice ht hn none 0 0 hl hh (hbm 0) (by omega) (by omega) (by simp) (by simp) h4, sound_pure hr hk (by simpa using .fs0)⟩
      · obtain ⟨l', h', rfl, rfl, h1, h2, rfl, hk⟩ := hs
        obtain rfl : h' = 0 := by omega
        obtain rfl : l' = 0 := by omega
        exact ⟨_, run_slice_slice ht hn none 0 0 hl hh (hbm 0) (by omega) (by omega) (by simp) (by simp) h4, sound_pure hr hk (by simpa using .ff0)⟩
  · rename_i b o n c
    cases hx.w_inv
    split at hs
    · obtain ⟨l', h', rfl, rfl, h1, h2, o', h5, h6, hk⟩ := hs
      refine ⟨_, run_slice_slice ht hn (some ⟨b, o, none⟩) n c hl hh (hbm c) (by omega) (by omega) (by simp; omega) (by simp) h4, sound_pure hr hk ?_⟩
      simp only [Option.getD_none, Int.toNat_natCast]
      split
      · rw [h6 (by omega)]; exact .w _
      · rw [h5 (by omega)]
        simp only [Option.map_some, add_lit]; exact .w _
    · obtain ⟨l', h', m', rfl, rfl, rfl, h1, h2, h3, o', h5, h6, hk⟩ := hs
      refine ⟨_, run_slice_slice ht hn (some ⟨b, o, none⟩) n c hl hh (hbm c) (by omega) (by omega) (by simp; omega) (by simp; omega) h4, sound_pure hr hk ?_⟩
      simp only [Option.getD_some, Int.toNat_natCast]
      split
      · rw [h6 (by omega)]; exact .w _
      · rw [h5 (by omega)]
        simp only [Option.map_some, add_lit]; exact .w _
  · cases hx.w_inv
    obtain ⟨rfl, rfl, h2, rfl, hk⟩ := hs
    refine ⟨_, run_slice_slice ht hn none _ 0 hl hh (hbm 0) (by omega) (by omega) (by simp [h2]) (by simp [h2]) h4, sound_pure hr hk ?_⟩
    have : mx.getD ((0 : Nat) : Int) = 0 := h2
    rw [this]
    exact .w _
  · exact hs.elim

theorem sound_sls {t : TypeId} (ht : P.underlying t = some .string) {x : Operand} {lo hi : Option Operand} {K : AV → Own → Prop} (hr : Rel gl σ w) (he : EnvR N σ w env a)
    (h : slsV gl env (opdAV gl env (cOpd x)) (cOpt lo) (cOpt hi) fun v => K v σ) :
    ∃ z, (Instr.sliceAt t (a.eval x) (lo.map a.eval) (hi.map a.eval) none).run P w = .ok z w ∧ Sound P gl σ w K z w := by
  have hx := opd_vr (gl := gl) hr he x
  unfold slsV at h
  split at h
  · rename_i s hs
    rw [hs] at hx
    rw [hx.w_inv]
    obtain ⟨l, hl, h⟩ := bnd_sound hr he h
    obtain ⟨k, hk, h⟩ := bnd_sound hr he h
    obtain ⟨l', h', rfl, rfl, h1, h2, h3⟩ := h
    exact ⟨_, run_slice_string ht s hl hk (by omega) (by omega) (by omega), sound_pure hr h3 (by simpa using VR.w _)⟩
  · exact h.elim

end Go.Ab
/-! Each operation of the plain machine is sound: stores and what makes memory. -/
namespace Go.Ab
set_option linter.unusedVariables false
set_option linter.unusedSimpArgs false
variable {P : Program} {gl : Nat → Option (List AV)} {N : Nat} {σ : Own} {w : World} {env : Env} {a : Act}

/-- a row of cells whose first ones are known -/
def VRp (I : Nat → Prop) (w : World) (xs : List AV) (cs : List Value) : Prop :=
  xs.length ≤ cs.length ∧ ∀ i, i < xs.length → VR I w (xs.getD i .any) (cs.getD i undef)

theorem VRs.iff {I : Nat → Prop} {xs : List AV} {cs : List Value} : VRs I w xs cs ↔ cs.length = xs.length ∧ ∀ i, i < xs.length → VR I w (xs.getD i .any) (cs.getD i undef) := by
  unfold VRs
  refine and_congr_right fun _ => forall_congr' fun i => ?_
  constructor
  · intro h hi
    rw [List.getD_eq_getElem?_getD, List.getElem?_eq_getElem hi]; exact h hi
  · intro h hi
    have := h hi
    rw [List.getD_eq_getElem?_getD (l := xs), List.getElem?_eq_getElem hi] at this; exact this
theorem VRp.iff {I : Nat → Prop} {xs : List AV} {cs : List Value} (hl : xs.length ≤ cs.length) : VRs I w xs (cs.take xs.length) ↔ VRp I w xs cs := by
  rw [VRs.iff]
  constructor
  · rintro ⟨_, h⟩
    refine ⟨hl, fun i hi => ?_⟩
    have := h i hi
    rw [List.getD_eq_getElem?_getD (l := cs.take _), List.getElem?_take, if_pos hi, ← List.getD_eq_getElem?_getD] at this
    exact this
  · rintro ⟨_, h⟩
    refine ⟨by simp; omega, fun i hi => ?_⟩
    rw [List.getD_eq_getElem?_getD (l := cs.take _), List.getElem?_take, if_pos hi, ← List.getD_eq_getElem?_getD]
    exact h i hi
theorem VRs.p {I : Nat → Prop} {xs : List AV} {cs : List Value} (h : VRs I w xs cs) : VRp I w xs cs := ⟨by rw [h.1]; exact Nat.le_refl _, (VRs.iff.1 h).2⟩
theorem getD_splice {α : Type} (A B : List α) (o : Nat) (d : α) (ho : o + B.length ≤ A.length) (i : Nat) :
    (A.take o ++ B ++ A.drop (o + B.length)).getD i d = if i < o then A.getD i d else if i < o + B.length then B.getD (i - o) d else A.getD i d := by
  simp only [List.getD_eq_getElem?_getD]
  have hA : (A.take o).length = o := by simp; omega
  by_cases h1 : i < o
  · rw [if_pos h1, List.append_assoc, List.getElem?_append_left (by omega), List.getElem?_take, if_pos h1]
  · rw [if_neg h1]
    by_cases h2 : i < o + B.length
    · rw [if_pos h2, List.getElem?_append_left (by simp; omega), List.getElem?_append_right (by omega), hA]
    · rw [if_neg h2, List.getElem?_append_right (by simp; omega), List.getElem?_drop]
      congr 2
      simp; omega
theorem VRp.splice {I : Nat → Prop} {xs ys : List AV} {cs ds : List Value} (h : VRp I w xs cs) (k : VRs I w ys ds) {o : Nat} (ho : o + ys.length ≤ xs.length) :
    VRp I w (xs.take o ++ ys ++ xs.drop (o + ys.length)) (cs.take o ++ ds ++ cs.drop (o + ys.length)) := by
  have hl : ds.length = ys.length := k.1
  refine ⟨by have := h.1; simp; omega, fun i hi => ?_⟩
  rw [getD_splice xs ys o .any ho i, ← hl, getD_splice cs ds o undef (by have := h.1; omega) i]
  have hi' : i < xs.length := by simp at hi; omega
  by_cases h1 : i < o
  · rw [if_pos h1, if_pos h1]; exact h.2 i hi'
  · rw [if_neg h1, if_neg h1]
    by_cases h2 : i < o + ds.length
    · rw [if_pos h2, if_pos (by omega)]; exact (VRs.iff.1 k).2 _ (by omega)
    · rw [if_neg h2, if_neg (by omega)]; exact h.2 i hi'

theorem oneCell_vr {I : Nat → Prop} {x : AV} {u : Value} (h : VR I w x u) (hx : oneCell x = true) : u.oneCell' = true := by
  cases h <;> first
    | rfl
    | (simp [oneCell] at hx; done)
    | (cases u <;> first | rfl | (simp [oneCell] at hx))

theorem cells_vr {I : Nat → Prop} {x : AV} {u : Value} (h : VR I w x u) (hx : (avCells x).all oneCell = true) : VRs I w (avCells x) u.cells.toList ∧ ∀ c ∈ u.cells.toList, c.oneCell' = true := by
  by_cases ha : ∃ xs, x = .agg xs
  · obtain ⟨xs, rfl⟩ := ha
    obtain ⟨cs, rfl, hc⟩ := h.agg_inv
    refine ⟨hc, fun c hcm => ?_⟩
    replace hcm : c ∈ cs.toList := hcm
    obtain ⟨i, hi, rfl⟩ := List.getElem_of_mem hcm
    have hx' : ∀ y ∈ xs, oneCell y = true := by simpa [avCells] using hx
    have hi' : i < xs.length := by have := hc.1; omega
    have := hc.2 i hi'
    rw [List.getD_eq_getElem?_getD, List.getElem?_eq_getElem hi] at this
    exact oneCell_vr this (hx' _ (List.getElem_mem hi'))
  · have e : avCells x = [x] := by cases x <;> first | rfl | exact absurd ⟨_, rfl⟩ ha
    rw [e] at hx ⊢
    have h1 : oneCell x = true := by simpa using hx
    have h2 := oneCell_vr h h1
    have e2 : u.cells = #[u] := by cases u <;> first | rfl | (simp [Value.oneCell'] at h2; done)
    rw [e2]
    exact ⟨.cons h .nil, fun c hc => by simp at hc; rw [hc]; exact h2⟩

theorem beq_eq {m n : Nat} (h : Nat.beq m n = true) : m = n := Nat.eq_of_beq_eq_true h

theorem sound_st {t : TypeId} {n : Nat} (hn : szOf P t = some n) {x y : AV} {u v : Value} {K : AV → Own → Prop} (hr : Rel gl σ w) (hx : VR (Im σ w) w x u) (hy : VR (Im σ w) w y v)
    (h : stV n σ x y fun σ' => K .any σ') : ∃ w', (Instr.storeAt t u v).run P w = .ok () w' ∧ Sound P gl σ w K undef w' := by
  unfold stV at h
  split at h
  · rename_i b o
    cases hx.w_inv
    split at h
    · rename_i e1 e2
      obtain ⟨ob, hb, hl, _, rfl, hk⟩ := h
      obtain ⟨hv, h1⟩ := cells_vr hy e2
      have hsz := beq_eq e1
      obtain ⟨cs, T, c1, c2, c3, c4⟩ := hr.own b ob hb
      have hvl : v.cells.toList.length = n := by rw [hv.1, hsz]
      have run := run_storeCells_at (P := P) b o T v.cells.toList 0 cs w c1 (by omega) h1
      simp only [Nat.add_zero] at run
      have hp : VRp (Im σ w) w ob.xs cs.toList := (VRp.iff (by simp; omega)).1 c4
      have hq := hp.splice hv (o := o) (by omega)
      have hlen : (ob.xs.take o ++ avCells y ++ ob.xs.drop (o + n)).length = ob.xs.length := by simp; omega
      obtain ⟨r1, r2⟩ := rel_set hr hb (ob' := ⟨ob.xs.take o ++ avCells y ++ ob.xs.drop (o + n), ob.cap⟩) (cs' := (cs.toList.take o ++ v.cells.toList ++ cs.toList.drop (o + v.cells.toList.length)).toArray) c1
        (by show _ = ob.cap; simp only [List.size_toArray, List.length_append, List.length_take, List.length_drop, Array.length_toList] at hvl ⊢; omega) (by show _ ≤ ob.cap; rw [hlen]; exact c3)
        (by
          rw [VRp.iff (by simp at hvl ⊢; omega), hvl]
          rw [hsz] at hq
          simpa using hq)
      refine ⟨_, ?_, .any, _, hk, r1, r2, .any _⟩
      unfold Instr.storeAt
      simp only [Instr.sureAddr, Sem.run_bind, Sem.run_pure, Result.andThen_ok, storeVar, run_sizeOf_sz hn]
      have : v.cells.size = n := by simpa using hvl
      simp only [this, ne_eq, not_true_eq_false, if_false]
      simpa using run
    · exact h.elim
  · exact h.elim

/-- a new row -/
theorem run_newRow (t : TypeId) (cs : Array Value) : (newRow t cs).run P w = .ok ⟨w.heap.size, 0, none⟩ (w.alloc (.cells cs t)) := by
  simp [newRow]

/-- cells that nobody writes, just made -/
theorem vra_new {xs : List AV} {cs : Array Value} {t : TypeId} (h : VRs (Im σ w) w xs cs.toList) (hf : σ w.heap.size = none) : VRa (Im σ (w.alloc (.cells cs t))) (w.alloc (.cells cs t)) xs ⟨w.heap.size, 0, none⟩ := by
  intro i hi
  have hi' : i < cs.size := by have := h.1; simp at this; omega
  refine ⟨⟨by simp, hf⟩, cs[i], ?_, ?_⟩
  · rw [add_lit]
    have : (w.alloc (.cells cs t)).heap[w.heap.size]? = some (.cells cs t (0, 0)) := by show (w.heap.push _)[w.heap.size]? = _; simp
    unfold World.cell?
    rw [this]
    simp [hi']
  · have := h.2 i hi
    rw [List.getD_eq_getElem?_getD, List.getElem?_eq_getElem (by simpa using hi')] at this
    exact (stays_new σ w _).vr (by simpa using this)

theorem own_new (hr : Rel gl σ w) {xs : List AV} {cs : Array Value} (t : TypeId) (h : VRs (Im σ w) w xs cs.toList) :
    Rel gl (upd σ w.heap.size ⟨xs, xs.length⟩) (w.alloc (.cells cs t)) ∧ Stays σ w (upd σ w.heap.size ⟨xs, xs.length⟩) (w.alloc (.cells cs t)) := by
  have hl : cs.size = xs.length := by have := h.1; simpa using this
  refine rel_own hr (ob := ⟨xs, xs.length⟩) hl (Nat.le_refl _) ?_
  show VRs _ _ xs (cs.toList.take xs.length)
  rw [List.take_of_length_le (by simp; omega)]
  exact h

theorem sound_row {xs : List AV} {cs : Array Value} {own : Bool} (t : TypeId) {K : AV → Own → Prop} (hr : Rel gl σ w) (h : VRs (Im σ w) w xs cs.toList) (hk : boxV own xs σ K) :
    Sound P gl σ w K (.pointer (some ⟨w.heap.size, 0, none⟩)) (w.alloc (.cells cs t)) := by
  cases own with
  | false => exact ⟨_, σ, hk, rel_new hr _, stays_new σ w _, .mk_fp (vra_new h hr.fresh)⟩
  | true =>
    obtain ⟨r1, r2⟩ := own_new hr t h
    exact ⟨_, _, hk _ hr.fresh, r1, r2, .w _⟩

theorem boxable_vr {I : Nat → Prop} {x : AV} {u : Value} (hx : VR I w x u) (h : boxable x = true) : VRs I w (avCells x) u.cells.toList := by
  by_cases ha : ∃ xs, x = .agg xs
  · obtain ⟨xs, rfl⟩ := ha
    obtain ⟨cs, rfl, hc⟩ := hx.agg_inv; exact hc
  · have h1 : oneCell x = true := by cases x <;> first | exact h | exact absurd ⟨_, rfl⟩ ha
    have h2 := oneCell_vr hx h1
    have e : avCells x = [x] := by cases x <;> first | rfl | exact absurd ⟨_, rfl⟩ ha
    have e2 : u.cells = #[u] := by cases u <;> first | rfl | (simp [Value.oneCell'] at h2; done)
    rw [e, e2]; exact .cons hx .nil

theorem sound_box {t : TypeId} {own : Bool} {x : AV} {u : Value} {K : AV → Own → Prop} (hr : Rel gl σ w) (hx : VR (Im σ w) w x u) (h1 : boxable x = true) (hk : boxV own (avCells x) σ K) :
    ∃ z w', (Instr.box t u).run P w = .ok z w' ∧ Sound P gl σ w K z w' := by
  have hc : VRs (Im σ w) w (avCells x) u.cells.toList := boxable_vr hx h1
  refine ⟨_, _, ?_, sound_row t hr hc hk⟩
  simp [Instr.box, newVar, newRow]

theorem map_cAV_vr {I : Nat → Prop} : ∀ l : List Value, VRs I w (l.map cAV) l
  | [] => .nil
  | v :: r => .cons (cAV_vr v) (map_cAV_vr r)

theorem sound_alloc {t : TypeId} {z : List Value} {own : Bool} (hz : zeroOf P t = some z) {K : AV → Own → Prop} (hr : Rel gl σ w) (hk : boxV own (z.map cAV) σ K) :
    ∃ v w', (Instr.alloc t true (.tuple #[])).run P w = .ok v w' ∧ Sound P gl σ w K v w' := by
  unfold zeroOf at hz
  cases hi : P.info? t with
  | none => simp [hi] at hz
  | some i =>
    cases hzz : i.zero with
    | none => simp [hi, hzz] at hz
    | some v =>
      have e : v.cells.toList = z := by simpa [hi, hzz] using hz
      refine ⟨_, _, ?_, sound_row (cs := v.cells) t hr (by rw [e]; exact map_cAV_vr z) hk⟩
      simp [Instr.alloc, zeroValue, run_typeInfo w hi, hzz, newVar, newRow]

end Go.Ab
/-! Each operation of the plain machine is sound: structs and rows made out of parts; make. -/
namespace Go.Ab
set_option linter.unusedVariables false
set_option linter.unusedSimpArgs false
variable {P : Program} {gl : Nat → Option (List AV)} {N : Nat} {σ : Own} {w : World} {env : Env} {a : Act}

theorem fold_set (off : Nat) : ∀ (l : List Value) (k : Nat) (cs : Array Value), off + k + l.length ≤ cs.size →
    ((l.zipIdx k).foldl (fun (cs : Array Value) (p : Value × Nat) => cs.setIfInBounds (off + p.2) p.1) cs).toList = cs.toList.take (off + k) ++ l ++ cs.toList.drop (off + k + l.length)
  | [], k, cs, _ => by simp
  | v :: r, k, cs, h => by
    have h' : off + (k + 1) + r.length ≤ (cs.setIfInBounds (off + k) v).size := by simp at h ⊢; omega
    simp only [List.zipIdx_cons, List.foldl_cons]
    rw [fold_set off r (k + 1) _ h']
    have e := list_seg_step cs.toList (off + k) v r (by simp at h ⊢; omega)
    simpa [Array.toList_setIfInBounds, Nat.add_assoc] using e

theorem fold_set' (off : Nat) (v : Array Value) (cs : Array Value) (h : off + v.size ≤ cs.size) :
    (v.zipIdx.foldl (fun (cs : Array Value) (p : Value × Nat) => cs.setIfInBounds (off + p.2) p.1) cs).toList = cs.toList.take off ++ v.toList ++ cs.toList.drop (off + v.size) := by
  rw [← Array.foldl_toList, Array.toList_zipIdx]
  have := fold_set off v.toList 0 cs (by simpa using h)
  simpa using this

theorem lay_sound (hr : Rel gl σ w) (he : EnvR N σ w env a) (place : Nat → Option (Nat × Nat)) {K : List AV → Prop} : ∀ (parts : List (Nat × Operand)) (ps : List (Nat × Nat × Opd)) (cs : List AV) (ds : Array Value),
    ps.length = parts.length → (∀ (i : Nat) (p : Nat × Operand) (q : Nat × Nat × Opd), parts[i]? = some p → ps[i]? = some q → place p.1 = some (q.1, q.2.1) ∧ q.2.2 = cOpd p.2) →
    VRs (Im σ w) w cs ds.toList → lay gl env ps cs K → ∃ cs' ds', Instr.fill place ds (parts.map fun p => (p.1, a.eval p.2)) = some ds' ∧ VRs (Im σ w) w cs' ds'.toList ∧ K cs'
  | [], ps, cs, ds, hl, _, hv, hk => by
    cases ps with
    | nil => exact ⟨cs, ds, rfl, hv, hk⟩
    | cons q ps => simp at hl
  | p :: parts, ps, cs, ds, hl, hp, hv, hk => by
    cases ps with
    | nil => simp at hl
    | cons q ps =>
      obtain ⟨off, size, x⟩ := q
      obtain ⟨h1, h2⟩ := hp 0 p (off, size, x) rfl rfl
      simp only at h1 h2
      subst h2
      simp only [lay, ev_eq] at hk
      split at hk
      · rename_i e1 e2 e3
        have hx := opd_vr (gl := gl) hr he p.2
        have hc := boxable_vr hx e1
        have hs := beq_eq e2
        have hle : off + size ≤ cs.length := Nat.le_of_ble_eq_true e3
        have hcs : (a.eval p.2).cells.size = size := by have := hc.1; simp at this; omega
        have hds : ds.size = cs.length := by have := hv.1; simpa using this
        have hfold := fold_set' off (a.eval p.2).cells ds (by omega)
        have hnew : VRs (Im σ w) w (cs.take off ++ avCells (opdAV gl env (cOpd p.2)) ++ cs.drop (off + size)) ((a.eval p.2).cells.zipIdx.foldl (fun (cs : Array Value) (p : Value × Nat) => cs.setIfInBounds (off + p.2) p.1) ds).toList := by
          rw [hfold, hcs]
          exact ((hv.take off).append hc).append (hv.drop (off + size))
        obtain ⟨cs', ds', k1, k2, k3⟩ := lay_sound hr he place parts ps _ _ (by simpa using hl) (fun i p' q' a1 a2 => hp (i + 1) p' q' (by simpa using a1) (by simpa using a2)) hnew hk
        refine ⟨cs', ds', ?_, k2, k3⟩
        simp only [List.map_cons, Instr.fill, h1]
        rw [if_neg (by simp; omega)]
        exact k1
      · exact hk.elim

theorem zeroOf_run {t : TypeId} {z : List Value} (h : zeroOf P t = some z) : ∃ v, (zeroValue t).run P w = .ok v w ∧ v.cells.toList = z := by
  unfold zeroOf at h
  cases hi : P.info? t with
  | none => simp [hi] at h
  | some i =>
    cases hz : i.zero with
    | none => simp [hi, hz] at h
    | some v => exact ⟨v, by simp [zeroValue, run_typeInfo w hi, hz], by simpa [hi, hz] using h⟩

theorem get_range_vr {I : Nat → Prop} {z : List Value} {v : Value} (e : v.cells.toList = z) (n : Nat) :
    VRs I w ((List.range n).map fun i => cAV (z[i % z.length]!)) ((Array.range n).map (v.cells[· % v.cells.size]!)).toList := by
  have : ((Array.range n).map (v.cells[· % v.cells.size]!)).toList = ((List.range n).map fun i => z[i % z.length]!) := by
    subst e
    simp only [Array.toList_map, Array.toList_range, Array.length_toList]
    apply List.map_congr_left
    intro i _
    simp [List.getElem!_eq_getElem?_getD, Array.getElem!_eq_getD, Array.getD_eq_getD_getElem?]
  rw [this]
  have e2 : ((List.range n).map fun i => cAV (z[i % z.length]!)) = ((List.range n).map fun i => z[i % z.length]!).map cAV := by simp [Function.comp_def]
  rw [e2]
  exact map_cAV_vr _

/-- a struct's places -/
theorem run_places (fs : Array Field) (h : ∀ f ∈ fs, ∃ n, szOf P f.type = some n) :
    (fs.mapM fun f => do pure (f.offset, ← sizeOf f.type) : Sem (Array (Nat × Nat))).run P w = .ok (fs.map fun f => (f.offset, P.cellsOf f.type)) w := by
  rw [Array.mapM_eq_mapM_toList]
  have key : ∀ l : List Field, (∀ f ∈ l, ∃ n, szOf P f.type = some n) → (l.mapM fun f => do pure (f.offset, ← sizeOf f.type) : Sem (List (Nat × Nat))).run P w = .ok (l.map fun f => (f.offset, P.cellsOf f.type)) w := by
    intro l
    induction l with
    | nil => intro _; rfl
    | cons f l ih =>
      intro hl
      obtain ⟨n, hn⟩ := hl f (by simp)
      obtain ⟨i, hi, hsz⟩ := lt_of_szOf hn
      rw [List.mapM_cons]
      simp only [Sem.run_bind, run_sizeOf_sz hn, Result.andThen_ok, Sem.run_pure, ih (fun g hg => hl g (by simp [hg]))]
      simp [Program.cellsOf, hi, hsz]
  rw [Sem.run_map, key fs.toList (fun f hf => h f (by simpa using hf)), Result.andThen_ok]
  congr 1
  rw [← Array.toList_map]

end Go.Ab
/-! Each operation of the plain machine is sound: structs, rows, make, append. -/
namespace Go.Ab
set_option linter.unusedVariables false
set_option linter.unusedSimpArgs false
variable {P : Program} {gl : Nat → Option (List AV)} {N : Nat} {σ : Own} {w : World} {env : Env} {a : Act}

theorem mapM_some {α β : Type} {f : α → Option β} : ∀ {l : List α} {r : List β}, l.mapM f = some r → r.length = l.length ∧ ∀ (i : Nat) (p : α) (q : β), l[i]? = some p → r[i]? = some q → f p = some q
  | [], r, h => by
    have : r = [] := by simpa using h.symm
    subst this
    exact ⟨rfl, fun i p q h => by simp at h⟩
  | x :: l, r, h => by
    rw [List.mapM_cons] at h
    cases hx : f x with
    | none => simp [hx] at h
    | some y =>
      cases hl : l.mapM f with
      | none => simp [hx, hl] at h
      | some ys =>
        have e : r = y :: ys := by simpa [hx, hl] using h.symm
        subst e
        obtain ⟨h1, h2⟩ := mapM_some hl
        refine ⟨by simp [h1], fun i p q hp hq => ?_⟩
        cases i with
        | zero =>
          have e1 : x = p := by simpa using hp
          have e2 : y = q := by simpa using hq
          subst e1; subst e2; exact hx
        | succ i => exact h2 i p q (by simpa using hp) (by simpa using hq)

theorem sound_build_struct {t : TypeId} {fs : Array Field} (ht : P.underlying t = some (.struct fs)) (hfs : fs.all (fun f => (szOf P f.type).isSome) = true) {z : List Value} (hz : zeroOf P t = some z)
    {parts : Array (Nat × Operand)} {l : List (Nat × Nat × Opd)} (hl : parts.toList.mapM (fun p => match fs[p.1]? with
        | some fd => (szOf P fd.type).map fun n => (fd.offset, n, cOpd p.2)
        | none => none) = some l) {K : AV → Own → Prop} (hr : Rel gl σ w) (he : EnvR N σ w env a) (hk : lay gl env l (z.map cAV) fun cs => K (.agg cs) σ) :
    ∃ v, (Instr.build t (parts.map fun (i, x) => (i, a.eval x))).run P w = .ok v w ∧ Sound P gl σ w K v w := by
  obtain ⟨zv, hz1, hz2⟩ := zeroOf_run (w := w) hz
  obtain ⟨m1, m2⟩ := mapM_some hl
  have hf : ∀ f ∈ fs, ∃ n, szOf P f.type = some n := by
    intro f hf
    have := Array.all_eq_true'.1 hfs f hf
    exact Option.isSome_iff_exists.1 this
  have places : ∀ (i : Nat) (p : Nat × Operand) (q : Nat × Nat × Opd), parts.toList[i]? = some p → l[i]? = some q → (fs.map fun f => (f.offset, P.cellsOf f.type))[p.1]? = some (q.1, q.2.1) ∧ q.2.2 = cOpd p.2 := by
    intro i p q hp hq
    have := m2 i p q hp hq
    cases hfd : fs[p.1]? with
    | none => simp [hfd] at this
    | some fd =>
      cases hn : szOf P fd.type with
      | none => simp [hfd, hn] at this
      | some n =>
        have e : (fd.offset, n, cOpd p.2) = q := by simpa [hfd, hn] using this
        subst e
        obtain ⟨i', hi', hsz⟩ := lt_of_szOf hn
        simp [Array.getElem?_map, hfd, Program.cellsOf, hi', hsz]
  obtain ⟨cs', ds', k1, k2, k3⟩ := lay_sound hr he _ parts.toList l (z.map cAV) zv.cells m1 places (by rw [hz2]; exact map_cAV_vr z) hk
  refine ⟨.agg ds', ?_, sound_pure hr k3 (.mk_agg k2)⟩
  unfold Instr.build
  simp only [Sem.run_bind, hz1, Result.andThen_ok, run_underlying ht, run_places fs hf]
  have : (parts.map fun (x : Nat × Operand) => (x.1, a.eval x.2)).toList = parts.toList.map fun p => (p.1, a.eval p.2) := by simp
  simp only [this, k1]
  rfl

theorem sound_build_array {t e : TypeId} {n len : Nat} (ht : P.underlying t = some (.array len e)) (hn : szOf P e = some n) {z : List Value} (hz : zeroOf P t = some z)
    {parts : Array (Nat × Operand)} {K : AV → Own → Prop} (hr : Rel gl σ w) (he : EnvR N σ w env a) (hk : lay gl env (parts.toList.map fun p => (p.1 * n, n, cOpd p.2)) (z.map cAV) fun cs => K (.agg cs) σ) :
    ∃ v, (Instr.build t (parts.map fun (i, x) => (i, a.eval x))).run P w = .ok v w ∧ Sound P gl σ w K v w := by
  obtain ⟨zv, hz1, hz2⟩ := zeroOf_run (w := w) hz
  have places : ∀ (i : Nat) (p : Nat × Operand) (q : Nat × Nat × Opd), parts.toList[i]? = some p → (parts.toList.map fun p => (p.1 * n, n, cOpd p.2))[i]? = some q → some (p.1 * n, n) = some (q.1, q.2.1) ∧ q.2.2 = cOpd p.2 := by
    intro i p q hp hq
    rw [List.getElem?_map, hp] at hq
    have e : (p.1 * n, n, cOpd p.2) = q := by simpa using hq
    subst e
    simp
  obtain ⟨cs', ds', k1, k2, k3⟩ := lay_sound hr he (fun i => some (i * n, n)) parts.toList _ (z.map cAV) zv.cells (by simp) places (by rw [hz2]; exact map_cAV_vr z) hk
  refine ⟨.agg ds', ?_, sound_pure hr k3 (.mk_agg k2)⟩
  unfold Instr.build
  simp only [Sem.run_bind, hz1, Result.andThen_ok, run_underlying ht, run_sizeOf_sz hn]
  have : (parts.map fun (x : Nat × Operand) => (x.1, a.eval x.2)).toList = parts.toList.map fun p => (p.1, a.eval p.2) := by simp
  simp only [this, k1]
  rfl

theorem sound_slice_row {cs : List AV} {ds : Array Value} {own : Bool} {len : Nat} (t : TypeId) {K : AV → Own → Prop} (hr : Rel gl σ w) (h : VRs (Im σ w) w cs ds.toList) (hk : bslV own len cs σ K) :
    Sound P gl σ w K (.slice (some ⟨w.heap.size, 0, none⟩) len len) (w.alloc (.cells ds t)) := by
  cases own with
  | false => exact ⟨_, σ, hk, rel_new hr _, stays_new σ w _, .mk_ff (vra_new h hr.fresh)⟩
  | true =>
    obtain ⟨r1, r2⟩ := own_new hr t h
    exact ⟨_, _, hk _ hr.fresh, r1, r2, .w _⟩

theorem sound_bsl {t e : TypeId} {n len : Nat} {own : Bool} (ht : P.underlying t = some (.slice e)) (hn : szOf P e = some n) {z : List Value} (hz : zeroOf P e = some z) (hlen : len * n ≤ 16777216)
    {parts : Array (Nat × Operand)} {K : AV → Own → Prop} (hr : Rel gl σ w) (he : EnvR N σ w env a)
    (hk : lay gl env ((parts.toList.map fun p => (p.1, cOpd p.2)).map fun p => (p.1 * n, n, p.2)) ((List.range (len * n)).map fun i => cAV (z[i % z.length]!)) fun cs => bslV own len cs σ K) :
    ∃ v w', (Instr.buildSlice t len (parts.map fun (i, x) => (i, a.eval x))).run P w = .ok v w' ∧ Sound P gl σ w K v w' := by
  obtain ⟨zv, hz1, hz2⟩ := zeroOf_run (w := w) hz
  have places : ∀ (i : Nat) (p : Nat × Operand) (q : Nat × Nat × Opd), parts.toList[i]? = some p → ((parts.toList.map fun p => (p.1, cOpd p.2)).map fun p => (p.1 * n, n, p.2))[i]? = some q → some (p.1 * n, n) = some (q.1, q.2.1) ∧ q.2.2 = cOpd p.2 := by
    intro i p q hp hq
    rw [List.map_map, List.getElem?_map, hp] at hq
    have e : (p.1 * n, n, cOpd p.2) = q := by simpa using hq
    subst e
    simp
  obtain ⟨cs', ds', k1, k2, k3⟩ := lay_sound hr he (fun i => some (i * n, n)) parts.toList _ _ ((Array.range (len * n)).map (zv.cells[· % zv.cells.size]!)) (by simp) places (get_range_vr hz2 (len * n)) hk
  refine ⟨_, _, ?_, sound_slice_row e hr k2 k3⟩
  unfold Instr.buildSlice
  simp only [Sem.run_bind, Result.andThen_ok, run_underlying ht, run_sizeOf_sz hn]
  rw [if_neg (by simp; omega)]
  have e2 : (parts.map fun (x : Nat × Operand) => (x.1, a.eval x.2)).toList = parts.toList.map fun p => (p.1, a.eval p.2) := by simp
  by_cases h0 : len * n = 0
  · have e3 : (Array.range (len * n)).map (zv.cells[· % zv.cells.size]!) = #[] := by rw [h0]; simp
    have e4 : ∀ f : Nat → Value, (Array.range (len * n)).map f = #[] := fun f => by rw [h0]; simp
    rw [e3] at k1
    simp only [if_pos h0, Sem.run_bind, Sem.run_pure, Result.andThen_ok, e2, e4, k1]
    simp [newRow]
  · simp only [if_neg h0, Sem.run_bind, hz1, Sem.run_pure, Result.andThen_ok, e2, k1]
    simp [newRow]

theorem wrap_i64_of {n : Nat} (h : n ≤ 9223372036854775807) : IntKind.i64.wrap (n : Int) = n := by
  rw [IntKind.wrap_i64]; omega

theorem sound_mks {t e : TypeId} {i : TypeInfo} {z : Value} (ht : P.underlying t = some (.slice e)) (hi : P.info? e = some i) (hz : i.zero = some z) {x y : AV} {u v : Value} {K : AV → Own → Prop} (hr : Rel gl σ w)
    (hx : VR (Im σ w) w x u) (hy : VR (Im σ w) w y v) (hk : mksV i.size i.bytes z.cells.toList x y σ K) : ∃ r w', (Instr.makeSlice t u v).run P w = .ok r w' ∧ Sound P gl σ w K r w' := by
  unfold mksV at hk
  split at hk
  · cases hx.w_inv; cases hy.w_inv
    obtain ⟨n, m, rfl, rfl, hnm, hb, hm, hk⟩ := hk
    have hv := get_range_vr (w := w) (I := Im σ w) (z := z.cells.toList) (v := z) rfl (m * i.size)
    have hw1 := wrap_i64_of (n := n) (by omega)
    have hw2 := wrap_i64_of (n := m) hm
    obtain ⟨r1, r2⟩ := own_new hr e hv
    refine ⟨_, w.alloc (.cells ((Array.range (m * i.size)).map (z.cells[· % z.cells.size]!)) e), ?_, ⟨_, _, hk _ hr.fresh, ?_, ?_, .w _⟩⟩
    · unfold Instr.makeSlice
      simp only [Sem.run_bind, Result.andThen_ok, run_underlying ht, run_typeInfo w hi, asInt, asIntOf, Sem.run_pure, hw1, hw2]
      have t1 : (decide ((m : Int) < 0) || decide ((i.bytes : Int) * m > 2 ^ 48)) = false := by
        have : ¬ (i.bytes : Int) * m > 2 ^ 48 := by
          have e1 : (i.bytes : Int) * m = ((m * i.bytes : Nat) : Int) := by rw [Nat.mul_comm]; simp
          rw [e1]; omega
        simp [this]
        omega
      simp only [t1]
      rw [if_neg (by simp; omega)]
      simp only [Sem.run_bind, run_askRoom, Result.andThen_ok, Int.toNat_natCast, run_sizeOf w hi]
      have hcs : P.cellsOf e = i.size := by simp [Program.cellsOf, hi]
      rw [hcs]
      by_cases h0 : m * i.size = 0
      · have e4 : ∀ f : Nat → Value, (Array.range (m * i.size)).map f = #[] := fun f => by rw [h0]; simp
        simp only [if_pos h0, Sem.run_bind, Sem.run_pure, Result.andThen_ok, e4]
        simp [newRow]
      · simp only [if_neg h0, Sem.run_bind, zeroValue, run_typeInfo w hi, hz, Sem.run_pure, Result.andThen_ok]
        simp [newRow]
    · simpa using r1
    · simpa using r2
  · exact hk.elim

end Go.Ab
/-! Each operation of the plain machine is sound: append. -/
namespace Go.Ab
set_option linter.unusedVariables false
set_option linter.unusedSimpArgs false
variable {P : Program} {gl : Nat → Option (List AV)} {N : Nat} {σ : Own} {w : World} {env : Env} {a : Act}

theorem growBy_le (need : Nat) (h : 256 ≤ need) : ∀ (r c : Nat), c ≤ 2 * need → Builtin.growBy need r c ≤ 2 * need
  | 0, c, hc => hc
  | r + 1, c, hc => by
    unfold Builtin.growBy
    split
    · exact hc
    · exact growBy_le need h r _ (by omega)
theorem nextcap_le {need cap : Nat} (h : cap < need) : Builtin.nextslicecap need cap ≤ 2 * need := by
  unfold Builtin.nextslicecap
  split
  · omega
  · split
    · omega
    · exact growBy_le need (by omega) 4 cap (by omega)

/-- the operand's first cells, in this world and in every one that reads alike -/
def Firsts (P : Program) (w : World) (size n : Nat) (v : Value) (cs : List Value) : Prop :=
  ∀ w' : World, (∀ a, w'.cell? a = w.cell? a) → (Builtin.firstCells size n v).run P w' = .ok cs.toArray w'

theorem firsts_addr {size n : Nat} {ad : Addr} {l c : Nat} {cs : List Value} (hl : cs.length = n * size) (h : ∀ j v, cs[j]? = some v → w.cell? (ad.add j) = some v) : Firsts P w size n (.slice (some ad) l c) cs := by
  intro w' hw
  have := run_loadCells_list (P := P) w' ad cs (fun j v hj => by rw [hw]; exact h j v hj)
  rw [hl] at this
  simpa [Builtin.firstCells] using this
theorem firsts_nil {size n : Nat} {l c : Nat} : Firsts P w size n (.slice none l c) [] := by
  intro w' hw; rfl

theorem firsts_vra {xs : List AV} {ad : Addr} {size n : Nat} {l c : Nat} (h : VRa (Im σ w) w xs ad) (hl : n * size ≤ xs.length) : ∃ cs, Firsts P w size n (.slice (some ad) l c) cs ∧ VRs (Im σ w) w (xs.take (n * size)) cs := by
  obtain ⟨cs, h1, h2⟩ := vra_list (h.take (n * size))
  exact ⟨cs, firsts_addr (by rw [h1.1]; simp; omega) h2, h1⟩
theorem firsts_own (hr : Rel gl σ w) {b o : Nat} {ob : Ob} (hb : σ b = some ob) {size n : Nat} {l c : Nat} (hl : o + n * size ≤ ob.xs.length) :
    ∃ cs, Firsts P w size n (.slice (some ⟨b, o, none⟩) l c) cs ∧ VRs (Im σ w) w ((ob.xs.drop o).take (n * size)) cs := by
  obtain ⟨cs, T, h1, h2, h3, h4, h5⟩ := own_vra hr hb o
  have hv := (h4.drop o).take (n * size)
  refine ⟨_, firsts_addr (by rw [hv.1]; simp; omega) (fun j v hj => ?_), hv⟩
  rw [add_lit]
  rw [List.getElem?_take] at hj
  split at hj
  · rw [List.getElem?_drop, List.getElem?_take] at hj
    split at hj
    · simp [World.cell?, h1]; simpa using hj
    · cases hj
  · cases hj

theorem srcR_sound {str : Bool} {size : Nat} {y : AV} {v : Value} {K : List AV → Nat → Prop} (hr : Rel gl σ w) (hy : VR (Im σ w) w y v) (h : srcR str size y σ K) :
    ∃ ys n cs, K ys n ∧ (Builtin.lenOf v).run P w = .ok n w ∧ Firsts P w size n v cs ∧ VRs (Im σ w) w ys cs ∧ cs.length = n * size := by
  unfold srcR at h
  split at h
  · split at h
    · obtain ⟨h1, h2⟩ := h
      rcases hy.fs_inv with ⟨ad, c, rfl, hc, hA⟩ | ⟨rfl, rfl, rfl⟩
      · obtain ⟨cs, k1, k2⟩ := firsts_vra (P := P) (l := _) (c := c) hA h1
        exact ⟨_, _, cs, h2, rfl, k1, k2, by rw [k2.1]; simp; omega⟩
      · exact ⟨_, _, [], h2, rfl, firsts_nil, by simpa using VRs.nil, by simp⟩
    · obtain ⟨h1, h2⟩ := h
      rcases hy.ff_inv with ⟨ad, rfl, hA⟩ | ⟨rfl, rfl, rfl⟩
      · obtain ⟨cs, k1, k2⟩ := firsts_vra (P := P) (l := _) (c := _) hA h1
        exact ⟨_, _, cs, h2, rfl, k1, k2, by rw [k2.1]; simp; omega⟩
      · exact ⟨_, _, [], h2, rfl, firsts_nil, by simpa using VRs.nil, by simp⟩
    · cases hy.w_inv
      obtain ⟨rfl, h2⟩ := h
      exact ⟨_, _, [], h2, rfl, firsts_nil, .nil, by simp⟩
    · cases hy.w_inv
      obtain ⟨ob, hb, h1, h2⟩ := h
      obtain ⟨cs, k1, k2⟩ := firsts_own (P := P) hr hb h1
      exact ⟨_, _, cs, h2, rfl, k1, k2, by rw [k2.1]; simp; omega⟩
    · exact h.elim
  · split at h
    · rename_i s
      cases hy.w_inv
      obtain ⟨rfl, h2⟩ := h
      refine ⟨_, _, s.toList.map fun b => .int .u8 b.toNat, h2, rfl, ?_, ?_, ?_⟩
      · intro w' hw
        have e : s.extract 0 s.size = s := by
          apply ByteArray.ext
          simp
        simp only [Builtin.firstCells, e, ByteArray.toList_eq, Sem.run_pure]
        congr 1
        apply Array.ext'
        simp
      · have : (s.toList.map fun b => AV.w (.int .u8 b.toNat)) = (s.toList.map fun b => Value.int .u8 b.toNat).map cAV := by simp [cAV]
        rw [this]; exact map_cAV_vr _
      · simp [ByteArray.toList_eq]
    · exact h.elim

theorem vrs_append_pad {I : Nat → Prop} {xs : List AV} {cs ds : List Value} (h : VRs I w xs cs) : VRs I w xs ((cs ++ ds).take xs.length) := by
  have : (cs ++ ds).take xs.length = cs := by rw [← h.1]; simp
  rw [this]; exact h

/-- new memory behind an append: what was there, what comes, noughts -/
theorem sound_grown (hr : Rel gl σ w) {xs ys : List AV} {cs ds : List Value} (hx : VRs (Im σ w) w xs cs) (hy : VRs (Im σ w) w ys ds) {zs : List Value} {size need c' : Nat} (e : TypeId) (hl : cs.length + ds.length = need * size)
    (hz : zs.length = (c' - need) * size) (hc : need ≤ c') {K : AV → Own → Prop} (n : Nat) (hk : ∀ b, σ b = none → K (.w (.slice (some ⟨b, 0, none⟩) need c')) (upd σ b ⟨xs ++ ys, c' * size⟩)) :
    Sound P gl σ w K (.slice (some ⟨w.heap.size, 0, none⟩) need c') ({ w with drawn := n }.alloc (.cells (cs ++ ds ++ zs).toArray e)) := by
  have hr' : Rel gl σ { w with drawn := n } := hr.stay (Stays.drew σ w n) fun _ _ _ => rfl
  have hxy : VRs (Im σ { w with drawn := n }) { w with drawn := n } (xs ++ ys) (cs ++ ds) := ((hx.append hy).mono (Stays.drew σ w n).I)
  have hlen : (xs ++ ys).length = need * size := by have := hx.1; have := hy.1; simp; omega
  have hmul : need * size + (c' - need) * size = c' * size := by rw [← Nat.add_mul]; congr 1; omega
  obtain ⟨r1, r2⟩ := rel_own hr' (ob := ⟨xs ++ ys, c' * size⟩) (cs := (cs ++ ds ++ zs).toArray) (T := e) (by simp; omega) (by show (xs ++ ys).length ≤ c' * size; rw [hlen]; exact Nat.mul_le_mul_right _ hc)
    (by show VRs _ _ (xs ++ ys) (((cs ++ ds ++ zs).toArray).toList.take (xs ++ ys).length); exact vrs_append_pad hxy)
  exact ⟨_, _, hk _ hr.fresh, r1, (Stays.drew σ w n).trans r2, .w _⟩

theorem zeroCells_length (z : Array Value) (n : Nat) : (Builtin.zeroCells z n).toList.length = n * z.size := by simp [Builtin.zeroCells]

/-- the run of an append that grows -/
theorem run_append_grow {t u e : TypeId} {i : TypeInfo} {z : Value} (ht : P.underlying t = some (.slice e)) (hi : P.info? e = some i) (hz : i.zero = some z) (hu : (∃ d, P.underlying u = some (.slice d)) ∨ P.underlying u = some .string)
    {ty : TypeId} {base : Option Addr} {m c n : Nat} {v : Value} {cs ds : List Value} (hn : (Builtin.lenOf v).run P w = .ok n w) (hc : c < m + n) (h1 : m + n ≤ 9223372036854775807) (h2 : (m + n) * 2 * i.bytes ≤ 281474976710656)
    (hx : Firsts P w i.size m (.slice base m c) cs) (hy : Firsts P w i.size n v ds) : ∃ c' k, m + n ≤ c' ∧
    (Builtin.append_ #[t, u] ty #[.slice base m c, v]).run P w = .ok (.slice (some ⟨w.heap.size, 0, none⟩) (m + n) c') ({ w with drawn := k }.alloc (.cells (cs ++ ds ++ (Builtin.zeroCells z.cells (c' - (m + n))).toList).toArray e)) := by
  refine ⟨(Question.appendCap (m + n) c e).cut (w.tape w.drawn (.appendCap (m + n) c e)), w.drawn + 1, by simp [Question.cut], ?_⟩
  have hcs : P.cellsOf e = i.size := by simp [Program.cellsOf, hi]
  have hcap : ¬ (Builtin.nextslicecap (m + n) c * i.bytes > 2 ^ 48) := by
    have h3 := nextcap_le hc
    have h4 : Builtin.nextslicecap (m + n) c * i.bytes ≤ (2 * (m + n)) * i.bytes := Nat.mul_le_mul_right _ h3
    have h5 : (2 * (m + n)) * i.bytes = (m + n) * 2 * i.bytes := by rw [Nat.mul_comm 2]
    omega
  have hbig : ¬ (((m + n : Nat) : Int) > IntKind.i64.max ∧ ((false : Bool) = true ∨ i.bytes = 0)) := by
    have := IntKind.max_i64; omega
  have hwd : ∀ a, ({ w with drawn := w.drawn + 1 } : World).cell? a = w.cell? a := fun a => rfl
  have hx' := hx _ hwd
  have hy' := hy _ hwd
  rcases hu with ⟨d, hd⟩ | hd
  all_goals
    unfold Builtin.append_
    simp only [List.getElem?_toArray, List.getElem?_cons_zero, List.getElem?_cons_succ, Sem.run_bind, run_underlying ht, Result.andThen_ok, run_sizeOf w hi, hcs, run_underlying hd, Sem.run_pure,
      Bool.false_eq_true, if_false, hn]
    rw [if_neg (by omega)]
    simp only [Sem.run_bind, run_typeInfo w hi, Result.andThen_ok]
    rw [if_neg (by have := IntKind.max_i64; omega)]
    simp only [Sem.run_bind, run_typeInfo w hi, Result.andThen_ok]
    rw [if_neg hcap]
    simp only [Sem.run_bind, run_choose, Question.forced, Bool.false_eq_true, if_false, Result.andThen_ok, run_typeInfo _ hi, run_askRoom, hx', Bool.not_false, if_true, hy']
    simp only [zeroValue, Sem.run_bind, run_typeInfo _ hi, hz, Sem.run_pure, Result.andThen_ok, run_newRow]
    have earr : ∀ q : Array Value, cs.toArray ++ ds.toArray ++ q = (cs ++ ds ++ q.toList).toArray := by
      intro q
      apply Array.ext'
      simp
    rw [earr]

/-- the run of an append in place -/
theorem run_append_here {t u e : TypeId} {i : TypeInfo} (ht : P.underlying t = some (.slice e)) (hi : P.info? e = some i) (hu : (∃ d, P.underlying u = some (.slice d)) ∨ P.underlying u = some .string)
    {ty : TypeId} {base : Option Addr} {m c n : Nat} {v : Value} {ds : List Value} (hn : (Builtin.lenOf v).run P w = .ok n w) (hc : m + n ≤ c)
    (hy : Firsts P w i.size n v ds) : (Builtin.append_ #[t, u] ty #[.slice base m c, v]).run P w = match base with
      | some a => ((storeCells (a.add (m * i.size)) ds).run P w).andThen fun _ w' => .ok (.slice base (m + n) c) w'
      | none => .ok (.slice none (m + n) c) w := by
  have hcs : P.cellsOf e = i.size := by simp [Program.cellsOf, hi]
  have hy' := hy w (fun _ => rfl)
  rcases hu with ⟨d, hd⟩ | hd
  all_goals
    unfold Builtin.append_
    simp only [List.getElem?_toArray, List.getElem?_cons_zero, List.getElem?_cons_succ, Sem.run_bind, run_underlying ht, Result.andThen_ok, run_sizeOf w hi, hcs, run_underlying hd, Sem.run_pure,
      Bool.false_eq_true, if_false, hn]
    rw [if_pos hc]
    simp only [Sem.run_bind, Bool.not_false, if_true, hy', Result.andThen_ok]
    cases base with
    | none => rfl
    | some a => simp

theorem sound_app {t u e : TypeId} {i : TypeInfo} {z : Value} (ht : P.underlying t = some (.slice e)) (hi : P.info? e = some i) (hz : i.zero = some z) (hzs : z.cells.size = i.size) (hu : (∃ d, P.underlying u = some (.slice d)) ∨ P.underlying u = some .string)
    {ty : TypeId} {str : Bool} {x y : AV} {p v : Value} {K : AV → Own → Prop} (hr : Rel gl σ w) (hx : VR (Im σ w) w x p) (hy : VR (Im σ w) w y v)
    (h : srcR str i.size y σ fun ys n => appR i.size i.bytes x ys n σ K) : ∃ r w', (Builtin.append_ #[t, u] ty #[p, v]).run P w = .ok r w' ∧ Sound P gl σ w K r w' := by
  obtain ⟨ys, n, ds, hk, hn, hf, hv, hl⟩ := srcR_sound (P := P) hr hy h
  have hzl : ∀ k, (Builtin.zeroCells z.cells k).toList.length = k * i.size := fun k => by rw [zeroCells_length, hzs]
  unfold appR at hk
  split at hk
  · cases hx.w_inv
    obtain ⟨rfl, rfl, h1, h2⟩ := hk
    by_cases h0 : n = 0
    · subst h0
      exact ⟨_, _, run_append_here ht hi hu hn (by omega) hf, sound_pure hr (h1 rfl) (.w _)⟩
    · obtain ⟨h3, h4, h5⟩ := h2 (by omega)
      obtain ⟨c', k, hc', run⟩ := run_append_grow (ty := ty) (base := none) (m := 0) (c := 0) ht hi hz hu hn (by omega) (by omega) (by simpa using h4) firsts_nil hf
      simp only [Nat.zero_add] at hc' run
      exact ⟨_, _, run, sound_grown hr (xs := []) (cs := []) .nil hv e (by simpa using hl) (hzl _) hc' k (fun b hb => by simpa using h5 b c' hb hc')⟩
  · rename_i xs m
    obtain ⟨hlx, h1, h2⟩ := hk
    rcases hx.ff_inv with ⟨ad, rfl, hA⟩ | ⟨rfl, rfl, rfl⟩
    · by_cases h0 : n = 0
      · subst h0
        have hd : ds = [] := by simpa using hl
        subst hd
        refine ⟨_, w, ?_, sound_pure hr (h1 rfl) (.mk_ff hA)⟩
        rw [run_append_here ht hi hu hn (by omega) hf]
        simp [storeCells]
      · obtain ⟨h3, h4, h5⟩ := h2 (by omega)
        obtain ⟨cs, k1, k2⟩ := firsts_vra (P := P) (l := m) (c := m) hA hlx
        obtain ⟨c', k, hc', run⟩ := run_append_grow (ty := ty) ht hi hz hu hn (by omega) h3 h4 k1 hf
        exact ⟨_, _, run, sound_grown hr k2 hv e (by rw [hl, k2.1]; simp only [List.length_take]; rw [Nat.min_eq_left hlx, Nat.add_mul]) (hzl _) hc' k (fun b hb => h5 b c' hb hc')⟩
    · by_cases h0 : n = 0
      · subst h0
        exact ⟨_, _, run_append_here ht hi hu hn (by omega) hf, sound_pure hr (h1 rfl) .ff0⟩
      · obtain ⟨h3, h4, h5⟩ := h2 (by omega)
        obtain ⟨c', k, hc', run⟩ := run_append_grow (ty := ty) (base := none) (m := 0) (c := 0) ht hi hz hu hn (by omega) h3 h4 firsts_nil hf
        exact ⟨_, _, run, sound_grown hr (xs := []) (cs := []) .nil hv e (by simpa using hl) (hzl _) hc' k (fun b hb => by simpa using h5 b c' hb hc')⟩
  · rename_i b o m c
    cases hx.w_inv
    obtain ⟨ob, hb, h1, h2, h3, h4, h5, h6, h7, h8⟩ := hk
    by_cases hc : m + n ≤ c
    · obtain ⟨cs, T, c1, c2, c3, c4⟩ := hr.own b ob hb
      have hone : ∀ q ∈ ds, q.oneCell' = true := by
        intro q hq
        obtain ⟨j, hj, rfl⟩ := List.getElem_of_mem hq
        have hj' : j < ys.length := by have := hv.1; omega
        have := hv.2 j hj'
        rw [List.getD_eq_getElem?_getD, List.getElem?_eq_getElem hj] at this
        exact oneCell_vr this (List.all_eq_true.1 h6 _ (List.getElem_mem hj'))
      have hmn : o + m * i.size + n * i.size ≤ ob.cap := by
        have : (m + n) * i.size ≤ c * i.size := Nat.mul_le_mul_right _ hc
        rw [Nat.add_mul] at this
        omega
      have run := run_storeCells_at (P := P) b (o + m * i.size) T ds 0 cs w c1 (by rw [hl]; omega) hone
      simp only [Nat.add_zero] at run
      have hyl : ys.length = n * i.size := by rw [← hv.1, hl]
      have hp : VRp (Im σ w) w ob.xs cs.toList := (VRp.iff (by simp; omega)).1 c4
      -- what is known of the block afterwards
      have hq : VRp (Im σ w) w (ob.xs.take (o + m * i.size) ++ ys ++ ob.xs.drop (o + (m + n) * i.size)) (cs.toList.take (o + m * i.size) ++ ds ++ cs.toList.drop (o + m * i.size + ds.length)) := by
        have e1 : o + (m + n) * i.size = o + m * i.size + ds.length := by rw [hl, Nat.add_mul]; omega
        rw [e1]
        have a1 := ((VRp.iff (w := w) (I := Im σ w) (by simp; omega)).2 hp).take (o + m * i.size)
        have a2 : VRs (Im σ w) w (ob.xs.take (o + m * i.size)) (cs.toList.take (o + m * i.size)) := by
          have e2 : (cs.toList.take ob.xs.length).take (o + m * i.size) = cs.toList.take (o + m * i.size) := by rw [List.take_take]; congr 1; omega
          rw [e2] at a1; exact a1
        have a3 := ((VRp.iff (w := w) (I := Im σ w) (by simp; omega)).2 hp).drop (o + m * i.size + ds.length)
        rw [List.drop_take] at a3
        have a4 := ((a2.append hv).append a3)
        refine ⟨by have := a4.1; have := hv.1; simp at *; omega, fun j hj => ?_⟩
        have := (VRs.iff.1 a4).2 j hj
        have e5 : ∀ (A B : List Value) (k : Nat), j < (A ++ B.take k).length → (A ++ B.take k).getD j undef = (A ++ B).getD j undef := by
          intro A B k hjk
          simp only [List.getD_eq_getElem?_getD]
          by_cases hjA : j < A.length
          · rw [List.getElem?_append_left hjA, List.getElem?_append_left hjA]
          · rw [List.getElem?_append_right (by omega), List.getElem?_append_right (by omega), List.getElem?_take]
            rw [if_pos (by simp at hjk; omega)]
        rw [e5 _ _ _ (by rw [a4.1]; exact hj)] at this
        exact this
      have hlen : (ob.xs.take (o + m * i.size) ++ ys ++ ob.xs.drop (o + (m + n) * i.size)).length ≤ ob.cap := by
        simp only [List.length_append, List.length_take, List.length_drop, hyl]
        rw [Nat.add_mul]; omega
      obtain ⟨r1, r2⟩ := rel_set hr hb (ob' := ⟨ob.xs.take (o + m * i.size) ++ ys ++ ob.xs.drop (o + (m + n) * i.size), ob.cap⟩)
        (cs' := (cs.toList.take (o + m * i.size) ++ ds ++ cs.toList.drop (o + m * i.size + ds.length)).toArray) c1
        (by show _ = ob.cap; simp only [List.size_toArray, List.length_append, List.length_take, List.length_drop, Array.length_toList]; omega) hlen
        (by
          show VRs _ _ (ob.xs.take (o + m * i.size) ++ ys ++ ob.xs.drop (o + (m + n) * i.size)) _
          rw [VRp.iff]
          · simpa using hq
          · have := hq.1; simpa using this)
      refine ⟨_, _, ?_, _, _, h7 hc, r1, r2, .w _⟩
      rw [run_append_here ht hi hu hn hc hf]
      simp only [add_lit, run, Result.andThen_ok]
    · obtain ⟨cs, k1, k2⟩ := firsts_own (P := P) hr hb (l := m) (c := c) h1
      obtain ⟨c', k, hc', run⟩ := run_append_grow (ty := ty) ht hi hz hu hn (by omega) h4 h5 k1 hf
      have hld : m * i.size ≤ (ob.xs.drop o).length := by simp; omega
      exact ⟨_, _, run, sound_grown hr k2 hv e (by rw [hl, k2.1]; simp only [List.length_take]; rw [Nat.min_eq_left hld, Nat.add_mul]) (hzl _) hc' k (fun b' hb' => h8 (by omega) b' c' hb' hc')⟩
  · exact hk.elim

end Go.Ab
/-! Each operation of the plain machine is sound. -/
namespace Go.Ab
set_option linter.unusedVariables false
set_option linter.unusedSimpArgs false
variable {P : Program} {gl : Nat → Option (List AV)} {N : Nat} {σ : Own} {w : World} {env : Env} {a : Act}

theorem out_of {s : Sem Value} {Post : Value → World → Prop} (h : ∃ v, s.run P w = .ok v w ∧ Post v w) : OpOut P ((do pure (.value (← s)) : Sem Next).run P w) Post := by
  obtain ⟨v, h1, h2⟩ := h; exact out_value h1 h2
theorem out_of' {s : Sem Value} {Post : Value → World → Prop} (h : ∃ v w', s.run P w = .ok v w' ∧ Post v w') : OpOut P ((do pure (.value (← s)) : Sem Next).run P w) Post := by
  obtain ⟨v, w', h1, h2⟩ := h; exact out_value h1 h2

theorem opds_eq (gl : Nat → Option (List AV)) (env : Env) (l : List Operand) : (l.map cOpd).map (opdAV gl env) = l.map fun o => opdAV gl env (cOpd o) := by simp [Function.comp_def]

theorem list1 {α : Type} {a : Array α} {x : α} (h : a.toList = [x]) : a = #[x] := by apply Array.ext'; simpa using h
theorem list2 {α : Type} {a : Array α} {x y : α} (h : a.toList = [x, y]) : a = #[x, y] := by apply Array.ext'; simpa using h

theorem call_sound {f : FuncId} {args : List Operand} {K : AV → Own → Prop} (hr : Rel gl σ w) (he : EnvR N σ w env a) (h : CallVC (ACalls P gl) (Says gl) f (args.map fun o => opdAV gl env (cOpd o)) σ K) {cargs : Array Value}
    (hc : cargs.toList = args.map a.eval) : OpOut P ((callFunc f cargs).run P w) (Sound P gl σ w K) := by
  obtain ⟨args', σ', hs, ha⟩ := h.out
  have hv := opds_vr (gl := gl) hr he args
  rw [← hc] at hv
  obtain ⟨r1, r2, r3⟩ := hs w _ hr hv
  refine (ha w cargs r1 r3).mono fun cv w' ⟨v, σ'', k1, k2, k3, k4⟩ => ⟨v, σ'', k1, k2, ?_, k4⟩
  exact (stays_says r2).trans k3

theorem sound_cstr {s d : TypeId} (hs : P.underlying s = some .string) (hd : P.underlying d = some .string) {x : AV} {u : Value} {K : AV → Own → Prop} (hr : Rel gl σ w) (hx : VR (Im σ w) w x u)
    (h : cstrV x fun v => K v σ) : ∃ z, (convert s d u).run P w = .ok z w ∧ Sound P gl σ w K z w := by
  unfold cstrV at h
  split at h
  · cases hx.w_inv
    refine ⟨_, ?_, sound_pure hr h (.w _)⟩
    unfold convert
    rw [Sem.run_bind, run_underlying hs, Result.andThen_ok, Sem.run_bind, run_underlying hd, Result.andThen_ok]
    rfl
  · exact h.elim

theorem words_eq {I : Nat → Prop} : ∀ {vs : List Value} {cs : List Value}, VRs I w (vs.map .w) cs → cs = vs
  | [], cs, h => h.nil_inv
  | x :: xs, cs, h => by
    obtain ⟨c, cs', rfl, h1, h2⟩ := h.head
    rw [h1.w_inv, words_eq h2]
theorem push_bytes : ∀ (bs : List UInt8) (r : ByteArray), (bs.map fun b => (b.toNat : Int)).foldl (fun r n => r.push (UInt8.ofNat n.toNat)) r = ⟨r.data ++ bs.toArray⟩
  | [], r => by simp
  | b :: bs, r => by
    simp only [List.map_cons, List.foldl_cons]
    rw [push_bytes bs]
    have : UInt8.ofNat ((b.toNat : Int)).toNat = b := by simp
    rw [this]
    simp [ByteArray.push]
theorem srcR_slice {y : AV} {v : Value} {K : List AV → Nat → Prop} (hy : VR (Im σ w) w y v) (h : srcR false 1 y σ K) : ∃ a l c, v = .slice a l c := by
  unfold srcR at h
  simp only at h
  split at h
  · rcases hy.fs_inv with ⟨ad, c, rfl, _, _⟩ | ⟨rfl, _, _⟩ <;> exact ⟨_, _, _, rfl⟩
  · rcases hy.ff_inv with ⟨ad, rfl, _⟩ | ⟨rfl, _, _⟩ <;> exact ⟨_, _, _, rfl⟩
  · cases hy.w_inv; exact ⟨_, _, _, rfl⟩
  · cases hy.w_inv; exact ⟨_, _, _, rfl⟩
  · exact h.elim
theorem sound_bstr {s d e : TypeId} (hs : P.underlying s = some (.slice e)) (he : P.underlying e = some (.int .u8)) (hd : P.underlying d = some .string) {x : AV} {u : Value} {K : AV → Own → Prop} (hr : Rel gl σ w) (hx : VR (Im σ w) w x u)
    (h : srcR false 1 x σ fun ys n => ∃ bs : List UInt8, ys = bs.map (fun b => .w (.int .u8 b.toNat)) ∧ K (.w (.string ⟨bs.toArray⟩)) σ) : ∃ z, (convert s d u).run P w = .ok z w ∧ Sound P gl σ w K z w := by
  obtain ⟨a, l, c, rfl⟩ := srcR_slice hx h
  obtain ⟨ys, n, cs, ⟨bs, rfl, hk⟩, hn, hf, hv, hl⟩ := srcR_sound (P := P) hr hx h
  have hcs : cs = bs.map fun b => Value.int .u8 b.toNat := by
    have : (bs.map fun b => AV.w (.int .u8 b.toNat)) = (bs.map fun b => Value.int .u8 b.toNat).map .w := by simp
    rw [this] at hv
    exact words_eq hv
  have hln : l = n := by
    have : (Builtin.lenOf (.slice a l c)).run P w = .ok l w := rfl
    rw [this] at hn
    cases hn; rfl
  subst hln
  refine ⟨.string ⟨bs.toArray⟩, ?_, sound_pure hr hk (.w _)⟩
  rw [run_convert_bytes_string w s d e a l c hs he hd]
  cases a with
  | none =>
    have := hf w (fun _ => rfl)
    have e0 : cs = [] := by
      have h2 : (Builtin.firstCells 1 l (.slice none l c)).run P w = .ok #[] w := rfl
      rw [h2] at this
      have := Result.ok.inj this
      simpa using this.1.symm
    rw [e0] at hcs
    have : bs = [] := by cases bs with
      | nil => rfl
      | cons b bs => cases hcs
    subst this
    rfl
  | some a =>
    have h1 := hf w (fun _ => rfl)
    have h2 : (Builtin.firstCells 1 l (.slice (some a) l c)) = loadCells a (l * 1) := rfl
    rw [h2, Nat.mul_one, hcs] at h1
    rw [run_bytesToString w a l c (bs.map fun b => (b.toNat : Int)) (by rw [h1]; simp), push_bytes]
    simp

theorem VR.fn_inv {I : Nat → Prop} {f : Fn} {xs ys : List AV} {v : Value} (h : VR I w (.fn f xs ys) v) : ∃ cs ds, v = .func f cs ds ∧ VRs I w xs cs.toList ∧ VRs I w ys ds.toList := by
  cases h with | fn _ _ _ cs ds hl h kl k => exact ⟨cs, ds, rfl, .of_arr hl h, .of_arr kl k⟩

theorem sound_mkf {f : Fn} {first cap : Array Operand} {K : AV → Own → Prop} (hr : Rel gl σ w) (he : EnvR N σ w env a)
    (h : mkfV f (first.toList.map fun o => opdAV gl env (cOpd o)) (cap.toList.map fun o => opdAV gl env (cOpd o)) fun v => K v σ) : ∃ z, (Instr.makeFunc f (first.map a.eval) (cap.map a.eval)).run P w = .ok z w ∧ Sound P gl σ w K z w := by
  refine ⟨_, rfl, ?_⟩
  have h1 := opds_vr (gl := gl) hr he first.toList
  have h2 := opds_vr (gl := gl) hr he cap.toList
  have e1 : (first.map a.eval).toList = first.toList.map a.eval := by simp
  have e2 : (cap.map a.eval).toList = cap.toList.map a.eval := by simp
  rw [← e1] at h1
  rw [← e2] at h2
  unfold mkfV at h
  split at h
  · rename_i e1 e2
    have e1' : first = #[] := by apply Array.ext'; simpa using e1
    have e2' : cap = #[] := by apply Array.ext'; simpa using e2
    subst e1'; subst e2'
    exact sound_pure hr h (by simpa using VR.w _)
  · exact sound_pure hr h (.fn _ _ _ _ _ h1.arr.1 h1.arr.2 h2.arr.1 h2.arr.2)

/-- a call of a function value -/
theorem callv_sound {x : Operand} {args : Array Operand} {ats : Array TypeId} {ty : TypeId} {q : Bool} {K : AV → Own → Prop} (hr : Rel gl σ w) (he : EnvR N σ w env a)
    (h : fnV (opdAV gl env (cOpd x)) (args.toList.map fun o => opdAV gl env (cOpd o)) fun f vs => callX (cx P gl) q f vs σ K) :
    OpOut P ((do let d ← resolve a.eval { callee := .value x, args := args, argTypes := ats } ty; invoke d.target d.args : Sem Next).run P w) (Sound P gl σ w K) := by
  have hx := opd_vr (gl := gl) hr he x
  have hv := opds_vr (gl := gl) hr he args.toList
  have fin : ∀ (f : FuncId) (vs : List AV) (cargs : Array Value), VRs (Im σ w) w vs cargs.toList → callX (cx P gl) q f vs σ K → OpOut P ((callFunc f cargs).run P w) (Sound P gl σ w K) := by
    intro f vs cargs hvs hk
    have go : CallVC (ACalls P gl) (Says gl) f vs σ K → OpOut P ((callFunc f cargs).run P w) (Sound P gl σ w K) := by
      intro hk
      obtain ⟨args', σ', hs, ha⟩ := hk.out
      obtain ⟨r1, r2, r3⟩ := hs w _ hr hvs
      exact (ha w cargs r1 r3).mono fun cv w' ⟨v, σ'', k1, k2, k3, k4⟩ => ⟨v, σ'', k1, k2, (stays_says r2).trans k3, k4⟩
    cases q with
    | false => exact go hk
    | true =>
      obtain ⟨args', v, h1, h2, h3⟩ := hk.out
      exact go ⟨args', σ, h1, h2.mono fun v' σ' ⟨e1, e2⟩ => by rw [e1, e2]; exact h3⟩
  unfold fnV at h
  split at h
  · rename_i f heq
    rw [heq] at hx
    have e := hx.w_inv
    have e2 : (do let d ← resolve a.eval { callee := .value x, args := args, argTypes := ats } ty; invoke d.target d.args : Sem Next) = callFunc f (args.map a.eval) := by
      show (do let d ← Deferred.ofValue (a.eval x) (args.map a.eval); invoke d.target d.args : Sem Next) = _
      rw [e]
      show callFunc f ((#[] ++ args.map a.eval) ++ #[]) = _
      simp
    rw [e2]
    exact fin f _ _ (by simpa using hv) h
  · rename_i f vs ws heq
    rw [heq] at hx
    obtain ⟨cs, ds, e, h1, h2⟩ := hx.fn_inv
    have e2 : (do let d ← resolve a.eval { callee := .value x, args := args, argTypes := ats } ty; invoke d.target d.args : Sem Next) = callFunc f ((cs ++ args.map a.eval) ++ ds) := by
      show (do let d ← Deferred.ofValue (a.eval x) (args.map a.eval); invoke d.target d.args : Sem Next) = _
      rw [e]; rfl
    rw [e2]
    refine fin f _ _ ?_ h
    have : ((cs ++ args.map a.eval) ++ ds).toList = cs.toList ++ args.toList.map a.eval ++ ds.toList := by simp
    rw [this]
    exact (h1.append hv).append h2
  · exact h.elim

theorem stV_mono {size : Nat} {p x : AV} {K K' : Own → Prop} (m : ∀ σ, K σ → K' σ) (h : stV size σ p x K) : stV size σ p x K' := by
  unfold stV at *
  split at h
  · split at h
    · obtain ⟨ob, h1, h2, σ', h3, h4⟩ := h; exact ⟨ob, h1, h2, σ', h3, m _ h4⟩
    · exact h.elim
  · exact h.elim

def eqv : List EK → List AV → List AV → Option Bool
  | [], [], [] => some true
  | .i :: ks, .w (.int k a) :: xs, .w (.int j b) :: ys => match sameK k j with
    | true => (eqv ks xs ys).map fun r => (a == b) && r
    | false => none
  | .b :: ks, .w (.bool a) :: xs, .w (.bool b) :: ys => (eqv ks xs ys).map fun r => (a == b) && r
  | .s :: ks, .w (.string a) :: xs, .w (.string b) :: ys => (eqv ks xs ys).map fun r => (a.toList == b.toList) && r
  | _, _, _ => none
/-- one cell compared -/
inductive Eq1 : EK → AV → AV → Bool → Prop
  | i (k : IntKind) (a b : Int) : Eq1 .i (.w (.int k a)) (.w (.int k b)) (a == b)
  | b (a b : Bool) : Eq1 .b (.w (.bool a)) (.w (.bool b)) (a == b)
  | s (a b : ByteArray) : Eq1 .s (.w (.string a)) (.w (.string b)) (a.toList == b.toList)
theorem eqL_cons {K : Bool → Prop} {k : EK} {ks : List EK} {xs ys : List AV} {acc : Bool} (h : eqL (k :: ks) xs ys acc K) : ∃ x xs' y ys' e, xs = x :: xs' ∧ ys = y :: ys' ∧ Eq1 k x y e ∧ eqL ks xs' ys' (acc && e) K := by
  rcases xs with _ | ⟨x, xs⟩
  · cases k <;> exact h.elim
  rcases ys with _ | ⟨y, ys⟩
  · cases k <;> cases x <;> first
      | exact h.elim
      | (rename_i v; cases v <;> exact h.elim)
  cases k
  · cases x with
    | w v =>
      cases v with
      | int k a =>
        cases y with
        | w v =>
          cases v with
          | int j b =>
            simp only [eqL] at h
            split at h
            · rename_i hk
              cases sameK_eq hk
              exact ⟨_, _, _, _, _, rfl, rfl, .i _ _ _, h⟩
            · exact h.elim
          | _ => exact h.elim
        | _ => exact h.elim
      | _ => exact h.elim
    | _ => exact h.elim
  · cases x with
    | w v =>
      cases v with
      | bool a =>
        cases y with
        | w v =>
          cases v with
          | bool b => exact ⟨_, _, _, _, _, rfl, rfl, .b _ _, h⟩
          | _ => exact h.elim
        | _ => exact h.elim
      | _ => exact h.elim
    | _ => exact h.elim
  · cases x with
    | w v =>
      cases v with
      | string a =>
        cases y with
        | w v =>
          cases v with
          | string b => exact ⟨_, _, _, _, _, rfl, rfl, .s _ _, h⟩
          | _ => exact h.elim
        | _ => exact h.elim
      | _ => exact h.elim
    | _ => exact h.elim
theorem eqKinds_cons {f : Field} {fs : List Field} {i : Nat} {l : List EK} (h : eqKinds P (f :: fs) i = some l) : ∃ k ks, l = k :: ks ∧ f.name ≠ "_" ∧ f.offset = i ∧ szOf P f.type = some 1 ∧ eqKinds P fs (i + 1) = some ks ∧ aggT P f.type = some false ∧
    (match k with | .i => ∃ kk, P.underlying f.type = some (.int kk) | .b => P.underlying f.type = some .bool | .s => P.underlying f.type = some .string) := by
  simp only [eqKinds] at h
  split at h
  all_goals first
    | (rename_i kk ks h1 h2 h3
       cases h
       simp only [Bool.and_eq_true, bne_iff_ne, ne_eq, beq_iff_eq] at h1
       exact ⟨_, _, rfl, h1.1.1, h1.1.2, h1.2, h3, by simp [aggT, h2], ⟨_, h2⟩⟩)
    | (rename_i ks h1 h2 h3
       cases h
       simp only [Bool.and_eq_true, bne_iff_ne, ne_eq, beq_iff_eq] at h1
       exact ⟨_, _, rfl, h1.1.1, h1.1.2, h1.2, h3, by simp [aggT, h2], h2⟩)
    | cases h

theorem run_eqFields {I : Nat → Prop} (d : Nat) {cs ds : Array Value} {xs ys : List AV} (hx : VRs I w xs cs.toList) (hy : VRs I w ys ds.toList) {K : Bool → Prop} : ∀ (fs : List Field) (i : Nat) (ks : List EK) (acc : Bool), eqKinds P fs i = some ks →
    eqL ks (xs.drop i) (ys.drop i) acc K → ∃ r, (Op.eqFields (d + 1) cs ds fs).run P w = .ok r w ∧ K (acc && r)
  | [], i, ks, acc, hf, he => by
    cases hf
    cases hxd : xs.drop i <;> cases hyd : ys.drop i <;> rw [hxd, hyd] at he <;> first
      | exact he.elim
      | exact ⟨true, rfl, by simpa [eqL] using he⟩
  | f :: fs, i, ks, acc, hf, he => by
    obtain ⟨k, ks', rfl, h1, h2, h3, h4, h5, h6⟩ := eqKinds_cons hf
    obtain ⟨x, xs', y, ys', e, hxd, hyd, h7, h8⟩ := eqL_cons he
    have hx1 : xs.drop (i + 1) = xs' := by rw [← List.drop_drop, hxd]; rfl
    have hy1 : ys.drop (i + 1) = ys' := by rw [← List.drop_drop, hyd]; rfl
    obtain ⟨u1, k1, q1⟩ : ∃ u1, (part f.type cs f.offset).run P w = .ok u1 w ∧ VR I w x u1 := by
      obtain ⟨y', u, g1, g2, g3⟩ := run_part (P := P) (K := fun v => v = x) h5 h3 hx f.offset ⟨x, by rw [h2, hxd]; rfl, rfl⟩
      exact ⟨u, g1, by rw [← g2]; exact g3⟩
    obtain ⟨u2, k2, q2⟩ : ∃ u2, (part f.type ds f.offset).run P w = .ok u2 w ∧ VR I w y u2 := by
      obtain ⟨y', u, g1, g2, g3⟩ := run_part (P := P) (K := fun v => v = y) h5 h3 hy f.offset ⟨y, by rw [h2, hyd]; rfl, rfl⟩
      exact ⟨u, g1, by rw [← g2]; exact g3⟩
    have hq : (Op.equalIn (d + 1) f.type u1 u2).run P w = .ok e w := by
      cases h7 with
      | i kk a b =>
        cases q1.w_inv; cases q2.w_inv
        obtain ⟨k', hu⟩ := h6
        exact run_equalIn_int w d f.type kk k' a b hu
      | b a b => cases q1.w_inv; cases q2.w_inv; exact run_equalIn_bool' w d f.type a b h6
      | s a b => cases q1.w_inv; cases q2.w_inv; exact run_equalIn_string w d f.type a b h6
    rw [← hx1, ← hy1] at h8
    obtain ⟨r, r1, r2⟩ := run_eqFields d hx hy fs (i + 1) ks' (acc && e) h4 h8
    have e1 : (Op.eqFields (d + 1) cs ds (f :: fs)).run P w = .ok (e && r) w := by
      simp only [Op.eqFields, h1, ne_eq, not_false_eq_true, if_true, Sem.run_bind, k1, k2, hq, Result.andThen_ok]
      cases e with
      | false => rfl
      | true => simpa using r1
    exact ⟨_, e1, by rw [← Bool.and_assoc]; exact r2⟩

theorem sound_eqa {neg : Bool} {t : TypeId} {fs : Array Field} {ks : List EK} (ht : P.underlying t = some (.struct fs)) (hok : eqaOk P t fs = some ks) {x y : AV} {u v : Value} {ox oy : Operand} {K : AV → Own → Prop} (hr : Rel gl σ w) (hx : VR (Im σ w) w x u) (hy : VR (Im σ w) w y v)
    (h : eqaV neg ks x y fun v => K v σ) : ∃ z, (do eqGuard (if neg then .neq else .eql) t ox oy u v; binOp (if neg then .neq else .eql) t u v : Sem Value).run P w = .ok z w ∧ Sound P gl σ w K z w := by
  unfold eqaOk at hok
  split at hok
  · rename_i hs
    simp only [Bool.and_eq_true, Bool.not_eq_true'] at hs
    unfold eqaV at h
    split at h
    · rename_i xs ys
      obtain ⟨cs, rfl, hc⟩ := hx.agg_inv
      obtain ⟨ds, rfl, hd⟩ := hy.agg_inv
      have hfo : P.fieldsOf t = fs := by unfold Program.fieldsOf; rw [ht]
      obtain ⟨r, h1, h2⟩ := run_eqFields (P := P) 9998 hc hd fs.toList 0 ks true hok (by simpa using h)
      have he : (Op.equalIn 10000 t (.agg cs) (.agg ds)).run P w = .ok r w := by
        rw [run_equalIn_agg w 9999 t cs ds (by rw [hfo]; exact ht) hs.1, hfo]; exact h1
      rw [Bool.true_and] at h2
      cases neg with
      | false =>
        refine ⟨.bool r, ?_, sound_pure hr h2 (.w _)⟩
        simp only [Bool.false_eq_true, if_false, Sem.run_bind, run_eqGuard_agg w _ t ox oy cs ds hs.2, Result.andThen_ok, run_eql_struct, he]
      | true =>
        refine ⟨.bool (!r), ?_, sound_pure hr h2 (.w _)⟩
        simp only [if_true, Sem.run_bind, run_eqGuard_agg w _ t ox oy cs ds hs.2, Result.andThen_ok, run_neq_struct, he]
    · exact h.elim
  · cases hok

theorem op_sound {g s : SOp} {o : Oper} (hc : cOp P g o.op = some s) (hr : Rel gl σ w) (he : EnvR N σ w env a) {K : AV → Own → Prop} (h : opR (cx P gl) env σ s K) :
    OpOut P ((execOp a.eval o).run P w) (Sound P gl σ w K) := by
  have V : ∀ x, VR (Im σ w) w (opdAV gl env (cOpd x)) (a.eval x) := fun x => opd_vr hr he x
  unfold execOp
  generalize o.op = op at hc ⊢
  cases op <;> simp only [cOp] at hc ⊢
  case move x =>
    cases hc
    exact sound_mv (P := P) hr he x h
  case assign x =>
    cases hc
    exact sound_mv (P := P) hr he x h
  case pick c x y =>
    cases hc
    simp only [opR, ev_eq, cx, pickV] at h
    split at h
    · rename_i t ht
      have := V c
      rw [ht] at this
      rw [this.w_inv]
      simp only [asBool, Sem.run_bind, Sem.run_pure, Result.andThen_ok]
      cases t with
      | true => exact sound_mv (P := P) hr he x (by rw [ev_eq]; exact h.1 rfl)
      | false => exact sound_mv (P := P) hr he y (by rw [ev_eq]; exact h.2 rfl)
    · exact h.elim
  case alloc t =>
    split at hc
    · rename_i n z hn hz
      split at hc
      · cases hc
        simp only [opR, cx] at h
        exact out_of' (sound_alloc hz hr h)
      · cases hc
    · cases hc
  case box t x =>
    split at hc
    · cases hc
      simp only [opR, ev_eq, cx] at h
      split at h
      · rename_i hb
        exact out_of' (sound_box hr (V x) hb h)
      · exact h.elim
    · cases hc
  case build t parts =>
    split at hc
    · rename_i fs z ht hz
      split at hc
      · rename_i l hl
        split at hc
        · rename_i hfs
          cases hc
          exact out_of (sound_build_struct ht hfs hz hl hr he h)
        · cases hc
      · cases hc
    · rename_i n e z ht hz
      split at hc
      · rename_i k hk
        cases hc
        exact out_of (sound_build_array ht hk hz hr he h)
      · cases hc
    · cases hc
  case buildSlice t len parts =>
    split at hc
    · rename_i e ht
      split at hc
      · rename_i n z hn hz
        split at hc
        · rename_i hlen
          cases hc
          exact out_of' (sound_bsl ht hn hz hlen.1 hr he h)
        · cases hc
      · cases hc
    · cases hc
  case load t x =>
    split at hc
    · rename_i b n hb hn
      split at hc
      · cases hc
        simp only [opR, ev_eq, cx] at h
        exact out_of (sound_ld hb hn hr (V x) h.2)
      · cases hc
        simp only [opR, ev_eq, cx] at h
        exact out_of (sound_ld hb hn hr (V x) h)
    · cases hc
  case store t x y =>
    split at hc
    · rename_i n hn
      split at hc
      · cases hc
        simp only [opR, ev_eq, cx] at h
        obtain ⟨w', h1, h2⟩ := sound_st hn hr (V x) (V y) (stV_mono (fun σ' (q : _ ∧ _) => q.2) h)
        exact out_unit h1 h2
      · cases hc
        simp only [opR, ev_eq, cx] at h
        obtain ⟨w', h1, h2⟩ := sound_st hn hr (V x) (V y) h
        exact out_unit h1 h2
    · cases hc
  case nilCheck x =>
    cases hc
    simp only [opR, ev_eq, cx] at h
    have := V x
    unfold nilckV at h
    split at h
    · rename_i xs hx
      rw [hx] at this
      obtain ⟨ad, e, hA⟩ := this.fp_inv
      rw [e]
      exact sound_pure (P := P) hr h (.mk_fp hA)
    · rename_i ad hx
      rw [hx] at this
      rw [this.w_inv]
      exact sound_pure (P := P) hr h (.w _)
    · exact h.elim
  case binOp op t x y yt =>
    split at hc
    · rename_i ht
      cases hc
      simp only [opR, ev_eq, cx] at h
      exact out_of (sound_beq (neg := false) ht hr (V x) (V y) h)
    · rename_i ht
      cases hc
      simp only [opR, ev_eq, cx] at h
      exact out_of (sound_beq (neg := true) ht hr (V x) (V y) h)
    · rename_i e ht
      split at hc
      · cases hc
        simp only [opR, ev_eq, cx] at h
        exact out_of (sound_nil (neg := false) ht hr (V x) h)
      · cases hc
    · rename_i e ht
      split at hc
      · cases hc
        simp only [opR, ev_eq, cx] at h
        exact out_of (sound_nil (neg := true) ht hr (V x) h)
      · cases hc
    · rename_i fs ht
      split at hc
      · rename_i ks hok
        cases hc
        simp only [opR, ev_eq, cx] at h
        exact out_of (sound_eqa (neg := false) ht hok hr (V x) (V y) h)
      · cases hc
    · rename_i fs ht
      split at hc
      · rename_i ks hok
        cases hc
        simp only [opR, ev_eq, cx] at h
        exact out_of (sound_eqa (neg := true) ht hok hr (V x) (V y) h)
      · cases hc
    · cases hc
      simp only [opR, ev_eq, cx] at h
      exact out_of (sound_bin (t' := t) hr (V x) (V y) h)
    · cases hc
      simp only [opR, ev_eq, cx] at h
      exact out_of (sound_bin (t' := t) hr (V x) (V y) h)
    · cases hc
  case unOp op t x =>
    cases hc
    simp only [opR, ev_eq, cx] at h
    exact out_of (sound_un hr (V x) h)
  case convert src dst x =>
    split at hc
    · rename_i j k hs hd
      cases hc
      simp only [opR, ev_eq, cx] at h
      exact out_of (sound_conv hs hd hr (V x) h)
    · rename_i hs hd
      cases hc
      simp only [opR, ev_eq, cx] at h
      exact out_of (sound_cstr hs hd hr (V x) h)
    · rename_i e hs hd
      split at hc
      · rename_i he
        cases hc
        simp only [opR, ev_eq, cx] at h
        exact out_of (sound_bstr hs he hd hr (V x) h)
      · cases hc
    · cases hc
  case makeSlice t l c =>
    split at hc
    · rename_i e ht
      split at hc
      · rename_i i hi
        split at hc
        · rename_i z hz
          cases hc
          simp only [opR, ev_eq, cx] at h
          exact out_of' (sound_mks ht hi hz hr (V l) (V c) h)
        · cases hc
      · cases hc
    · cases hc
  case slice t x lo hi mx =>
    split at hc
    · rename_i e ht
      split at hc
      · rename_i n hn
        split at hc
        · cases hc
        · rename_i hmx
          cases hc
          simp only [opR, ev_eq, cx] at h
          obtain ⟨l, hl, h⟩ := bnd_sound hr he h
          obtain ⟨k, hk, h⟩ := bnd_sound hr he h
          have h4 : (mx.map a.eval) ≠ none → (hi.map a.eval) ≠ none := by
            intro h1 h2
            cases mx with
            | none => exact h1 rfl
            | some m =>
              cases hi with
              | none => exact hmx m rfl rfl
              | some i => cases h2
          cases mx with
          | none =>
            exact out_of (slR_sound ht hn hr (V x) hl hk (.inl ⟨rfl, rfl⟩) h4 h)
          | some m =>
            simp only [cOpt] at h
            obtain ⟨j, hj, h⟩ := bnd_sound (o := some m) hr he h
            rcases hj with ⟨h1, _⟩ | ⟨kk, hj⟩
            · cases h1
            · exact out_of (slR_sound ht hn hr (V x) hl hk (.inr ⟨kk, j, hj, rfl⟩) h4 h)
      · cases hc
    · rename_i ht
      split at hc
      · cases hc
        simp only [opR, ev_eq, cx] at h
        exact out_of (sound_sls ht hr he h)
      · cases hc
    · cases hc
  case fieldAddr t x f =>
    split at hc
    · rename_i fs ht
      split at hc
      · rename_i fd hf
        split at hc
        · rename_i n hn
          cases hc
          simp only [opR, ev_eq, cx] at h
          exact out_of (sound_fa ht hf hn hr (V x) h)
        · cases hc
      · cases hc
    · cases hc
  case field t x f =>
    split at hc
    · rename_i fs ht
      split at hc
      · rename_i fd hf
        split at hc
        · rename_i b n hb hn
          cases hc
          simp only [opR, ev_eq, cx] at h
          exact out_of (sound_fld ht hf hb hn hr (V x) h)
        · cases hc
      · cases hc
    · cases hc
  case indexAddr t x i =>
    split at hc
    · rename_i e ht
      split at hc
      · rename_i n hn
        cases hc
        simp only [opR, ev_eq, cx] at h
        exact out_of (sound_ix ht hn hr (V x) (V i) h)
      · cases hc
    · rename_i l e ht
      split at hc
      · rename_i n hn
        split at hc
        · cases hc
          simp only [opR, ev_eq, cx] at h
          exact out_of (sound_ixa ht hn hr (V x) (V i) h)
        · cases hc
      · cases hc
    · cases hc
  case index t x i =>
    split at hc
    · rename_i ht
      cases hc
      simp only [opR, ev_eq, cx] at h
      exact out_of (sound_idxs ht hr (V x) (V i) h)
    · rename_i l e ht
      split at hc
      · rename_i b n hb hn
        cases hc
        simp only [opR, ev_eq, cx] at h
        exact out_of (sound_idx ht hb hn hr (V x) (V i) h)
      · cases hc
    · cases hc
  case extract t i =>
    cases hc
    simp only [opR, ev_eq, cx] at h
    exact out_of (sound_ext hr (V t) h)
  case makeFunc f first cap =>
    cases hc
    simp only [opR, evs_eq, cx, opds_eq] at h
    exact out_of (sound_mkf hr he h)
  case call c =>
    obtain ⟨callee, args, at_⟩ := c
    split at hc
    · rename_i f hf
      simp only at hf
      subst hf
      have e : (do let d ← resolve a.eval { callee := .value (.func f), args := args, argTypes := at_ } o.type; invoke d.target d.args : Sem Next) = callFunc f (args.map a.eval) := by
        show callFunc f ((#[] ++ args.map a.eval) ++ #[]) = _
        simp
      rw [e]
      split at hc
      · cases hc
        simp only [opR, evs_eq, cx, opds_eq] at h
        obtain ⟨args', v, h1, h2, h3⟩ := h.out
        exact call_sound hr he (cargs := args.map a.eval) ⟨args', σ, h1, h2.mono fun v' σ' ⟨e1, e2⟩ => by rw [e1, e2]; exact h3⟩ (by simp)
      · cases hc
        simp only [opR, evs_eq, cx, opds_eq] at h
        obtain ⟨args', v, h1, h3⟩ := h.out
        obtain ⟨h1, h2⟩ := h1 σ (fun _ _ h => h)
        exact call_sound hr he (cargs := args.map a.eval) ⟨args', σ, h1, h2.mono fun v' σ' ⟨e1, e2⟩ => by rw [e1, e2]; exact h3⟩ (by simp)
      · cases hc
        simp only [opR, evs_eq, cx, opds_eq] at h
        obtain ⟨args', h1, h2⟩ := h.out
        exact call_sound hr he (cargs := args.map a.eval) ⟨args', σ, h1, h2.mono fun v' σ' ⟨_, h3⟩ => h3⟩ (by simp)
      · cases hc
        simp only [opR, evs_eq, cx, opds_eq] at h
        obtain ⟨args', v, h1, h3⟩ := h.out
        obtain ⟨h1, h2⟩ := h1 σ
        exact call_sound hr he (cargs := args.map a.eval) ⟨args', σ, h1, h2.mono fun v' σ' ⟨e1, e2⟩ => by rw [e1, e2]; exact h3⟩ (by simp)
      · cases hc
        simp only [opR, evs_eq, cx, opds_eq] at h
        exact call_sound hr he h (cargs := args.map a.eval) (by simp)
    · rename_i t hf
      simp only at hf
      subst hf
      cases hc
      simp only [opR, ev_eq, evs_eq, cx, opds_eq] at h
      exact callv_sound (x := .tmp t) hr he h
    · rename_i hf
      simp only at hf
      subst hf
      split at hc
      · rename_i t x h1 h2
        have e1 := list1 h1
        have e2 := list1 h2
        simp only at e1 e2
        subst e1; subst e2
        have e : (do let d ← resolve a.eval { callee := .builtin .len, args := #[x], argTypes := #[t] } o.type; invoke d.target d.args : Sem Next) = (do pure (.value (← Builtin.len_ #[t] o.type #[a.eval x]))) := by simp [resolve, invoke, builtin]
        rw [e]
        split at hc
        · rename_i e ht
          cases hc
          simp only [opR, ev_eq, cx] at h
          exact out_of (sound_len ht hr (V x) h)
        · rename_i ht
          cases hc
          simp only [opR, ev_eq, cx] at h
          exact out_of (sound_lens ht hr (V x) h)
        · cases hc
      · cases hc
    · rename_i hf
      simp only at hf
      subst hf
      split at hc
      · rename_i t u x y h1 h2
        have e1 := list2 h1
        have e2 := list2 h2
        simp only at e1 e2
        subst e1; subst e2
        have e : (do let d ← resolve a.eval { callee := .builtin .append, args := #[x, y], argTypes := #[t, u] } o.type; invoke d.target d.args : Sem Next) = (do pure (.value (← Builtin.append_ #[t, u] o.type #[a.eval x, a.eval y]))) := by simp [resolve, invoke, builtin]
        rw [e]
        split at hc
        · rename_i el ht
          split at hc
          · rename_i i hi
            split at hc
            · rename_i z d hz hu
              split at hc
              · rename_i hzs
                cases hc
                simp only [opR, ev_eq, cx] at h
                exact out_of' (sound_app ht hi hz hzs (.inl ⟨d, hu⟩) hr (V x) (V y) h)
              · cases hc
            · rename_i z hz hu
              split at hc
              · rename_i hzs
                cases hc
                simp only [opR, ev_eq, cx] at h
                exact out_of' (sound_app ht hi hz hzs (.inr hu) hr (V x) (V y) h)
              · cases hc
            · cases hc
          · cases hc
        · cases hc
      · cases hc
    · cases hc
  all_goals cases hc

end Go.Ab
