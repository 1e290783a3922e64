import Derived.Calls
import Derived.Orders
import Derived.Below
import Derived.KernelRfl
/-! The plain machine: values as trees, own memory apart; what a function's code asks, as a statement without memory. -/
namespace Go.Ab
set_option linter.unusedVariables false

/-- A value, plain: a word; a slice over cells that nobody writes any more (with room behind it, or full); a pointer at such cells; a struct; a tuple; an interface value; a function value; anything. -/
inductive AV where
  | w (v : Value)
  | fs (xs : List AV) (n : Nat)
  | ff (xs : List AV) (n : Nat)
  | fp (xs : List AV)
  | agg (xs : List AV)
  | tup (xs : List AV)
  | ifc (t : TypeId) (x : AV)
  | fn (f : Fn) (first cap : List AV)
  | any
  deriving Inhabited

/-- A block of the call's own: what is known of its first cells; how many it has. -/
structure Ob where
  xs : List AV
  cap : Nat

abbrev Own := Nat → Option Ob
abbrev Env := List (Nat × AV)

def upd (σ : Own) (b : Nat) (o : Ob) : Own := fun i => if i = b then some o else σ i
def del (σ : Own) (b : Nat) : Own := fun i => if i = b then none else σ i

inductive Opd where
  | t (i : Nat)
  | c (v : Value)
  | g (b : Nat)
  | f (f : FuncId)

/-- What an operation is, its types looked up. -/
inductive SOp where
  | mv (x : Opd)
  | pick (c a b : Opd)
  | bin (op : BinOp) (x y : Opd)
  | beq (neg : Bool) (x y : Opd)
  | isnil (neg : Bool) (x : Opd)
  | un (op : UnOp) (x : Opd)
  | conv (k : IntKind) (x : Opd)
  | cstr (x : Opd)
  | len (x : Opd)
  | lens (x : Opd)
  | ld (agg : Bool) (size : Nat) (a : Opd)
  | st (size : Nat) (a v : Opd)
  | ix (size : Nat) (x i : Opd)
  | ixa (n size : Nat) (x i : Opd)
  | idx (agg : Bool) (n size : Nat) (x i : Opd)
  | idxs (x i : Opd)
  | fa (off : Nat) (x : Opd)
  | fld (agg : Bool) (off size : Nat) (x : Opd)
  | sl (size : Nat) (x : Opd) (lo hi mx : Option Opd)
  | sls (x : Opd) (lo hi : Option Opd)
  | call (f : FuncId) (args : List Opd)
  | callq (f : FuncId) (args : List Opd)
  | callv (q : Bool) (x : Opd) (args : List Opd)
  | mkf (f : Fn) (first cap : List Opd)
  | ext (x : Opd) (i : Nat)
  | box (own : Bool) (size : Nat) (x : Opd)
  | alloc (own : Bool) (size : Nat) (zero : List Value)
  | build (zero : List Value) (parts : List (Nat × Nat × Opd))
  | bsl (own : Bool) (size len : Nat) (zero : List Value) (parts : List (Nat × Opd))
  | mks (size bytes : Nat) (zero : List Value) (len cap : Opd)
  | app (str : Bool) (size bytes : Nat) (x y : Opd)

structure SI where
  d : Option Nat
  op : SOp
  guard : Option (Nat × Bool)

inductive SC where
  | skip
  | region (ops : List SI) (keep : List Nat)
  | drawn (perm : List Nat) (ops : List SI) (keep : List Nat)
  | says
  | seq (a b : SC)
  | cond (c : Opd) (thn els : SC)
  | block (id : Nat) (keep : List Nat) (body : SC)
  | loop (keep : List Nat) (body : SC)
  | exit (id : Nat)
  | ret
  | dead

def find : Env → Nat → AV
  | [], _ => .any
  | (i, v) :: r, t => match Nat.beq i t with | true => v | false => find r t

def look : Env → Nat → (AV → Prop) → Prop
  | [], _, K => K .any
  | (i, v) :: r, t, K => match Nat.beq i t with | true => K v | false => look r t K

theorem look_eq : ∀ (env : Env) (t : Nat) (K : AV → Prop), look env t K = K (find env t)
  | [], _, _ => rfl
  | (i, v) :: r, t, K => by
    simp only [look, find]
    cases Nat.beq i t
    · exact look_eq r t K
    · rfl

/-- A constant's plain value. -/
def cAV : Value → AV
  | .agg cs => .agg (cs.toList.map .w)
  | .bool b => .w (.bool b)
  | .int k n => .w (.int k n)
  | .string s => .w (.string s)
  | .slice a n c => .w (.slice a n c)
  | .tuple _ => .any
  | v => .w v

def opdAV (gl : Nat → Option (List AV)) (env : Env) : Opd → AV
  | .t i => find env i
  | .c v => cAV v
  | .g b => match gl b with
    | some xs => .fp xs
    | none => .w (.pointer (some ⟨b, 0, none⟩))
  | .f f => .w (.func (.func f) #[] #[])

def ev (gl : Nat → Option (List AV)) (env : Env) : Opd → (AV → Prop) → Prop
  | .t i, K => look env i K
  | .c v, K => match v with
    | .agg cs => K (.agg (cs.toList.map .w))
    | .bool b => K (.w (.bool b))
    | .int k n => K (.w (.int k n))
    | .string s => K (.w (.string s))
    | .slice a n c => K (.w (.slice a n c))
    | .tuple _ => K .any
    | v => K (.w v)
  | .g b, K => match gl b with
    | some xs => K (.fp xs)
    | none => K (.w (.pointer (some ⟨b, 0, none⟩)))
  | .f f, K => K (.w (.func (.func f) #[] #[]))

theorem ev_eq (gl : Nat → Option (List AV)) (env : Env) (o : Opd) (K : AV → Prop) : ev gl env o K = K (opdAV gl env o) := by
  cases o with
  | t i => exact look_eq env i K
  | c v => cases v <;> rfl
  | g b => simp only [ev, opdAV]; cases gl b <;> rfl
  | f f => rfl

def evs (gl : Nat → Option (List AV)) (env : Env) : List Opd → (List AV → Prop) → Prop
  | [], K => K []
  | o :: r, K => ev gl env o fun v => evs gl env r fun vs => K (v :: vs)

theorem evs_eq (gl : Nat → Option (List AV)) (env : Env) : ∀ (l : List Opd) (K : List AV → Prop), evs gl env l K = K (l.map (opdAV gl env))
  | [], _ => rfl
  | o :: r, K => by simp only [evs, ev_eq, List.map_cons]; exact evs_eq gl env r _

def sameK : IntKind → IntKind → Bool
  | .i8, .i8 => true | .i16, .i16 => true | .i32, .i32 => true | .i64, .i64 => true
  | .u8, .u8 => true | .u16, .u16 => true | .u32, .u32 => true | .u64, .u64 => true
  | _, _ => false

theorem sameK_eq {a b : IntKind} (h : sameK a b = true) : a = b := by cases a <;> cases b <;> first | rfl | cases h

def binI (op : BinOp) (k : IntKind) (x y : Int) (K : AV → Prop) : Prop :=
  match op with
  | .add => ∃ z, k.wrap (x + y) = z ∧ K (.w (.int k z))
  | .sub => ∃ z, k.wrap (x - y) = z ∧ K (.w (.int k z))
  | .mul => ∃ z, k.wrap (x * y) = z ∧ K (.w (.int k z))
  | .quo => y ≠ 0 ∧ ∃ z, k.wrap (x.tdiv y) = z ∧ K (.w (.int k z))
  | .rem => y ≠ 0 ∧ ∃ z, x.tmod y = z ∧ K (.w (.int k z))
  | .and => ∃ z, k.wrap ((BitVec.ofInt k.bits x &&& BitVec.ofInt k.bits y).toNat) = z ∧ K (.w (.int k z))
  | .or => ∃ z, k.wrap ((BitVec.ofInt k.bits x ||| BitVec.ofInt k.bits y).toNat) = z ∧ K (.w (.int k z))
  | .xor => ∃ z, k.wrap ((BitVec.ofInt k.bits x ^^^ BitVec.ofInt k.bits y).toNat) = z ∧ K (.w (.int k z))
  | .andNot => ∃ z, k.wrap ((BitVec.ofInt k.bits x &&& ~~~ BitVec.ofInt k.bits y).toNat) = z ∧ K (.w (.int k z))
  | .shl | .shr => False
  | .eql => K (.w (.bool (x == y)))
  | .neq => K (.w (.bool (x != y)))
  | .lss => K (.w (.bool (decide (x < y))))
  | .leq => K (.w (.bool (decide (x ≤ y))))
  | .gtr => K (.w (.bool (decide (x > y))))
  | .geq => K (.w (.bool (decide (x ≥ y))))

def binS (op : BinOp) (x y : ByteArray) (K : AV → Prop) : Prop :=
  match op with
  | .add => x.size + y.size ≤ 9223372036854775807 ∧ K (.w (.string (x ++ y)))
  | .eql => K (.w (.bool (x.toList == y.toList)))
  | .neq => K (.w (.bool (!(x.toList == y.toList))))
  | .lss => K (.w (.bool (Op.bytesLess x.toList y.toList)))
  | .leq => K (.w (.bool (Op.bytesLess x.toList y.toList || x.toList == y.toList)))
  | .gtr => K (.w (.bool (!(Op.bytesLess x.toList y.toList || x.toList == y.toList))))
  | .geq => K (.w (.bool (!Op.bytesLess x.toList y.toList)))
  | _ => False

def binR (op : BinOp) (a b : AV) (K : AV → Prop) : Prop :=
  match a, b with
  | .w (.int k x), .w (.int j y) =>
    match op with
    | .shl => 0 ≤ y ∧ ∃ z, k.wrap (x * 2 ^ (min y.toNat k.bits)) = z ∧ K (.w (.int k z))
    | .shr => 0 ≤ y ∧ ∃ z, x.fdiv (2 ^ (min y.toNat k.bits)) = z ∧ K (.w (.int k z))
    | op => match sameK k j with
      | true => binI op k x y K
      | false => False
  | .w (.string x), .w (.string y) => binS op x y K
  | _, _ => False

/-- May this value lie in one cell? -/
def oneCell : AV → Bool
  | .w (.agg _) => false
  | .w (.tuple _) => false
  | .w _ => true
  | .fs _ _ => true
  | .ff _ _ => true
  | .fp _ => true
  | .ifc _ _ => true
  | .fn _ _ _ => true
  | _ => false

/-- A value's cells. -/
def avCells : AV → List AV
  | .agg xs => xs
  | v => [v]

/-- May this value be laid into cells? -/
def boxable : AV → Bool
  | .agg _ => true
  | v => oneCell v

abbrev AC := FuncId → List AV → Own → (AV → Own → Prop) → Prop

/-- What is known (values, own memory) may be said otherwise: blocks that are written no more are given up. -/
structure SubL (S : List AV → Own → List AV → Own → Prop) (vs : List AV) (σ : Own) (vs' : List AV) (σ' : Own) : Prop where
  out : S vs σ vs' σ'

/-- A call: its arguments, said otherwise, and its contract. -/
structure CallVC (A : AC) (S : List AV → Own → List AV → Own → Prop) (f : FuncId) (args : List AV) (σ : Own) (K : AV → Own → Prop) : Prop where
  out : ∃ args' σ', S args σ args' σ' ∧ A f args' σ' K

/-- A call that leaves own memory alone and has one answer. -/
structure CallQ (A : AC) (S : List AV → Own → List AV → Own → Prop) (f : FuncId) (args : List AV) (σ : Own) (K : AV → Prop) : Prop where
  out : ∃ args' v, S args σ args' σ ∧ A f args' σ (fun v' σ' => v' = v ∧ σ' = σ) ∧ K v

structure Cx where
  A : AC
  S : List AV → Own → List AV → Own → Prop
  gl : Nat → Option (List AV)

/-- Bounds of a slice expression. -/
def bnd (gl : Nat → Option (List AV)) (env : Env) (d : Nat) : Option Opd → (Int → Prop) → Prop
  | none, K => K d
  | some o, K => ev gl env o fun
    | .w (.int _ n) => K n
    | _ => False

def slR (x : AV) (size : Nat) (l h : Int) (mx : Option Int) (K : AV → Prop) : Prop :=
  match x with
  | .fs xs n => match mx with
    | none => ∃ l' h' : Nat, l = l' ∧ h = h' ∧ l' ≤ h' ∧ h' ≤ n ∧ K (.fs ((xs.drop (l' * size)).take ((h' - l') * size)) (h' - l'))
    | some m => ∃ l' h' : Nat, l = l' ∧ h = h' ∧ l' ≤ h' ∧ h' ≤ n ∧ m = h ∧ K (.ff ((xs.drop (l' * size)).take ((h' - l') * size)) (h' - l'))
  | .ff xs n => match mx with
    | none => ∃ l' h' : Nat, l = l' ∧ h = h' ∧ l' ≤ h' ∧ h' ≤ n ∧ K (.fs ((xs.drop (l' * size)).take ((h' - l') * size)) (h' - l'))
    | some m => ∃ l' h' : Nat, l = l' ∧ h = h' ∧ l' ≤ h' ∧ h' ≤ n ∧ m = h ∧ K (.ff ((xs.drop (l' * size)).take ((h' - l') * size)) (h' - l'))
  | .w (.slice (some ⟨b, o, none⟩) n c) => match mx with
    | none => ∃ l' h' : Nat, l = l' ∧ h = h' ∧ l' ≤ h' ∧ h' ≤ c ∧ ∃ o', (l' < c → o' = o + l' * size) ∧ (l' = c → o' = o) ∧ K (.w (.slice (some ⟨b, o', none⟩) (h' - l') (c - l')))
    | some m => ∃ l' h' m' : Nat, l = l' ∧ h = h' ∧ m = m' ∧ l' ≤ h' ∧ h' ≤ m' ∧ m' ≤ c ∧ ∃ o', (l' < m' → o' = o + l' * size) ∧ (l' = m' → o' = o) ∧ K (.w (.slice (some ⟨b, o', none⟩) (h' - l') (m' - l')))
  | .w (.slice none n c) => l = 0 ∧ h = 0 ∧ mx.getD 0 = 0 ∧ c = 0 ∧ K (.w (.slice none 0 0))
  | _ => False

def lenAV : AV → Nat
  | .fs _ n => n
  | .ff _ n => n
  | .w (.slice _ n _) => n
  | _ => 0

def ldR (agg : Bool) (size : Nat) (xs : List AV) (K : AV → Prop) : Prop :=
  match agg with
  | true => ∃ ys, xs.take size = ys ∧ ys.length = size ∧ K (.agg ys)
  | false => ∃ x, xs.head? = some x ∧ K x

/-- Parts laid over a row of cells. -/
def lay (gl : Nat → Option (List AV)) (env : Env) : List (Nat × Nat × Opd) → List AV → (List AV → Prop) → Prop
  | [], cs, K => K cs
  | (off, size, x) :: r, cs, K => ev gl env x fun v => match boxable v, Nat.beq (avCells v).length size, Nat.ble (off + size) cs.length with
    | true, true, true => lay gl env r (cs.take off ++ avCells v ++ cs.drop (off + size)) K
    | _, _, _ => False

/-- What an appended operand holds: its cells and how many elements. -/
def srcR (str : Bool) (size : Nat) (y : AV) (σ : Own) (K : List AV → Nat → Prop) : Prop :=
  match str with
  | false => match y with
    | .fs ys n => n * size ≤ ys.length ∧ K (ys.take (n * size)) n
    | .ff ys n => n * size ≤ ys.length ∧ K (ys.take (n * size)) n
    | .w (.slice none n _) => n = 0 ∧ K [] 0
    | .w (.slice (some ⟨b, o, none⟩) n _) => ∃ ob, σ b = some ob ∧ o + n * size ≤ ob.xs.length ∧ K ((ob.xs.drop o).take (n * size)) n
    | _ => False
  | true => match y with
    | .w (.string s) => size = 1 ∧ K (s.toList.map fun b => .w (.int .u8 b.toNat)) s.size
    | _ => False

/-- Appending: to nothing, to full cells that nobody writes (new memory), to a block of the call's own (there, or new memory). -/
def appR (size bytes : Nat) (x : AV) (ys : List AV) (n : Nat) (σ : Own) (K : AV → Own → Prop) : Prop :=
  match x with
  | .w (.slice none m c) => m = 0 ∧ c = 0 ∧ (n = 0 → K (.w (.slice none 0 0)) σ) ∧ (0 < n → n ≤ 9223372036854775807 ∧ n * 2 * bytes ≤ 281474976710656 ∧ ∀ b c', σ b = none → n ≤ c' → K (.w (.slice (some ⟨b, 0, none⟩) n c')) (upd σ b ⟨ys, c' * size⟩))
  | .ff xs m => m * size ≤ xs.length ∧ (n = 0 → K (.ff xs m) σ) ∧ (0 < n → m + n ≤ 9223372036854775807 ∧ (m + n) * 2 * bytes ≤ 281474976710656 ∧ ∀ b c', σ b = none → m + n ≤ c' → K (.w (.slice (some ⟨b, 0, none⟩) (m + n) c')) (upd σ b ⟨xs.take (m * size) ++ ys, c' * size⟩))
  | .w (.slice (some ⟨b, o, none⟩) m c) => ∃ ob, σ b = some ob ∧ o + m * size ≤ ob.xs.length ∧ o + c * size ≤ ob.cap ∧ m ≤ c ∧ m + n ≤ 9223372036854775807 ∧ (m + n) * 2 * bytes ≤ 281474976710656 ∧ ys.all oneCell = true ∧
      (m + n ≤ c → K (.w (.slice (some ⟨b, o, none⟩) (m + n) c)) (upd σ b ⟨ob.xs.take (o + m * size) ++ ys ++ ob.xs.drop (o + (m + n) * size), ob.cap⟩)) ∧
      (c < m + n → ∀ b' c', σ b' = none → m + n ≤ c' → K (.w (.slice (some ⟨b', 0, none⟩) (m + n) c')) (upd σ b' ⟨(ob.xs.drop o).take (m * size) ++ ys, c' * size⟩))
  | _ => False

def unV (op : UnOp) (v : AV) (K : AV → Prop) : Prop :=
  match op, v with
  | .not, .w (.bool b) => K (.w (.bool (!b)))
  | .neg, .w (.int k n) => ∃ z, k.wrap (0 - n) = z ∧ K (.w (.int k z))
  | .xor, .w (.int k n) => ∃ z, k.wrap ((BitVec.ofInt k.bits (if k.signed then -1 else k.max) ^^^ BitVec.ofInt k.bits n).toNat) = z ∧ K (.w (.int k z))
  | _, _ => False

def beqV (neg : Bool) (a b : AV) (K : AV → Prop) : Prop :=
  match a, b with
  | .w (.bool x), .w (.bool y) => match neg with
    | false => K (.w (.bool (x == y)))
    | true => K (.w (.bool (!(x == y))))
  | _, _ => False

def nilV (neg : Bool) (a : AV) (K : AV → Prop) : Prop :=
  match a with
  | .fs _ n => ∀ b : Bool, (0 < n → b = false) → match neg with
    | false => K (.w (.bool b))
    | true => K (.w (.bool (!b)))
  | .ff _ n => ∀ b : Bool, (0 < n → b = false) → match neg with
    | false => K (.w (.bool b))
    | true => K (.w (.bool (!b)))
  | .w (.slice none _ _) => match neg with
    | false => K (.w (.bool true))
    | true => K (.w (.bool false))
  | .w (.slice (some _) _ _) => match neg with
    | false => K (.w (.bool false))
    | true => K (.w (.bool true))
  | _ => False

def convV (k : IntKind) (v : AV) (K : AV → Prop) : Prop :=
  match v with
  | .w (.int _ n) => ∃ z, k.wrap n = z ∧ K (.w (.int k z))
  | _ => False

def lenV (v : AV) (K : AV → Prop) : Prop :=
  match v with
  | .fs _ n => K (.w (.int .i64 n))
  | .ff _ n => K (.w (.int .i64 n))
  | .w (.slice _ n _) => K (.w (.int .i64 n))
  | _ => False

def cstrV (v : AV) (K : AV → Prop) : Prop :=
  match v with
  | .w (.string s) => K (.w (.string s))
  | _ => False

def lensV (v : AV) (K : AV → Prop) : Prop :=
  match v with
  | .w (.string s) => K (.w (.int .i64 s.size))
  | _ => False

def ldV (agg : Bool) (size : Nat) (σ : Own) (v : AV) (K : AV → Prop) : Prop :=
  match v with
  | .fp xs => ldR agg size xs K
  | .w (.pointer (some ⟨b, o, none⟩)) => ∃ ob, σ b = some ob ∧ ldR agg size (ob.xs.drop o) K
  | _ => False

def ixV (size : Nat) (a i : AV) (K : AV → Prop) : Prop :=
  match i with
  | .w (.int _ j) => match a with
    | .fs xs n => ∃ j' : Nat, j = j' ∧ j' < n ∧ K (.fp (xs.drop (j' * size)))
    | .ff xs n => ∃ j' : Nat, j = j' ∧ j' < n ∧ K (.fp (xs.drop (j' * size)))
    | .w (.slice (some ⟨b, o, none⟩) n _) => ∃ j' : Nat, j = j' ∧ j' < n ∧ K (.w (.pointer (some ⟨b, o + j' * size, none⟩)))
    | _ => False
  | _ => False

def ixaV (n size : Nat) (a i : AV) (K : AV → Prop) : Prop :=
  match i with
  | .w (.int _ j) => match a with
    | .fp xs => ∃ j' : Nat, j = j' ∧ j' < n ∧ K (.fp (xs.drop (j' * size)))
    | .w (.pointer (some ⟨b, o, none⟩)) => ∃ j' : Nat, j = j' ∧ j' < n ∧ K (.w (.pointer (some ⟨b, o + j' * size, none⟩)))
    | _ => False
  | _ => False

def idxV (agg : Bool) (n size : Nat) (a i : AV) (K : AV → Prop) : Prop :=
  match i with
  | .w (.int _ j) => match a with
    | .agg xs => ∃ j' : Nat, j = j' ∧ j' < n ∧ ldR agg size (xs.drop (j' * size)) K
    | _ => False
  | _ => False

def idxsV (a i : AV) (K : AV → Prop) : Prop :=
  match i with
  | .w (.int _ j) => match a with
    | .w (.string s) => ∃ j' : Nat, j = j' ∧ ∃ c : UInt8, s.toList[j']? = some c ∧ K (.w (.int .u8 c.toNat))
    | _ => False
  | _ => False

def faV (off : Nat) (v : AV) (K : AV → Prop) : Prop :=
  match v with
  | .fp xs => K (.fp (xs.drop off))
  | .w (.pointer (some ⟨b, o, none⟩)) => K (.w (.pointer (some ⟨b, o + off, none⟩)))
  | _ => False

def fldV (agg : Bool) (off size : Nat) (v : AV) (K : AV → Prop) : Prop :=
  match v with
  | .agg xs => ldR agg size (xs.drop off) K
  | _ => False

def stV (size : Nat) (σ : Own) (a x : AV) (K : Own → Prop) : Prop :=
  match a with
  | .w (.pointer (some ⟨b, o, none⟩)) => match Nat.beq (avCells x).length size, (avCells x).all oneCell with
    | true, true => ∃ ob, σ b = some ob ∧ o + size ≤ ob.xs.length ∧ ∃ σ', upd σ b ⟨ob.xs.take o ++ avCells x ++ ob.xs.drop (o + size), ob.cap⟩ = σ' ∧ K σ'
    | _, _ => False
  | _ => False

def extV (v : AV) (i : Nat) (K : AV → Prop) : Prop :=
  match v with
  | .tup xs => ∃ x, xs[i]? = some x ∧ K x
  | _ => False

def mksV (size bytes : Nat) (zero : List Value) (l c : AV) (σ : Own) (K : AV → Own → Prop) : Prop :=
  match l, c with
  | .w (.int _ n), .w (.int _ m) => ∃ n' m' : Nat, n = n' ∧ m = m' ∧ n' ≤ m' ∧ m' * bytes ≤ 281474976710656 ∧ m' ≤ 9223372036854775807 ∧
      ∀ b, σ b = none → K (.w (.slice (some ⟨b, 0, none⟩) n' m')) (upd σ b ⟨(List.range (m' * size)).map fun i => cAV (zero[i % zero.length]!), m' * size⟩)
  | _, _ => False

def boxV (own : Bool) (xs : List AV) (σ : Own) (K : AV → Own → Prop) : Prop :=
  match own with
  | false => K (.fp xs) σ
  | true => ∀ b, σ b = none → K (.w (.pointer (some ⟨b, 0, none⟩))) (upd σ b ⟨xs, xs.length⟩)

def bslV (own : Bool) (len : Nat) (cs : List AV) (σ : Own) (K : AV → Own → Prop) : Prop :=
  match own with
  | false => K (.ff cs len) σ
  | true => ∀ b, σ b = none → K (.w (.slice (some ⟨b, 0, none⟩) len len)) (upd σ b ⟨cs, cs.length⟩)

def pickV (v : AV) (A B : Prop) : Prop :=
  match v with
  | .w (.bool t) => (t = true → A) ∧ (t = false → B)
  | _ => False

def slsV (gl : Nat → Option (List AV)) (env : Env) (v : AV) (lo hi : Option Opd) (K : AV → Prop) : Prop :=
  match v with
  | .w (.string s) => bnd gl env 0 lo fun l => bnd gl env s.size hi fun h => ∃ l' h' : Nat, l = l' ∧ h = h' ∧ l' ≤ h' ∧ h' ≤ s.size ∧ K (.w (.string (s.extract l' h')))
  | _ => False

/-- Which function a value calls, and with what. -/
def fnV (v : AV) (args : List AV) (K : FuncId → List AV → Prop) : Prop :=
  match v with
  | .w (.func (.func f) ⟨[]⟩ ⟨[]⟩) => K f args
  | .fn (.func f) vs ws => K f (vs ++ args ++ ws)
  | _ => False

def mkfV (f : Fn) (vs ws : List AV) (K : AV → Prop) : Prop :=
  match vs, ws with
  | [], [] => K (.w (.func f #[] #[]))
  | vs, ws => K (.fn f vs ws)

def callX (cx : Cx) (q : Bool) (f : FuncId) (vs : List AV) (σ : Own) (K : AV → Own → Prop) : Prop :=
  match q with
  | false => CallVC cx.A cx.S f vs σ K
  | true => CallQ cx.A cx.S f vs σ fun v => K v σ

def opR (cx : Cx) (env : Env) (σ : Own) : SOp → (AV → Own → Prop) → Prop
  | .mv x, K => ev cx.gl env x fun v => K v σ
  | .pick c a b, K => ev cx.gl env c fun v => pickV v (ev cx.gl env a fun v => K v σ) (ev cx.gl env b fun v => K v σ)
  | .bin op x y, K => ev cx.gl env x fun a => ev cx.gl env y fun b => binR op a b fun v => K v σ
  | .beq neg x y, K => ev cx.gl env x fun a => ev cx.gl env y fun b => beqV neg a b fun v => K v σ
  | .isnil neg x, K => ev cx.gl env x fun a => nilV neg a fun v => K v σ
  | .un op x, K => ev cx.gl env x fun v => unV op v fun v => K v σ
  | .conv k x, K => ev cx.gl env x fun v => convV k v fun v => K v σ
  | .cstr x, K => ev cx.gl env x fun v => cstrV v fun v => K v σ
  | .len x, K => ev cx.gl env x fun v => lenV v fun v => K v σ
  | .lens x, K => ev cx.gl env x fun v => lensV v fun v => K v σ
  | .ld agg size a, K => ev cx.gl env a fun v => ldV agg size σ v fun v => K v σ
  | .ix size x i, K => ev cx.gl env x fun a => ev cx.gl env i fun j => ixV size a j fun v => K v σ
  | .ixa n size x i, K => ev cx.gl env x fun a => ev cx.gl env i fun j => ixaV n size a j fun v => K v σ
  | .idx agg n size x i, K => ev cx.gl env x fun a => ev cx.gl env i fun j => idxV agg n size a j fun v => K v σ
  | .idxs x i, K => ev cx.gl env x fun a => ev cx.gl env i fun j => idxsV a j fun v => K v σ
  | .fa off x, K => ev cx.gl env x fun v => faV off v fun v => K v σ
  | .fld agg off size x, K => ev cx.gl env x fun v => fldV agg off size v fun v => K v σ
  | .st size a v, K => ev cx.gl env a fun p => ev cx.gl env v fun x => stV size σ p x fun σ' => K .any σ'
  | .call f args, K => evs cx.gl env args fun vs => CallVC cx.A cx.S f vs σ K
  | .callq f args, K => evs cx.gl env args fun vs => CallQ cx.A cx.S f vs σ fun v => K v σ
  | .callv q x args, K => ev cx.gl env x fun v => evs cx.gl env args fun vs => fnV v vs fun f vs => callX cx q f vs σ K
  | .mkf f first cap, K => evs cx.gl env first fun vs => evs cx.gl env cap fun ws => mkfV f vs ws fun v => K v σ
  | .ext x i, K => ev cx.gl env x fun v => extV v i fun v => K v σ
  | .mks size bytes zero len cap, K => ev cx.gl env len fun l => ev cx.gl env cap fun c => mksV size bytes zero l c σ K
  | .sl size x lo hi mx, K => ev cx.gl env x fun a => bnd cx.gl env 0 lo fun l => bnd cx.gl env (lenAV a) hi fun h => match mx with
    | none => slR a size l h none fun v => K v σ
    | some m => bnd cx.gl env 0 (some m) fun mv => slR a size l h (some mv) fun v => K v σ
  | .sls x lo hi, K => ev cx.gl env x fun v => slsV cx.gl env v lo hi fun v => K v σ
  | .box own size x, K => ev cx.gl env x fun v => match boxable v with
    | true => boxV own (avCells v) σ K
    | false => False
  | .alloc own size zero, K => boxV own (zero.map cAV) σ K
  | .build zero parts, K => lay cx.gl env parts (zero.map cAV) fun cs => K (.agg cs) σ
  | .bsl own size len zero parts, K => lay cx.gl env (parts.map fun p => (p.1 * size, size, p.2)) ((List.range (len * size)).map fun i => cAV (zero[i % zero.length]!)) fun cs => bslV own len cs σ K
  | .app str size bytes x y, K => ev cx.gl env x fun a => ev cx.gl env y fun b => srcR str size b σ fun ys n => appR size bytes a ys n σ K

inductive AEx where
  | normal
  | exit (id : Nat)
  | ret

def putO (env : Env) (d : Option Nat) (v : AV) : Env := match d with
  | some d => (d, v) :: env
  | none => env

def opsR (cx : Cx) : List SI → (Env → Own → Prop) → Env → Own → Prop
  | [], K, env, σ => K env σ
  | i :: l, K, env, σ =>
    match i.guard with
    | none => opR cx env σ i.op fun v σ' => match i.d with
      | some d => opsR cx l K ((d, v) :: env) σ'
      | none => opsR cx l K env σ'
    | some (t, want) => look env t fun
      | .w (.bool b) => (b = want → opR cx env σ i.op fun v σ' => match i.d with
          | some d => opsR cx l K ((d, v) :: env) σ'
          | none => opsR cx l K env σ') ∧ (b = !want → match i.d with
          | some d => opsR cx l K ((d, .any) :: env) σ
          | none => opsR cx l K env σ)
      | _ => False

/-- what a guard has told already -/
def findB : List (Nat × Bool) → Nat → Option Bool
  | [], _ => none
  | (i, b) :: r, t => match Nat.beq i t with | true => some b | false => findB r t
def dropB : List (Nat × Bool) → Nat → List (Nat × Bool)
  | [], _ => []
  | (i, b) :: r, t => match Nat.beq i t with | true => dropB r t | false => (i, b) :: dropB r t
def dropO (γ : List (Nat × Bool)) : Option Nat → List (Nat × Bool)
  | none => γ
  | some d => dropB γ d

def opG (cx : Cx) (γ : List (Nat × Bool)) (env : Env) (σ : Own) (s : SOp) (K : AV → Own → Prop) : Prop :=
  match s with
  | .pick (.t t) a b => match findB γ t with
    | some true => ev cx.gl env a fun v => K v σ
    | some false => ev cx.gl env b fun v => K v σ
    | none => opR cx env σ (.pick (.t t) a b) K
  | s => opR cx env σ s K

/-- the operations of a region, guards asked once -/
def opsG (cx : Cx) : List SI → List (Nat × Bool) → (Env → Own → Prop) → Env → Own → Prop
  | [], _, K, env, σ => K env σ
  | i :: l, γ, K, env, σ =>
    match i.guard with
    | none => opG cx γ env σ i.op fun v σ' => match i.d with
      | some d => opsG cx l (dropB γ d) K ((d, v) :: env) σ'
      | none => opsG cx l γ K env σ'
    | some (t, want) => match findB γ t with
      | some b => match b, want with
        | true, true => opG cx γ env σ i.op fun v σ' => match i.d with
          | some d => opsG cx l (dropB γ d) K ((d, v) :: env) σ'
          | none => opsG cx l γ K env σ'
        | false, false => opG cx γ env σ i.op fun v σ' => match i.d with
          | some d => opsG cx l (dropB γ d) K ((d, v) :: env) σ'
          | none => opsG cx l γ K env σ'
        | _, _ => match i.d with
          | some d => opsG cx l (dropB γ d) K ((d, .any) :: env) σ
          | none => opsG cx l γ K env σ
      | none => look env t fun
        | .w (.bool b) => (b = want → opG cx ((t, want) :: γ) env σ i.op fun v σ' => match i.d with
            | some d => opsG cx l (dropB ((t, want) :: γ) d) K ((d, v) :: env) σ'
            | none => opsG cx l ((t, want) :: γ) K env σ') ∧ (b = !want → match i.d with
            | some d => opsG cx l (dropB ((t, !want) :: γ) d) K ((d, .any) :: env) σ
            | none => opsG cx l ((t, !want) :: γ) K env σ)
        | _ => False

def keepR (env : Env) : List Nat → Env → (Env → Prop) → Prop
  | [], acc, K => K acc
  | i :: r, acc, K => look env i fun v => keepR env r ((i, v) :: acc) K

def keepE (env : Env) : List Nat → Env → Env
  | [], acc => acc
  | i :: r, acc => keepE env r ((i, find env i) :: acc)

theorem keepR_eq (env : Env) : ∀ (l : List Nat) (acc : Env) (K : Env → Prop), keepR env l acc K = K (keepE env l acc)
  | [], _, _ => rfl
  | i :: r, acc, K => by simp only [keepR, keepE, look_eq]; exact keepR_eq env r _ K

/-- What is known, said otherwise. -/
structure Wk (S : List AV → Own → List AV → Own → Prop) (env : Env) (σ : Own) (J : Env → Own → Prop) : Prop where
  out : ∃ env' σ', env'.map (·.1) = env.map (·.1) ∧ (env.map (·.1)).Nodup ∧ S (env.map (·.2)) σ (env'.map (·.2)) σ' ∧ J env' σ'

structure LoopVC (S : List AV → Own → List AV → Own → Prop) (B : (AEx → Env → Own → Prop) → Env → Own → Prop) (keep : List Nat) (Q : AEx → Env → Own → Prop) (env : Env) (σ : Own) : Prop where
  out : ∃ (I : Nat → Env → Own → Prop), Wk S env σ (fun env' σ' => ∃ m, I m env' σ') ∧ ∀ m env σ, I m env σ → B (fun e env' σ' => match e with
    | .normal => keepR env' keep [] fun env'' => Wk S env'' σ' fun env3 σ3 => ∃ m', m' < m ∧ I m' env3 σ3
    | e => Q e env' σ') env σ

def vc (cx : Cx) : SC → (AEx → Env → Own → Prop) → Env → Own → Prop
  | .skip, Q, env, σ => Q .normal env σ
  | .region ops keep, Q, env, σ => opsG cx ops [] (fun env' σ' => keepR env' keep [] fun env'' => Q .normal env'' σ') env σ
  | .says, Q, env, σ => Wk cx.S env σ fun env' σ' => Q .normal env' σ'
  | .drawn _ ops keep, Q, env, σ => opsG cx ops [] (fun env' σ' => keepR env' keep [] fun env'' => Q .normal env'' σ') env σ
  | .seq a b, Q, env, σ => vc cx a (fun e env' σ' => match e with
    | .normal => vc cx b Q env' σ'
    | e => Q e env' σ') env σ
  | .cond c x y, Q, env, σ => ev cx.gl env c fun
    | .w (.bool b) => (b = true → vc cx x Q env σ) ∧ (b = false → vc cx y Q env σ)
    | _ => False
  | .block id keep c, Q, env, σ => vc cx c (fun e env' σ' => match e with
    | .exit id' => match Nat.beq id' id with
      | true => keepR env' keep [] fun env'' => Q .normal env'' σ'
      | false => Q (.exit id') env' σ'
    | .normal => keepR env' keep [] fun env'' => Q .normal env'' σ'
    | .ret => Q .ret env' σ') env σ
  | .loop keep c, Q, env, σ => keepR env keep [] fun env' => LoopVC cx.S (vc cx c) keep Q env' σ
  | .exit id, Q, env, σ => Q (.exit id) env σ
  | .ret, Q, env, σ => Q .ret env σ
  | .dead, Q, env, σ => False

end Go.Ab
