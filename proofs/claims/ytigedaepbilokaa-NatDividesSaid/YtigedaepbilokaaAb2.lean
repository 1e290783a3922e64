import Derived.Test.YtigedaepbilokaaAb1
import Derived.Laws.MakeOwn
import Derived.Laws.AppendOwn
/-! From the model's operations to the plain machine's; each operation's soundness. -/
namespace Go.Ab
set_option linter.unusedVariables false

def szOf (P : Program) (t : TypeId) : Option Nat := (P.info? t).map (·.size)
def aggT (P : Program) (t : TypeId) : Option Bool :=
  match P.underlying t with
  | none => none
  | some (.struct _) => some true
  | some (.array _ _) => some true
  | some _ => some false
def zeroOf (P : Program) (t : TypeId) : Option (List Value) := (P.info? t).bind fun i => i.zero.map fun v => v.cells.toList
def ownOf : SOp → Bool
  | .box o _ _ => o
  | .alloc o _ _ => o
  | .bsl o _ _ _ _ => o
  | _ => false
def quietOf : SOp → Bool
  | .callq _ _ => true
  | .callv q _ _ => q
  | _ => false
def cOpt : Option Operand → Option Opd
  | none => none
  | some o => some (cOpd o)

/-- An operation's plain form. -/
def cOp (P : Program) (g : SOp) : Op → Option SOp
  | .move x => some (.mv (cOpd x))
  | .assign x => some (.mv (cOpd x))
  | .pick c a b => some (.pick (cOpd c) (cOpd a) (cOpd b))
  | .binOp op xt x y _ =>
    match op, P.underlying xt with
    | .eql, some .bool => some (.beq false (cOpd x) (cOpd y))
    | .neq, some .bool => some (.beq true (cOpd x) (cOpd y))
    | .eql, some (.slice _) => match y with
      | .const (.slice none 0 0) => some (.isnil false (cOpd x))
      | _ => none
    | .neq, some (.slice _) => match y with
      | .const (.slice none 0 0) => some (.isnil true (cOpd x))
      | _ => none
    | op, some (.int _) => some (.bin op (cOpd x) (cOpd y))
    | op, some .string => some (.bin op (cOpd x) (cOpd y))
    | _, _ => none
  | .unOp op _ x => some (.un op (cOpd x))
  | .convert src dst x =>
    match P.underlying src, P.underlying dst with
    | some (.int _), some (.int k) => some (.conv k (cOpd x))
    | some .string, some .string => some (.cstr (cOpd x))
    | _, _ => none
  | .load t a => match aggT P t, szOf P t with
    | some b, some n => some (.ld b n (cOpd a))
    | _, _ => none
  | .store t a v => match szOf P t with
    | some n => some (.st n (cOpd a) (cOpd v))
    | none => none
  | .indexAddr t x i => match P.underlying t with
    | some (.slice e) => match szOf P e with
      | some n => some (.ix n (cOpd x) (cOpd i))
      | none => none
    | some (.array l e) => match szOf P e with
      | some n => if 1 < l then some (.ixa l n (cOpd x) (cOpd i)) else none
      | none => none
    | _ => none
  | .index t x i => match P.underlying t with
    | some .string => some (.idxs (cOpd x) (cOpd i))
    | some (.array l e) => match aggT P e, szOf P e with
      | some b, some n => some (.idx b l n (cOpd x) (cOpd i))
      | _, _ => none
    | _ => none
  | .fieldAddr s x f => match P.underlying s with
    | some (.struct fs) => match fs[f]? with
      | some fd => match szOf P fd.type with
        | some (_ + 1) => some (.fa fd.offset (cOpd x))
        | _ => none
      | none => none
    | _ => none
  | .field s x f => match P.underlying s with
    | some (.struct fs) => match fs[f]? with
      | some fd => match aggT P fd.type, szOf P fd.type with
        | some b, some n => some (.fld b fd.offset n (cOpd x))
        | _, _ => none
      | none => none
    | _ => none
  | .slice t x lo hi mx => match P.underlying t with
    | some (.slice e) => match szOf P e with
      | some n => match mx, hi with
        | some _, none => none
        | _, _ => some (.sl n (cOpd x) (cOpt lo) (cOpt hi) (cOpt mx))
      | none => none
    | some .string => match mx with
      | none => some (.sls (cOpd x) (cOpt lo) (cOpt hi))
      | some _ => none
    | _ => none
  | .extract t i => some (.ext (cOpd t) i)
  | .makeFunc f first cap => some (.mkf f (first.toList.map cOpd) (cap.toList.map cOpd))
  | .makeSlice t l c => match P.underlying t with
    | some (.slice e) => match P.info? e with
      | some i => match i.zero with
        | some z => some (.mks i.size i.bytes z.cells.toList (cOpd l) (cOpd c))
        | none => none
      | none => none
    | _ => none
  | .call c => match c.callee with
    | .value (.func f) => match quietOf g with
      | true => some (.callq f (c.args.toList.map cOpd))
      | false => some (.call f (c.args.toList.map cOpd))
    | .value (.tmp t) => some (.callv (quietOf g) (.t t) (c.args.toList.map cOpd))
    | .builtin .len => match c.argTypes.toList, c.args.toList with
      | [t], [x] => match P.underlying t with
        | some (.slice _) => some (.len (cOpd x))
        | some .string => some (.lens (cOpd x))
        | _ => none
      | _, _ => none
    | .builtin .append => match c.argTypes.toList, c.args.toList with
      | [t, u], [x, y] => match P.underlying t with
        | some (.slice e) => match P.info? e with
          | some i => match i.zero, P.underlying u with
            | some z, some (.slice _) => if z.cells.size = i.size then some (.app false i.size i.bytes (cOpd x) (cOpd y)) else none
            | some z, some .string => if z.cells.size = i.size then some (.app true i.size i.bytes (cOpd x) (cOpd y)) else none
            | _, _ => none
          | none => none
        | _ => none
      | _, _ => none
    | _ => none
  | .box t x => match szOf P t with
    | some n => some (.box (ownOf g) n (cOpd x))
    | none => none
  | .alloc t => match szOf P t, zeroOf P t with
    | some n, some z => if z.length = n ∧ z.all (·.oneCell') then some (.alloc (ownOf g) n z) else none
    | _, _ => none
  | .build t parts => match P.underlying t, zeroOf P t with
    | some (.struct fs), some z => match parts.toList.mapM (fun p => match fs[p.1]? with
        | some fd => (szOf P fd.type).map fun n => (fd.offset, n, cOpd p.2)
        | none => none) with
      | some l => if fs.all (fun f => (szOf P f.type).isSome) then some (.build z l) else none
      | none => none
    | some (.array _ e), some z => match szOf P e with
      | some n => some (.build z (parts.toList.map fun p => (p.1 * n, n, cOpd p.2)))
      | none => none
    | _, _ => none
  | .buildSlice t len parts => match P.underlying t with
    | some (.slice e) => match szOf P e, zeroOf P e with
      | some n, some z => if len * n ≤ 16777216 ∧ 0 < z.length then some (.bsl (ownOf g) n len z (parts.toList.map fun p => (p.1, cOpd p.2))) else none
      | _, _ => none
    | _ => none
  | _ => none

variable {P : Program} {gl : Nat → Option (List AV)} {N : Nat} {σ : Own} {w : World} {env : Env} {a : Act}

/-- What an operation's soundness says. -/
def Sound (P : Program) (gl : Nat → Option (List AV)) (σ : Own) (w : World) (K : AV → Own → Prop) (cv : Value) (w' : World) : Prop :=
  ∃ v σ', K v σ' ∧ Rel gl σ' w' ∧ Stays σ w σ' w' ∧ VR (Im σ' w') w' v cv

theorem sound_pure {K : AV → Own → Prop} (hr : Rel gl σ w) {v : AV} {cv : Value} (h : K v σ) (hv : VR (Im σ w) w v cv) : Sound P gl σ w K cv w :=
  ⟨v, σ, h, hr, .refl _ _, hv⟩

theorem out_value {s : Sem Value} {w w' : World} {v : Value} {Post : Value → World → Prop} (h : s.run P w = .ok v w') (k : Post v w') : OpOut P ((do pure (.value (← s)) : Sem Next).run P w) Post := by
  show OpOut P ((s >>= fun v => (pure (.value v) : Sem Next)).run P w) Post
  rw [Sem.run_bind, h]; exact k
theorem out_unit {s : Sem Unit} {w w' : World} {Post : Value → World → Prop} (h : s.run P w = .ok () w') (k : Post undef w') : OpOut P ((do s; pure .skip : Sem Next).run P w) Post := by
  show OpOut P ((s >>= fun _ => (pure .skip : Sem Next)).run P w) Post
  rw [Sem.run_bind, h]; exact k

theorem VR.w_inv {I : Nat → Prop} {u v : Value} (h : VR I w (.w u) v) : v = u := by cases h; rfl
theorem VR.tup_inv {I : Nat → Prop} {xs : List AV} {v : Value} (h : VR I w (.tup xs) v) : ∃ cs, v = .tuple cs ∧ VRs I w xs cs.toList := by
  cases h with | tup _ cs hl h => exact ⟨cs, rfl, .of_arr hl h⟩
theorem VR.agg_inv {I : Nat → Prop} {xs : List AV} {v : Value} (h : VR I w (.agg xs) v) : ∃ cs, v = .agg cs ∧ VRs I w xs cs.toList := by
  cases h with | agg _ cs hl h => exact ⟨cs, rfl, .of_arr hl h⟩
theorem VR.fp_inv {I : Nat → Prop} {xs : List AV} {v : Value} (h : VR I w (.fp xs) v) : ∃ a, v = .pointer (some a) ∧ VRa I w xs a := by
  cases h with | fp _ a cv hc h => exact ⟨a, rfl, .of hc h⟩
theorem VR.fs_inv {I : Nat → Prop} {xs : List AV} {n : Nat} {v : Value} (h : VR I w (.fs xs n) v) : (∃ a c, v = .slice (some a) n c ∧ n ≤ c ∧ VRa I w xs a) ∨ (v = .slice none 0 0 ∧ xs = [] ∧ n = 0) := by
  cases h with
  | fs _ _ a c cv hn hc h => exact .inl ⟨a, c, rfl, hn, .of hc h⟩
  | fs0 => exact .inr ⟨rfl, rfl, rfl⟩
theorem VR.ff_inv {I : Nat → Prop} {xs : List AV} {n : Nat} {v : Value} (h : VR I w (.ff xs n) v) : (∃ a, v = .slice (some a) n n ∧ VRa I w xs a) ∨ (v = .slice none 0 0 ∧ xs = [] ∧ n = 0) := by
  cases h with
  | ff _ _ a cv hc h => exact .inl ⟨a, rfl, .of hc h⟩
  | ff0 => exact .inr ⟨rfl, rfl, rfl⟩

/-- integers -/
theorem binI_sound {op : BinOp} {k : IntKind} {x y : Int} {K : AV → Prop} (t : TypeId) (h1 : op ≠ .shl) (h2 : op ≠ .shr) (h : binI op k x y K) :
    ∃ v, (binOp op t (.int k x) (.int k y)).run P w = .ok v w ∧ K (.w v) := by
  cases op
  case shl => exact absurd rfl h1
  case shr => exact absurd rfl h2
  case quo => obtain ⟨h0, z, rfl, h⟩ := h; exact ⟨_, by simp [binOp, Op.intDiv, h0], h⟩
  case rem => obtain ⟨h0, z, rfl, h⟩ := h; exact ⟨_, by simp [binOp, Op.intDiv, h0], h⟩
  case add => obtain ⟨z, rfl, h⟩ := h; exact ⟨_, by rw [binOp_add]; rfl, h⟩
  case sub => obtain ⟨z, rfl, h⟩ := h; exact ⟨_, by rw [binOp_sub]; rfl, h⟩
  case mul => obtain ⟨z, rfl, h⟩ := h; exact ⟨_, by rw [binOp_mul]; rfl, h⟩
  case and => obtain ⟨z, rfl, h⟩ := h; exact ⟨_, by rw [binOp_and]; rfl, h⟩
  case or => obtain ⟨z, rfl, h⟩ := h; exact ⟨_, by rw [binOp_or]; rfl, h⟩
  case xor => obtain ⟨z, rfl, h⟩ := h; exact ⟨_, by rw [binOp_xor]; rfl, h⟩
  case andNot => obtain ⟨z, rfl, h⟩ := h; exact ⟨_, by rw [binOp_andNot]; rfl, h⟩
  case eql => exact ⟨_, by rw [binOp_eql]; rfl, h⟩
  case neq => exact ⟨_, by rw [binOp_neq]; rfl, h⟩
  case lss => exact ⟨_, by rw [binOp_lss]; rfl, h⟩
  case leq => exact ⟨_, by rw [binOp_leq]; rfl, h⟩
  case gtr => exact ⟨_, by rw [binOp_gtr]; rfl, h⟩
  case geq => exact ⟨_, by rw [binOp_geq]; rfl, h⟩

theorem binS_sound {op : BinOp} {x y : ByteArray} {K : AV → Prop} (t : TypeId) (h : binS op x y K) :
    ∃ v, (binOp op t (.string x) (.string y)).run P w = .ok v w ∧ K (.w v) := by
  cases op
  case add =>
    obtain ⟨h0, h⟩ := h
    refine ⟨_, ?_, h⟩
    have : ¬ ((x.size + y.size : Nat) : Int) > IntKind.i64.max := by rw [IntKind.max_i64]; omega
    simp only [binOp, Op.stringOp]
    rw [if_neg this]; rfl
  case eql => exact ⟨_, by simp [binOp, Op.stringOp], h⟩
  case neq => exact ⟨_, by simp [binOp, Op.stringOp], h⟩
  case lss => exact ⟨_, by simp [binOp, Op.stringOp], h⟩
  case leq => exact ⟨_, by simp [binOp, Op.stringOp], h⟩
  case gtr => exact ⟨_, by simp [binOp, Op.stringOp], h⟩
  case geq => exact ⟨_, by simp [binOp, Op.stringOp], h⟩
  all_goals exact h.elim

theorem binR_sound {op : BinOp} {x y : AV} {u v : Value} {K : AV → Prop} (t : TypeId) (hx : VR (Im σ w) w x u) (hy : VR (Im σ w) w y v) (h : binR op x y K) :
    ∃ z, (binOp op t u v).run P w = .ok z w ∧ K (.w z) := by
  unfold binR at h
  split at h
  · rename_i k x j y
    cases hx.w_inv; cases hy.w_inv
    split at h
    · obtain ⟨h0, z, rfl, h⟩ := h
      exact ⟨_, by simp [binOp, Op.shift, Int.not_lt.2 h0], h⟩
    · obtain ⟨h0, z, rfl, h⟩ := h
      exact ⟨_, by simp [binOp, Op.shift, Int.not_lt.2 h0], h⟩
    · split at h
      · rename_i hk
        cases sameK_eq hk
        exact binI_sound t (by assumption) (by assumption) h
      · exact h.elim
  · cases hx.w_inv; cases hy.w_inv
    exact binS_sound t h
  · exact h.elim

end Go.Ab
