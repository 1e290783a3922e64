import Derived.Test.YtigedaepbilokaaAb0
import Derived.Laws.Cells
import Derived.Laws.CopyRow
import Derived.Laws.Entries
import Derived.ChangeKeysEq
/-! The plain machine's values, read in memory; what stays from step to step. -/
namespace Go.Ab
set_option linter.unusedVariables false

inductive VR (I : Nat → Prop) (w : World) : AV → Value → Prop
  | w (v : Value) : VR I w (.w v) v
  | any (v : Value) : VR I w .any v
  | fs (xs : List AV) (n : Nat) (a : Addr) (c : Nat) (cv : Nat → Value) (hn : n ≤ c)
      (hc : ∀ i, i < xs.length → I a.block ∧ w.cell? (a.add i) = some (cv i)) (h : ∀ i (hi : i < xs.length), VR I w (xs[i]) (cv i)) : VR I w (.fs xs n) (.slice (some a) n c)
  | fs0 : VR I w (.fs [] 0) (.slice none 0 0)
  | ff (xs : List AV) (n : Nat) (a : Addr) (cv : Nat → Value)
      (hc : ∀ i, i < xs.length → I a.block ∧ w.cell? (a.add i) = some (cv i)) (h : ∀ i (hi : i < xs.length), VR I w (xs[i]) (cv i)) : VR I w (.ff xs n) (.slice (some a) n n)
  | ff0 : VR I w (.ff [] 0) (.slice none 0 0)
  | fp (xs : List AV) (a : Addr) (cv : Nat → Value)
      (hc : ∀ i, i < xs.length → I a.block ∧ w.cell? (a.add i) = some (cv i)) (h : ∀ i (hi : i < xs.length), VR I w (xs[i]) (cv i)) : VR I w (.fp xs) (.pointer (some a))
  | agg (xs : List AV) (cs : Array Value) (hl : cs.size = xs.length) (h : ∀ i (hi : i < xs.length), VR I w (xs[i]) (cs.getD i undef)) : VR I w (.agg xs) (.agg cs)
  | tup (xs : List AV) (cs : Array Value) (hl : cs.size = xs.length) (h : ∀ i (hi : i < xs.length), VR I w (xs[i]) (cs.getD i undef)) : VR I w (.tup xs) (.tuple cs)
  | ifc (t : TypeId) (x : AV) (v : Value) (h : VR I w x v) : VR I w (.ifc t x) (.iface t v)
  | fn (f : Fn) (xs ys : List AV) (cs ds : Array Value) (hl : cs.size = xs.length) (h : ∀ i (hi : i < xs.length), VR I w (xs[i]) (cs.getD i undef))
      (kl : ds.size = ys.length) (k : ∀ i (hi : i < ys.length), VR I w (ys[i]) (ds.getD i undef)) : VR I w (.fn f xs ys) (.func f cs ds)

/-- A row of values against a row of plain ones. -/
def VRs (I : Nat → Prop) (w : World) (xs : List AV) (cs : List Value) : Prop :=
  cs.length = xs.length ∧ ∀ i (hi : i < xs.length), VR I w (xs[i]) (cs.getD i undef)

/-- Cells behind an address against plain ones. -/
def VRa (I : Nat → Prop) (w : World) (xs : List AV) (a : Addr) : Prop :=
  ∀ i (hi : i < xs.length), I a.block ∧ ∃ v, w.cell? (a.add i) = some v ∧ VR I w (xs[i]) v

theorem add_block (a : Addr) (n : Nat) : (a.add n).block = a.block := by unfold Addr.add; split <;> rfl
theorem add_add (a : Addr) (i j : Nat) : (a.add i).add j = a.add (i + j) := by
  unfold Addr.add
  by_cases hi : i = 0 <;> by_cases hj : j = 0 <;> simp [hi, hj, Nat.add_assoc]
theorem add_lit (b o n : Nat) : (⟨b, o, none⟩ : Addr).add n = ⟨b, o + n, none⟩ := by unfold Addr.add; split <;> simp_all

theorem cell_of_block {w w' : World} {a : Addr} (h : w'.heap[a.block]? = w.heap[a.block]?) : w'.cell? a = w.cell? a := by
  unfold World.cell?; rw [h]

theorem VR.mono {I I' : Nat → Prop} {w w' : World} (H : ∀ b, I b → I' b ∧ w'.heap[b]? = w.heap[b]?) {x : AV} {v : Value} (h : VR I w x v) : VR I' w' x v := by
  induction h with
  | w v => exact .w v
  | any v => exact .any v
  | fs xs n a c cv hn hc h ih => exact .fs xs n a c cv hn (fun i hi => ⟨(H _ (hc i hi).1).1, by rw [cell_of_block (w := w)]; exact (hc i hi).2; rw [add_block]; exact (H _ (hc i hi).1).2⟩) ih
  | fs0 => exact .fs0
  | ff xs n a cv hc h ih => exact .ff xs n a cv (fun i hi => ⟨(H _ (hc i hi).1).1, by rw [cell_of_block (w := w)]; exact (hc i hi).2; rw [add_block]; exact (H _ (hc i hi).1).2⟩) ih
  | ff0 => exact .ff0
  | fp xs a cv hc h ih => exact .fp xs a cv (fun i hi => ⟨(H _ (hc i hi).1).1, by rw [cell_of_block (w := w)]; exact (hc i hi).2; rw [add_block]; exact (H _ (hc i hi).1).2⟩) ih
  | agg xs cs hl h ih => exact .agg xs cs hl ih
  | tup xs cs hl h ih => exact .tup xs cs hl ih
  | ifc t x v h ih => exact .ifc t x v ih
  | fn f xs ys cs ds hl h kl k ih ik => exact .fn f xs ys cs ds hl ih kl ik

theorem VRs.mono {I I' : Nat → Prop} {w w' : World} (H : ∀ b, I b → I' b ∧ w'.heap[b]? = w.heap[b]?) {xs : List AV} {cs : List Value} (h : VRs I w xs cs) : VRs I' w' xs cs :=
  ⟨h.1, fun i hi => (h.2 i hi).mono H⟩

theorem VRs.nil {I : Nat → Prop} {w : World} : VRs I w [] [] := ⟨rfl, fun i hi => by simp at hi⟩
theorem VRs.cons {I : Nat → Prop} {w : World} {x : AV} {v : Value} {xs : List AV} {cs : List Value} (h : VR I w x v) (hs : VRs I w xs cs) : VRs I w (x :: xs) (v :: cs) :=
  ⟨by simp [hs.1], fun i hi => by
    cases i with
    | zero => exact h
    | succ i => exact hs.2 i (by simpa using hi)⟩
theorem VRs.head {I : Nat → Prop} {w : World} {x : AV} {xs : List AV} {cs : List Value} (h : VRs I w (x :: xs) cs) : ∃ v vs, cs = v :: vs ∧ VR I w x v ∧ VRs I w xs vs := by
  obtain ⟨hl, h⟩ := h
  cases cs with
  | nil => simp at hl
  | cons v vs => exact ⟨v, vs, rfl, h 0 (by simp), by simpa using hl, fun i hi => h (i + 1) (by simpa using hi)⟩
theorem VRs.nil_inv {I : Nat → Prop} {w : World} {cs : List Value} (h : VRs I w [] cs) : cs = [] := by
  have := h.1; simpa using this
theorem VRs.append {I : Nat → Prop} {w : World} : ∀ {xs : List AV} {cs : List Value} {ys : List AV} {ds : List Value}, VRs I w xs cs → VRs I w ys ds → VRs I w (xs ++ ys) (cs ++ ds)
  | [], cs, ys, ds, h, k => by rw [h.nil_inv]; exact k
  | x :: xs, cs, ys, ds, h, k => by
    obtain ⟨v, vs, rfl, hv, hs⟩ := h.head
    exact .cons hv (VRs.append hs k)
theorem VRs.take {I : Nat → Prop} {w : World} {xs : List AV} {cs : List Value} (h : VRs I w xs cs) (n : Nat) : VRs I w (xs.take n) (cs.take n) :=
  ⟨by simp [h.1], fun i hi => by
    have hi' : i < n ∧ i < xs.length := by simp at hi; omega
    have := h.2 i hi'.2
    rw [List.getElem_take]
    simpa [List.getD, hi'.1] using this⟩
theorem VRs.drop {I : Nat → Prop} {w : World} {xs : List AV} {cs : List Value} (h : VRs I w xs cs) (n : Nat) : VRs I w (xs.drop n) (cs.drop n) :=
  ⟨by simp [h.1], fun i hi => by
    have hi' : n + i < xs.length := by simp at hi; omega
    have := h.2 (n + i) hi'
    rw [List.getElem_drop]
    simpa [List.getD] using this⟩
theorem VRs.get {I : Nat → Prop} {w : World} {xs : List AV} {cs : List Value} (h : VRs I w xs cs) {i : Nat} {x : AV} (hx : xs[i]? = some x) : ∃ v, cs[i]? = some v ∧ VR I w x v := by
  obtain ⟨hi, rfl⟩ := List.getElem?_eq_some_iff.1 hx
  have := h.2 i hi
  have hi' : i < cs.length := by rw [h.1]; exact hi
  refine ⟨cs[i], by simp [hi'], ?_⟩
  simpa [List.getD, hi'] using this
theorem VRs.arr {I : Nat → Prop} {w : World} {xs : List AV} {cs : Array Value} (h : VRs I w xs cs.toList) : cs.size = xs.length ∧ ∀ i (hi : i < xs.length), VR I w (xs[i]) (cs.getD i undef) := by
  refine ⟨by simpa using h.1, fun i hi => ?_⟩
  have := h.2 i hi
  simpa [List.getD, Array.getD_eq_getD_getElem?] using this
theorem VRs.of_arr {I : Nat → Prop} {w : World} {xs : List AV} {cs : Array Value} (hl : cs.size = xs.length) (h : ∀ i (hi : i < xs.length), VR I w (xs[i]) (cs.getD i undef)) : VRs I w xs cs.toList := by
  refine ⟨by simpa using hl, fun i hi => ?_⟩
  have := h i hi
  simpa [List.getD, Array.getD_eq_getD_getElem?] using this

theorem VRa.drop {I : Nat → Prop} {w : World} {xs : List AV} {a : Addr} (h : VRa I w xs a) (n : Nat) : VRa I w (xs.drop n) (a.add n) := by
  intro i hi
  obtain ⟨hI, v, hc, hv⟩ := h (n + i) (by simp at hi; omega)
  exact ⟨by rw [add_block]; exact hI, v, by rw [add_add]; exact hc, by rw [List.getElem_drop]; exact hv⟩
theorem VRa.take {I : Nat → Prop} {w : World} {xs : List AV} {a : Addr} (h : VRa I w xs a) (n : Nat) : VRa I w (xs.take n) a := by
  intro i hi
  obtain ⟨hI, v, hc, hv⟩ := h i (by simp at hi; omega)
  exact ⟨hI, v, hc, by rw [List.getElem_take]; exact hv⟩
theorem VRa.of {I : Nat → Prop} {w : World} {xs : List AV} {a : Addr} {cv : Nat → Value} (hc : ∀ i, i < xs.length → I a.block ∧ w.cell? (a.add i) = some (cv i))
    (h : ∀ i (hi : i < xs.length), VR I w (xs[i]) (cv i)) : VRa I w xs a := fun i hi => ⟨(hc i hi).1, cv i, (hc i hi).2, h i hi⟩
theorem VRa.cv {I : Nat → Prop} {w : World} {xs : List AV} {a : Addr} (h : VRa I w xs a) : ∃ cv : Nat → Value, (∀ i, i < xs.length → I a.block ∧ w.cell? (a.add i) = some (cv i)) ∧ ∀ i (hi : i < xs.length), VR I w (xs[i]) (cv i) := by
  refine ⟨fun i => (w.cell? (a.add i)).getD undef, fun i hi => ?_, fun i hi => ?_⟩
  · obtain ⟨hI, v, hc, hv⟩ := h i hi
    exact ⟨hI, by simp [hc]⟩
  · obtain ⟨hI, v, hc, hv⟩ := h i hi
    simpa [hc] using hv
theorem VR.mk_fs {I : Nat → Prop} {w : World} {xs : List AV} {n : Nat} {a : Addr} {c : Nat} (hn : n ≤ c) (h : VRa I w xs a) : VR I w (.fs xs n) (.slice (some a) n c) := by
  obtain ⟨cv, h1, h2⟩ := h.cv; exact .fs xs n a c cv hn h1 h2
theorem VR.mk_ff {I : Nat → Prop} {w : World} {xs : List AV} {n : Nat} {a : Addr} (h : VRa I w xs a) : VR I w (.ff xs n) (.slice (some a) n n) := by
  obtain ⟨cv, h1, h2⟩ := h.cv; exact .ff xs n a cv h1 h2
theorem VR.mk_fp {I : Nat → Prop} {w : World} {xs : List AV} {a : Addr} (h : VRa I w xs a) : VR I w (.fp xs) (.pointer (some a)) := by
  obtain ⟨cv, h1, h2⟩ := h.cv; exact .fp xs a cv h1 h2
theorem VR.mk_agg {I : Nat → Prop} {w : World} {xs : List AV} {cs : Array Value} (h : VRs I w xs cs.toList) : VR I w (.agg xs) (.agg cs) := .agg xs cs h.arr.1 h.arr.2
theorem VR.mk_tup {I : Nat → Prop} {w : World} {xs : List AV} {cs : Array Value} (h : VRs I w xs cs.toList) : VR I w (.tup xs) (.tuple cs) := .tup xs cs h.arr.1 h.arr.2

/-- What memory holds: the call's own blocks as said, the package's variables that are known. -/
def Im (σ : Own) (w : World) : Nat → Prop := fun b => b < w.heap.size ∧ σ b = none

structure Rel (gl : Nat → Option (List AV)) (σ : Own) (w : World) : Prop where
  own : ∀ b ob, σ b = some ob → ∃ cs T, w.heap[b]? = some (.cells cs T (0, 0)) ∧ cs.size = ob.cap ∧ ob.xs.length ≤ ob.cap ∧ VRs (Im σ w) w ob.xs (cs.toList.take ob.xs.length)
  glo : ∀ b xs, gl b = some xs → VRa (Im σ w) w xs ⟨b, 0, none⟩

/-- From one moment to a later one: what was no own block is as it was, and is none now. -/
structure Stays (σ : Own) (w : World) (σ' : Own) (w' : World) : Prop where
  size : w.heap.size ≤ w'.heap.size
  im : ∀ b, b < w.heap.size → σ b = none → σ' b = none ∧ w'.heap[b]? = w.heap[b]?
  os : w'.os = w.os
  tape : w'.tape = w.tape
  output : w'.output = w.output

theorem Stays.refl (σ : Own) (w : World) : Stays σ w σ w := ⟨Nat.le_refl _, fun _ _ h => ⟨h, rfl⟩, rfl, rfl, rfl⟩
theorem Stays.trans {σ σ' σ'' : Own} {w w' w'' : World} (h : Stays σ w σ' w') (k : Stays σ' w' σ'' w'') : Stays σ w σ'' w'' :=
  ⟨Nat.le_trans h.size k.size, fun b hb hn => by
    obtain ⟨h1, h2⟩ := h.im b hb hn
    obtain ⟨k1, k2⟩ := k.im b (Nat.lt_of_lt_of_le hb h.size) h1
    exact ⟨k1, k2.trans h2⟩, k.os.trans h.os, k.tape.trans h.tape, k.output.trans h.output⟩
theorem Stays.I {σ σ' : Own} {w w' : World} (h : Stays σ w σ' w') : ∀ b, Im σ w b → Im σ' w' b ∧ w'.heap[b]? = w.heap[b]? :=
  fun b hb => ⟨⟨Nat.lt_of_lt_of_le hb.1 h.size, (h.im b hb.1 hb.2).1⟩, (h.im b hb.1 hb.2).2⟩
theorem Stays.vr {σ σ' : Own} {w w' : World} (h : Stays σ w σ' w') {x : AV} {v : Value} (k : VR (Im σ w) w x v) : VR (Im σ' w') w' x v := k.mono h.I
theorem VRa.mono {I I' : Nat → Prop} {w w' : World} (H : ∀ b, I b → I' b ∧ w'.heap[b]? = w.heap[b]?) {xs : List AV} {a : Addr} (h : VRa I w xs a) : VRa I' w' xs a := by
  intro i hi
  obtain ⟨hI, v, hc, hv⟩ := h i hi
  exact ⟨(H _ hI).1, v, by rw [cell_of_block (w := w)]; exact hc; rw [add_block]; exact (H _ hI).2, hv.mono H⟩

theorem Rel.lt {gl : Nat → Option (List AV)} {σ : Own} {w : World} (h : Rel gl σ w) {b : Nat} {ob : Ob} (hb : σ b = some ob) : b < w.heap.size := by
  obtain ⟨cs, T, h1, _⟩ := h.own b ob hb
  exact (Array.getElem?_eq_some_iff.1 h1).1
theorem Rel.fresh {gl : Nat → Option (List AV)} {σ : Own} {w : World} (h : Rel gl σ w) : σ w.heap.size = none := by
  cases hb : σ w.heap.size with
  | none => rfl
  | some ob => exact absurd (h.lt hb) (Nat.lt_irrefl _)

/-- A draw. -/
theorem Stays.drew (σ : Own) (w : World) (n : Nat) : Stays σ w σ { w with drawn := n } := ⟨Nat.le_refl _, fun _ _ h => ⟨h, rfl⟩, rfl, rfl, rfl⟩

/-- Another world with the same own blocks, more immutable ones. -/
theorem Rel.stay {gl : Nat → Option (List AV)} {σ : Own} {w w' : World} (h : Rel gl σ w) (hs : Stays σ w σ w') (ho : ∀ b ob, σ b = some ob → w'.heap[b]? = w.heap[b]?) : Rel gl σ w' :=
  ⟨fun b ob hb => by
    obtain ⟨cs, T, h1, h2, h3, h4⟩ := h.own b ob hb
    exact ⟨cs, T, by rw [ho b ob hb, h1], h2, h3, h4.mono hs.I⟩, fun b xs hb => (h.glo b xs hb).mono hs.I⟩

/-- New memory that nobody writes. -/
theorem stays_new (σ : Own) (w : World) (o : Obj) : Stays σ w σ (w.alloc o) :=
  ⟨by rw [World.size_alloc]; omega, fun b hb hn => ⟨hn, Go.RowKit.Below.heap_alloc w o b hb⟩, rfl, rfl, rfl⟩
theorem rel_new {gl : Nat → Option (List AV)} {σ : Own} {w : World} (h : Rel gl σ w) (o : Obj) : Rel gl σ (w.alloc o) :=
  h.stay (stays_new σ w o) fun b ob hb => Go.RowKit.Below.heap_alloc w o b (h.lt hb)

/-- New memory of the call's own. -/
theorem rel_own {gl : Nat → Option (List AV)} {σ : Own} {w : World} (h : Rel gl σ w) {ob : Ob} {cs : Array Value} {T : TypeId} (hc : cs.size = ob.cap) (hl : ob.xs.length ≤ ob.cap)
    (hv : VRs (Im σ w) w ob.xs (cs.toList.take ob.xs.length)) :
    Rel gl (upd σ w.heap.size ob) (w.alloc (.cells cs T)) ∧ Stays σ w (upd σ w.heap.size ob) (w.alloc (.cells cs T)) := by
  have hs : Stays σ w (upd σ w.heap.size ob) (w.alloc (.cells cs T)) := by
    refine ⟨by rw [World.size_alloc]; omega, fun b hb hn => ⟨?_, Go.RowKit.Below.heap_alloc w _ b hb⟩, rfl, rfl, rfl⟩
    unfold upd
    rw [if_neg (by omega)]
    exact hn
  refine ⟨⟨fun b ob' hb => ?_, fun b xs hb => (h.glo b xs hb).mono hs.I⟩, hs⟩
  by_cases e : b = w.heap.size
  · subst e
    have : ob = ob' := by simpa [upd] using hb
    subst this
    exact ⟨cs, T, by show (w.heap.push _)[w.heap.size]? = _; simp, hc, hl, hv.mono hs.I⟩
  · have hb' : σ b = some ob' := by simpa [upd, e] using hb
    obtain ⟨cs', T', h1, h2, h3, h4⟩ := h.own b ob' hb'
    exact ⟨cs', T', (Go.RowKit.Below.heap_alloc w _ b (h.lt hb')).trans h1, h2, h3, h4.mono hs.I⟩

/-- A row of the call's own, written. -/
theorem rel_set {gl : Nat → Option (List AV)} {σ : Own} {w : World} (h : Rel gl σ w) {b : Nat} {ob ob' : Ob} (hb : σ b = some ob) {cs cs' : Array Value} {T : TypeId}
    (hw : w.heap[b]? = some (.cells cs T (0, 0))) (hc : cs'.size = ob'.cap) (hl : ob'.xs.length ≤ ob'.cap) (hv : VRs (Im σ w) w ob'.xs (cs'.toList.take ob'.xs.length)) :
    Rel gl (upd σ b ob') (w.setRow b cs') ∧ Stays σ w (upd σ b ob') (w.setRow b cs') := by
  have hs : Stays σ w (upd σ b ob') (w.setRow b cs') := by
    refine ⟨by simp, fun k hk hn => ?_, rfl, rfl, rfl⟩
    have hkb : k ≠ b := by rintro rfl; rw [hb] at hn; cases hn
    exact ⟨by simp [upd, hkb, hn], setRow_other w b k cs' hkb⟩
  refine ⟨⟨fun k obk hk => ?_, fun k xs hk => (h.glo k xs hk).mono hs.I⟩, hs⟩
  by_cases e : k = b
  · subst e
    have : ob' = obk := by simpa [upd] using hk
    subst this
    exact ⟨cs', T, setRow_heap w k cs cs' T (0, 0) hw, hc, hl, hv.mono hs.I⟩
  · have hk' : σ k = some obk := by simpa [upd, e] using hk
    obtain ⟨ck, Tk, h1, h2, h3, h4⟩ := h.own k obk hk'
    exact ⟨ck, Tk, (setRow_other w b k cs' e).trans h1, h2, h3, h4.mono hs.I⟩

structure EnvR (N : Nat) (σ : Own) (w : World) (env : Env) (a : Act) : Prop where
  defers : a.defers = []
  size : a.tmps.size = N
  val : ∀ i, VR (Im σ w) w (find env i) (a.tmps.getD i undef)

theorem EnvR.stay {N : Nat} {σ σ' : Own} {w w' : World} {env : Env} {a : Act} (h : EnvR N σ w env a) (hs : Stays σ w σ' w') : EnvR N σ' w' env a :=
  ⟨h.defers, h.size, fun i => hs.vr (h.val i)⟩
theorem find_cons (env : Env) (d i : Nat) (v : AV) : find ((d, v) :: env) i = if d = i then v else find env i := by
  simp only [find]
  by_cases h : d = i
  · simp [h]
  · rw [if_neg h]
    have : Nat.beq d i = false := by
      cases hb : Nat.beq d i with
      | true => exact absurd (Nat.eq_of_beq_eq_true hb) h
      | false => rfl
    rw [this]
theorem EnvR.put {N : Nat} {σ : Own} {w : World} {env : Env} {a : Act} (h : EnvR N σ w env a) {d : Nat} (hd : d < N) {x : AV} {v : Value} (hv : VR (Im σ w) w x v) :
    EnvR N σ w ((d, x) :: env) (a.put (some d) v) := by
  refine ⟨h.defers, by simp [Act.put, h.size], fun i => ?_⟩
  rw [find_cons]
  by_cases e : d = i
  · subst e
    have : d < a.tmps.size := by rw [h.size]; exact hd
    simpa [Act.put, Array.getD_eq_getD_getElem?, this] using hv
  · rw [if_neg e]
    have := h.val i
    simpa [Act.put, Array.getD_eq_getD_getElem?, Array.getElem?_setIfInBounds, e] using this
theorem keepE_find : ∀ (l : List Nat) (env acc : Env) (i : Nat), find (keepE env l acc) i = find env i ∨ find (keepE env l acc) i = find acc i
  | [], env, acc, i => .inr rfl
  | k :: r, env, acc, i => by
    rcases keepE_find r env ((k, find env k) :: acc) i with h | h
    · exact .inl h
    · rw [find_cons] at h
      by_cases e : k = i
      · subst e; rw [if_pos rfl] at h; exact .inl h
      · rw [if_neg e] at h; exact .inr h
theorem EnvR.keep {N : Nat} {σ : Own} {w : World} {env : Env} {a : Act} (h : EnvR N σ w env a) (l : List Nat) : EnvR N σ w (keepE env l []) a := by
  refine ⟨h.defers, h.size, fun i => ?_⟩
  rcases keepE_find l env [] i with k | k
  · rw [k]; exact h.val i
  · rw [k]; exact .any _

def cOpd : Operand → Opd
  | .tmp t => .t t
  | .const v => .c v
  | .global g => .g g
  | .func f => .f f

theorem cAV_vr {I : Nat → Prop} {w : World} (v : Value) : VR I w (cAV v) v := by
  cases v <;> first
    | exact .w _
    | exact .any _
    | (rename_i cs
       refine .mk_agg ⟨by simp, fun i hi => ?_⟩
       have hi' : i < cs.toList.length := by simpa using hi
       rw [List.getElem_map]
       have : cs.toList.getD i undef = cs.toList[i] := by rw [List.getD_eq_getElem?_getD, List.getElem?_eq_getElem hi']; rfl
       rw [this]
       exact .w _)

theorem opd_vr {gl : Nat → Option (List AV)} {N : Nat} {σ : Own} {w : World} {env : Env} {a : Act} (hr : Rel gl σ w) (h : EnvR N σ w env a) (o : Operand) :
    VR (Im σ w) w (opdAV gl env (cOpd o)) (a.eval o) := by
  cases o with
  | tmp t => exact h.val t
  | const v => exact cAV_vr v
  | global g =>
    simp only [cOpd, opdAV, Act.eval]
    cases hg : gl g with
    | none => exact .w _
    | some xs => exact .mk_fp (hr.glo g xs hg)
  | func f => exact .w _

theorem opds_vr {gl : Nat → Option (List AV)} {N : Nat} {σ : Own} {w : World} {env : Env} {a : Act} (hr : Rel gl σ w) (h : EnvR N σ w env a) : ∀ (l : List Operand),
    VRs (Im σ w) w (l.map fun o => opdAV gl env (cOpd o)) (l.map a.eval)
  | [] => .nil
  | o :: r => .cons (opd_vr hr h o) (opds_vr hr h r)

/-- What becomes of one operation. -/
def OpOut (P : Program) (r : Result Next) (Post : Value → World → Prop) : Prop :=
  match r with
  | .ok (.value v) w' => Post v w'
  | .ok .skip w' => Post undef w'
  | .ok (.enter f args) w' => Calls P f args w' fun e w'' => ∃ v, e = .returned v ∧ Post v w''
  | .ok (.row row args) w' => Rows P row args w' Post
  | _ => False

theorem OpOut.mono {P : Program} {r : Result Next} {Post Post' : Value → World → Prop} (h : OpOut P r Post) (k : ∀ v w, Post v w → Post' v w) : OpOut P r Post' := by
  unfold OpOut at *
  split at h
  · exact k _ _ h
  · exact k _ _ h
  · exact Calls.mono h fun e w ⟨v, h1, h2⟩ => ⟨v, h1, k _ _ h2⟩
  · exact Rows.mono h fun v w q => k _ _ q
  · exact h.elim

/-- A function upon plain values: in whatever memory they are read. -/
def ACalls (P : Program) (gl : Nat → Option (List AV)) (f : FuncId) (args : List AV) (σ : Own) (R : AV → Own → Prop) : Prop :=
  ∀ (w : World) (cargs : Array Value), Rel gl σ w → VRs (Im σ w) w args cargs.toList →
    OpOut P ((callFunc f cargs).run P w) fun cv w' => ∃ v σ', R v σ' ∧ Rel gl σ' w' ∧ Stays σ w σ' w' ∧ VR (Im σ' w') w' v cv

/-- Values and own memory, said otherwise. -/
def Says (gl : Nat → Option (List AV)) (vs : List AV) (σ : Own) (vs' : List AV) (σ' : Own) : Prop :=
  ∀ (w : World) (cs : List Value), Rel gl σ w → VRs (Im σ w) w vs cs → Rel gl σ' w ∧ (∀ b, σ b = none → σ' b = none) ∧ VRs (Im σ' w) w vs' cs

def cx (P : Program) (gl : Nat → Option (List AV)) : Cx := ⟨ACalls P gl, Says gl, gl⟩

theorem ACalls.mono {P : Program} {gl : Nat → Option (List AV)} {f : FuncId} {args : List AV} {σ : Own} {R R' : AV → Own → Prop} (h : ACalls P gl f args σ R) (k : ∀ v σ', R v σ' → R' v σ') : ACalls P gl f args σ R' :=
  fun w cargs hr hv => (h w cargs hr hv).mono fun cv w' ⟨v, σ', h1, h2, h3, h4⟩ => ⟨v, σ', k _ _ h1, h2, h3, h4⟩

theorem stays_says {σ σ' : Own} {w : World} (h : ∀ b, σ b = none → σ' b = none) : Stays σ w σ' w := ⟨Nat.le_refl _, fun b _ hn => ⟨h b hn, rfl⟩, rfl, rfl, rfl⟩

end Go.Ab
