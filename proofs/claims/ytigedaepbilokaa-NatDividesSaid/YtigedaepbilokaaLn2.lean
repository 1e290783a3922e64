import Derived.Test.YtigedaepbilokaaAb14
import Derived.Test.YtigedaepbilokaaLn1
/-! Words for functions over limbs: lists of words as plain values; what is handed back in new memory. -/
namespace Go.Ab
set_option linter.unusedVariables false
variable {P : Program} {gl : Nat → Option (List AV)} {σ σ' : Own}
open Nn

theorem wi {z : Int} (h0 : -9223372036854775808 ≤ z) (h1 : z ≤ 9223372036854775807) : IntKind.i64.wrap z = z := by rw [IntKind.wrap_i64]; omega
theorem wu {z : Int} : IntKind.u64.wrap z = z % 18446744073709551616 := by simp [IntKind.wrap, IntKind.bits, IntKind.signed]
theorem wun {z : Int} (n : Nat) (h : z % 18446744073709551616 = n) : IntKind.u64.wrap z = n := by rw [wu, h]

def u (x : Nat) : AV := .w (.int .u64 x)
def i64 (x : Int) : AV := .w (.int .i64 x)
/-- A list of words that nobody writes. -/
def nat (l : List Nat) : AV := .fs (l.map u) l.length
/-- A number. -/
def num (n : Nat) : AV := nat (limbs n)

theorem hd1 {α : Type} {f : α → AV} {l : List α} {i : Nat} (d : α) (h : i < l.length) : ((l.map f).drop (i * 1)).head? = some (f (l.getD i d)) := by
  rw [Nat.mul_one, List.head?_drop, List.getElem?_map, List.getElem?_eq_getElem h, List.getD_eq_getElem?_getD, List.getElem?_eq_getElem h]; rfl
theorem hd0 {α : Type} {f : α → AV} {l : List α} {i : Nat} (d : α) (h : i < l.length) : ((l.map f).drop (0 + i * 1)).head? = some (f (l.getD i d)) := by rw [Nat.zero_add]; exact hd1 d h
theorem set1 {α : Type} {f : α → AV} {l : List α} {i : Nat} (z : α) (h : i < l.length) : (l.map f).take (0 + i * 1) ++ [f z] ++ (l.map f).drop (0 + i * 1 + 1) = (l.set i z).map f := by
  rw [Nat.zero_add, Nat.mul_one, List.map_set, List.set_eq_take_append_cons_drop, if_pos (by simpa using h)]; simp
theorem set1' {α : Type} {f : α → AV} {l : List α} {i o : Nat} (z : α) (h : o + i < l.length) : (l.map f).take (o + i * 1) ++ [f z] ++ (l.map f).drop (o + i * 1 + 1) = (l.set (o + i) z).map f := by
  rw [Nat.mul_one, List.map_set, List.set_eq_take_append_cons_drop, if_pos (by simpa using h)]; simp
theorem hd' {α : Type} {f : α → AV} {l : List α} {i o : Nat} (d : α) (h : o + i < l.length) : ((l.map f).drop (o + i * 1)).head? = some (f (l.getD (o + i) d)) := by
  rw [Nat.mul_one, List.head?_drop, List.getElem?_map, List.getElem?_eq_getElem h, List.getD_eq_getElem?_getD, List.getElem?_eq_getElem h]; rfl
theorem rep_u (n : Nat) : ((List.range (n * 1)).map fun i => cAV ([Value.int .u64 0][i % 1]!)) = (List.replicate n 0).map u := by
  rw [Nat.mul_one, List.map_replicate]
  apply List.ext_getElem
  · simp
  · intro i h1 h2
    simp [Nat.mod_one, cAV, u]

theorem upd_same (σ : Own) (b : Nat) (o : Ob) : upd σ b o b = some o := by simp [upd]
theorem upd_ne {σ : Own} {b k : Nat} (o : Ob) (h : k ≠ b) : upd σ b o k = σ k := by simp [upd, h]
theorem upd_upd (σ : Own) (b : Nat) (o o' : Ob) : upd (upd σ b o) b o' = upd σ b o' := by funext k; unfold upd; split <;> rfl
theorem del_upd {σ : Own} {b : Nat} (o : Ob) (h : σ b = none) : Del (upd σ b o) σ := fun k => by
  by_cases e : k = b
  · subst e; exact .inr (.inl h)
  · rw [upd_ne _ e]; exact .inl rfl

/-- New memory of the call's own holds these words (or there are none). -/
def Owns (σ : Own) (l : List Nat) (v : AV) (σ' : Own) : Prop :=
  (l = [] ∧ v = .w (.slice none 0 0) ∧ σ' = σ) ∨ (l = [] ∧ v = .ff [] 0 ∧ σ' = σ) ∨
  ∃ b c ob, σ b = none ∧ v = .w (.slice (some ⟨b, 0, none⟩) l.length c) ∧ l.length ≤ c ∧ c ≤ ob.cap ∧ ob.xs.take l.length = l.map u ∧ σ' = upd σ b ob

theorem Owns.sub {l : List Nat} {v : AV} (h : Owns σ l v σ') : Sub gl σ' σ v (nat l) := by
  rcases h with ⟨rfl, rfl, rfl⟩ | ⟨rfl, rfl, rfl⟩ | ⟨b, c, ob, hb, rfl, hc, _, hx, rfl⟩
  · exact .nil_fs
  · exact .ff_fs .refl _ _
  · refine .own_fs (del_upd ob hb) (upd_same _ _ _) hb (k := l.length) ?_ hc
    rw [List.drop_zero, hx]
    exact .refl (del_upd ob hb) _
theorem Owns.del {l : List Nat} {v : AV} (h : Owns σ l v σ') : Del σ' σ := by
  rcases h with ⟨rfl, rfl, rfl⟩ | ⟨rfl, rfl, rfl⟩ | ⟨b, c, ob, hb, rfl, hc, _, hx, rfl⟩
  · exact .refl
  · exact .refl
  · exact del_upd ob hb

/-- A contract whose answer is given up to all. -/
theorem ACalls.sub {f : FuncId} {args : List AV} {R R' : AV → Own → Prop} (h : ACalls P gl f args σ R) (k : ∀ v σ', R v σ' → ∃ v' σ'', Del σ' σ'' ∧ Sub gl σ' σ'' v v' ∧ R' v' σ'') : ACalls P gl f args σ R' := by
  intro w cargs hr hv
  refine (h w cargs hr hv).mono fun cv w' ⟨v, σ', h1, h2, h3, h4⟩ => ?_
  obtain ⟨v', σ'', k1, k2, k3⟩ := k v σ' h1
  obtain ⟨r1, r2, r3⟩ := says_of (gl := gl) k1 (vs := [v]) (vs' := [v']) ⟨k2, trivial⟩ w' [cv] h2 (.cons h4 .nil)
  obtain ⟨v2, vs2, e2, hv2, _⟩ := r3.head
  cases e2
  exact ⟨v', σ'', k3, r1, h3.trans (stays_says r2), hv2⟩
theorem ACalls.frozen {f : FuncId} {args : List AV} {l : List Nat} (h : ACalls P gl f args σ (Owns σ l)) : ACalls P gl f args σ (fun v σ' => v = nat l ∧ σ' = σ) :=
  h.sub fun v σ' ho => ⟨_, σ, ho.del, ho.sub, rfl, rfl⟩

/-! #### plain lemmas on limbs -/
namespace Nn
theorem getD_lt {l : List Nat} (h : W l) (i : Nat) : l.getD i 0 < 18446744073709551616 := by
  rw [List.getD_eq_getElem?_getD]
  by_cases hi : i < l.length
  · rw [List.getElem?_eq_getElem hi]; exact h _ (List.getElem_mem hi)
  · rw [List.getElem?_eq_none (by omega)]; decide
theorem take_succ_getD {l : List Nat} {i : Nat} (h : i < l.length) : l.take (i + 1) = l.take i ++ [l.getD i 0] := by
  rw [List.take_succ_eq_append_getElem h, List.getD_eq_getElem?_getD, List.getElem?_eq_getElem h]; rfl
theorem val_take_succ (l : List Nat) (i : Nat) : val (l.take (i + 1)) = val (l.take i) + 18446744073709551616 ^ i * l.getD i 0 := by
  by_cases h : i < l.length
  · rw [take_succ_getD h, val_append, List.length_take, Nat.min_eq_left (by omega)]; simp [val]
  · rw [List.take_of_length_le (by omega), List.take_of_length_le (by omega), List.getD_eq_getElem?_getD, List.getElem?_eq_none (by omega)]; simp
theorem W_set {l : List Nat} (h : W l) (i v : Nat) (hv : v < 18446744073709551616) : W (l.set i v) := fun x hx => by
  rcases List.mem_or_eq_of_mem_set hx with h1 | h1
  · exact h x h1
  · rw [h1]; exact hv
theorem take_set_succ {l : List Nat} {i : Nat} (h : i < l.length) (v : Nat) : (l.set i v).take (i + 1) = l.take i ++ [v] := by
  rw [take_succ_getD (by simpa using h), List.take_set_of_le (Nat.le_refl i)]
  simp [List.getD_eq_getElem?_getD, h]
theorem val_take_set {l : List Nat} {i : Nat} (h : i < l.length) (v : Nat) : val ((l.set i v).take (i + 1)) = val (l.take i) + 18446744073709551616 ^ i * v := by
  rw [take_set_succ h, val_append, List.length_take, Nat.min_eq_left (by omega)]; simp [val]
theorem W_getD_take {l : List Nat} (h : W l) (i : Nat) : val (l.take i) < 18446744073709551616 ^ i := by
  refine Nat.lt_of_lt_of_le (val_lt (W_take h i)) (Nat.pow_le_pow_right (by decide) ?_)
  rw [List.length_take]
  exact Nat.min_le_left _ _
theorem strip_val (l : List Nat) : val (strip l) = val l := by unfold strip; rw [val_limbs]
theorem take_strip {l : List Nat} (h : W l) : l.take (strip l).length = strip l := by
  induction l with
  | nil => simp [strip, val, limbs_zero]
  | cons x l ih =>
    rw [W_cons] at h
    have hv : val (x :: l) = x + 18446744073709551616 * val l := rfl
    by_cases h0 : val (x :: l) = 0
    · unfold strip; rw [h0, limbs_zero]; rfl
    · have e : strip (x :: l) = x :: strip l := by
        unfold strip
        rw [limbs_pos h0, hv, Nat.add_mul_mod_self_left, Nat.mod_eq_of_lt h.1, Nat.add_mul_div_left _ _ (by decide), Nat.div_eq_of_lt h.1, Nat.zero_add]
      rw [e, List.length_cons, List.take_succ_cons, ih h.2]
theorem strip_take_succ {l : List Nat} {i : Nat} (h : i < l.length) (h0 : l.getD i 0 = 0) : strip (l.take (i + 1)) = strip (l.take i) := by
  unfold strip; rw [val_take_succ, h0]; simp
theorem strip_top {l : List Nat} (h : W l) {i : Nat} (hi : i < l.length) (h0 : l.getD i 0 ≠ 0) : strip (l.take (i + 1)) = l.take (i + 1) := by
  unfold strip
  refine limbs_val (W_take h _) (fun x hx => ?_)
  rw [take_succ_getD hi, List.getLast?_append] at hx
  simp at hx
  rw [← hx]; simpa [List.getD_eq_getElem?_getD] using h0
end Nn
end Go.Ab
namespace Go.Ab
variable {P : Program} {gl : Nat → Option (List AV)} {σ σ' : Own}
namespace Nn
/-- May these limbs be a number's? -/
def mayB (l : List Nat) : Bool := match l.getLast? with
  | some x => x != 0
  | none => true
theorem mayB_limbs (n : Nat) : mayB (limbs n) = true := by
  unfold mayB
  split
  · rename_i x hx; simpa using limbs_top n x hx
  · rfl
theorem mayB_eq {l : List Nat} (hw : W l) (h : mayB l = true) : l = limbs (val l) := by
  refine eq_limbs hw (fun x hx => ?_)
  unfold mayB at h
  rw [hx] at h
  simpa using h
theorem mayB_last {l : List Nat} (h : l.length ≠ 0) : mayB l = (((l.getD (l.length - 1) 0 : Nat) : Int) != 0) := by
  unfold mayB
  rw [List.getLast?_eq_getElem?, List.getElem?_eq_getElem (by omega), List.getD_eq_getElem?_getD, List.getElem?_eq_getElem (by omega)]
  simp only [Option.getD_some]
  rw [Bool.eq_iff_iff]; simp
/-- the order as a number -/
def c3 (m n : Nat) : Int := if m < n then -1 else if n < m then 1 else 0
theorem c3_lt {m n : Nat} (h : m < n) : c3 m n = -1 := by simp [c3, h]
theorem c3_gt {m n : Nat} (h : n < m) : c3 m n = 1 := by simp [c3, h]; omega
theorem c3_self (m : Nat) : c3 m m = 0 := by simp [c3]
theorem lt_of_top {V V' P x y : Nat} (hV : V < P) (hy : x < y) : V + P * x < V' + P * y := by
  have h2 := Nat.mul_le_mul_left P (show x + 1 ≤ y from hy)
  rw [Nat.mul_add, Nat.mul_one] at h2
  omega
theorem add_step {V A Bv P s c x y cy : Nat} (h : V + P * cy = A + Bv) (hs : s + 18446744073709551616 * c = x + y + cy) :
    V + P * s + P * 18446744073709551616 * c = A + P * x + (Bv + P * y) := by
  have h2 := congrArg (P * ·) hs
  simp only [Nat.mul_add, ← Nat.mul_assoc] at h2
  omega
theorem sub_step {V A Bv P s c x y bo : Nat} (h : V + Bv = A + P * bo) (hs : s + y + bo = x + 18446744073709551616 * c) :
    V + P * s + (Bv + P * y) = A + P * x + P * 18446744073709551616 * c := by
  have h2 := congrArg (P * ·) hs
  simp only [Nat.mul_add, ← Nat.mul_assoc] at h2
  omega
end Nn

/-- A function of Go's library for which the model stands in, upon words. -/
theorem ACalls.ext {f : FuncId} {vs : List Value} {cv : Value} {v : AV} (h : ∀ w, (callFunc f vs.toArray).run P w = .ok (.value cv) w) (hv : ∀ (I : Nat → Prop) w, VR I w v cv) : ACalls P gl f (vs.map .w) σ (fun v' σ' => v' = v ∧ σ' = σ) := by
  intro w cargs hr hvs
  have e : cargs = vs.toArray := by
    apply Array.ext'
    have key : ∀ (vs : List Value) (cs : List Value), VRs (Im σ w) w (vs.map .w) cs → cs = vs := by
      intro vs
      induction vs with
      | nil => intro cs h; exact h.nil_inv
      | cons x xs ih =>
        intro cs h
        obtain ⟨c, cs', rfl, h1, h2⟩ := h.head
        rw [h1.w_inv, ih _ h2]
    exact key vs _ hvs
  subst e
  rw [h w]
  exact ⟨v, σ, ⟨rfl, rfl⟩, hr, .refl _ _, hv _ _⟩
end Go.Ab
namespace Go.Ab.Nn
theorem c3_neg (m n : Nat) : c3 n m = -c3 m n := by unfold c3; split <;> split <;> first | omega | (split <;> omega) | rfl
theorem c3_eq0 (m n : Nat) : (c3 m n == 0) = decide (m = n) := by
  unfold c3; split
  · rw [decide_eq_false (by omega)]; rfl
  · split
    · rw [decide_eq_false (by omega)]; rfl
    · rw [decide_eq_true (by omega)]; rfl
theorem c3_congr {m n m' n' : Nat} (h1 : m < n ↔ m' < n') (h2 : n < m ↔ n' < m') : c3 m n = c3 m' n' := by
  unfold c3; simp only [h1, h2]
theorem c3_add (m n k : Nat) : c3 (m + k) (n + k) = c3 m n := c3_congr (by omega) (by omega)
theorem c3_mul {m n k : Nat} (h : 0 < k) : c3 (m * k) (n * k) = c3 m n := c3_congr (Nat.mul_lt_mul_right h) (Nat.mul_lt_mul_right h)
theorem c3_lt0 {m n : Nat} : c3 m n < 0 ↔ m < n := by unfold c3; split <;> first | (split <;> omega) | omega
theorem c3_le0 {m n : Nat} : c3 m n ≤ 0 ↔ m ≤ n := by unfold c3; split <;> first | (split <;> omega) | omega
theorem c3_bounds (m n : Nat) : -1 ≤ c3 m n ∧ c3 m n ≤ 1 := by unfold c3; split <;> first | (split <;> omega) | omega
theorem len_lim {l : List Nat} (hw : W l) : (limbs (val l)).length ≤ l.length := strip_len hw
end Go.Ab.Nn
