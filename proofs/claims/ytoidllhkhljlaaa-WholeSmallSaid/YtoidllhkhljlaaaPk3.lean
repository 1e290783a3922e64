import Derived.Lib.Mul64
import Derived.Laws.Strings
import Derived.Test.YtoidllhkhljlaaaPk2
/-! Plain arithmetic of limbs: no program in sight. -/
namespace Go.Ab.Nn

def W (l : List Nat) : Prop := ∀ x ∈ l, x < 18446744073709551616
/-- The number that limbs say, the lowest first. -/
def val : List Nat → Nat
  | [] => 0
  | x :: l => x + 18446744073709551616 * val l
/-- A number's limbs. -/
def limbs (n : Nat) : List Nat := if _h : n = 0 then [] else n % 18446744073709551616 :: limbs (n / 18446744073709551616)
termination_by n
decreasing_by exact Nat.div_lt_self (by omega) (by decide)

theorem limbs_zero : limbs 0 = [] := by rw [limbs]; simp
theorem limbs_pos {n : Nat} (h : n ≠ 0) : limbs n = n % 18446744073709551616 :: limbs (n / 18446744073709551616) := by rw [limbs]; simp [h]

theorem W_nil : W [] := by intro x hx; cases hx
theorem W_cons {x : Nat} {l : List Nat} : W (x :: l) ↔ x < 18446744073709551616 ∧ W l := by simp [W]
theorem W_append {l m : List Nat} : W (l ++ m) ↔ W l ∧ W m := by
  simp only [W, List.mem_append]
  constructor
  · exact fun h => ⟨fun x hx => h x (.inl hx), fun x hx => h x (.inr hx)⟩
  · rintro ⟨h1, h2⟩ x (hx | hx)
    · exact h1 x hx
    · exact h2 x hx
theorem W_take {l : List Nat} (h : W l) (n : Nat) : W (l.take n) := fun x hx => h x (List.mem_of_mem_take hx)
theorem W_drop {l : List Nat} (h : W l) (n : Nat) : W (l.drop n) := fun x hx => h x (List.mem_of_mem_drop hx)
theorem W_replicate (n : Nat) : W (List.replicate n 0) := fun x hx => by rw [List.eq_of_mem_replicate hx]; omega

theorem W_limbs (n : Nat) : W (limbs n) := by
  induction n using Nat.strongRecOn with
  | _ n ih =>
    by_cases h : n = 0
    · rw [h, limbs_zero]; exact W_nil
    · rw [limbs_pos h, W_cons]
      exact ⟨by omega, ih _ (Nat.div_lt_self (by omega) (by decide))⟩
theorem val_limbs (n : Nat) : val (limbs n) = n := by
  induction n using Nat.strongRecOn with
  | _ n ih =>
    by_cases h : n = 0
    · rw [h, limbs_zero]; rfl
    · rw [limbs_pos h, val, ih _ (Nat.div_lt_self (by omega) (by decide))]
      omega
theorem limbs_inj {a b : Nat} (h : limbs a = limbs b) : a = b := by rw [← val_limbs a, ← val_limbs b, h]
theorem val_append (l m : List Nat) : val (l ++ m) = val l + 18446744073709551616 ^ l.length * val m := by
  induction l with
  | nil => simp [val]
  | cons x l ih =>
    rw [List.cons_append, val, ih, val, List.length_cons, Nat.pow_succ]
    have : 18446744073709551616 * (18446744073709551616 ^ l.length * val m) = 18446744073709551616 ^ l.length * 18446744073709551616 * val m := by rw [← Nat.mul_assoc, Nat.mul_comm 18446744073709551616]
    omega
theorem val_replicate (n : Nat) : val (List.replicate n 0) = 0 := by
  induction n with
  | zero => rfl
  | succ n ih => rw [List.replicate_succ, val, ih]
theorem val_lt {l : List Nat} (h : W l) : val l < 18446744073709551616 ^ l.length := by
  induction l with
  | nil => simp [val]
  | cons x l ih =>
    rw [W_cons] at h
    have := ih h.2
    rw [val, List.length_cons, Nat.pow_succ]
    have h1 := h.1
    omega
/-- A number's limbs bear no 0 on top. -/
theorem limbs_top (n : Nat) : ∀ x, (limbs n).getLast? = some x → x ≠ 0 := by
  induction n using Nat.strongRecOn with
  | _ n ih =>
    intro x hx
    by_cases h : n = 0
    · rw [h, limbs_zero] at hx; cases hx
    · rw [limbs_pos h] at hx
      by_cases h2 : n / 18446744073709551616 = 0
      · rw [h2, limbs_zero] at hx
        simp at hx
        omega
      · rw [List.getLast?_cons, limbs_pos h2] at hx
        have := ih (n / 18446744073709551616) (Nat.div_lt_self (by omega) (by decide)) x
        rw [limbs_pos h2] at this
        apply this
        rw [List.getLast?_cons] at hx ⊢
        simpa using hx
theorem limbs_len_le {n k : Nat} (h : n < 18446744073709551616 ^ k) : (limbs n).length ≤ k := by
  induction k generalizing n with
  | zero =>
    have : n = 0 := by simpa using h
    rw [this, limbs_zero]; simp
  | succ k ih =>
    by_cases h0 : n = 0
    · rw [h0, limbs_zero]; simp
    · rw [limbs_pos h0, List.length_cons]
      have : n / 18446744073709551616 < 18446744073709551616 ^ k := by
        rw [Nat.pow_succ] at h
        exact Nat.div_lt_of_lt_mul (by rw [Nat.mul_comm]; exact h)
      have := ih this
      omega
/-- Limbs without a 0 on top are their number's. -/
theorem limbs_val {l : List Nat} (h : W l) (ht : ∀ x, l.getLast? = some x → x ≠ 0) : limbs (val l) = l := by
  induction l with
  | nil => exact limbs_zero
  | cons x l ih =>
    rw [W_cons] at h
    have ht' : ∀ y, l.getLast? = some y → y ≠ 0 := by
      intro y hy
      apply ht y
      rw [List.getLast?_cons, hy]
      rfl
    have e := ih h.2 ht'
    have hne : val (x :: l) ≠ 0 := by
      rw [val]
      cases l with
      | nil =>
        have := ht x (by simp)
        have := h.1
        simp [val]
        omega
      | cons y l =>
        intro h0
        have h1 : val (y :: l) = 0 := by
          have : 18446744073709551616 * val (y :: l) = 0 := by omega
          rcases Nat.mul_eq_zero.1 this with h | h
          · cases h
          · exact h
        rw [h1, limbs_zero] at e
        cases e
    have h1 := h.1
    have hx : ((x + 18446744073709551616 * val l) % 18446744073709551616 : Nat) = x := by
      rw [Nat.add_mul_mod_self_left, Nat.mod_eq_of_lt (by omega)]
    have hd : ((x + 18446744073709551616 * val l) / 18446744073709551616 : Nat) = val l := by
      rw [Nat.add_mul_div_left _ _ (by decide), Nat.div_eq_of_lt (by omega)]; omega
    rw [limbs_pos hne]
    simp only [val]
    rw [hx, hd, e]
/-- Without noughts on top. -/
def strip (l : List Nat) : List Nat := limbs (val l)
theorem strip_snoc_zero {l : List Nat} : strip (l ++ [0]) = strip l := by
  unfold strip
  rw [val_append]
  simp [val]
theorem strip_limbs (n : Nat) : strip (limbs n) = limbs n := by unfold strip; rw [val_limbs]
/-- May these limbs be a number's? -/
def May (l : List Nat) : Prop := ∀ x, l.getLast? = some x → x ≠ 0
theorem May_limbs (n : Nat) : May (limbs n) := limbs_top n
theorem eq_limbs {l : List Nat} (h : W l) (hm : May l) : l = limbs (val l) := (limbs_val h hm).symm
theorem limbs_eq_nil {n : Nat} : limbs n = [] ↔ n = 0 := by
  constructor
  · intro h
    rw [← val_limbs n, h]; rfl
  · rintro rfl; exact limbs_zero
theorem pow_le_of_len {n k : Nat} (h : k < (limbs n).length) : 18446744073709551616 ^ k ≤ n := by
  apply Nat.le_of_not_lt
  intro h2
  have := limbs_len_le h2
  omega
theorem len_lt_pow (n : Nat) : n < 18446744073709551616 ^ (limbs n).length := by
  have := val_lt (W_limbs n)
  rwa [val_limbs] at this
/-- More limbs, the greater number. -/
theorem lt_of_len {a b : Nat} (h : (limbs a).length < (limbs b).length) : a < b := by
  have h1 := len_lt_pow a
  have h2 := pow_le_of_len (n := b) (k := (limbs a).length) h
  omega
theorem len_mono {a b : Nat} (h : a ≤ b) : (limbs a).length ≤ (limbs b).length := by
  apply Nat.le_of_not_lt
  intro h2
  have := lt_of_len h2
  omega
theorem len_add (a b : Nat) : (limbs (a + b)).length ≤ max (limbs a).length (limbs b).length + 1 := by
  apply limbs_len_le
  have h1 := len_lt_pow a
  have h2 := len_lt_pow b
  have h3 : 18446744073709551616 ^ (limbs a).length ≤ 18446744073709551616 ^ max (limbs a).length (limbs b).length := Nat.pow_le_pow_right (by decide) (Nat.le_max_left _ _)
  have h4 : 18446744073709551616 ^ (limbs b).length ≤ 18446744073709551616 ^ max (limbs a).length (limbs b).length := Nat.pow_le_pow_right (by decide) (Nat.le_max_right _ _)
  rw [Nat.pow_succ]
  omega
theorem len_mul (a b : Nat) : (limbs (a * b)).length ≤ (limbs a).length + (limbs b).length := by
  apply limbs_len_le
  rw [Nat.pow_add]
  have h1 := len_lt_pow a
  have h2 := len_lt_pow b
  exact Nat.mul_lt_mul'' h1 h2
theorem strip_len {l : List Nat} (h : W l) : (strip l).length ≤ l.length := limbs_len_le (val_lt h)
end Go.Ab.Nn
/-! Words for functions over limbs: lists of words as plain values; what is handed back in new memory. -/
namespace Go.Ab
set_option linter.unusedVariables false
variable {P : Program} {gl : Nat → Option (List AV)} {σ σ' : Own}
open Nn

theorem wi {z : Int} (h0 : -9223372036854775808 ≤ z) (h1 : z ≤ 9223372036854775807) : IntKind.i64.wrap z = z := by rw [IntKind.wrap_i64]; omega
theorem wu {z : Int} : IntKind.u64.wrap z = z % 18446744073709551616 := by simp [IntKind.wrap, IntKind.bits, IntKind.signed]
theorem wun {z : Int} (n : Nat) (h : z % 18446744073709551616 = n) : IntKind.u64.wrap z = n := by rw [wu, h]

def u (x : Nat) : AV := .w (.int .u64 x)
def i64 (x : Int) : AV := .w (.int .i64 x)
/-- A list of words that nobody writes. -/
def nat (l : List Nat) : AV := .fs (l.map u) l.length
/-- A number. -/
def num (n : Nat) : AV := nat (limbs n)

theorem hd1 {α : Type} {f : α → AV} {l : List α} {i : Nat} (d : α) (h : i < l.length) : ((l.map f).drop (i * 1)).head? = some (f (l.getD i d)) := by
  rw [Nat.mul_one, List.head?_drop, List.getElem?_map, List.getElem?_eq_getElem h, List.getD_eq_getElem?_getD, List.getElem?_eq_getElem h]; rfl
theorem hd0 {α : Type} {f : α → AV} {l : List α} {i : Nat} (d : α) (h : i < l.length) : ((l.map f).drop (0 + i * 1)).head? = some (f (l.getD i d)) := by rw [Nat.zero_add]; exact hd1 d h
theorem set1 {α : Type} {f : α → AV} {l : List α} {i : Nat} (z : α) (h : i < l.length) : (l.map f).take (0 + i * 1) ++ [f z] ++ (l.map f).drop (0 + i * 1 + 1) = (l.set i z).map f := by
  rw [Nat.zero_add, Nat.mul_one, List.map_set, List.set_eq_take_append_cons_drop, if_pos (by simpa using h)]; simp
theorem set1' {α : Type} {f : α → AV} {l : List α} {i o : Nat} (z : α) (h : o + i < l.length) : (l.map f).take (o + i * 1) ++ [f z] ++ (l.map f).drop (o + i * 1 + 1) = (l.set (o + i) z).map f := by
  rw [Nat.mul_one, List.map_set, List.set_eq_take_append_cons_drop, if_pos (by simpa using h)]; simp
theorem hd' {α : Type} {f : α → AV} {l : List α} {i o : Nat} (d : α) (h : o + i < l.length) : ((l.map f).drop (o + i * 1)).head? = some (f (l.getD (o + i) d)) := by
  rw [Nat.mul_one, List.head?_drop, List.getElem?_map, List.getElem?_eq_getElem h, List.getD_eq_getElem?_getD, List.getElem?_eq_getElem h]; rfl
theorem rep_u (n : Nat) : ((List.range (n * 1)).map fun i => cAV ([Value.int .u64 0][i % 1]!)) = (List.replicate n 0).map u := by
  rw [Nat.mul_one, List.map_replicate]
  apply List.ext_getElem
  · simp
  · intro i h1 h2
    simp [Nat.mod_one, cAV, u]

theorem upd_same (σ : Own) (b : Nat) (o : Ob) : upd σ b o b = some o := by simp [upd]
theorem upd_ne {σ : Own} {b k : Nat} (o : Ob) (h : k ≠ b) : upd σ b o k = σ k := by simp [upd, h]
theorem upd_upd (σ : Own) (b : Nat) (o o' : Ob) : upd (upd σ b o) b o' = upd σ b o' := by funext k; unfold upd; split <;> rfl
theorem del_upd {σ : Own} {b : Nat} (o : Ob) (h : σ b = none) : Del (upd σ b o) σ := fun k => by
  by_cases e : k = b
  · subst e; exact .inr (.inl h)
  · rw [upd_ne _ e]; exact .inl rfl

/-- New memory of the call's own holds these words (or there are none). -/
def Owns (σ : Own) (l : List Nat) (v : AV) (σ' : Own) : Prop :=
  (l = [] ∧ v = .w (.slice none 0 0) ∧ σ' = σ) ∨ (l = [] ∧ v = .ff [] 0 ∧ σ' = σ) ∨
  ∃ b c ob, σ b = none ∧ v = .w (.slice (some ⟨b, 0, none⟩) l.length c) ∧ l.length ≤ c ∧ c ≤ ob.cap ∧ ob.xs.take l.length = l.map u ∧ σ' = upd σ b ob

theorem Owns.sub {l : List Nat} {v : AV} (h : Owns σ l v σ') : Sub gl σ' σ v (nat l) := by
  rcases h with ⟨rfl, rfl, rfl⟩ | ⟨rfl, rfl, rfl⟩ | ⟨b, c, ob, hb, rfl, hc, _, hx, rfl⟩
  · exact .nil_fs
  · exact .ff_fs .refl _ _
  · refine .own_fs (del_upd ob hb) (upd_same _ _ _) hb (k := l.length) ?_ hc
    rw [List.drop_zero, hx]
    exact .refl (del_upd ob hb) _
theorem Owns.del {l : List Nat} {v : AV} (h : Owns σ l v σ') : Del σ' σ := by
  rcases h with ⟨rfl, rfl, rfl⟩ | ⟨rfl, rfl, rfl⟩ | ⟨b, c, ob, hb, rfl, hc, _, hx, rfl⟩
  · exact .refl
  · exact .refl
  · exact del_upd ob hb

/-- A contract whose answer is given up to all. -/
theorem ACalls.sub {f : FuncId} {args : List AV} {R R' : AV → Own → Prop} (h : ACalls P gl f args σ R) (k : ∀ v σ', R v σ' → ∃ v' σ'', Del σ' σ'' ∧ Sub gl σ' σ'' v v' ∧ R' v' σ'') : ACalls P gl f args σ R' := by
  intro w cargs hr hv
  refine (h w cargs hr hv).mono fun cv w' ⟨v, σ', h1, h2, h3, h4⟩ => ?_
  obtain ⟨v', σ'', k1, k2, k3⟩ := k v σ' h1
  obtain ⟨r1, r2, r3⟩ := says_of (gl := gl) k1 (vs := [v]) (vs' := [v']) ⟨k2, trivial⟩ w' [cv] h2 (.cons h4 .nil)
  obtain ⟨v2, vs2, e2, hv2, _⟩ := r3.head
  cases e2
  exact ⟨v', σ'', k3, r1, h3.trans (stays_says r2), hv2⟩
theorem ACalls.frozen {f : FuncId} {args : List AV} {l : List Nat} (h : ACalls P gl f args σ (Owns σ l)) : ACalls P gl f args σ (fun v σ' => v = nat l ∧ σ' = σ) :=
  h.sub fun v σ' ho => ⟨_, σ, ho.del, ho.sub, rfl, rfl⟩

/-! #### plain lemmas on limbs -/
namespace Nn
theorem getD_lt {l : List Nat} (h : W l) (i : Nat) : l.getD i 0 < 18446744073709551616 := by
  rw [List.getD_eq_getElem?_getD]
  by_cases hi : i < l.length
  · rw [List.getElem?_eq_getElem hi]; exact h _ (List.getElem_mem hi)
  · rw [List.getElem?_eq_none (by omega)]; decide
theorem take_succ_getD {l : List Nat} {i : Nat} (h : i < l.length) : l.take (i + 1) = l.take i ++ [l.getD i 0] := by
  rw [List.take_succ_eq_append_getElem h, List.getD_eq_getElem?_getD, List.getElem?_eq_getElem h]; rfl
theorem val_take_succ (l : List Nat) (i : Nat) : val (l.take (i + 1)) = val (l.take i) + 18446744073709551616 ^ i * l.getD i 0 := by
  by_cases h : i < l.length
  · rw [take_succ_getD h, val_append, List.length_take, Nat.min_eq_left (by omega)]; simp [val]
  · rw [List.take_of_length_le (by omega), List.take_of_length_le (by omega), List.getD_eq_getElem?_getD, List.getElem?_eq_none (by omega)]; simp
theorem W_set {l : List Nat} (h : W l) (i v : Nat) (hv : v < 18446744073709551616) : W (l.set i v) := fun x hx => by
  rcases List.mem_or_eq_of_mem_set hx with h1 | h1
  · exact h x h1
  · rw [h1]; exact hv
theorem take_set_succ {l : List Nat} {i : Nat} (h : i < l.length) (v : Nat) : (l.set i v).take (i + 1) = l.take i ++ [v] := by
  rw [take_succ_getD (by simpa using h), List.take_set_of_le (Nat.le_refl i)]
  simp [List.getD_eq_getElem?_getD, h]
theorem val_take_set {l : List Nat} {i : Nat} (h : i < l.length) (v : Nat) : val ((l.set i v).take (i + 1)) = val (l.take i) + 18446744073709551616 ^ i * v := by
  rw [take_set_succ h, val_append, List.length_take, Nat.min_eq_left (by omega)]; simp [val]
theorem W_getD_take {l : List Nat} (h : W l) (i : Nat) : val (l.take i) < 18446744073709551616 ^ i := by
  refine Nat.lt_of_lt_of_le (val_lt (W_take h i)) (Nat.pow_le_pow_right (by decide) ?_)
  rw [List.length_take]
  exact Nat.min_le_left _ _
theorem strip_val (l : List Nat) : val (strip l) = val l := by unfold strip; rw [val_limbs]
theorem take_strip {l : List Nat} (h : W l) : l.take (strip l).length = strip l := by
  induction l with
  | nil => simp [strip, val, limbs_zero]
  | cons x l ih =>
    rw [W_cons] at h
    have hv : val (x :: l) = x + 18446744073709551616 * val l := rfl
    by_cases h0 : val (x :: l) = 0
    · unfold strip; rw [h0, limbs_zero]; rfl
    · have e : strip (x :: l) = x :: strip l := by
        unfold strip
        rw [limbs_pos h0, hv, Nat.add_mul_mod_self_left, Nat.mod_eq_of_lt h.1, Nat.add_mul_div_left _ _ (by decide), Nat.div_eq_of_lt h.1, Nat.zero_add]
      rw [e, List.length_cons, List.take_succ_cons, ih h.2]
theorem strip_take_succ {l : List Nat} {i : Nat} (h : i < l.length) (h0 : l.getD i 0 = 0) : strip (l.take (i + 1)) = strip (l.take i) := by
  unfold strip; rw [val_take_succ, h0]; simp
theorem strip_top {l : List Nat} (h : W l) {i : Nat} (hi : i < l.length) (h0 : l.getD i 0 ≠ 0) : strip (l.take (i + 1)) = l.take (i + 1) := by
  unfold strip
  refine limbs_val (W_take h _) (fun x hx => ?_)
  rw [take_succ_getD hi, List.getLast?_append] at hx
  simp at hx
  rw [← hx]; simpa [List.getD_eq_getElem?_getD] using h0
end Nn
end Go.Ab
namespace Go.Ab
variable {P : Program} {gl : Nat → Option (List AV)} {σ σ' : Own}
namespace Nn
/-- May these limbs be a number's? -/
def mayB (l : List Nat) : Bool := match l.getLast? with
  | some x => x != 0
  | none => true
theorem mayB_limbs (n : Nat) : mayB (limbs n) = true := by
  unfold mayB
  split
  · rename_i x hx; simpa using limbs_top n x hx
  · rfl
theorem mayB_eq {l : List Nat} (hw : W l) (h : mayB l = true) : l = limbs (val l) := by
  refine eq_limbs hw (fun x hx => ?_)
  unfold mayB at h
  rw [hx] at h
  simpa using h
theorem mayB_last {l : List Nat} (h : l.length ≠ 0) : mayB l = (((l.getD (l.length - 1) 0 : Nat) : Int) != 0) := by
  unfold mayB
  rw [List.getLast?_eq_getElem?, List.getElem?_eq_getElem (by omega), List.getD_eq_getElem?_getD, List.getElem?_eq_getElem (by omega)]
  simp only [Option.getD_some]
  rw [Bool.eq_iff_iff]; simp
/-- the order as a number -/
def c3 (m n : Nat) : Int := if m < n then -1 else if n < m then 1 else 0
theorem c3_lt {m n : Nat} (h : m < n) : c3 m n = -1 := by simp [c3, h]
theorem c3_gt {m n : Nat} (h : n < m) : c3 m n = 1 := by simp [c3, h]; omega
theorem c3_self (m : Nat) : c3 m m = 0 := by simp [c3]
theorem lt_of_top {V V' P x y : Nat} (hV : V < P) (hy : x < y) : V + P * x < V' + P * y := by
  have h2 := Nat.mul_le_mul_left P (show x + 1 ≤ y from hy)
  rw [Nat.mul_add, Nat.mul_one] at h2
  omega
theorem add_step {V A Bv P s c x y cy : Nat} (h : V + P * cy = A + Bv) (hs : s + 18446744073709551616 * c = x + y + cy) :
    V + P * s + P * 18446744073709551616 * c = A + P * x + (Bv + P * y) := by
  have h2 := congrArg (P * ·) hs
  simp only [Nat.mul_add, ← Nat.mul_assoc] at h2
  omega
theorem sub_step {V A Bv P s c x y bo : Nat} (h : V + Bv = A + P * bo) (hs : s + y + bo = x + 18446744073709551616 * c) :
    V + P * s + (Bv + P * y) = A + P * x + P * 18446744073709551616 * c := by
  have h2 := congrArg (P * ·) hs
  simp only [Nat.mul_add, ← Nat.mul_assoc] at h2
  omega
end Nn

/-- A function of Go's library for which the model stands in, upon words. -/
theorem ACalls.ext {f : FuncId} {vs : List Value} {cv : Value} {v : AV} (h : ∀ w, (callFunc f vs.toArray).run P w = .ok (.value cv) w) (hv : ∀ (I : Nat → Prop) w, VR I w v cv) : ACalls P gl f (vs.map .w) σ (fun v' σ' => v' = v ∧ σ' = σ) := by
  intro w cargs hr hvs
  have e : cargs = vs.toArray := by
    apply Array.ext'
    have key : ∀ (vs : List Value) (cs : List Value), VRs (Im σ w) w (vs.map .w) cs → cs = vs := by
      intro vs
      induction vs with
      | nil => intro cs h; exact h.nil_inv
      | cons x xs ih =>
        intro cs h
        obtain ⟨c, cs', rfl, h1, h2⟩ := h.head
        rw [h1.w_inv, ih _ h2]
    exact key vs _ hvs
  subst e
  rw [h w]
  exact ⟨v, σ, ⟨rfl, rfl⟩, hr, .refl _ _, hv _ _⟩
end Go.Ab
namespace Go.Ab.Nn
theorem c3_neg (m n : Nat) : c3 n m = -c3 m n := by unfold c3; split <;> split <;> first | omega | (split <;> omega) | rfl
theorem c3_eq0 (m n : Nat) : (c3 m n == 0) = decide (m = n) := by
  unfold c3; split
  · rw [decide_eq_false (by omega)]; rfl
  · split
    · rw [decide_eq_false (by omega)]; rfl
    · rw [decide_eq_true (by omega)]; rfl
theorem c3_congr {m n m' n' : Nat} (h1 : m < n ↔ m' < n') (h2 : n < m ↔ n' < m') : c3 m n = c3 m' n' := by
  unfold c3; simp only [h1, h2]
theorem c3_add (m n k : Nat) : c3 (m + k) (n + k) = c3 m n := c3_congr (by omega) (by omega)
theorem c3_mul {m n k : Nat} (h : 0 < k) : c3 (m * k) (n * k) = c3 m n := c3_congr (Nat.mul_lt_mul_right h) (Nat.mul_lt_mul_right h)
theorem c3_lt0 {m n : Nat} : c3 m n < 0 ↔ m < n := by unfold c3; split <;> first | (split <;> omega) | omega
theorem c3_le0 {m n : Nat} : c3 m n ≤ 0 ↔ m ≤ n := by unfold c3; split <;> first | (split <;> omega) | omega
theorem c3_bounds (m n : Nat) : -1 ≤ c3 m n ∧ c3 m n ≤ 1 := by unfold c3; split <;> first | (split <;> omega) | omega
theorem len_lim {l : List Nat} (hw : W l) : (limbs (val l)).length ≤ l.length := strip_len hw
end Go.Ab.Nn
namespace Go.Proofs.Ytoidllhkhljlaaa.Nat
open Go Go.Ab Go.Ab.Nn
set_option linter.unusedVariables false
set_option maxRecDepth 8000
noncomputable abbrev P : Program := Go.Proofs.Try.prog
theorem hm : P.follows .mixedOrders = true := by kernel_rfl
variable {gl : Nat → Option (List AV)} {σ : Own}

theorem trim_own {b : Nat} {ob : Ob} {l : List Nat} {c : Nat} (hb : σ b = some ob) (hx : ob.xs = l.map u) (hc : l.length ≤ c) (hl : l.length < 1099511627776) (hw : W l) :
    ACalls P gl F_nat_trim [.w (.slice (some ⟨b, 0, none⟩) l.length c)] σ (fun v σ' => v = .w (.slice (some ⟨b, 0, none⟩) (strip l).length (strip l).length) ∧ σ' = σ) := by
  refine C_nat_trim.calls hm ?_
  refine ⟨fun m env σ' => σ' = σ ∧ env = [(0, .w (.slice (some ⟨b, 0, none⟩) l.length c)), (3, .w (.int .i64 m))] ∧ m ≤ l.length ∧ strip (l.take m) = strip l, Wk.here ⟨l.length, rfl, rfl, Nat.le_refl _, by rw [List.take_length]⟩, ?_⟩
  rintro m env σ' ⟨rfl, rfl, hml, hs⟩
  refine ⟨fun h1 => ?_, fun h1 => ?_⟩
  · have h1 : (m : Int) > 0 := of_decide_eq_true h1
    obtain ⟨m, rfl⟩ : ∃ k, m = k + 1 := ⟨m - 1, by omega⟩
    refine ⟨m, by rw [wi] <;> omega, m, rfl, by omega, ob, hb, _, by rw [hx]; exact hd0 0 (by omega), ?_⟩
    refine ⟨fun h2 => ?_, fun h2 => ?_⟩
    · refine ⟨m, by rw [wi] <;> omega, Wk.here ⟨m, by omega, rfl, rfl, by omega, ?_⟩⟩
      rw [← hs, strip_take_succ (by omega) (by simpa using h2)]
    · refine ⟨0, m + 1, m + 1, rfl, rfl, rfl, by omega, by omega, by omega, 0, fun _ => by simp, fun _ => rfl, Ret.here ⟨?_, rfl⟩⟩
      have : strip l = l.take (m + 1) := by rw [← hs]; exact strip_top hw (by omega) (by simpa using h2)
      have h3 : (strip l).length = m + 1 := by rw [this, List.length_take]; omega
      rw [h3]; rfl
  · have h1 : ¬ (m : Int) > 0 := of_decide_eq_false h1
    obtain rfl : m = 0 := by omega
    refine ⟨(fun h => by cases h), fun _ => ?_⟩
    refine ⟨0, 0, 0, rfl, rfl, rfl, by omega, by omega, by omega, 0, fun _ => by simp, fun _ => rfl, Ret.here ⟨?_, rfl⟩⟩
    rw [← hs]; simp [strip, val, limbs_zero]

/-- what trim leaves of a block just filled -/
theorem owns_strip {b : Nat} {l : List Nat} {n : Nat} (hb : σ b = none) (hw : W l) (hn : l.length = n) : Owns σ (strip l) (.w (.slice (some ⟨b, 0, none⟩) (strip l).length (strip l).length)) (upd σ b ⟨l.map u, n⟩) :=
  .inr (.inr ⟨b, _, _, hb, rfl, Nat.le_refl _, by show _ ≤ n; have := strip_len hw; omega, by rw [← List.map_take, take_strip hw], rfl⟩)

theorem good_spec (l : List Nat) (hl : l.length < 1099511627776) : ACalls P gl F_nat_good [nat l] σ (fun v σ' => v = .w (.bool (mayB l)) ∧ σ' = σ) := by
  refine C_nat_good.calls hm ?_
  refine ⟨fun h1 => ?_, fun h1 => ?_⟩
  · have h1 : l.length ≠ 0 := by simpa using h1
    refine ⟨((l.length - 1 : Nat) : Int), by rw [wi] <;> omega, l.length - 1, rfl, by omega, _, hd1 0 (by omega), Ret.here ⟨?_, rfl⟩⟩
    rw [mayB_last h1]
  · have h1 : l = [] := by simpa using h1
    subst h1
    exact Ret.here ⟨rfl, rfl⟩
theorem good_num (n : Nat) (hl : (limbs n).length < 1099511627776) : ACalls P gl F_nat_good [num n] σ (fun v σ' => v = .w (.bool true) ∧ σ' = σ) := by
  have := good_spec (gl := gl) (σ := σ) (limbs n) hl
  rwa [mayB_limbs] at this

theorem check_spec (l : List Nat) (hl : l.length < 1099511627776) : ACalls P gl F_nat_Check [nat l] σ (fun v σ' => v = .w (.int .i64 (if mayB l then 0 else 10)) ∧ σ' = σ) := by
  refine C_nat_Check.calls hm ?_
  refine CallVC.here (good_spec l hl) ?_
  rintro v σ' ⟨rfl, rfl⟩
  refine ⟨fun h => Ret.here ⟨by rw [h]; rfl, rfl⟩, fun h => Ret.here ⟨by rw [h]; rfl, rfl⟩⟩

theorem from_spec (n : Nat) (hn : n < 18446744073709551616) : ACalls P gl F_nat_From [.w (.int .u64 n)] σ (fun v σ' => v = num n ∧ σ' = σ) := by
  refine C_nat_From.calls hm ?_
  refine ⟨fun h => ?_, fun h => ?_⟩
  · have h : n = 0 := by simpa using h
    subst h
    refine Ret.sub .refl .nil_fs ⟨?_, rfl⟩
    unfold num; rw [limbs_zero]; rfl
  · have h : n ≠ 0 := by simpa using h
    refine Ret.sub .refl (.ff_fs .refl _ _) ⟨?_, rfl⟩
    unfold num
    rw [limbs_pos h, Nat.div_eq_of_lt hn, limbs_zero, Nat.mod_eq_of_lt hn]; rfl

theorem cmp_spec (m n : Nat) (h1 : (limbs m).length < 1099511627776) (h2 : (limbs n).length < 1099511627776) : ACalls P gl F_nat_cmp [num m, num n] σ (fun v σ' => v = .w (.int .i64 (c3 m n)) ∧ σ' = σ) := by
  refine C_nat_cmp.calls hm ?_
  refine ⟨fun h => ?_, fun h => ?_⟩
  · have h : (limbs m).length ≠ (limbs n).length := by
      intro e; simp [e] at h
    refine ⟨fun h => ?_, fun h => ?_⟩
    · have h : ((limbs m).length : Int) < (limbs n).length := of_decide_eq_true h
      exact Ret.here ⟨by rw [c3_lt (lt_of_len (by omega))], rfl⟩
    · have h : ¬ ((limbs m).length : Int) < (limbs n).length := of_decide_eq_false h
      exact Ret.here ⟨by rw [c3_gt (lt_of_len (by omega))], rfl⟩
  · have h : (limbs m).length = (limbs n).length := by
      have : ((limbs m).length : Int) = (limbs n).length := by simpa using h
      omega
    refine ⟨(limbs m).length - 1, by rw [wi] <;> omega, ?_⟩
    refine ⟨fun k env σ' => σ' = σ ∧ env = [(0, num m), (1, num n), (5, .w (.int .i64 ((k : Int) - 1)))] ∧ k ≤ (limbs m).length ∧ (limbs m).drop k = (limbs n).drop k, Wk.here ⟨(limbs m).length, rfl, rfl, Nat.le_refl _, by rw [List.drop_length, h, List.drop_length]⟩, ?_⟩
    rintro k env σ' ⟨rfl, rfl, hk, hd⟩
    have hvm : m = val ((limbs m).take k) + 18446744073709551616 ^ k * val ((limbs m).drop k) := by
      have := val_append ((limbs m).take k) ((limbs m).drop k)
      rwa [List.take_append_drop, val_limbs, List.length_take, Nat.min_eq_left hk] at this
    have hvn : n = val ((limbs n).take k) + 18446744073709551616 ^ k * val ((limbs n).drop k) := by
      have := val_append ((limbs n).take k) ((limbs n).drop k)
      rwa [List.take_append_drop, val_limbs, List.length_take, Nat.min_eq_left (by omega)] at this
    refine ⟨fun h => ?_, fun h => ?_⟩
    · have h : ((k : Int) - 1) ≥ 0 := of_decide_eq_true h
      obtain ⟨k, rfl⟩ : ∃ j, k = j + 1 := ⟨k - 1, by omega⟩
      rw [val_take_succ] at hvm hvn
      have w1 := W_getD_take (W_limbs m) k
      have w2 := W_getD_take (W_limbs n) k
      refine ⟨k, by omega, by show k < _; omega, _, hd1 0 (by omega), k, by omega, by show k < _; omega, _, hd1 0 (by omega), ?_⟩
      refine ⟨fun h => ?_, fun h => ?_⟩
      · have h : (((limbs m).getD k 0 : Nat) : Int) < (limbs n).getD k 0 := of_decide_eq_true h
        refine Ret.here ⟨?_, rfl⟩
        rw [c3_lt]
        have := lt_of_top (V' := val ((limbs n).take k)) w1 (x := (limbs m).getD k 0) (y := (limbs n).getD k 0) (by omega)
        rw [hd] at hvm
        omega
      · have h : ¬ (((limbs m).getD k 0 : Nat) : Int) < (limbs n).getD k 0 := of_decide_eq_false h
        refine ⟨k, by omega, by show k < _; omega, _, hd1 0 (by omega), k, by omega, by show k < _; omega, _, hd1 0 (by omega), ?_⟩
        refine ⟨fun h' => ?_, fun h' => ?_⟩
        · have h' : (((limbs m).getD k 0 : Nat) : Int) > (limbs n).getD k 0 := of_decide_eq_true h'
          refine Ret.here ⟨?_, rfl⟩
          rw [c3_gt]
          have := lt_of_top (V' := val ((limbs m).take k)) w2 (x := (limbs n).getD k 0) (y := (limbs m).getD k 0) (by omega)
          rw [hd] at hvm
          omega
        · have h' : ¬ (((limbs m).getD k 0 : Nat) : Int) > (limbs n).getD k 0 := of_decide_eq_false h'
          refine ⟨(k : Int) - 1, by rw [wi] <;> omega, Wk.here ⟨k, by omega, rfl, rfl, by omega, ?_⟩⟩
          have e : (limbs m).getD k 0 = (limbs n).getD k 0 := by omega
          rw [List.drop_eq_getElem_cons (by omega), hd]
          rw [List.drop_eq_getElem_cons (show k < (limbs n).length by omega)]
          congr 1
          simpa [List.getD_eq_getElem?_getD, show k < (limbs m).length by omega, show k < (limbs n).length by omega] using e
    · have h : ¬ ((k : Int) - 1) ≥ 0 := of_decide_eq_false h
      obtain rfl : k = 0 := by omega
      refine Ret.here ⟨?_, rfl⟩
      have : m = n := limbs_inj (by simpa using hd)
      rw [this, c3_self]
end Go.Proofs.Ytoidllhkhljlaaa.Nat
namespace Go.Proofs.Ytoidllhkhljlaaa.Nat
open Go Go.Ab Go.Ab.Nn
set_option linter.unusedVariables false
set_option maxRecDepth 8000
variable {gl : Nat → Option (List AV)} {σ : Own}

theorem Cmp_spec (a b : List Nat) (wa : W a) (wb : W b) (ha : a.length < 1099511627776) (hb : b.length < 1099511627776) :
    ACalls P gl F_nat_Cmp [nat a, nat b] σ (fun v σ' => v = .w (.int .i64 (if mayB a ∧ mayB b then c3 (val a) (val b) else 0)) ∧ σ' = σ) := by
  refine C_nat_Cmp.calls hm ?_
  refine CallVC.here (good_spec a ha) ?_
  rintro v σ' ⟨rfl, rfl⟩
  refine ⟨fun h => ?_, fun h => ?_⟩
  · have h : mayB a = true := by simpa using h
    refine CallVC.here (good_spec b hb) ?_
    rintro v σ' ⟨rfl, rfl⟩
    refine ⟨fun h2 => ?_, fun h2 => ?_⟩
    · have h2 : mayB b = false := by simpa using h2
      exact Ret.here ⟨by simp [h2], rfl⟩
    · have h2 : mayB b = true := by simpa using h2
      have e1 := mayB_eq wa h
      have e2 := mayB_eq wb h2
      have := cmp_spec (gl := gl) (σ := σ') (val a) (val b) (by rw [← e1]; exact ha) (by rw [← e2]; exact hb)
      unfold num at this
      rw [← e1, ← e2] at this
      refine CallVC.here this ?_
      rintro v σ' ⟨rfl, rfl⟩
      exact Ret.here ⟨by simp [h, h2], rfl⟩
  · have h : mayB a = false := by simpa using h
    refine ⟨fun _ => Ret.here ⟨by simp [h], rfl⟩, fun h => by cases h⟩

theorem small_spec (a : List Nat) (ha : a.length < 1099511627776) :
    ACalls P gl F_nat_Small [nat a] σ (fun v σ' => v = .tup [u (if mayB a ∧ a.length ≤ 1 then a.getD 0 0 else 0), .w (.bool (mayB a && decide (a.length ≤ 1)))] ∧ σ' = σ) := by
  refine C_nat_Small.calls hm ?_
  refine CallVC.here (good_spec a ha) ?_
  rintro v σ' ⟨rfl, rfl⟩
  refine ⟨fun h => ?_, fun h => ?_⟩
  · have h : mayB a = true := by simpa using h
    refine ⟨fun h2 => ?_, fun h2 => ?_⟩
    · have h2 : ¬ a.length ≤ 1 := by have := of_decide_eq_true h2; omega
      exact Ret.here ⟨by simp [h, h2]; rfl, rfl⟩
    · have h2 : a.length ≤ 1 := by have := of_decide_eq_false h2; omega
      refine ⟨fun h3 => ?_, fun h3 => ?_⟩
      · have h3 : a = [] := by simpa using h3
        subst h3
        exact Ret.here ⟨by simp [h]; rfl, rfl⟩
      · have h3 : a ≠ [] := by simpa using h3
        have h3 : 0 < a.length := List.length_pos_iff.2 h3
        refine ⟨0, rfl, h3, _, hd1 0 h3, Ret.here ⟨by simp [h, h2, u], rfl⟩⟩
  · have h : mayB a = false := by simpa using h
    exact ⟨fun _ => Ret.here ⟨by simp [h]; rfl, rfl⟩, fun h => by cases h⟩

/-- New memory that holds just these words. -/
def Fresh (σ : Own) (l : List Nat) (v : AV) (σ' : Own) : Prop :=
  (l = [] ∧ v = .w (.slice none 0 0) ∧ σ' = σ) ∨ (l = [] ∧ v = .ff [] 0 ∧ σ' = σ) ∨
  ∃ b c c', σ b = none ∧ v = .w (.slice (some ⟨b, 0, none⟩) l.length c) ∧ l.length ≤ c ∧ c ≤ c' ∧ σ' = upd σ b ⟨l.map u, c'⟩
theorem Fresh.owns {l : List Nat} {v : AV} {σ' : Own} (h : Fresh σ l v σ') : Owns σ l v σ' := by
  rcases h with h | h | ⟨b, c, c', hb, hv, hc, hc', hs⟩
  · exact .inl h
  · exact .inr (.inl h)
  · exact .inr (.inr ⟨b, c, _, hb, hv, hc, hc', by show List.take _ (l.map u) = _; rw [List.take_of_length_le (by simp)], hs⟩)

theorem clone_fresh (a : List Nat) (ha : a.length < 1099511627776) : ACalls P gl F_slices_Clone [nat a] σ (Fresh σ a) := by
  refine C_slices_Clone.calls hm ?_
  refine fun b hb => ⟨fun h => ?_, fun h => ?_⟩
  · have h : a = [] := by
      by_cases h0 : 0 < a.length
      · rw [hb h0] at h; cases h
      · exact List.eq_nil_of_length_eq_zero (by omega)
    exact Ret.here (.inl ⟨h, rfl, rfl⟩)
  · refine ⟨by simp, by simp, fun h0 => ?_, fun h0 => ⟨by omega, by omega, fun b' c hb' hc => ?_⟩⟩
    · have h0 : a = [] := List.eq_nil_of_length_eq_zero h0
      subst h0
      exact Ret.here (.inr (.inl ⟨rfl, rfl, rfl⟩))
    · refine Ret.here (.inr (.inr ⟨b', c, c, hb', by simp, by omega, by omega, ?_⟩))
      rw [List.take_of_length_le (l := a.map u) (by simp), Nat.mul_one, List.take_zero, List.nil_append, Nat.mul_one]
theorem clone_spec (a : List Nat) (ha : a.length < 1099511627776) : ACalls P gl F_slices_Clone [nat a] σ (Owns σ a) := (clone_fresh a ha).mono fun _ _ h => h.owns
end Go.Proofs.Ytoidllhkhljlaaa.Nat
namespace Go.Proofs.Ytoidllhkhljlaaa.Nat
open Go Go.Ab Go.Ab.Nn
set_option linter.unusedVariables false
set_option maxRecDepth 8000
variable {gl : Nat → Option (List AV)} {σ : Own}

theorem mk_u (n : Nat) : ({ xs := (List.range (n * 1)).map fun i => cAV ([Value.int .u64 0][i % [Value.int IntKind.u64 0].length]!), cap := n * 1 } : Ob) = ⟨(List.replicate n 0).map u, n⟩ := by
  rw [← rep_u, Nat.mul_one]; rfl
/-- one limb of a sum -/
theorem add_digit {x y cy : Nat} (hx : x < 18446744073709551616) (hy : y < 18446744073709551616) (hc : cy ≤ 1) :
    ∃ s c : Nat, s < 18446744073709551616 ∧ c ≤ 1 ∧ s + 18446744073709551616 * c = x + y + cy ∧ ((((x : Int) + cy) % 18446744073709551616 + y) % 18446744073709551616) = s ∧
      c = (if ((x : Int) + cy) % 18446744073709551616 < x then 1 else 0) + (if (s : Int) < y then 1 else 0) := by
  refine ⟨(x + y + cy) % 18446744073709551616, (x + y + cy) / 18446744073709551616, by omega, by omega, by omega, by omega, ?_⟩
  split <;> split <;> omega

theorem add_le (x y : List Nat)  (hx : W x) (hy : W y) (hle : y.length ≤ x.length) (hl : x.length < 1099511627775) :
    vc (cx P gl) S_nat_add_j1 (retQ (Says gl) [4] (Owns σ (limbs (val x + val y)))) [(0, nat x), (1, nat y)] σ := by
  refine ⟨(x.length + 1 : Nat), by rw [wi] <;> omega, x.length + 1, x.length + 1, rfl, rfl, by omega, by omega, by omega, fun b hb => ?_⟩
  refine ⟨fun m env σ' => ∃ i c cy, m = x.length - i ∧ i ≤ x.length ∧ c.length = x.length + 1 ∧ W c ∧ cy ≤ 1 ∧ val (c.take i) + 18446744073709551616 ^ i * cy = val (x.take i) + val (y.take i) ∧ σ' = upd σ b ⟨c.map u, x.length + 1⟩ ∧
    env = [(0, nat x), (1, nat y), (5, .w (.slice (some ⟨b, 0, none⟩) (x.length + 1) (x.length + 1))), (6, u cy), (21, nat x), (22, .w (.int .i64 x.length)), (23, .w (.int .i64 i))], Wk.here ⟨x.length, 0, List.replicate (x.length + 1) 0, 0, rfl, by omega, by simp, W_replicate _, by omega, by simp [val], ?_, rfl⟩, ?_⟩
  · rw [← mk_u]
  rintro m env σ' ⟨i, c, cy, rfl, hi, hc, hw, hcy, hv, rfl, rfl⟩
  refine ⟨fun h => ?_, fun h => ?_⟩
  · have h : i < x.length := by have := of_decide_eq_true h; omega
    obtain ⟨s, k, hs, hk, hsum, hz, hkk⟩ := add_digit (getD_lt hx i) (getD_lt hy i) hcy
    have hv' : val ((c.set i s).take (i + 1)) + 18446744073709551616 ^ (i + 1) * k = val (x.take (i + 1)) + val (y.take (i + 1)) := by
      rw [val_take_set (by omega), val_take_succ x, val_take_succ y, Nat.pow_succ]
      exact add_step hv hsum
    have hσ : upd (upd σ b ⟨c.map u, x.length + 1⟩) b ⟨(c.map u).take (0 + i * 1) ++ [u s] ++ (c.map u).drop (0 + i * 1 + 1), x.length + 1⟩ = upd σ b ⟨(c.set i s).map u, x.length + 1⟩ := by rw [upd_upd, set1 _ (by omega)]
    have hlen : 0 + i * 1 + 1 ≤ (c.map u).length := by rw [List.length_map]; omega
    generalize ht : (((x.getD i 0 : Nat) : Int) + cy) % 18446744073709551616 = t at hz hkk
    refine ⟨i, rfl, h, _, hd1 0 h, t, by rw [wu]; exact ht, ?_⟩
    refine have key : ∀ k1 : Nat, k1 = (if t < x.getD i 0 then 1 else 0) → vc (cx P gl) S_nat_add_j2 _ [(0, nat x), (1, nat y), (5, .w (.slice (some ⟨b, 0, none⟩) (x.length + 1) (x.length + 1))), (6, u k1), (7, .w (.int .i64 i)), (9, .w (.int .u64 t)), (21, nat x), (22, .w (.int .i64 x.length)), (23, .w (.int .i64 i))] _ := ?_; ⟨fun h1 => Wk.here (key 1 (by rw [if_pos (of_decide_eq_true h1)])), fun h1 => Wk.here (key 0 (by rw [if_neg (of_decide_eq_false h1)]))⟩
    rintro k1 hk1
    rw [← hk1] at hkk
    have hy2 : ¬ i < y.length → t = s ∧ k = k1 := fun h2 => by
      have hy0 : y.getD i 0 = 0 := by rw [List.getD_eq_getElem?_getD, List.getElem?_eq_none (by omega)]; rfl
      rw [hy0] at hz hkk
      rw [if_neg (show ¬ (s : Int) < ((0 : Nat) : Int) by omega)] at hkk
      omega
    refine have key : ∀ (k' : Nat) (t' : Int), k' = k → t' = s → vc (cx P gl) S_nat_add_j3 _ [(0, nat x), (1, nat y), (5, .w (.slice (some ⟨b, 0, none⟩) (x.length + 1) (x.length + 1))), (6, u k'), (7, .w (.int .i64 i)), (9, .w (.int .u64 t')), (21, nat x), (22, .w (.int .i64 x.length)), (23, .w (.int .i64 i))] _ := ?_
      ⟨fun h2 => have h2 : i < y.length := (by have := of_decide_eq_true h2; omega)
        ⟨i, rfl, h2, _, hd1 0 h2, s, (by rw [wu]; exact hz), i, rfl, h2, _, hd1 0 h2, fun h3 => ⟨(k1 + 1 : Nat), (by rw [wu]; omega), Wk.here (key _ _ (by rw [if_pos (of_decide_eq_true h3)] at hkk; omega) rfl)⟩,
          fun h3 => Wk.here (key _ _ (by rw [if_neg (of_decide_eq_false h3)] at hkk; omega) rfl)⟩,
        fun h2 => Wk.here (key _ _ (hy2 (by have := of_decide_eq_false h2; omega)).2.symm (hy2 (by have := of_decide_eq_false h2; omega)).1)⟩
    rintro _ _ rfl rfl
    exact ⟨i, rfl, by show i < x.length + 1; omega, _, upd_same _ _ _, hlen, _, rfl, (i + 1 : Nat), by rw [wi] <;> omega, Wk.here ⟨x.length - (i + 1), by omega, i + 1, c.set i s, _, rfl, by omega, by rw [List.length_set]; exact hc, W_set hw _ _ hs, hk, hv', hσ, rfl⟩⟩
  · have h : ¬ i < x.length := by have := of_decide_eq_false h; omega
    obtain rfl : i = x.length := by omega
    have hw' : W (c.set x.length cy) := W_set hw _ _ (by omega)
    have hval : strip (c.set x.length cy) = limbs (val x + val y) := by
      unfold strip; congr 1
      have := val_take_set (l := c) (i := x.length) (by omega) cy
      rw [List.take_of_length_le (by simp; omega)] at this
      rw [this, hv, List.take_length, List.take_of_length_le hle]
    have hσ : upd (upd σ b ⟨c.map u, x.length + 1⟩) b ⟨(c.map u).take (0 + x.length * 1) ++ [u cy] ++ (c.map u).drop (0 + x.length * 1 + 1), x.length + 1⟩ = upd σ b ⟨(c.set x.length cy).map u, x.length + 1⟩ := by rw [upd_upd, set1 _ (by omega)]
    refine ⟨x.length, rfl, by show x.length < x.length + 1; omega, _, upd_same _ _ _, by rw [List.length_map]; show 0 + x.length * 1 + 1 ≤ _; omega, _, rfl, ?_⟩
    have ht := trim_own (gl := gl) (σ := upd σ b ⟨(c.set x.length cy).map u, x.length + 1⟩) (b := b) (l := c.set x.length cy) (c := x.length + 1) (upd_same _ _ _) rfl (by simp; omega) (by simp; omega) hw'
    rw [show (c.set x.length cy).length = x.length + 1 by simp; omega] at ht
    rw [← hσ] at ht
    refine CallVC.here ht ?_
    rintro v σ' ⟨rfl, rfl⟩
    rw [hσ]
    refine Ret.here ?_
    rw [hval]
    have := owns_strip (σ := σ) (b := b) (n := x.length + 1) hb hw' (by simp; omega)
    rw [hval] at this
    exact this

theorem add_spec (a b : List Nat) (wa : W a) (wb : W b) (ha : a.length < 1099511627775) (hb : b.length < 1099511627775) : ACalls P gl F_nat_add [nat a, nat b] σ (Owns σ (limbs (val a + val b))) := by
  refine C_nat_add.calls hm ?_
  refine ⟨fun h => ?_, fun h => ?_⟩
  · have h : a.length < b.length := by have := of_decide_eq_true h; omega
    rw [Nat.add_comm]
    exact Wk.here (add_le b a wb wa (by omega) hb)
  · have h : ¬ a.length < b.length := by have := of_decide_eq_false h; omega
    exact Wk.here (add_le a b wa wb (by omega) ha)
end Go.Proofs.Ytoidllhkhljlaaa.Nat
namespace Go.Proofs.Ytoidllhkhljlaaa.Nat
open Go Go.Ab Go.Ab.Nn
set_option linter.unusedVariables false
set_option maxRecDepth 8000
variable {gl : Nat → Option (List AV)} {σ : Own}

theorem trim_nil : ACalls P gl F_nat_trim [.w (.slice none 0 0)] σ (fun v σ' => v = .w (.slice none 0 0) ∧ σ' = σ) := by
  refine C_nat_trim.calls hm ?_
  refine ⟨fun m env σ' => σ' = σ ∧ env = [(0, .w (.slice none 0 0)), (3, .w (.int .i64 0))], Wk.here ⟨0, rfl, rfl⟩, ?_⟩
  rintro m env σ' ⟨rfl, rfl⟩
  refine ⟨(fun h => by cases h), fun _ => ?_⟩
  refine ⟨(fun h => by cases h), fun _ => ?_⟩
  exact ⟨rfl, rfl, rfl, rfl, Ret.here ⟨rfl, rfl⟩⟩
theorem trim_ff : ACalls P gl F_nat_trim [.ff [] 0] σ (fun v σ' => v = .ff [] 0 ∧ σ' = σ) := by
  refine C_nat_trim.calls hm ?_
  refine ⟨fun m env σ' => σ' = σ ∧ env = [(0, .ff [] 0), (3, .w (.int .i64 0))], Wk.here ⟨0, rfl, rfl⟩, ?_⟩
  rintro m env σ' ⟨rfl, rfl⟩
  refine ⟨(fun h => by cases h), fun _ => ?_⟩
  refine ⟨(fun h => by cases h), fun _ => ?_⟩
  exact ⟨0, 0, rfl, rfl, by omega, by omega, rfl, Ret.here ⟨rfl, rfl⟩⟩

theorem owns_strip' {b : Nat} {l : List Nat} {n : Nat} (hb : σ b = none) (hw : W l) (hn : l.length ≤ n) : Owns σ (strip l) (.w (.slice (some ⟨b, 0, none⟩) (strip l).length (strip l).length)) (upd σ b ⟨l.map u, n⟩) :=
  .inr (.inr ⟨b, _, _, hb, rfl, Nat.le_refl _, by show _ ≤ n; have := strip_len hw; omega, by rw [← List.map_take, take_strip hw], rfl⟩)

/-- one limb of a difference -/
theorem sub_digit {x y bo : Nat} (hx : x < 18446744073709551616) (hy : y < 18446744073709551616) (hb : bo ≤ 1) :
    ∃ s z k : Nat, s < 18446744073709551616 ∧ z < 18446744073709551616 ∧ k ≤ 1 ∧ z + y + bo = x + 18446744073709551616 * k ∧ ((bo : Int) + y) % 18446744073709551616 = s ∧ ((x : Int) - s) % 18446744073709551616 = z ∧
      k = (if (s : Int) < y then 1 else 0) + (if (x : Int) < s then 1 else 0) := by
  refine ⟨(bo + y) % 18446744073709551616, (((x : Int) - ((bo + y) % 18446744073709551616 : Nat)) % 18446744073709551616).toNat, (if x < y + bo then 1 else 0), by omega, by omega, by split <;> omega, ?_, by omega, by omega, ?_⟩
  · split <;> omega
  · split <;> split <;> split <;> omega

theorem sub_spec (a b : List Nat) (wa : W a) (wb : W b) (ha : a.length < 1099511627775) (hb : b.length ≤ a.length) (hle : val b ≤ val a) : ACalls P gl F_nat_sub [nat a, nat b] σ (Owns σ (limbs (val a - val b))) := by
  refine C_nat_sub.calls hm ?_
  refine CallVC.here (clone_fresh a (by omega)) ?_
  rintro v σ' (⟨rfl, rfl, rfl⟩ | ⟨rfl, rfl, rfl⟩ | ⟨g, c, cc, hg, rfl, hc, hcc, rfl⟩)
  · refine ⟨fun m env σ'' => σ'' = σ' ∧ env = [(1, nat b), (5, .w (.slice none 0 0)), (6, .w (.int .u64 0)), (12, .w (.int .i64 0)), (13, .w (.int .i64 0))], Wk.here ⟨0, rfl, rfl⟩, ?_⟩
    rintro m env σ'' ⟨rfl, rfl⟩
    refine ⟨(fun h => by cases h), fun _ => ?_⟩
    refine CallVC.here trim_nil ?_
    rintro v σ' ⟨rfl, rfl⟩
    exact Ret.here (.inl ⟨by simp [val, limbs_zero], rfl, rfl⟩)
  · refine ⟨fun m env σ'' => σ'' = σ' ∧ env = [(1, nat b), (5, .ff [] 0), (6, .w (.int .u64 0)), (12, .w (.int .i64 0)), (13, .w (.int .i64 0))], Wk.here ⟨0, rfl, rfl⟩, ?_⟩
    rintro m env σ'' ⟨rfl, rfl⟩
    refine ⟨(fun h => by cases h), fun _ => ?_⟩
    refine CallVC.here trim_ff ?_
    rintro v σ' ⟨rfl, rfl⟩
    exact Ret.here (.inr (.inl ⟨by simp [val, limbs_zero], rfl, rfl⟩))
  refine ⟨fun m env σ' => ∃ i z bo, m = a.length - i ∧ i ≤ a.length ∧ z.length = a.length ∧ W z ∧ bo ≤ 1 ∧ val (z.take i) + val (b.take i) = val (a.take i) + 18446744073709551616 ^ i * bo ∧ z.drop i = a.drop i ∧ σ' = upd σ g ⟨z.map u, cc⟩ ∧
    env = [(1, nat b), (5, .w (.slice (some ⟨g, 0, none⟩) a.length c)), (6, u bo), (12, .w (.int .i64 a.length)), (13, .w (.int .i64 i))], Wk.here ⟨a.length, 0, a, 0, rfl, by omega, rfl, wa, by omega, by simp [val], rfl, rfl, rfl⟩, ?_⟩
  rintro m env σ' ⟨i, z, bo, rfl, hi, hz, hw, hbo, hv, hd, rfl, rfl⟩
  refine ⟨fun h => ?_, fun h => ?_⟩
  · have h : i < a.length := by have := of_decide_eq_true h; omega
    have hzi : z.getD i 0 = a.getD i 0 := by
      have := congrArg List.head? hd
      rw [List.head?_drop, List.head?_drop] at this
      rw [List.getD_eq_getElem?_getD, List.getD_eq_getElem?_getD, this]
    obtain ⟨s, t, k, hs, ht, hk, hsum, hse, hte, hkk⟩ := sub_digit (getD_lt hw i) (getD_lt wb i) hbo
    have hv' : val ((z.set i t).take (i + 1)) + val (b.take (i + 1)) = val (a.take (i + 1)) + 18446744073709551616 ^ (i + 1) * k := by
      rw [val_take_set (by omega), val_take_succ b, val_take_succ a, Nat.pow_succ, ← hzi]
      exact sub_step hv hsum
    have hσ : upd (upd σ g ⟨z.map u, cc⟩) g ⟨(z.map u).take (0 + i * 1) ++ [u t] ++ (z.map u).drop (0 + i * 1 + 1), cc⟩ = upd σ g ⟨(z.set i t).map u, cc⟩ := by rw [upd_upd, set1 _ (by omega)]
    have hlen : 0 + i * 1 + 1 ≤ (z.map u).length := by rw [List.length_map]; omega
    have hd' : (z.set i t).drop (i + 1) = a.drop (i + 1) := by
      rw [List.drop_set_of_lt (by omega), ← List.drop_drop, ← List.drop_drop, hd]
    have hy2 : ¬ i < b.length → 0 = (if (s : Int) < b.getD i 0 then 1 else 0) ∧ (bo : Int) = s := fun h2 => by
      have hy0 : b.getD i 0 = 0 := by rw [List.getD_eq_getElem?_getD, List.getElem?_eq_none (by omega)]; rfl
      rw [hy0] at hse ⊢
      rw [if_neg (show ¬ (s : Int) < ((0 : Nat) : Int) by omega)]
      omega
    refine have key : ∀ (k1 : Nat) (s' : Int), k1 = (if (s : Int) < b.getD i 0 then 1 else 0) → s' = s → vc (cx P gl) S_nat_sub_j1 _ [(1, nat b), (5, .w (.slice (some ⟨g, 0, none⟩) a.length c)), (6, u k1), (7, .w (.int .i64 i)), (8, .w (.int .u64 s')), (12, .w (.int .i64 a.length)), (13, .w (.int .i64 i))] _ := ?_
      ⟨fun h2 => have h2 : i < b.length := (by have := of_decide_eq_true h2; omega)
        ⟨i, rfl, h2, _, hd1 0 h2, s, (by rw [wu]; exact hse), i, rfl, h2, _, hd1 0 h2, fun h3 => Wk.here (key 1 _ (by rw [if_pos (of_decide_eq_true h3)]) rfl), fun h3 => Wk.here (key 0 _ (by rw [if_neg (of_decide_eq_false h3)]) rfl)⟩,
        fun h2 => Wk.here (key 0 _ (hy2 (by have := of_decide_eq_false h2; omega)).1 (hy2 (by have := of_decide_eq_false h2; omega)).2)⟩
    rintro k1 _ hk1 rfl
    rw [← hk1] at hkk
    refine ⟨i, rfl, by show i < a.length; omega, _, upd_same _ _ _, _, hd0 0 (by omega), ?_⟩
    refine have key : ∀ (k' : Nat), k' = k → vc (cx P gl) S_nat_sub_j2 _ [(1, nat b), (5, .w (.slice (some ⟨g, 0, none⟩) a.length c)), (6, u k'), (7, .w (.int .i64 i)), (8, .w (.int .u64 s)), (12, .w (.int .i64 a.length)), (13, .w (.int .i64 i))] _ := ?_
      ⟨fun h3 => ⟨(k1 + 1 : Nat), (by rw [wu]; have := hk; omega), Wk.here (key _ (by rw [hkk, if_pos (of_decide_eq_true h3)]))⟩, fun h3 => Wk.here (key _ (by rw [hkk, if_neg (of_decide_eq_false h3)]; rfl))⟩
    rintro _ rfl
    exact ⟨i, rfl, by show i < a.length; omega, _, upd_same _ _ _, _, hd0 0 (by omega), t, by rw [wu]; exact hte, i, rfl, by show i < a.length; omega, _, upd_same _ _ _, hlen, _, rfl, (i + 1 : Nat), by rw [wi] <;> omega,
      Wk.here ⟨a.length - (i + 1), by omega, i + 1, z.set i t, _, rfl, by omega, by rw [List.length_set]; exact hz, W_set hw _ _ ht, hk, hv', hd', hσ, rfl⟩⟩
  · have h : ¬ i < a.length := by have := of_decide_eq_false h; omega
    obtain rfl : i = a.length := by omega
    have hbl : b.take a.length = b := List.take_of_length_le hb
    rw [List.take_of_length_le (by omega), hbl, List.take_length] at hv
    have hlt : val z < 18446744073709551616 ^ a.length := by rw [← hz]; exact val_lt hw
    obtain rfl : bo = 0 := by
      rcases Nat.lt_or_ge 0 bo with h0 | h0
      · obtain rfl : bo = 1 := by omega
        omega
      · omega
    have hval : strip z = limbs (val a - val b) := by
      unfold strip; congr 1; omega
    have ht := trim_own (gl := gl) (σ := upd σ g ⟨z.map u, cc⟩) (b := g) (l := z) (c := c) (upd_same _ _ _) rfl (by omega) (by omega) hw
    rw [hz] at ht
    refine CallVC.here ht ?_
    rintro v σ' ⟨rfl, rfl⟩
    refine Ret.here ?_
    have := owns_strip' (σ := σ) (b := g) (n := cc) hg hw (by omega)
    rw [hval] at this ⊢
    exact this
end Go.Proofs.Ytoidllhkhljlaaa.Nat
namespace Go.Proofs.Ytoidllhkhljlaaa.Nat
open Go Go.Ab Go.Ab.Nn
set_option linter.unusedVariables false
set_option maxRecDepth 8000
variable {gl : Nat → Option (List AV)} {σ : Own}

theorem tup2 {I : Nat → Prop} {w : World} (a b : Value) : VR I w (.tup [.w a, .w b]) (.tuple #[a, b]) := .mk_tup (.cons (.w _) (.cons (.w _) .nil))

theorem Add64_spec (x y c : Nat) (hc : c ≤ 1) : ACalls P gl F_math_bits_Add64 [u x, u y, u c] σ (fun v σ' => v = .tup [u ((x + y + c) % 18446744073709551616), u ((x + y + c) / 18446744073709551616)] ∧ σ' = σ) := by
  refine ACalls.ext (vs := [.int .u64 x, .int .u64 y, .int .u64 c]) (cv := .tuple #[.int .u64 ((x + y + c) % 18446744073709551616 : Nat), .int .u64 ((x + y + c) / 18446744073709551616 : Nat)]) (fun w => ?_) (fun I w => tup2 _ _)
  show (callFunc 130 #[.int .u64 x, .int .u64 y, .int .u64 c]).run P w = _
  rw [run_callFunc_extern Go.Proofs.Try.func130 (by kernel_rfl) (by kernel_rfl) (by kernel_rfl) (e := add64Entry) (by kernel_rfl), run_add64 x y c (by omega) (by omega) (by omega) (by omega)]
  simp only [Result.andThen]
  congr 5 <;> omega

/-- the model's own entry -/
noncomputable def subE : Array Value → Sem Value := (Extern.MathBitsCarry.rows.getD 1 ("", fun _ => pure default)).2
theorem run_subE {P : Program} (x y b : Nat) (hb : b ≤ 1) (w : World) :
    (subE #[.int .u64 x, .int .u64 y, .int .u64 b]).run P w = .ok (.tuple #[.int .u64 (((x + 18446744073709551616 - y - b) % 18446744073709551616 : Nat) : Int), .int .u64 ((if x < y + b then 1 else 0 : Nat) : Int)]) w := by
  have : b = 0 ∨ b = 1 := by omega
  rcases this with rfl | rfl <;> rfl
theorem Sub64_spec (x y b : Nat) (hb : b ≤ 1) : ACalls P gl F_math_bits_Sub64 [u x, u y, u b] σ (fun v σ' => v = .tup [u ((x + 18446744073709551616 - y - b) % 18446744073709551616), u (if x < y + b then 1 else 0)] ∧ σ' = σ) := by
  refine ACalls.ext (vs := [.int .u64 x, .int .u64 y, .int .u64 b]) (cv := .tuple #[.int .u64 ((x + 18446744073709551616 - y - b) % 18446744073709551616 : Nat), .int .u64 (if x < y + b then 1 else 0 : Nat)]) (fun w => ?_) (fun I w => tup2 _ _)
  show (callFunc 133 #[.int .u64 x, .int .u64 y, .int .u64 b]).run P w = _
  rw [run_callFunc_extern Go.Proofs.Try.func133 (by kernel_rfl) (by kernel_rfl) (by kernel_rfl) (e := subE) (by kernel_rfl), run_subE x y b hb]
  rfl

theorem wadd (x y : Nat) : IntKind.u64.wrap ((x : Int) + y) = ((x + y) % 18446744073709551616 : Nat) := by rw [wu]; omega
theorem wmul (x y : Nat) : IntKind.u64.wrap ((x : Int) * y) = (x * y % 18446744073709551616 : Nat) := by rw [wu, ← Int.natCast_mul]; omega
theorem wadd' {x y : Nat} (h : x + y < 18446744073709551616) : IntKind.u64.wrap ((x : Int) + y) = (x + y : Nat) := by rw [wu]; omega
theorem wmul' {x y : Nat} (h : x * y < 18446744073709551616) : IntKind.u64.wrap ((x : Int) * y) = (x * y : Nat) := by rw [wmul, Nat.mod_eq_of_lt h]
theorem wmask {x : Nat} (h : x < 18446744073709551616) (k : Nat) (hk : k ≤ 64) : IntKind.u64.wrap ((BitVec.ofInt IntKind.u64.bits (x : Int) &&& BitVec.ofInt IntKind.u64.bits ((2 ^ k - 1 : Nat) : Int)).toNat) = (x % 2 ^ k : Nat) := by
  have hk2 : 2 ^ k ≤ 2 ^ 64 := Nat.pow_le_pow_right (by decide) hk
  have e : (BitVec.ofInt IntKind.u64.bits (x : Int) &&& BitVec.ofInt IntKind.u64.bits ((2 ^ k - 1 : Nat) : Int)).toNat = x % 2 ^ k := by
    show (BitVec.ofInt 64 (x : Int) &&& BitVec.ofInt 64 ((2 ^ k - 1 : Nat) : Int)).toNat = _
    rw [BitVec.toNat_and, BitVec.ofInt_natCast, BitVec.ofInt_natCast, BitVec.toNat_ofNat, BitVec.toNat_ofNat, Nat.mod_eq_of_lt (by omega), Nat.mod_eq_of_lt (a := 2 ^ k - 1) (by have := Nat.two_pow_pos k; omega), Nat.and_two_pow_sub_one_eq_mod]
  rw [e, wu]
  have : x % 2 ^ k ≤ x := Nat.mod_le _ _
  omega
theorem wshr (x k : Nat) : (x : Int).fdiv (2 ^ k) = (x / 2 ^ k : Nat) := by
  rw [show ((2 : Int) ^ k) = ((2 ^ k : Nat) : Int) by simp, Int.fdiv_eq_ediv_of_nonneg _ (Int.natCast_nonneg _)]; rfl

theorem Mul64_spec (x y : Nat) (hx : x < 18446744073709551616) (hy : y < 18446744073709551616) : ACalls P gl F_math_bits_Mul64 [u x, u y] σ (fun v σ' => v = .tup [u (x * y / 18446744073709551616), u (x * y % 18446744073709551616)] ∧ σ' = σ) := by
  refine C_math_bits_Mul64.calls hm ?_
  obtain ⟨h1, h2, h3, h4⟩ := Go.Lib.mul64_hi x y hx hy
  have hb := Go.Lib.half_mul_le (a := x % 4294967296) (b := y / 4294967296) (by omega) (by omega)
  have ha := Go.Lib.half_mul_le (a := x / 4294967296) (b := y / 4294967296) (by omega) (by omega)
  have hc := Go.Lib.half_mul_le (a := x / 4294967296) (b := y % 4294967296) (by omega) (by omega)
  refine ⟨_, wmask hx 32 (by omega), by decide, _, wshr x 32, _, wmask hy 32 (by omega), by decide, _, wshr y 32, ?_⟩
  refine ⟨_, wmul' h1, _, wmul' (by show x / 4294967296 * (y % 4294967296) < _; omega), by decide, _, wshr _ 32, _, wadd' h2, ?_⟩
  refine ⟨_, wmask h2 32 (by omega), by decide, _, wshr _ 32, _, wmul' (by show x % 4294967296 * (y / 4294967296) < _; omega), _, wadd' h3, ?_⟩
  refine ⟨_, wmul' (by show x / 4294967296 * (y / 4294967296) < _; omega), _, wadd' (by show x / 4294967296 * (y / 4294967296) + (x / 4294967296 * (y % 4294967296) + x % 4294967296 * (y % 4294967296) / 4294967296) / 4294967296 < _; omega), by decide, _, wshr _ 32, _, wadd' (by
    show x / 4294967296 * (y / 4294967296) + (x / 4294967296 * (y % 4294967296) + x % 4294967296 * (y % 4294967296) / 4294967296) / 4294967296 + ((x / 4294967296 * (y % 4294967296) + x % 4294967296 * (y % 4294967296) / 4294967296) % 4294967296 + x % 4294967296 * (y / 4294967296)) / 4294967296 < _; omega), _, wmul x y, Ret.here ⟨?_, rfl⟩⟩
  rw [← h4]; rfl
end Go.Proofs.Ytoidllhkhljlaaa.Nat
namespace Go.Ab.Nn
theorem val_set {l : List Nat} {k : Nat} (h : k < l.length) (v : Nat) : val (l.set k v) + 18446744073709551616 ^ k * l.getD k 0 = val l + 18446744073709551616 ^ k * v := by
  induction l generalizing k with
  | nil => simp at h
  | cons x l ih =>
    cases k with
    | zero => simp [val]; omega
    | succ k =>
      have := ih (k := k) (by simpa using h)
      simp only [List.set_cons_succ, val, List.getD_cons_succ, Nat.pow_succ]
      rw [Nat.mul_comm (18446744073709551616 ^ k) 18446744073709551616, Nat.mul_assoc, Nat.mul_assoc]
      omega
theorem getD_set_other {l : List Nat} {k j : Nat} (h : k ≠ j) (v : Nat) : (l.set k v).getD j 0 = l.getD j 0 := by
  rw [List.getD_eq_getElem?_getD, List.getD_eq_getElem?_getD, List.getElem?_set_ne h]
/-- one limb of a product laid upon what is there -/
theorem mul_digit {x y r cy : Nat} (hx : x < 18446744073709551616) (hy : y < 18446744073709551616) (hr : r < 18446744073709551616) (hc : cy < 18446744073709551616) :
    ∃ hi lo c1 l2 c2 s : Nat, x * y / 18446744073709551616 = hi ∧ x * y % 18446744073709551616 = lo ∧ (lo + cy) % 18446744073709551616 = l2 ∧ (lo + cy) / 18446744073709551616 = c1 ∧ (r + l2) % 18446744073709551616 = s ∧ (r + l2) / 18446744073709551616 = c2 ∧
      hi + c1 < 18446744073709551616 ∧ hi + c1 + c2 < 18446744073709551616 ∧ s < 18446744073709551616 ∧ s + 18446744073709551616 * (hi + c1 + c2) = x * y + cy + r := by
  have hp : x * y ≤ 18446744073709551615 * 18446744073709551615 := Nat.mul_le_mul (by omega) (by omega)
  refine ⟨_, _, _, _, _, _, rfl, rfl, rfl, rfl, rfl, rfl, ?_⟩
  generalize x * y = p at *
  omega
theorem mul_step {VS VZ V0 P Pi Bj B r s cy cy' x y T : Nat} (e : P = Pi * Bj) (h1 : VS + P * r = VZ + P * s) (h2 : VZ + P * cy = V0 + Pi * (x * T)) (hs : s + B * cy' = x * y + cy + r) : VS + P * B * cy' = V0 + Pi * (x * (T + Bj * y)) := by
  have h3 := congrArg (P * ·) hs
  simp only [Nat.mul_add] at h3
  have h4 : Pi * (x * (Bj * y)) = P * (x * y) := by subst e; simp only [Nat.mul_left_comm, Nat.mul_comm]
  rw [Nat.mul_add x, Nat.mul_add Pi, h4, Nat.mul_assoc]
  omega
end Go.Ab.Nn
namespace Go.Ab
open Nn
theorem stu {σ : Own} {b cap o i z : Nat} {l : List Nat} (h : o + i < l.length) : upd (upd σ b ⟨l.map u, cap⟩) b ⟨(l.map u).take (o + i * 1) ++ [u z] ++ (l.map u).drop (o + i * 1 + 1), cap⟩ = upd σ b ⟨(l.set (o + i) z).map u, cap⟩ := by
  rw [upd_upd, set1' _ h]
end Go.Ab
namespace Go.Proofs.Ytoidllhkhljlaaa.Nat
open Go Go.Ab Go.Ab.Nn
set_option linter.unusedVariables false
set_option maxRecDepth 8000
variable {gl : Nat → Option (List AV)} {σ : Own}

theorem mul_spec (a b : List Nat) (wa : W a) (wb : W b) (hl : a.length + b.length < 1099511627775) : ACalls P gl F_nat_mul [nat a, nat b] σ (Owns σ (limbs (val a * val b))) := by
  refine C_nat_mul.calls hm ?_
  refine ⟨(a.length + b.length : Nat), by rw [wi] <;> omega, a.length + b.length, a.length + b.length, rfl, rfl, by omega, by omega, by omega, fun g hg => ?_⟩
  refine ⟨fun m env σ' => ∃ i z, m = a.length - i ∧ i ≤ a.length ∧ z.length = a.length + b.length ∧ W z ∧ val z = val (a.take i) * val b ∧ (∀ k, i + b.length ≤ k → z.getD k 0 = 0) ∧ σ' = upd σ g ⟨z.map u, a.length + b.length⟩ ∧
    env = [(1, nat b), (5, .w (.slice (some ⟨g, 0, none⟩) (a.length + b.length) (a.length + b.length))), (21, nat a), (22, .w (.int .i64 a.length)), (23, .w (.int .i64 i))], Wk.here ⟨a.length, 0, List.replicate (a.length + b.length) 0, rfl, by omega, by simp, W_replicate _, by simp [val, val_replicate], fun k _ => by simp [List.getD_eq_getElem?_getD, List.getElem?_replicate]; split <;> rfl, by rw [← mk_u], rfl⟩, ?_⟩
  rintro m env σ' ⟨i, z, rfl, hi, hz, hw, hv, h0, rfl, rfl⟩
  refine ⟨fun h => ?_, fun h => ?_⟩
  · have h : i < a.length := by have := of_decide_eq_true h; omega
    refine ⟨i, rfl, h, _, hd1 0 h, (i + b.length : Nat), by rw [wi] <;> omega, (i + b.length + 1 : Nat), by rw [wi] <;> omega, (i + b.length : Nat), by rw [wi] <;> omega, (i + b.length + 1 : Nat), by rw [wi] <;> omega, ?_⟩
    refine ⟨i, i + b.length + 1, i + b.length + 1, rfl, rfl, rfl, by omega, by omega, by omega, 0 + i * 1, fun _ => rfl, fun h => by omega, ?_⟩
    refine ⟨fun m env σ' => ∃ j z' cy, m = b.length - j ∧ j ≤ b.length ∧ z'.length = a.length + b.length ∧ W z' ∧ cy < 18446744073709551616 ∧ val z' + 18446744073709551616 ^ (i + j) * cy = val z + 18446744073709551616 ^ i * (a.getD i 0 * val (b.take j)) ∧ (∀ k, i + b.length ≤ k → z'.getD k 0 = 0) ∧ σ' = upd σ g ⟨z'.map u, a.length + b.length⟩ ∧
      env = [(1, nat b), (5, .w (.slice (some ⟨g, 0, none⟩) (a.length + b.length) (a.length + b.length))), (7, u (a.getD i 0)), (8, .w (.slice (some ⟨g, 0 + i * 1, none⟩) (i + b.length + 1 - i) (i + b.length + 1 - i))), (9, u cy), (21, nat a), (22, .w (.int .i64 a.length)), (23, .w (.int .i64 i)), (41, nat b), (42, .w (.int .i64 b.length)), (43, .w (.int .i64 j))], Wk.here ⟨b.length, 0, z, 0, rfl, by omega, hz, hw, by omega, by simp [val], h0, rfl, rfl⟩, ?_⟩
    rintro m env σ' ⟨j, z', cy, rfl, hj, hz', hw', hcy, hv', h0', rfl, rfl⟩
    refine ⟨fun h2 => ?_, fun h2 => ?_⟩
    · have h2 : j < b.length := by have := of_decide_eq_true h2; omega
      obtain ⟨hi', lo, c1, l2, c2, s, e1, e2, e3, e4, e5, e6, b1, b2, b3, hsum⟩ := mul_digit (getD_lt wa i) (getD_lt wb j) (getD_lt hw' (i + j)) hcy
      have hlo : lo < 18446744073709551616 := by omega
      have hl2 : l2 < 18446744073709551616 := by omega
      refine ⟨j, rfl, h2, _, hd1 0 h2, ?_⟩
      have hM := fun σ => Mul64_spec (gl := gl) (σ := σ) (a.getD i 0) (b.getD j 0) (getD_lt wa i) (getD_lt wb j)
      have hA := fun σ => Add64_spec (gl := gl) (σ := σ) lo cy 0 (by omega)
      have hB := fun σ => Add64_spec (gl := gl) (σ := σ) (z'.getD (i + j) 0) l2 0 (by omega)
      simp only [e1, e2, Nat.add_zero, e3, e4, e5, e6] at hM hA hB
      refine CallVC.here (hM _) ?_
      rintro v σ' ⟨rfl, rfl⟩
      refine ⟨_, rfl, _, rfl, ?_⟩
      refine CallVC.here (hA _) ?_
      rintro v σ' ⟨rfl, rfl⟩
      refine ⟨_, rfl, _, rfl, _, wadd' b1, j, rfl, by omega, _, upd_same _ _ _, _, hd' 0 (by omega), ?_⟩
      have ej : 0 + i * 1 + j = i + j := by omega
      have hB' := fun σ => (ej.symm ▸ hB σ)
      refine CallVC.here (hB' _) ?_
      rintro v σ' ⟨rfl, rfl⟩
      refine ⟨_, rfl, _, rfl, j, rfl, by omega, _, upd_same _ _ _, by rw [List.length_map]; show 0 + i * 1 + j * 1 + 1 ≤ _; omega, _, rfl, _, wadd' b2, (j + 1 : Nat), by rw [wi] <;> omega, Wk.here ⟨b.length - (j + 1), by omega, j + 1, z'.set (i + j) s, hi' + c1 + c2, rfl, by omega, by rw [List.length_set]; exact hz', W_set hw' _ _ b3, b2, ?_, ?_, ?_, rfl⟩⟩
      · rw [val_take_succ, ← Nat.add_assoc, Nat.pow_succ]
        exact mul_step (Nat.pow_add _ _ _) (val_set (by omega) s) hv' hsum
      · intro k hk
        rw [getD_set_other (by omega)]; exact h0' k hk
      · rw [← ej]; exact stu (by omega)
    · have h2 : ¬ j < b.length := by have := of_decide_eq_false h2; omega
      obtain rfl : j = b.length := by omega
      refine ⟨b.length, rfl, by omega, _, upd_same _ _ _, by rw [List.length_map]; show 0 + i * 1 + b.length * 1 + 1 ≤ _; omega, _, rfl, (i + 1 : Nat), by rw [wi] <;> omega, Wk.here ⟨a.length - (i + 1), by omega, i + 1, z'.set (i + b.length) cy, rfl, by omega, by rw [List.length_set]; exact hz', W_set hw' _ _ hcy, ?_, ?_, ?_, rfl⟩⟩
      · have := val_set (l := z') (k := i + b.length) (by omega) cy
        rw [h0' _ (Nat.le_refl _)] at this
        rw [List.take_length, hv] at hv'
        rw [val_take_succ, Nat.add_mul, Nat.mul_assoc]
        omega
      · intro k hk
        rw [getD_set_other (by omega)]; exact h0' k (by omega)
      · rw [show i + b.length = 0 + i * 1 + b.length by omega]; exact stu (by omega)
  · have h : ¬ i < a.length := by have := of_decide_eq_false h; omega
    obtain rfl : i = a.length := by omega
    rw [List.take_length] at hv
    have ht := trim_own (gl := gl) (σ := upd σ g ⟨z.map u, a.length + b.length⟩) (b := g) (l := z) (c := a.length + b.length) (upd_same _ _ _) rfl (by omega) (by omega) hw
    rw [hz] at ht
    refine CallVC.here ht ?_
    rintro v σ' ⟨rfl, rfl⟩
    refine Ret.here ?_
    have := owns_strip' (σ := σ) (b := g) (n := a.length + b.length) hg hw (by omega)
    unfold strip at this ⊢
    rw [hv] at this ⊢
    exact this
end Go.Proofs.Ytoidllhkhljlaaa.Nat
namespace Go.Proofs.Ytoidllhkhljlaaa.Nat
open Go Go.Ab Go.Ab.Nn
set_option linter.unusedVariables false
set_option maxRecDepth 8000
variable {gl : Nat → Option (List AV)} {σ : Own}

/-- A number in new memory, and a word beside it. -/
def OwnsE (σ : Own) (n : Nat) (v : AV) (σ' : Own) : Prop := ∃ w, v = .tup [w, .w (.int .i64 0)] ∧ Owns σ (limbs n) w σ'
def NumE (n : Nat) : AV := .tup [num n, .w (.int .i64 0)]
theorem OwnsE.sub {n : Nat} {v : AV} {σ' : Own} (h : OwnsE σ n v σ') : Sub gl σ' σ v (NumE n) ∧ Del σ' σ := by
  obtain ⟨w, rfl, h⟩ := h
  exact ⟨.tup ⟨h.sub, .refl h.del _, trivial⟩, h.del⟩
theorem _root_.Go.Ab.ACalls.numE {f : FuncId} {args : List AV} {n : Nat} (h : ACalls P gl f args σ (OwnsE σ n)) : ACalls P gl f args σ (fun v σ' => v = NumE n ∧ σ' = σ) :=
  h.sub fun v σ' ho => ⟨_, σ, (ho.sub (gl := gl)).2, ho.sub.1, rfl, rfl⟩

theorem Add_spec (m n : Nat) (h1 : (limbs m).length < 1099511627775) (h2 : (limbs n).length < 1099511627775) : ACalls P gl F_nat_Add [num m, num n] σ (OwnsE σ (m + n)) := by
  refine C_nat_Add.calls hm ?_
  refine CallVC.here (good_num m (by omega)) ?_
  rintro v σ' ⟨rfl, rfl⟩
  refine ⟨fun _ => ?_, (fun h => by cases h)⟩
  refine CallVC.here (good_num n (by omega)) ?_
  rintro v σ' ⟨rfl, rfl⟩
  refine ⟨(fun h => by cases h), fun _ => ?_⟩
  refine CallVC.here (add_spec _ _ (W_limbs m) (W_limbs n) h1 h2) ?_
  intro v σ' h
  rw [val_limbs, val_limbs] at h
  exact Ret.here ⟨_, rfl, h⟩
theorem Mul_spec (m n : Nat) (h : (limbs m).length + (limbs n).length < 1099511627775) : ACalls P gl F_nat_Mul [num m, num n] σ (OwnsE σ (m * n)) := by
  refine C_nat_Mul.calls hm ?_
  refine CallVC.here (good_num m (by omega)) ?_
  rintro v σ' ⟨rfl, rfl⟩
  refine ⟨fun _ => ?_, (fun h => by cases h)⟩
  refine CallVC.here (good_num n (by omega)) ?_
  rintro v σ' ⟨rfl, rfl⟩
  refine ⟨(fun h => by cases h), fun _ => ?_⟩
  refine CallVC.here (mul_spec _ _ (W_limbs m) (W_limbs n) h) ?_
  intro v σ' h
  rw [val_limbs, val_limbs] at h
  exact Ret.here ⟨_, rfl, h⟩
theorem Sub_spec (m n : Nat) (h1 : (limbs m).length < 1099511627775) (h2 : (limbs n).length < 1099511627775) : ACalls P gl F_nat_Sub [num m, num n] σ (fun v σ' => if n ≤ m then OwnsE σ (m - n) v σ' else v = .tup [num 0, .w (.int .i64 11)] ∧ σ' = σ) := by
  refine C_nat_Sub.calls hm ?_
  refine CallVC.here (good_num m (by omega)) ?_
  rintro v σ' ⟨rfl, rfl⟩
  refine ⟨fun _ => ?_, (fun h => by cases h)⟩
  refine CallVC.here (good_num n (by omega)) ?_
  rintro v σ' ⟨rfl, rfl⟩
  refine ⟨(fun h => by cases h), fun _ => ?_⟩
  refine CallVC.here (cmp_spec m n (by omega) (by omega)) ?_
  rintro v σ' ⟨rfl, rfl⟩
  refine ⟨fun h => ?_, fun h => ?_⟩
  · have h : ¬ n ≤ m := fun hle => by
      have h := of_decide_eq_true h
      unfold c3 at h
      split at h
      · omega
      · split at h <;> omega
    refine Ret.sub .refl (.tup (ys := [.fs [] 0, .w (.int .i64 11)]) ⟨.nil_fs, .refl .refl _, trivial⟩) ?_
    rw [if_neg h]
    exact ⟨by unfold num; rw [limbs_zero]; rfl, rfl⟩
  · have h : n ≤ m := by
      have h := of_decide_eq_false h
      unfold c3 at h
      split at h
      · omega
      · omega
    refine CallVC.here (sub_spec _ _ (W_limbs m) (W_limbs n) h1 (len_mono h) (by rw [val_limbs, val_limbs]; exact h)) ?_
    intro v σ' h'
    rw [val_limbs, val_limbs] at h'
    refine Ret.here ?_
    rw [if_pos h]
    exact ⟨_, rfl, h'⟩

theorem EqNat_spec (a b : List Nat) (ha : a.length < 1099511627776) : ACalls P gl F_gaugeref0_EqNat [nat a, nat b] σ (fun v σ' => v = .w (.bool (decide (a = b))) ∧ σ' = σ) := by
  refine C_gaugeref0_EqNat.calls hm ?_
  refine ⟨fun h => ?_, fun h => ?_⟩
  · have h : a.length ≠ b.length := by intro e; simp [e] at h
    exact Ret.here ⟨by rw [decide_eq_false (fun e => h (by rw [e]))], rfl⟩
  · have h : a.length = b.length := by
      have : (a.length : Int) = b.length := by simpa using h
      omega
    refine ⟨fun m env σ' => ∃ i, m = a.length - i ∧ i ≤ a.length ∧ a.take i = b.take i ∧ σ' = σ ∧ env = [(0, nat a), (1, nat b), (5, .w (.int .i64 i))], Wk.here ⟨a.length, 0, rfl, by omega, rfl, rfl, rfl⟩, ?_⟩
    rintro m env σ' ⟨i, rfl, hi, ht, rfl, rfl⟩
    refine ⟨fun h => ?_, fun h => ?_⟩
    · have hl : i < a.length := by have := of_decide_eq_true h; omega
      refine ⟨i, rfl, hl, _, hd1 0 hl, i, rfl, by omega, _, hd1 0 (by omega), ?_⟩
      refine ⟨fun h => ?_, fun h => ?_⟩
      · refine Ret.here ⟨?_, rfl⟩
        rw [decide_eq_false]
        rintro rfl
        simp at h
      · have h : a.getD i 0 = b.getD i 0 := by
          have : ((a.getD i 0 : Nat) : Int) = (b.getD i 0 : Nat) := by simpa using h
          omega
        refine ⟨(i + 1 : Nat), by rw [wi] <;> omega, Wk.here ⟨a.length - (i + 1), by omega, i + 1, rfl, by omega, ?_, rfl, rfl⟩⟩
        rw [take_succ_getD hl, take_succ_getD (by omega), ht, h]
    · have hl : ¬ i < a.length := by have := of_decide_eq_false h; omega
      refine Ret.here ⟨?_, rfl⟩
      rw [List.take_of_length_le (by omega), List.take_of_length_le (by omega)] at ht
      rw [decide_eq_true ht]

theorem Trim_spec (l : List Nat) (hw : W l) (hl : l.length < 1099511627776) : ACalls P gl F_gaugeref1_Trim [nat l] σ (fun v σ' => v = num (val l) ∧ σ' = σ) := by
  refine C_gaugeref1_Trim.calls hm ?_
  refine ⟨fun m env σ' => σ' = σ ∧ env = [(0, nat l), (3, .w (.int .i64 m))] ∧ m ≤ l.length ∧ strip (l.take m) = strip l, Wk.here ⟨l.length, rfl, rfl, Nat.le_refl _, by rw [List.take_length]⟩, ?_⟩
  rintro m env σ' ⟨rfl, rfl, hml, hs⟩
  refine ⟨fun h1 => ?_, fun h1 => ?_⟩
  · have h1 : (m : Int) > 0 := of_decide_eq_true h1
    obtain ⟨m, rfl⟩ : ∃ k, m = k + 1 := ⟨m - 1, by omega⟩
    refine ⟨m, by rw [wi] <;> omega, m, rfl, by omega, _, hd1 0 (by omega), ?_⟩
    refine ⟨fun h2 => ?_, fun h2 => ?_⟩
    · refine ⟨m, by rw [wi] <;> omega, Wk.here ⟨m, by omega, rfl, rfl, by omega, ?_⟩⟩
      rw [← hs, strip_take_succ (by omega) (by simpa using h2)]
    · refine ⟨0, m + 1, rfl, rfl, by omega, by omega, Ret.here ⟨?_, rfl⟩⟩
      have : strip l = l.take (m + 1) := by rw [← hs]; exact strip_top hw (by omega) (by simpa using h2)
      have h3 : (strip l).length = m + 1 := by rw [this, List.length_take]; omega
      show AV.fs (List.take ((m + 1 - 0) * 1) (List.drop (0 * 1) (l.map u))) (m + 1 - 0) = .fs ((strip l).map u) (strip l).length
      rw [h3, this, List.map_take]; simp
  · have h1 : ¬ (m : Int) > 0 := of_decide_eq_false h1
    obtain rfl : m = 0 := by omega
    refine ⟨(fun h => by cases h), fun _ => ?_⟩
    refine ⟨0, 0, rfl, rfl, by omega, by omega, Ret.here ⟨?_, rfl⟩⟩
    show _ = AV.fs ((strip l).map u) (strip l).length
    rw [← hs]; simp [strip, val, limbs_zero]

/-- how many words a list of lists holds -/
def tot : List (List Nat) → Nat
  | [] => 0
  | l :: r => l.length + tot r
theorem tot_take_le (ls : List (List Nat)) (i : Nat) : tot (ls.take i) ≤ tot ls := by
  induction ls generalizing i with
  | nil => simp [tot]
  | cons l r ih => cases i with
    | zero => simp [tot]
    | succ i => have := ih i; simp only [List.take_succ_cons, tot]; omega
theorem tot_take_succ {ls : List (List Nat)} {i : Nat} (h : i < ls.length) : tot (ls.take (i + 1)) = tot (ls.take i) + (ls.getD i []).length := by
  induction ls generalizing i with
  | nil => simp at h
  | cons l r ih => cases i with
    | zero => simp [tot]
    | succ i => have := ih (i := i) (by simpa using h); simp only [List.take_succ_cons, tot, List.getD_cons_succ]; omega
theorem Limbs_spec (k : Nat) (ls : List (List Nat)) (hn : ls.length < 1125899906842624) (ht : tot ls < 1125899906842624) : ACalls P gl F_gaugelaw0_Limbs [.w (.int .i64 k), .ff (ls.map nat) ls.length] σ (fun v σ' => v = .w (.bool (decide (k < tot ls))) ∧ σ' = σ) := by
  refine C_gaugelaw0_Limbs.calls hm ?_
  refine ⟨fun m env σ' => ∃ i, m = ls.length - i ∧ i ≤ ls.length ∧ tot (ls.take i) ≤ k ∧ σ' = σ ∧ env = [(0, .w (.int .i64 k)), (1, .ff (ls.map nat) ls.length), (5, .w (.int .i64 (tot (ls.take i) : Nat))), (6, .w (.int .i64 i))], Wk.here ⟨ls.length, 0, rfl, by omega, by simp [tot], rfl, rfl⟩, ?_⟩
  rintro m env σ' ⟨i, rfl, hi, hk, rfl, rfl⟩
  refine ⟨fun h => ?_, fun h => ?_⟩
  · have hl : i < ls.length := by have := of_decide_eq_true h; omega
    have h2 := tot_take_succ hl
    have h3 := tot_take_le ls (i + 1)
    have hw2 : IntKind.i64.wrap (((tot (ls.take i) : Nat) : Int) + ((ls.getD i []).length : Nat)) = (tot (ls.take (i + 1)) : Nat) := by rw [wi] <;> omega
    refine ⟨i, rfl, hl, _, hd1 [] hl, (tot (ls.take (i + 1)) : Nat), hw2, ?_⟩
    refine ⟨fun h => ?_, fun h => ?_⟩
    · have h := of_decide_eq_true h
      exact Ret.here ⟨by rw [decide_eq_true (by omega)], rfl⟩
    · have h := of_decide_eq_false h
      exact ⟨(i + 1 : Nat), by rw [wi] <;> omega, Wk.here ⟨ls.length - (i + 1), by omega, i + 1, rfl, by omega, by omega, rfl, rfl⟩⟩
  · have hl : ¬ i < ls.length := by have := of_decide_eq_false h; omega
    rw [List.take_of_length_le (by omega)] at hk
    exact Ret.here ⟨by rw [decide_eq_false (by omega)], rfl⟩
end Go.Proofs.Ytoidllhkhljlaaa.Nat
namespace Go.Ab.Nn
def bl (n : Nat) : Nat := if n = 0 then 0 else Nat.log2 n + 1
theorem bl_zero : bl 0 = 0 := rfl
theorem bl_le {n k : Nat} : bl n ≤ k ↔ n < 2 ^ k := by
  unfold bl
  split
  · rename_i h
    subst h
    simp [Nat.pow_pos]
  · rename_i h
    rw [← Nat.log2_lt h]
    omega
theorem bl_lt {n k : Nat} : k < bl n ↔ 2 ^ k ≤ n := by
  have := @bl_le n k
  omega
theorem bl_mono {m n : Nat} (h : m ≤ n) : bl m ≤ bl n := bl_le.2 (Nat.lt_of_le_of_lt h (bl_le.1 (Nat.le_refl _)))
theorem bl_eq {n L : Nat} (h1 : n < 2 ^ L) (h2 : ∀ k, k < L → 2 ^ k ≤ n) : bl n = L := by
  refine Nat.le_antisymm (bl_le.2 h1) ?_
  rcases Nat.eq_zero_or_pos L with h | h
  · omega
  · have := bl_lt.2 (h2 (L - 1) (by omega))
    omega
theorem bl_shift {n j : Nat} (h : 2 ^ j ≤ n) : bl n = bl (n / 2 ^ j) + j := by
  have hp : 0 < 2 ^ j := Nat.pow_pos (by decide)
  refine bl_eq ?_ fun k hk => ?_
  · rw [Nat.pow_add]
    have := bl_le.1 (Nat.le_refl (bl (n / 2 ^ j)))
    exact (Nat.div_lt_iff_lt_mul hp).1 this
  · by_cases hkj : k ≤ j
    · exact Nat.le_trans (Nat.pow_le_pow_right (by decide) hkj) h
    · have h2 := bl_lt.1 (show k - j < bl (n / 2 ^ j) by omega)
      have h3 := (Nat.le_div_iff_mul_le hp).1 h2
      rwa [← Nat.pow_add, show k - j + j = k by omega] at h3
theorem bl_pow (n : Nat) : bl (2 ^ n) = n + 1 := bl_eq (Nat.pow_lt_pow_right (by decide) (by omega)) fun k hk => Nat.pow_le_pow_right (by decide) (by omega)

/-- how many bits a byte has -/
def tab8 : ByteArray := ⟨#[0, 1, 2, 2, 3, 3, 3, 3, 4, 4, 4, 4, 4, 4, 4, 4, 5, 5, 5, 5, 5, 5, 5, 5, 5, 5, 5, 5, 5, 5, 5, 5, 6, 6, 6, 6, 6, 6, 6, 6, 6, 6, 6, 6, 6, 6, 6, 6, 6, 6, 6, 6, 6, 6, 6, 6, 6, 6, 6, 6, 6, 6, 6, 6, 7, 7, 7, 7, 7, 7, 7, 7, 7, 7, 7, 7, 7, 7, 7, 7, 7, 7, 7, 7, 7, 7, 7, 7, 7, 7, 7, 7, 7, 7, 7, 7, 7, 7, 7, 7, 7, 7, 7, 7, 7, 7, 7, 7, 7, 7, 7, 7, 7, 7, 7, 7, 7, 7, 7, 7, 7, 7, 7, 7, 7, 7, 7, 7, 8, 8, 8, 8, 8, 8, 8, 8, 8, 8, 8, 8, 8, 8, 8, 8, 8, 8, 8, 8, 8, 8, 8, 8, 8, 8, 8, 8, 8, 8, 8, 8, 8, 8, 8, 8, 8, 8, 8, 8, 8, 8, 8, 8, 8, 8, 8, 8, 8, 8, 8, 8, 8, 8, 8, 8, 8, 8, 8, 8, 8, 8, 8, 8, 8, 8, 8, 8, 8, 8, 8, 8, 8, 8, 8, 8, 8, 8, 8, 8, 8, 8, 8, 8, 8, 8, 8, 8, 8, 8, 8, 8, 8, 8, 8, 8, 8, 8, 8, 8, 8, 8, 8, 8, 8, 8, 8, 8, 8, 8, 8, 8, 8, 8, 8, 8, 8, 8, 8, 8, 8, 8, 8, 8, 8, 8, 8, 8]⟩
theorem tab8_get : ∀ b : Fin 256, tab8.data.toList[b.val]? = some (UInt8.ofNat (bl b.val)) := by decide +kernel
end Go.Ab.Nn
namespace Go.Proofs.Ytoidllhkhljlaaa.Nat
open Go Go.Ab Go.Ab.Nn
set_option linter.unusedVariables false
set_option maxRecDepth 8000
variable {gl : Nat → Option (List AV)} {σ : Own}

theorem Len64_j3 {x n : Nat} (hx : x < 256) (hn : n ≤ 1000) (R : AV → Own → Prop) (h : R (.w (.int .i64 (n + bl x : Nat))) σ) : vc (cx P gl) S_math_bits_Len64_j3 (retQ (Says gl) [2] R) [(0, u x), (2, .w (.int .i64 n))] σ := by
  have hb : bl x ≤ 8 := bl_le.2 hx
  refine ⟨(x : Nat), by simp [IntKind.wrap, IntKind.bits, IntKind.signed]; omega, x, rfl, UInt8.ofNat (bl x), ?_, (bl x : Nat), ?_, (n + bl x : Nat), by rw [wi] <;> omega, Ret.here h⟩
  · show tab8.toList[x]? = _
    rw [ByteArray.toList_eq]
    exact tab8_get ⟨x, hx⟩
  · have e : (UInt8.ofNat (bl x)).toNat = bl x := by
      rw [UInt8.toNat_ofNat']; omega
    rw [e, wi] <;> omega
theorem Len64_j2 {x n : Nat} (hx : x < 65536) (hn : n ≤ 900) (R : AV → Own → Prop) (h : R (.w (.int .i64 (n + bl x : Nat))) σ) : vc (cx P gl) S_math_bits_Len64_j2 (retQ (Says gl) [2] R) [(0, u x), (2, .w (.int .i64 n))] σ := by
  refine ⟨fun h1 => ?_, fun h1 => ?_⟩
  · have h1 : x ≥ 256 := by have := of_decide_eq_true h1; omega
    refine ⟨by decide, _, wshr x 8, (n + 8 : Nat), by rw [wi] <;> omega, Wk.here (Len64_j3 (by omega) (by omega) R ?_)⟩
    rw [bl_shift (j := 8) h1] at h
    rwa [show n + 8 + bl (x / 2 ^ 8) = n + (bl (x / 2 ^ 8) + 8) by omega]
  · have h1 : ¬ x ≥ 256 := by have := of_decide_eq_false h1; omega
    exact Wk.here (Len64_j3 (by omega) (by omega) R h)
theorem Len64_j1 {x n : Nat} (hx : x < 4294967296) (hn : n ≤ 800) (R : AV → Own → Prop) (h : R (.w (.int .i64 (n + bl x : Nat))) σ) : vc (cx P gl) S_math_bits_Len64_j1 (retQ (Says gl) [2] R) [(0, u x), (2, .w (.int .i64 n))] σ := by
  refine ⟨fun h1 => ?_, fun h1 => ?_⟩
  · have h1 : x ≥ 65536 := by have := of_decide_eq_true h1; omega
    refine ⟨by decide, _, wshr x 16, (n + 16 : Nat), by rw [wi] <;> omega, Wk.here (Len64_j2 (by omega) (by omega) R ?_)⟩
    rw [bl_shift (j := 16) h1] at h
    rwa [show n + 16 + bl (x / 2 ^ 16) = n + (bl (x / 2 ^ 16) + 16) by omega]
  · have h1 : ¬ x ≥ 65536 := by have := of_decide_eq_false h1; omega
    exact Wk.here (Len64_j2 (by omega) (by omega) R h)
theorem Len64_spec (x : Nat) (hx : x < 18446744073709551616) : ACalls P gl F_math_bits_Len64 [u x] σ (fun v σ' => v = .w (.int .i64 (bl x : Nat)) ∧ σ' = σ) := by
  refine C_math_bits_Len64.calls hm ?_
  refine ⟨fun h1 => ?_, fun h1 => ?_⟩
  · have h1 : x ≥ 4294967296 := by have := of_decide_eq_true h1; omega
    refine ⟨by decide, _, wshr x 32, Wk.here (Len64_j1 (n := 32) (by omega) (by omega) _ ?_)⟩
    rw [bl_shift (j := 32) h1, Nat.add_comm]; exact ⟨rfl, rfl⟩
  · have h1 : ¬ x ≥ 4294967296 := by have := of_decide_eq_false h1; omega
    exact Wk.here (Len64_j1 (n := 0) (by omega) (by omega) _ ⟨by rw [Nat.zero_add], rfl⟩)

theorem len_val {l : List Nat} (hw : W l) {i : Nat} (hi : i < l.length) (h0 : l.getD i 0 ≠ 0) : bl (val (l.take (i + 1))) = 64 * i + bl (l.getD i 0) := by
  rw [val_take_succ]
  have h1 := W_getD_take hw i
  have hp : 18446744073709551616 ^ i = 2 ^ (64 * i) := by rw [show 18446744073709551616 = 2 ^ 64 from rfl, ← Nat.pow_mul]
  rw [hp] at h1 ⊢
  have hp0 : 0 < 2 ^ (64 * i) := Nat.pow_pos (by decide)
  rw [bl_shift (j := 64 * i), Nat.add_mul_div_left _ _ hp0, Nat.div_eq_of_lt h1, Nat.zero_add, Nat.add_comm]
  refine Nat.le_trans ?_ (Nat.le_add_left _ _)
  exact Nat.le_mul_of_pos_right _ (by omega)
end Go.Proofs.Ytoidllhkhljlaaa.Nat
namespace Go.Ab.Nn
theorem dig_lt {v1 v0 u d : Nat} (hd : d < 4294967296) (hu : u < v1 * 4294967296 + v0) : (u * 4294967296 + d) / (v1 * 4294967296 + v0) < 4294967296 := by
  refine (Nat.div_lt_iff_lt_mul (by omega)).2 ?_
  have : (u + 1) * 4294967296 ≤ (v1 * 4294967296 + v0) * 4294967296 := Nat.mul_le_mul_right _ hu
  omega
theorem dig_test {v1 v0 u d q rh : Nat} (hq : q * v1 + rh = u) (hY : 0 < v1 * 4294967296 + v0) : (q * v0 > 4294967296 * rh + d) ↔ (u * 4294967296 + d) / (v1 * 4294967296 + v0) < q := by
  rw [Nat.div_lt_iff_lt_mul hY]
  have e : q * (v1 * 4294967296 + v0) = q * v1 * 4294967296 + q * v0 := by rw [Nat.mul_add, Nat.mul_assoc]
  rw [e]
  generalize q * v1 = a at *
  generalize q * v0 = b at *
  omega
theorem dig_out {v1 v0 u d q rh : Nat} (hq : q * v1 + rh = u) (hY : 0 < v1 * 4294967296 + v0) (h0 : v0 < 4294967296) (hr : 4294967296 ≤ rh) (hqb : q ≤ 4294967296) : q ≤ (u * 4294967296 + d) / (v1 * 4294967296 + v0) := by
  have h := (dig_test (d := d) hq hY)
  have : q * v0 ≤ 4294967296 * rh := Nat.le_trans (Nat.mul_le_mul hqb (Nat.le_of_lt h0)) (Nat.mul_le_mul_left _ hr)
  omega
theorem dig_start {v1 v0 u d : Nat} (h1 : 2147483648 ≤ v1) (h0 : v0 < 4294967296) (hd : d < 4294967296) (hu : u < v1 * 4294967296 + v0) :
    (u * 4294967296 + d) / (v1 * 4294967296 + v0) ≤ u / v1 ∧ u / v1 ≤ 4294967297 := by
  have hv : 0 < v1 := by omega
  constructor
  · refine (Nat.le_div_iff_mul_le hv).2 ?_
    have h2 := Nat.div_mul_le_self (u * 4294967296 + d) (v1 * 4294967296 + v0)
    rw [Nat.mul_add, ← Nat.mul_assoc] at h2
    generalize (u * 4294967296 + d) / (v1 * 4294967296 + v0) = Q at *
    generalize Q * v1 = a at *
    generalize Q * v0 = b at *
    omega
  · have : u / v1 < 4294967298 := (Nat.div_lt_iff_lt_mul hv).2 (by omega)
    omega
end Go.Ab.Nn
namespace Go.Proofs.Ytoidllhkhljlaaa.Nat
open Go Go.Ab Go.Ab.Nn
set_option linter.unusedVariables false
set_option maxRecDepth 8000
variable {gl : Nat → Option (List AV)} {σ : Own}

theorem wsub' {x y : Nat} (h : y ≤ x) (h2 : x - y < 18446744073709551616) : IntKind.u64.wrap (((x % 18446744073709551616 : Nat) : Int) - ((y % 18446744073709551616 : Nat) : Int)) = (x - y : Nat) := by rw [wu]; omega
theorem wsub0 {x y : Nat} (h : y ≤ x) (h2 : x < 18446744073709551616) : IntKind.u64.wrap ((x : Int) - (y : Int)) = (x - y : Nat) := by rw [wu]; omega
theorem waddm (x y : Nat) : IntKind.u64.wrap (((x % 18446744073709551616 : Nat) : Int) + (y : Int)) = ((x + y) % 18446744073709551616 : Nat) := by rw [wu]; omega
theorem wshrv (x : Nat) {k : Nat} (h : k ≤ 64) : (x : Int).fdiv (2 ^ (min ((k : Nat) : Int).toNat IntKind.u64.bits)) = (x / 2 ^ k : Nat) := by
  rw [Int.toNat_natCast, show min k IntKind.u64.bits = k from Nat.min_eq_left h]; exact wshr x k
theorem wshlv (x : Nat) {k : Nat} (h : k ≤ 64) : IntKind.u64.wrap ((x : Int) * 2 ^ (min ((k : Nat) : Int).toNat IntKind.u64.bits)) = (x * 2 ^ k % 18446744073709551616 : Nat) := by
  rw [Int.toNat_natCast, show min k IntKind.u64.bits = k from Nat.min_eq_left h, show ((2 : Int) ^ k) = ((2 ^ k : Nat) : Int) by simp]; exact wmul _ _
theorem wquo {x y : Nat} (h : x < 18446744073709551616) : IntKind.u64.wrap ((x : Int).tdiv y) = (x / y : Nat) := by
  have : x / y ≤ x := Nat.div_le_self _ _
  rw [show Int.tdiv (x : Int) (y : Int) = ((x / y : Nat) : Int) from (Int.ofNat_tdiv _ _).symm, wu]; generalize x / y = z at *; omega
theorem wrem (x y : Nat) : (x : Int).tmod y = (x % y : Nat) := (Int.ofNat_tmod _ _).symm
theorem wor {a b s : Nat} (hs : s ≤ 64) (ha : a * 2 ^ s < 18446744073709551616) (hb : b < 2 ^ s) : IntKind.u64.wrap ((BitVec.ofInt IntKind.u64.bits ((a * 2 ^ s : Nat) : Int) ||| BitVec.ofInt IntKind.u64.bits (b : Int)).toNat) = (a * 2 ^ s + b : Nat) := by
  have hp : 2 ^ s ≤ 2 ^ 64 := Nat.pow_le_pow_right (by decide) (by omega)
  have hps : 2 ^ s * 2 ^ (64 - s) = 18446744073709551616 := by rw [← Nat.pow_add, show s + (64 - s) = 64 by omega]
  have hlt : a * 2 ^ s + b < 18446744073709551616 := by
    have h1 : a < 2 ^ (64 - s) := by
      rw [← hps, Nat.mul_comm] at ha
      exact Nat.lt_of_mul_lt_mul_left ha
    have h2 := Nat.mul_le_mul_right (2 ^ s) (show a + 1 ≤ 2 ^ (64 - s) from h1)
    rw [Nat.add_mul, Nat.one_mul, Nat.mul_comm (2 ^ (64 - s)), hps] at h2
    omega
  have e : (BitVec.ofInt IntKind.u64.bits ((a * 2 ^ s : Nat) : Int) ||| BitVec.ofInt IntKind.u64.bits (b : Int)).toNat = a * 2 ^ s + b := by
    show (BitVec.ofInt 64 ((a * 2 ^ s : Nat) : Int) ||| BitVec.ofInt 64 (b : Int)).toNat = _
    rw [BitVec.toNat_or, BitVec.ofInt_natCast, BitVec.ofInt_natCast, BitVec.toNat_ofNat, BitVec.toNat_ofNat, Nat.mod_eq_of_lt (by omega), Nat.mod_eq_of_lt (a := b) (by omega), Nat.mul_comm, Nat.two_pow_add_eq_or_of_lt hb]
  rw [e, wu]; omega

theorem Div64_j2 {Y s q1 U e Q0 R : Nat} (hs : s ≤ 64) (hm2 : Q0 * Y + R = U * 4294967296 + e) (hq1 : q1 < 4294967296) (hq0 : Q0 < 4294967296) (hR : R < Y) (hY : Y < 18446744073709551616) (X : AV → Own → Prop)
    (h : X (.tup [u (q1 * 4294967296 + Q0), u (R / 2 ^ s)]) σ) : vc (cx P gl) S_math_bits_Div64_j2 (retQ (Says gl) [6, 7] X) [(2, u Y), (8, u s), (14, u e), (15, u q1), (17, u U), (18, u Q0)] σ := by
  refine ⟨_, wmul q1 4294967296, (q1 * 4294967296 + Q0 : Nat), by rw [waddm, Nat.mod_eq_of_lt (by omega)], _, wmul U 4294967296, _, waddm _ _, _, wmul Q0 Y, (R : Nat), ?_, by omega, _, wshrv R hs, Ret.here h⟩
  rw [wsub' (by omega) (by omega)]
  congr 1
  omega
theorem Div64_j1 {Y s v1 v0 U d e Q : Nat} (hs : s ≤ 64) (hYv : Y = v1 * 4294967296 + v0) (hv1 : v1 < 4294967296) (hv2 : 2147483648 ≤ v1) (h0 : v0 < 4294967296) (hd : d < 4294967296) (he : e < 4294967296) (hu : U < Y) (hQ1 : Q = (U * 4294967296 + d) / Y) (X : AV → Own → Prop)
    (h : X (.tup [u ((U * 18446744073709551616 + (d * 4294967296 + e)) / Y), u ((U * 18446744073709551616 + (d * 4294967296 + e)) % Y / 2 ^ s)]) σ) :
    vc (cx P gl) S_math_bits_Div64_j1 (retQ (Says gl) [6, 7] X) [(2, u Y), (8, u s), (9, u v1), (10, u v0), (11, u U), (13, u d), (14, u e), (15, u Q)] σ := by
  have hY : 0 < Y := by omega
  have hq1 := dig_lt hd (hYv ▸ hu)
  rw [← hYv, ← hQ1] at hq1
  have hm1 := Nat.div_add_mod (U * 4294967296 + d) Y
  have hl1 := Nat.mod_lt (U * 4294967296 + d) hY
  obtain ⟨U1, hU1⟩ : ∃ U1, U1 = (U * 4294967296 + d) % Y := ⟨_, rfl⟩
  rw [← hQ1, ← hU1] at hm1
  rw [← hU1] at hl1
  rw [Nat.mul_comm] at hm1
  have hUy : U1 < v1 * 4294967296 + v0 := hYv ▸ hl1
  obtain ⟨s1, s2⟩ := dig_start hv2 h0 he hUy
  have hq0 := dig_lt he hUy
  have hmod : U1 % v1 < v1 := Nat.mod_lt _ (by omega)
  have hdm := Nat.div_add_mod U1 v1
  rw [Nat.mul_comm] at hdm
  have hwd : U1 / v1 * v1 ≤ U1 := Nat.div_mul_le_self _ _
  have hm2 := Nat.div_add_mod (U1 * 4294967296 + e) Y
  have hl2 := Nat.mod_lt (U1 * 4294967296 + e) hY
  have hT := fun q rh (hq : q * v1 + rh = U1) => dig_test (d := e) hq (show 0 < v1 * 4294967296 + v0 by omega)
  have hO := fun q rh (hq : q * v1 + rh = U1) => dig_out (d := e) hq (show 0 < v1 * 4294967296 + v0 by omega) h0
  rw [← hYv] at s1 hq0 hT hO
  obtain ⟨Q', hQ'⟩ : ∃ Q', Q' = (U1 * 4294967296 + e) / Y := ⟨_, rfl⟩
  obtain ⟨R, hR⟩ : ∃ R, R = (U1 * 4294967296 + e) % Y := ⟨_, rfl⟩
  rw [← hQ', ← hR] at hm2
  rw [← hQ'] at hq0 s1 hT hO
  rw [← hR] at hl2
  have eq : U * 18446744073709551616 + (d * 4294967296 + e) = Y * (Q * 4294967296 + Q') + R := by
    rw [Nat.mul_add, ← Nat.mul_assoc]
    rw [Nat.mul_comm] at hm1
    clear hwd hdm hmod hQ1 hU1
    generalize Y * Q = a at *
    generalize Y * Q' = b at *
    omega
  rw [eq, Nat.mul_add_div hY, Nat.div_eq_of_lt hl2, Nat.add_zero, Nat.mul_add_mod, Nat.mod_eq_of_lt hl2] at h
  rw [Nat.mul_comm] at hm2
  have fin := Div64_j2 (gl := gl) (σ := σ) hs hm2 hq1 hq0 hl2 (by omega) X h
  have eU : IntKind.u64.wrap (((((U * 4294967296 + d) % 18446744073709551616 : Nat) : Int)) - ((Q * Y % 18446744073709551616 : Nat) : Int)) = (U1 : Nat) := by
    rw [wsub' (by omega) (by omega)]; congr 1; omega
  refine ⟨_, wmul U 4294967296, _, waddm _ _, _, wmul Q Y, U1, eU, by omega, _, wquo (by omega), _, wmul' (by omega), (U1 % v1 : Nat), by rw [wsub0 hwd (by omega)]; congr 1; omega, ?_⟩
  refine ⟨fun m env σ' => ∃ q rh : Nat, q = Q' + m ∧ q ≤ 4294967297 ∧ q * v1 + rh = U1 ∧ rh < 4294967296 ∧ σ' = σ ∧ env = [(2, u Y), (8, u s), (9, u v1), (10, u v0), (14, u e), (15, u Q), (16, u rh), (17, u U1), (18, u q)], Wk.here ⟨U1 / v1 - Q', U1 / v1, U1 % v1, by omega, s2, hdm, by omega, rfl, rfl⟩, ?_⟩
  rintro m env σ' ⟨q, rh, hqm, hqb, hq, hr, rfl, rfl⟩
  have hgo : Q' < q → (q - 1) * v1 + (rh + v1) = U1 := fun h => by
    rw [← hq, Nat.sub_mul, Nat.one_mul]
    have : 1 * v1 ≤ q * v1 := Nat.mul_le_mul_right _ (by omega)
    omega
  refine ⟨fun h1 => ?_, fun h1 => ?_⟩
  · have h1 : q < 4294967296 := by have := of_decide_eq_false h1; omega
    have hw : q * v0 < 18446744073709551616 := by
      have := Nat.mul_le_mul (show q ≤ 4294967295 by omega) (show v0 ≤ 4294967295 by omega)
      omega
    refine ⟨_, wmul' hw, (4294967296 * rh : Nat), by rw [wu]; omega, (4294967296 * rh + e : Nat), by rw [wu]; omega, ?_⟩
    refine ⟨fun h2 => ?_, fun h2 => ?_⟩
    · have hgt : Q' < q := (hT q rh hq).1 (by have := of_decide_eq_true h2; omega)
      have hq2 := hgo hgt
      refine ⟨(q - 1 : Nat), by rw [wu]; omega, (rh + v1 : Nat), by rw [wu]; omega, ?_⟩
      refine ⟨fun h3 => ?_, fun h3 => ?_⟩
      · have h3 : rh + v1 ≥ 4294967296 := by have := of_decide_eq_true h3; omega
        have ho := hO _ _ hq2 h3 (by omega)
        rw [show q - 1 = Q' by omega]
        exact Wk.here fin
      · have h3 : ¬ rh + v1 ≥ 4294967296 := by have := of_decide_eq_false h3; omega
        exact Wk.here ⟨q - 1 - Q', by omega, q - 1, rh + v1, by omega, by omega, hq2, by omega, rfl, rfl⟩
    · have hle : ¬ q * v0 > 4294967296 * rh + e := by have := of_decide_eq_false h2; omega
      have hnot : ¬ Q' < q := fun h => hle ((hT q rh hq).2 h)
      obtain rfl : q = Q' := by omega
      exact Wk.here fin
  · have h1 : 4294967296 ≤ q := by have := of_decide_eq_true h1; omega
    have hgt : Q' < q := by omega
    have hq2 := hgo hgt
    refine ⟨fun _ => ?_, (fun h => by cases h)⟩
    refine ⟨(q - 1 : Nat), by rw [wu]; omega, (rh + v1 : Nat), by rw [wu]; omega, ?_⟩
    refine ⟨fun h3 => ?_, fun h3 => ?_⟩
    · have h3 : rh + v1 ≥ 4294967296 := by have := of_decide_eq_true h3; omega
      have ho := hO _ _ hq2 h3 (by omega)
      rw [show q - 1 = Q' by omega]
      exact Wk.here fin
    · have h3 : ¬ rh + v1 ≥ 4294967296 := by have := of_decide_eq_false h3; omega
      exact Wk.here ⟨q - 1 - Q', by omega, q - 1, rh + v1, by omega, by omega, hq2, by omega, rfl, rfl⟩
theorem LZ_spec (x : Nat) (hx : x < 18446744073709551616) : ACalls P gl F_math_bits_LeadingZeros64 [u x] σ (fun v σ' => v = .w (.int .i64 (64 - bl x : Nat)) ∧ σ' = σ) := by
  refine C_math_bits_LeadingZeros64.calls hm ?_
  refine CallVC.here (Len64_spec x hx) ?_
  rintro v σ' ⟨rfl, rfl⟩
  have hb : bl x ≤ 64 := bl_le.2 hx
  exact ⟨(64 - bl x : Nat), by rw [wi] <;> omega, Ret.here ⟨rfl, rfl⟩⟩

theorem Div64_spec (hi lo y : Nat) (hy : y < 18446744073709551616) (hlo : lo < 18446744073709551616) (h : hi < y) : ACalls P gl F_math_bits_Div64 [u hi, u lo, u y] σ
    (fun v σ' => v = .tup [u ((hi * 18446744073709551616 + lo) / y), u ((hi * 18446744073709551616 + lo) % y)] ∧ σ' = σ) := by
  refine C_math_bits_Div64.calls hm ?_
  refine ⟨fun h1 => ?_, fun _ => ⟨fun h1 => ?_, fun _ => ⟨fun h1 => ?_, fun h1 => ?_⟩⟩⟩
  · exfalso
    have : y = 0 := by simpa using h1
    omega
  · exfalso
    have := of_decide_eq_true h1
    omega
  · obtain rfl : hi = 0 := by simpa using h1
    refine ⟨by omega, _, wquo hlo, by omega, _, wrem lo y, Ret.here ⟨?_, rfl⟩⟩
    rw [Nat.zero_mul, Nat.zero_add]; rfl
  · have hi0 : hi ≠ 0 := by simpa using h1
    have hb := bl_le (n := y) (k := 64) |>.2 hy
    have hb1 : y < 2 ^ bl y := bl_le.1 (Nat.le_refl _)
    have hb2 : 2 ^ (bl y - 1) ≤ y := bl_lt.1 (by have := bl_lt (n := y) (k := 0) |>.2 (by rw [Nat.pow_zero]; omega); omega)
    have hb3 : 0 < bl y := bl_lt (n := y) (k := 0) |>.2 (by rw [Nat.pow_zero]; omega)
    refine CallVC.here (LZ_spec y hy) ?_
    rintro v σ' ⟨rfl, rfl⟩
    obtain ⟨s, hs⟩ : ∃ s, s = 64 - bl y := ⟨_, rfl⟩
    rw [← hs]
    have hs64 : s < 64 := by omega
    have hps : 2 ^ s * 2 ^ (64 - s) = 18446744073709551616 := by rw [← Nat.pow_add, show s + (64 - s) = 64 by omega]
    have hp0 : 0 < 2 ^ s := Nat.pow_pos (by decide)
    have hp1 : 0 < 2 ^ (64 - s) := Nat.pow_pos (by decide)
    have hYlt : y * 2 ^ s < 18446744073709551616 := by
      rw [← hps, Nat.mul_comm (2 ^ s)]
      refine Nat.mul_lt_mul_of_pos_right ?_ hp0
      rwa [show 64 - s = bl y by omega]
    have hYge : 9223372036854775808 ≤ y * 2 ^ s := by
      have := Nat.mul_le_mul_right (2 ^ s) hb2
      rw [← Nat.pow_add, show bl y - 1 + s = 63 by omega] at this
      exact this
    have hhi : hi * 2 ^ s + 2 ^ s ≤ y * 2 ^ s := by
      have := Nat.mul_le_mul_right (2 ^ s) h
      rwa [Nat.succ_mul] at this
    have hlow : lo / 2 ^ (64 - s) < 2 ^ s := (Nat.div_lt_iff_lt_mul hp1).2 (by rw [hps]; exact hlo)
    have hH : hi * 2 ^ s < 18446744073709551616 := by omega
    have eY := wshlv y (k := s) (by omega)
    have eH := wshlv hi (k := s) (by omega)
    have eL := wshlv lo (k := s) (by omega)
    rw [Nat.mod_eq_of_lt hYlt] at eY
    rw [Nat.mod_eq_of_lt hH] at eH
    have eR := wshrv lo (k := 64 - s) (by omega)
    have eO := wor (a := hi) (b := lo / 2 ^ (64 - s)) (by omega) hH hlow
    -- the whole, moved up
    have hU : (hi * 2 ^ s + lo / 2 ^ (64 - s)) * 18446744073709551616 + lo * 2 ^ s % 18446744073709551616 = (hi * 18446744073709551616 + lo) * 2 ^ s := by
      have h1 : lo * 2 ^ s / 18446744073709551616 = lo / 2 ^ (64 - s) := by rw [← hps, Nat.mul_comm (2 ^ s), Nat.mul_div_mul_right _ _ hp0]
      have h2 := Nat.div_add_mod (lo * 2 ^ s) 18446744073709551616
      rw [h1] at h2
      rw [Nat.add_mul, Nat.add_mul, Nat.mul_right_comm hi]
      omega
    generalize hu : hi * 2 ^ s + lo / 2 ^ (64 - s) = U at *
    generalize hl : lo * 2 ^ s % 18446744073709551616 = ll at *
    have hll : ll < 18446744073709551616 := by rw [← hl]; exact Nat.mod_lt _ (by decide)
    have huY : U < y * 2 ^ s := by omega
    have hfin1 : (U * 18446744073709551616 + ll) / (y * 2 ^ s) = (hi * 18446744073709551616 + lo) / y := by rw [hU, Nat.mul_div_mul_right _ _ hp0]
    have hfin2 : (U * 18446744073709551616 + ll) % (y * 2 ^ s) / 2 ^ s = (hi * 18446744073709551616 + lo) % y := by rw [hU, Nat.mul_mod_mul_right, Nat.mul_div_cancel _ hp0]
    generalize hYd : y * 2 ^ s = Y at *
    have hYv : Y = Y / 4294967296 * 4294967296 + Y % 4294967296 := by rw [Nat.mul_comm]; exact (Nat.div_add_mod Y 4294967296).symm
    have hll2 : ll / 4294967296 * 4294967296 + ll % 4294967296 = ll := by rw [Nat.mul_comm]; exact Nat.div_add_mod ll 4294967296
    obtain ⟨v1, hv1⟩ : ∃ v1, v1 = Y / 4294967296 := ⟨_, rfl⟩
    obtain ⟨v0, hv0⟩ : ∃ v0, v0 = Y % 4294967296 := ⟨_, rfl⟩
    obtain ⟨d, hd⟩ : ∃ d, d = ll / 4294967296 := ⟨_, rfl⟩
    obtain ⟨e, he⟩ : ∃ e, e = ll % 4294967296 := ⟨_, rfl⟩
    have hdl : d < 4294967296 := by omega
    have hv0l : v0 < 4294967296 := by omega
    rw [← hv1, ← hv0] at hYv
    rw [← hd, ← he] at hll2
    rw [← hll2] at hfin1 hfin2
    have hUv : U < v1 * 4294967296 + v0 := by omega
    obtain ⟨s1, s2⟩ := dig_start (v1 := v1) (v0 := v0) (u := U) (d := d) (by omega) hv0l hdl hUv
    have hdm := Nat.div_add_mod U v1
    rw [Nat.mul_comm] at hdm
    have hml : U % v1 < v1 := Nat.mod_lt _ (by omega)
    have hwd : U / v1 * v1 ≤ U := Nat.div_mul_le_self _ _
    have hT := fun q rh (hq : q * v1 + rh = U) => dig_test (d := d) hq (show 0 < v1 * 4294967296 + v0 by omega)
    have hO := fun q rh (hq : q * v1 + rh = U) => dig_out (d := d) hq (show 0 < v1 * 4294967296 + v0 by omega) hv0l
    rw [← hYv] at s1 hT hO
    have hQl := dig_lt hdl hUv
    rw [← hYv] at hQl
    obtain ⟨Q, hQ⟩ : ∃ Q, Q = (U * 4294967296 + d) / Y := ⟨_, rfl⟩
    rw [← hQ] at s1 hT hO hQl
    have J := Div64_j1 (gl := gl) (σ := σ') (s := s) (by omega) hYv (by omega) (by omega) hv0l hdl (by omega) (by omega : U < Y) hQ
      (fun v σ'' => v = .tup [u ((hi * 18446744073709551616 + lo) / y), u ((hi * 18446744073709551616 + lo) % y)] ∧ σ'' = σ') (e := e) ⟨by rw [hfin1, hfin2], rfl⟩
    have e64 : IntKind.u64.wrap (64 - (s : Int)) = (64 - s : Nat) := by rw [wu]; omega
    have es : IntKind.u64.wrap ((s : Nat) : Int) = (s : Nat) := by rw [wu]; omega
    refine ⟨s, es, by omega, Y, eY, by decide, v1, by rw [hv1]; exact wshr Y 32, v0, by rw [hv0]; exact wmask (by omega) 32 (by omega), by omega, _, eH, _, e64, by omega, _, eR, _, eO, by omega, _, eL, by decide, d, by rw [hd]; exact wshr ll 32, e, by rw [he]; exact wmask hll 32 (by omega), by omega, _, wquo (by omega), _, wmul' (by omega), (U % v1 : Nat), by rw [wsub0 hwd (by omega)]; congr 1; omega, ?_⟩
    refine ⟨fun m env σ'' => ∃ q rh : Nat, q = Q + m ∧ q ≤ 4294967297 ∧ q * v1 + rh = U ∧ rh < 4294967296 ∧ σ'' = σ' ∧ env = [(2, u Y), (8, u s), (9, u v1), (10, u v0), (11, u U), (13, u d), (14, u e), (15, u q), (16, u rh)], Wk.here ⟨U / v1 - Q, U / v1, U % v1, by omega, s2, hdm, by omega, rfl, rfl⟩, ?_⟩
    rintro m env σ'' ⟨q, rh, hqm, hqb, hq, hr, rfl, rfl⟩
    have hgo : Q < q → (q - 1) * v1 + (rh + v1) = U := fun h => by
      rw [← hq, Nat.sub_mul, Nat.one_mul]
      have : 1 * v1 ≤ q * v1 := Nat.mul_le_mul_right _ (by omega)
      omega
    refine ⟨fun h1 => ?_, fun h1 => ?_⟩
    · have h1 : q < 4294967296 := by have := of_decide_eq_false h1; omega
      have hw : q * v0 < 18446744073709551616 := by
        have := Nat.mul_le_mul (show q ≤ 4294967295 by omega) (show v0 ≤ 4294967295 by omega)
        omega
      refine ⟨_, wmul' hw, (4294967296 * rh : Nat), by rw [wu]; omega, (4294967296 * rh + d : Nat), by rw [wu]; omega, ?_⟩
      refine ⟨fun h2 => ?_, fun h2 => ?_⟩
      · have hgt : Q < q := (hT q rh hq).1 (by have := of_decide_eq_true h2; omega)
        have hq2 := hgo hgt
        refine ⟨(q - 1 : Nat), by rw [wu]; omega, (rh + v1 : Nat), by rw [wu]; omega, ?_⟩
        refine ⟨fun h3 => ?_, fun h3 => ?_⟩
        · have h3 : rh + v1 ≥ 4294967296 := by have := of_decide_eq_true h3; omega
          have ho := hO _ _ hq2 h3 (by omega)
          rw [show q - 1 = Q by omega]
          exact Wk.here J
        · have h3 : ¬ rh + v1 ≥ 4294967296 := by have := of_decide_eq_false h3; omega
          exact Wk.here ⟨q - 1 - Q, by omega, q - 1, rh + v1, by omega, by omega, hq2, by omega, rfl, rfl⟩
      · have hle : ¬ q * v0 > 4294967296 * rh + d := by have := of_decide_eq_false h2; omega
        have hnot : ¬ Q < q := fun h => hle ((hT q rh hq).2 h)
        obtain rfl : q = Q := by omega
        exact Wk.here J
    · have h1 : 4294967296 ≤ q := by have := of_decide_eq_true h1; omega
      have hgt : Q < q := by omega
      have hq2 := hgo hgt
      refine ⟨fun _ => ?_, (fun h => by cases h)⟩
      refine ⟨(q - 1 : Nat), by rw [wu]; omega, (rh + v1 : Nat), by rw [wu]; omega, ?_⟩
      refine ⟨fun h3 => ?_, fun h3 => ?_⟩
      · have h3 : rh + v1 ≥ 4294967296 := by have := of_decide_eq_true h3; omega
        have ho := hO _ _ hq2 h3 (by omega)
        rw [show q - 1 = Q by omega]
        exact Wk.here J
      · have h3 : ¬ rh + v1 ≥ 4294967296 := by have := of_decide_eq_false h3; omega
        exact Wk.here ⟨q - 1 - Q, by omega, q - 1, rh + v1, by omega, by omega, hq2, by omega, rfl, rfl⟩
end Go.Proofs.Ytoidllhkhljlaaa.Nat
namespace Go.Ab.Nn
theorem two_split {s : Nat} (hs : s ≤ 64) : 2 ^ s * 2 ^ (64 - s) = 18446744073709551616 := by rw [← Nat.pow_add, show s + (64 - s) = 64 by omega]
theorem shl_mod (x : Nat) {s : Nat} (hs : s ≤ 64) : x * 2 ^ s % 18446744073709551616 = x % 2 ^ (64 - s) * 2 ^ s := by
  rw [← two_split hs, Nat.mul_comm (2 ^ s), Nat.mul_mod_mul_right]
theorem shl_parts (x : Nat) {s : Nat} (hs : s ≤ 64) : x % 2 ^ (64 - s) * 2 ^ s + 18446744073709551616 * (x / 2 ^ (64 - s)) = x * 2 ^ s := by
  have h := Nat.div_add_mod x (2 ^ (64 - s))
  have h2 := congrArg (· * 2 ^ s) h
  simp only [Nat.add_mul] at h2
  rw [← two_split hs, ← h2, Nat.mul_comm (2 ^ s) (2 ^ (64 - s)), Nat.mul_assoc, Nat.mul_comm (2 ^ s), ← Nat.mul_assoc]
  omega
theorem st_len {L : List AV} {n : Nat} {v : AV} (h : n + 1 ≤ L.length) : (L.take n ++ [v] ++ L.drop (n + 1)).length = L.length := by simp; omega
theorem left_step {V0 V1 V2 P L t h B Pq Pi : Nat} (e : P = Pq * Pi) (h1 : V1 + P * t = V0 + P * (L + t)) (h2 : V2 + P * B * 0 = V1 + P * B * h) : V2 = V0 + Pq * (Pi * (L + B * h)) := by
  rw [← Nat.mul_assoc, ← e, Nat.mul_add, ← Nat.mul_assoc]
  rw [Nat.mul_add] at h1
  omega
theorem getD_set_self {l : List Nat} {k : Nat} (h : k < l.length) (v : Nat) : (l.set k v).getD k 0 = v := by
  rw [List.getD_eq_getElem?_getD, List.getElem?_set_self h]; rfl
end Go.Ab.Nn
namespace Go.Ab
theorem stu0 {σ : Own} {b cap i z : Nat} {l : List Nat} (h : i < l.length) : upd (upd σ b ⟨l.map u, cap⟩) b ⟨(l.map u).take (0 + i * 1) ++ [u z] ++ (l.map u).drop (0 + i * 1 + 1), cap⟩ = upd σ b ⟨(l.set i z).map u, cap⟩ := by
  rw [upd_upd, set1 _ h]
end Go.Ab
namespace Go.Proofs.Ytoidllhkhljlaaa.Nat
open Go Go.Ab Go.Ab.Nn
set_option linter.unusedVariables false
set_option maxRecDepth 8000
variable {gl : Nat → Option (List AV)} {σ : Own}

theorem wor' {a b s : Nat} (hs : s ≤ 64) (ha : a * 2 ^ s < 18446744073709551616) (hb : b < 2 ^ s) : IntKind.u64.wrap ((BitVec.ofInt IntKind.u64.bits (b : Int) ||| BitVec.ofInt IntKind.u64.bits ((a * 2 ^ s : Nat) : Int)).toNat) = (a * 2 ^ s + b : Nat) := by
  rw [BitVec.or_comm]; exact wor hs ha hb
theorem wquoi (x : Nat) {y : Nat} (h : x < 9223372036854775808) : IntKind.i64.wrap ((x : Int).tdiv y) = (x / y : Nat) := by
  have : x / y ≤ x := Nat.div_le_self _ _
  rw [show Int.tdiv (x : Int) (y : Int) = ((x / y : Nat) : Int) from (Int.ofNat_tdiv _ _).symm]
  generalize x / y = z at *
  rw [wi] <;> omega

theorem left_spec (a : List Nat) (k : Nat) (wa : W a) (hl : a.length + k / 64 < 1099511627775) (hk : k < 9223372036854775808) : ACalls P gl F_nat_left [nat a, .w (.int .i64 k)] σ (Owns σ (limbs (val a * 2 ^ k))) := by
  refine C_nat_left.calls hm ?_
  refine ⟨fun h => ?_, fun h => ?_⟩
  · have h : a = [] := by simpa using h
    subst h
    exact Ret.here (.inl ⟨by simp [val, limbs_zero], rfl, rfl⟩)
  have ha0 : a.length ≠ 0 := by
    intro e; rw [e] at h; simp at h
  obtain ⟨q, hq⟩ : ∃ q, q = k / 64 := ⟨_, rfl⟩
  obtain ⟨r, hr⟩ : ∃ r, r = k % 64 := ⟨_, rfl⟩
  have hr64 : r < 64 := by omega
  have eq : IntKind.i64.wrap ((k : Int).tdiv 64) = (q : Nat) := by rw [hq]; exact wquoi k (y := 64) hk
  have er : (k : Int).tmod 64 = (r : Nat) := by rw [hr]; exact wrem k 64
  have hkqr : 2 ^ k = 18446744073709551616 ^ q * 2 ^ r := by
    rw [show 18446744073709551616 = 2 ^ 64 from rfl, ← Nat.pow_mul, ← Nat.pow_add, show 64 * q + r = k by omega]
  rw [← hq] at hl
  have hp1 : 0 < 2 ^ (64 - r) := Nat.pow_pos (by decide)
  refine ⟨by decide, q, eq, (a.length + q : Nat), by rw [wi] <;> omega, (a.length + q + 1 : Nat), by rw [wi] <;> omega, a.length + q + 1, a.length + q + 1, rfl, rfl, by omega, by omega, by omega, fun g hg => ?_⟩
  refine ⟨fun m env σ' => ∃ i z, m = a.length - i ∧ i ≤ a.length ∧ z.length = a.length + q + 1 ∧ W z ∧ val z = 18446744073709551616 ^ q * (val (a.take i) * 2 ^ r) ∧ (∀ j, i + q < j → z.getD j 0 = 0) ∧ z.getD (i + q) 0 < 2 ^ r ∧ σ' = upd σ g ⟨z.map u, a.length + q + 1⟩ ∧
    env = [(1, .w (.int .i64 k)), (5, .w (.slice (some ⟨g, 0, none⟩) (a.length + q + 1) (a.length + q + 1))), (18, nat a), (19, .w (.int .i64 a.length)), (20, .w (.int .i64 i))], Wk.here ⟨a.length, 0, List.replicate (a.length + q + 1) 0, rfl, by omega, by simp, W_replicate _, by simp [val, val_replicate], fun j _ => by simp [List.getD_eq_getElem?_getD, List.getElem?_replicate]; split <;> rfl, by
      have : (List.replicate (a.length + q + 1) 0).getD (0 + q) 0 = 0 := by simp [List.getD_eq_getElem?_getD, List.getElem?_replicate]; split <;> rfl
      rw [this]; exact Nat.pow_pos (by decide), by rw [← mk_u], rfl⟩, ?_⟩
  rintro m env σ' ⟨i, z, rfl, hi, hz, hw, hv, h0, ht, rfl, rfl⟩
  refine ⟨fun h => ?_, fun h => ?_⟩
  · have h : i < a.length := by have := of_decide_eq_true h; omega
    have hx := getD_lt wa i
    have hsh := shl_mod (a.getD i 0) (s := r) (by omega)
    have hpt := shl_parts (a.getD i 0) (s := r) (by omega)
    obtain ⟨x, hxe⟩ : ∃ x, x = a.getD i 0 := ⟨_, rfl⟩
    obtain ⟨lo, hlo⟩ : ∃ lo, lo = x % 2 ^ (64 - r) := ⟨_, rfl⟩
    obtain ⟨hi', hhi⟩ : ∃ hi', hi' = x / 2 ^ (64 - r) := ⟨_, rfl⟩
    obtain ⟨t, hte⟩ : ∃ t, t = z.getD (i + q) 0 := ⟨_, rfl⟩
    rw [← hxe, ← hlo] at hsh hpt
    rw [← hhi] at hpt
    rw [← hxe] at hx
    rw [← hte] at ht
    have hlolt : lo * 2 ^ r < 18446744073709551616 := by rw [← hsh]; exact Nat.mod_lt _ (by decide)
    have hhilt : hi' < 2 ^ r := by rw [hhi]; exact (Nat.div_lt_iff_lt_mul hp1).2 (by rw [two_split (by omega)]; exact hx)
    have hr2 : 2 ^ r ≤ 9223372036854775808 := Nat.pow_le_pow_right (n := 2) (by decide) (show r ≤ 63 by omega)
    have hor := wor' (by omega) hlolt ht
    have hsum : lo * 2 ^ r + t < 18446744073709551616 := by
      have h1 : lo < 2 ^ (64 - r) := by rw [hlo]; exact Nat.mod_lt _ hp1
      have h2 := Nat.mul_le_mul_right (2 ^ r) (show lo + 1 ≤ 2 ^ (64 - r) from h1)
      rw [Nat.add_mul, Nat.one_mul, Nat.mul_comm (2 ^ (64 - r)), two_split (by omega)] at h2
      omega
    have e64 : IntKind.i64.wrap (64 - (r : Int)) = (64 - r : Nat) := by rw [wi] <;> omega
    have hb : ∀ j, j < a.length + q + 1 → 0 + j * 1 + 1 ≤ (z.map u).length := fun j hj => by rw [List.length_map]; omega
    have e35 : IntKind.u64.wrap (((a.getD i 0 : Nat) : Int) * 2 ^ (min ((r : Nat) : Int).toNat IntKind.u64.bits)) = (lo * 2 ^ r : Nat) := by rw [← hxe, wshlv x (k := r) (by omega), hsh]
    have e48 : ((a.getD i 0 : Nat) : Int).fdiv (2 ^ (min ((64 - r : Nat) : Int).toNat IntKind.u64.bits)) = (hi' : Nat) := by rw [← hxe, wshrv x (k := 64 - r) (by omega), hhi]
    rw [hte] at hor
    refine ⟨i, rfl, h, _, hd1 0 h, by decide, q, eq, (i + q : Nat), by rw [wi] <;> omega, i + q, rfl, by show i + q < a.length + q + 1; omega, _, upd_same _ _ _, _, hd0 0 (by omega), by decide, r, er, by omega, (lo * 2 ^ r : Nat), e35, (lo * 2 ^ r + z.getD (i + q) 0 : Nat), hor, i + q, rfl, by show i + q < a.length + q + 1; omega, _, upd_same _ _ _, hb _ (by omega), _, stu0 (by omega), ?_⟩
    refine ⟨by decide, q, eq, (i + q : Nat), by rw [wi] <;> omega, (i + q + 1 : Nat), by rw [wi] <;> omega, by decide, r, er, (64 - r : Nat), e64, by omega, hi', e48, i + q + 1, rfl, by show i + q + 1 < a.length + q + 1; omega, _, upd_same _ _ _, by rw [List.length_map, List.length_set, hz]; omega, _, stu0 (by rw [List.length_set]; omega), (i + 1 : Nat), by rw [wi] <;> omega,
      Wk.here ⟨a.length - (i + 1), by omega, i + 1, (z.set (i + q) (lo * 2 ^ r + z.getD (i + q) 0)).set (i + q + 1) hi', rfl, by omega, by rw [List.length_set, List.length_set]; exact hz, W_set (W_set hw _ _ (by rw [← hte]; exact hsum)) _ _ (by omega), ?_, ?_, ?_, rfl, rfl⟩⟩
    · have v1 := val_set (l := z) (k := i + q) (by omega) (lo * 2 ^ r + z.getD (i + q) 0)
      have v2 := val_set (l := z.set (i + q) (lo * 2 ^ r + z.getD (i + q) 0)) (k := i + q + 1) (by rw [List.length_set]; omega) hi'
      rw [getD_set_other (by omega), h0 (i + q + 1) (by omega)] at v2
      rw [val_take_succ, ← hxe, Nat.add_mul, Nat.mul_assoc, ← hpt, Nat.mul_add, ← hv]
      rw [Nat.pow_succ] at v2
      exact left_step (by rw [Nat.pow_add, Nat.mul_comm]) v1 v2
    · intro j hj
      rw [getD_set_other (by omega), getD_set_other (by omega)]; exact h0 j (by omega)
    · rw [show i + 1 + q = i + q + 1 by omega, getD_set_self (by rw [List.length_set]; omega)]; exact hhilt
  · have h : ¬ i < a.length := by have := of_decide_eq_false h; omega
    obtain rfl : i = a.length := by omega
    rw [List.take_length] at hv
    have ht' := trim_own (gl := gl) (σ := upd σ g ⟨z.map u, a.length + q + 1⟩) (b := g) (l := z) (c := a.length + q + 1) (upd_same _ _ _) rfl (by omega) (by omega) hw
    rw [hz] at ht'
    refine CallVC.here ht' ?_
    rintro v σ' ⟨rfl, rfl⟩
    refine Ret.here ?_
    have := owns_strip' (σ := σ) (b := g) (n := a.length + q + 1) hg hw (by omega)
    have e : strip z = limbs (val a * 2 ^ k) := by
      unfold strip; rw [hv, hkqr, Nat.mul_left_comm]
    rw [e] at this ⊢
    exact this
end Go.Proofs.Ytoidllhkhljlaaa.Nat
namespace Go.Ab.Nn
theorem val_drop {l : List Nat} (h : W l) (k : Nat) : val (l.drop k) = val l / 18446744073709551616 ^ k := by
  by_cases hk : k ≤ l.length
  · have h1 := val_append (l.take k) (l.drop k)
    rw [List.take_append_drop, List.length_take, Nat.min_eq_left hk] at h1
    have h2 := W_getD_take h k
    rw [h1, Nat.add_mul_div_left _ _ (Nat.pow_pos (by decide)), Nat.div_eq_of_lt h2, Nat.zero_add]
  · rw [List.drop_eq_nil_of_le (by omega), Nat.div_eq_of_lt]
    · rfl
    · exact Nat.lt_of_lt_of_le (val_lt h) (Nat.pow_le_pow_right (by decide) (by omega))
theorem right_step {V Z P B z c0 p2 b' : Nat} (x : Nat) (h : Z * p2 + c0 = V + P * (x % p2)) (hz : z * p2 + x % p2 = x + B * b') : (Z + P * z) * p2 + c0 = V + P * x + P * B * b' := by
  have h2 := congrArg (P * ·) hz
  simp only [Nat.mul_add] at h2
  rw [Nat.add_mul, Nat.mul_assoc P z, Nat.mul_assoc P B]
  omega
end Go.Ab.Nn
namespace Go.Proofs.Ytoidllhkhljlaaa.Nat
open Go Go.Ab Go.Ab.Nn
set_option linter.unusedVariables false
set_option maxRecDepth 8000
variable {gl : Nat → Option (List AV)} {σ : Own}

theorem nat_drop (a : List Nat) (q : Nat) : AV.fs (((a.map u).drop (q * 1)).take ((a.length - q) * 1)) (a.length - q) = nat (a.drop q) := by
  unfold nat
  rw [Nat.mul_one, Nat.mul_one, ← List.map_drop, ← List.map_take, List.take_of_length_le (by simp), List.length_drop]

theorem right_spec (a : List Nat) (k : Nat) (wa : W a) (hl : a.length < 1099511627775) (hk : k < 9223372036854775808) : ACalls P gl F_nat_right [nat a, .w (.int .i64 k)] σ (Owns σ (limbs (val a / 2 ^ k))) := by
  refine C_nat_right.calls hm ?_
  obtain ⟨q, hq⟩ : ∃ q, q = k / 64 := ⟨_, rfl⟩
  obtain ⟨r, hr⟩ : ∃ r, r = k % 64 := ⟨_, rfl⟩
  have hr64 : r < 64 := by omega
  have eq : IntKind.i64.wrap ((k : Int).tdiv 64) = (q : Nat) := by rw [hq]; exact wquoi k (y := 64) hk
  have er : (k : Int).tmod 64 = (r : Nat) := by rw [hr]; exact wrem k 64
  have hkqr : 2 ^ k = 18446744073709551616 ^ q * 2 ^ r := by
    rw [show 18446744073709551616 = 2 ^ 64 from rfl, ← Nat.pow_mul, ← Nat.pow_add, show 64 * q + r = k by omega]
  refine ⟨by decide, q, eq, ⟨fun h => ?_, fun h => ?_⟩⟩
  · have h : a.length ≤ q := by have := of_decide_eq_true h; omega
    refine Ret.here (.inl ⟨?_, rfl, rfl⟩)
    rw [hkqr, ← Nat.div_div_eq_div_mul, ← val_drop wa, List.drop_eq_nil_of_le h]
    simp [val, limbs_zero]
  have h : q < a.length := by have := of_decide_eq_false h; omega
  have wb := W_drop wa q
  have hvb := val_drop wa q
  have hbl : (a.drop q).length = a.length - q := List.length_drop
  have hcl : ACalls P gl F_slices_Clone [AV.fs (((a.map u).drop (q * 1)).take ((a.length - q) * 1)) (a.length - q)] σ (Fresh σ (a.drop q)) := by
    rw [nat_drop]; exact clone_fresh _ (by omega)
  refine ⟨by decide, q, eq, q, a.length, rfl, rfl, by omega, by omega, CallVC.here hcl ?_⟩
  generalize a.drop q = b at *
  have hpos : 0 < b.length := by omega
  rintro v σ' (⟨h, _⟩ | ⟨h, _⟩ | ⟨g, c, cc, hg, rfl, hc, hcc, rfl⟩)
  · rw [h] at hpos; simp at hpos
  · rw [h] at hpos; simp at hpos
  have hp0 : 0 < 2 ^ r := Nat.pow_pos (by decide)
  refine ⟨fun m env σ' => ∃ i z, m = b.length - i ∧ i ≤ b.length ∧ z.length = b.length ∧ W z ∧ val (z.take i) * 2 ^ r + b.getD 0 0 % 2 ^ r = val (b.take i) + 18446744073709551616 ^ i * (b.getD i 0 % 2 ^ r) ∧ z.drop i = b.drop i ∧ σ' = upd σ g ⟨z.map u, cc⟩ ∧
    env = [(1, .w (.int .i64 k)), (5, .w (.slice (some ⟨g, 0, none⟩) b.length c)), (18, .w (.int .i64 b.length)), (19, .w (.int .i64 i))], Wk.here ⟨b.length, 0, b, rfl, by omega, rfl, wb, by simp [val], rfl, rfl, rfl⟩, ?_⟩
  rintro m env σ' ⟨i, z, rfl, hi, hz, hw, hv, hd, rfl, rfl⟩
  refine ⟨fun h => ?_, fun h => ?_⟩
  · have hlt : i < b.length := by have := of_decide_eq_true h; omega
    have hget : ∀ j, i ≤ j → z.getD j 0 = b.getD j 0 := fun j hj => by
      have := congrArg (fun l => l[j - i]?) hd
      simp only [List.getElem?_drop] at this
      rw [show i + (j - i) = j by omega] at this
      rw [List.getD_eq_getElem?_getD, List.getD_eq_getElem?_getD, this]
    have hx := getD_lt wb i
    have hy := getD_lt wb (i + 1)
    have e28 : ((z.getD i 0 : Nat) : Int).fdiv (2 ^ (min ((r : Nat) : Int).toNat IntKind.u64.bits)) = (b.getD i 0 / 2 ^ r : Nat) := by rw [hget i (by omega)]; exact wshrv _ (by omega)
    have hlo : b.getD i 0 / 2 ^ r < 2 ^ (64 - r) := (Nat.div_lt_iff_lt_mul hp0).2 (by rw [Nat.mul_comm, two_split (by omega)]; exact hx)
    have h64 : 2 ^ (64 - r) ≤ 18446744073709551616 := Nat.pow_le_pow_right (n := 2) (by decide) (show 64 - r ≤ 64 by omega)
    have hb1 : 0 + i * 1 + 1 ≤ (z.map u).length := by rw [List.length_map]; omega
    have hdm := Nat.div_add_mod (b.getD i 0) (2 ^ r)
    have hd' : ∀ w : Nat, (z.set i w).drop (i + 1) = b.drop (i + 1) := fun w => by
      rw [List.drop_set_of_lt (by omega), ← List.drop_drop, ← List.drop_drop, hd]
    have hhi : b.getD (i + 1) 0 % 2 ^ r * 2 ^ (64 - r) < 18446744073709551616 := by
      have := Nat.mul_lt_mul_of_pos_right (Nat.mod_lt (b.getD (i + 1) 0) hp0) (Nat.pow_pos (n := 64 - r) (show 0 < 2 by decide))
      rwa [two_split (by omega)] at this
    have hsum : b.getD (i + 1) 0 % 2 ^ r * 2 ^ (64 - r) + b.getD i 0 / 2 ^ r < 18446744073709551616 := by
      have h1 := Nat.mul_le_mul_right (2 ^ (64 - r)) (show b.getD (i + 1) 0 % 2 ^ r + 1 ≤ 2 ^ r from Nat.mod_lt _ hp0)
      rw [Nat.add_mul, Nat.one_mul, two_split (by omega)] at h1
      omega
    have hs0 := fun w : Nat => stu0 (σ := σ) (b := g) (cap := cc) (i := i) (z := w) (l := z) (by omega)
    refine ⟨i, rfl, by show i < b.length; omega, _, upd_same _ _ _, _, hd0 0 (by omega), by decide, r, er, by omega, _, e28, i, rfl, by show i < b.length; omega, _, upd_same _ _ _, hb1, _, hs0 _, (i + 1 : Nat), by rw [wi] <;> omega, ?_⟩
    refine have key : ∀ (w : Nat), w < 18446744073709551616 → w * 2 ^ r + b.getD i 0 % 2 ^ r = b.getD i 0 + 18446744073709551616 * (b.getD (i + 1) 0 % 2 ^ r) → vc (cx P gl) S_nat_right_j1 _ [(1, .w (.int .i64 k)), (5, .w (.slice (some ⟨g, 0, none⟩) b.length c)), (18, .w (.int .i64 b.length)), (19, .w (.int .i64 i))] (upd σ g ⟨(z.set i w).map u, cc⟩) := ?_
      ⟨fun h2 => have h2 : i + 1 < b.length := (by have := of_decide_eq_true h2; omega)
        ⟨i, rfl, (by show i < b.length; omega), _, upd_same _ _ _, _, hd0 0 (by rw [List.length_set]; omega), (i + 1 : Nat), (by rw [wi] <;> omega), i + 1, rfl, (by show i + 1 < b.length; omega), _, upd_same _ _ _, _, hd0 0 (by rw [List.length_set]; omega), by decide, r, er, (64 - r : Nat), (by rw [wi] <;> omega), (by omega), _, rfl, (b.getD (i + 1) 0 % 2 ^ r * 2 ^ (64 - r) + b.getD i 0 / 2 ^ r : Nat), ?_, i, rfl, (by show i < b.length; omega), _, upd_same _ _ _, (by rw [List.length_map, List.length_set]; omega), _, ?_, Wk.here (key (b.getD (i + 1) 0 % 2 ^ r * 2 ^ (64 - r) + b.getD i 0 / 2 ^ r) ?_ ?_)⟩,
        fun h2 => Wk.here (key _ ?_ ?_)⟩
    · intro w hwl hws
      refine ⟨(i + 1 : Nat), by rw [wi] <;> omega, Wk.here ⟨b.length - (i + 1), by omega, i + 1, z.set i w, rfl, by omega, by rw [List.length_set]; exact hz, W_set hw _ _ hwl, ?_, hd' w, rfl, rfl⟩⟩
      rw [val_take_set (by omega), val_take_succ b, Nat.pow_succ]
      exact right_step _ hv hws
    · have e1 : (z.set i (b.getD i 0 / 2 ^ r)).getD (i + 1) 0 = b.getD (i + 1) 0 := by rw [getD_set_other (by omega), hget _ (by omega)]
      have e2 : (z.set i (b.getD i 0 / 2 ^ r)).getD i 0 = b.getD i 0 / 2 ^ r := getD_set_self (by omega) _
      rw [e1, e2, wshlv _ (show 64 - r ≤ 64 by omega), shl_mod _ (by omega), show 64 - (64 - r) = r by omega]
      exact wor' (by omega) hhi hlo
    · exact (stu0 (by rw [List.length_set]; omega)).trans (by rw [List.set_set])
    · exact hsum
    · rw [Nat.add_mul, Nat.mul_assoc, Nat.mul_comm (2 ^ (64 - r)), two_split (by omega), Nat.mul_comm (b.getD i 0 / 2 ^ r)]
      omega
    · have h3 : b.getD i 0 / 2 ^ r ≤ b.getD i 0 := Nat.div_le_self _ _
      omega
    · have h2 : ¬ i + 1 < b.length := by have := of_decide_eq_false h2; omega
      rw [show b.getD (i + 1) 0 = 0 by rw [List.getD_eq_getElem?_getD, List.getElem?_eq_none (by omega)]; rfl, Nat.zero_mod, Nat.mul_comm]
      omega
  · have h : ¬ i < b.length := by have := of_decide_eq_false h; omega
    obtain rfl : i = b.length := by omega
    rw [List.take_of_length_le (by omega), List.take_length, show b.getD b.length 0 = 0 by rw [List.getD_eq_getElem?_getD, List.getElem?_eq_none (Nat.le_refl _)]; rfl, Nat.zero_mod, Nat.mul_zero, Nat.add_zero] at hv
    have hlt := Nat.mod_lt (b.getD 0 0) hp0
    have hval : val z = val b / 2 ^ r := by
      rw [← hv, Nat.mul_comm, Nat.mul_add_div hp0, Nat.div_eq_of_lt hlt, Nat.add_zero]
    have ht := trim_own (gl := gl) (σ := upd σ g ⟨z.map u, cc⟩) (b := g) (l := z) (c := c) (upd_same _ _ _) rfl (by omega) (by omega) hw
    rw [hz] at ht
    refine CallVC.here ht ?_
    rintro v σ' ⟨rfl, rfl⟩
    refine Ret.here ?_
    have := owns_strip' (σ := σ) (b := g) (n := cc) hg hw (by omega)
    have e : strip z = limbs (val a / 2 ^ k) := by
      unfold strip; rw [hval, hvb, Nat.div_div_eq_div_mul, hkqr]
    rw [e] at this ⊢
    exact this
end Go.Proofs.Ytoidllhkhljlaaa.Nat
namespace Go.Ab.Nn
theorem drop_set_self {l : List Nat} {j : Nat} (h : j < l.length) (d : Nat) : (l.set j d).drop j = d :: l.drop (j + 1) := by
  rw [List.drop_eq_getElem_cons (by rw [List.length_set]; exact h), List.getElem_set_self, List.drop_set_of_lt (by omega)]
theorem drop_getD {l : List Nat} {j : Nat} (h : j < l.length) : l.drop j = l.getD j 0 :: l.drop (j + 1) := by
  rw [List.drop_eq_getElem_cons h, List.getD_eq_getElem?_getD, List.getElem?_eq_getElem h]; rfl
theorem divw_step {Z A r x y d r' B : Nat} (h : Z * y + r = A) (hd : d * y + r' = r * B + x) : (d + B * Z) * y + r' = x + B * A := by
  rw [← h, Nat.add_mul, Nat.mul_add B, Nat.mul_assoc, Nat.mul_comm B r]
  omega
end Go.Ab.Nn
namespace Go.Proofs.Ytoidllhkhljlaaa.Nat
open Go Go.Ab Go.Ab.Nn
set_option linter.unusedVariables false
set_option maxRecDepth 8000
variable {gl : Nat → Option (List AV)} {σ : Own}

theorem divWord_spec (a : List Nat) (y : Nat) (wa : W a) (hl : a.length < 1099511627775) (hy0 : 0 < y) (hy : y < 18446744073709551616) : ACalls P gl F_nat_divWord [nat a, u y] σ
    (fun v σ' => ∃ w, v = .tup [w, u (val a % y)] ∧ Owns σ (limbs (val a / y)) w σ') := by
  refine C_nat_divWord.calls hm ?_
  refine ⟨a.length, a.length, rfl, rfl, by omega, by omega, by omega, fun g hg => ?_⟩
  refine ⟨(a.length : Int) - 1, by rw [wi] <;> omega, ?_⟩
  refine ⟨fun k env σ' => ∃ z r, k ≤ a.length ∧ z.length = a.length ∧ W z ∧ r < y ∧ val (z.drop k) * y + r = val (a.drop k) ∧ σ' = upd σ g ⟨z.map u, a.length⟩ ∧
    env = [(0, nat a), (1, u y), (6, .w (.slice (some ⟨g, 0, none⟩) a.length a.length)), (7, u r), (8, .w (.int .i64 ((k : Int) - 1)))], Wk.here ⟨a.length, List.replicate a.length 0, 0, by omega, by simp, W_replicate _, hy0, by simp [val], by rw [← mk_u], rfl⟩, ?_⟩
  rintro k env σ' ⟨z, r, hk, hz, hw, hr, hv, rfl, rfl⟩
  refine ⟨fun h => ?_, fun h => ?_⟩
  · have h : (k : Int) - 1 ≥ 0 := of_decide_eq_true h
    obtain ⟨j, rfl⟩ : ∃ j, k = j + 1 := ⟨k - 1, by omega⟩
    have hx := getD_lt wa j
    have hq : (r * 18446744073709551616 + a.getD j 0) / y < 18446744073709551616 := by
      refine (Nat.div_lt_iff_lt_mul hy0).2 ?_
      have := Nat.mul_le_mul_right 18446744073709551616 (show r + 1 ≤ y from hr)
      rw [Nat.add_mul, Nat.one_mul, Nat.mul_comm y] at this
      omega
    have hdm := Nat.div_add_mod (r * 18446744073709551616 + a.getD j 0) y
    rw [Nat.mul_comm] at hdm
    refine ⟨j, by omega, by show j < a.length; omega, _, hd1 0 (by omega), CallVC.here (Div64_spec r (a.getD j 0) y hy hx hr) ?_⟩
    rintro v σ' ⟨rfl, rfl⟩
    refine ⟨_, rfl, _, rfl, j, by omega, by show j < a.length; omega, _, upd_same _ _ _, by rw [List.length_map]; omega, _, stu0 (by omega), (j : Int) - 1, by rw [wi] <;> omega,
      Wk.here ⟨j, by omega, z.set j ((r * 18446744073709551616 + a.getD j 0) / y), (r * 18446744073709551616 + a.getD j 0) % y, by omega, by rw [List.length_set]; exact hz, W_set hw _ _ hq, Nat.mod_lt _ hy0, ?_, rfl, rfl⟩⟩
    rw [drop_set_self (by omega), drop_getD (l := a) (by omega)]
    exact divw_step hv hdm
  · have h : ¬ (k : Int) - 1 ≥ 0 := of_decide_eq_false h
    obtain rfl : k = 0 := by omega
    rw [List.drop_zero, List.drop_zero] at hv
    have ht := trim_own (gl := gl) (σ := upd σ g ⟨z.map u, a.length⟩) (b := g) (l := z) (c := a.length) (upd_same _ _ _) rfl (by omega) (by omega) hw
    rw [hz] at ht
    refine CallVC.here ht ?_
    rintro v σ' ⟨rfl, rfl⟩
    have hq : val z = val a / y := by rw [← hv, Nat.mul_comm, Nat.mul_add_div hy0, Nat.div_eq_of_lt hr, Nat.add_zero]
    have hrr : val a % y = r := by rw [← hv, Nat.mul_comm, Nat.mul_add_mod, Nat.mod_eq_of_lt hr]
    refine Ret.here ⟨_, by rw [hrr], ?_⟩
    have := owns_strip' (σ := σ) (b := g) (n := a.length) hg hw (by omega)
    unfold strip at this ⊢
    rw [hq] at this ⊢
    exact this
end Go.Proofs.Ytoidllhkhljlaaa.Nat
namespace Go.Ab.Nn
/-- one limb of what a guess times a divisor takes away -/
theorem step_digit {q y x cy bo : Nat} (hq : q < 18446744073709551616) (hy : y < 18446744073709551616) (hx : x < 18446744073709551616) (hc : cy < 18446744073709551616) (hb : bo ≤ 1) :
    ∃ hi lo l2 c1 d b2 : Nat, q * y / 18446744073709551616 = hi ∧ q * y % 18446744073709551616 = lo ∧ (lo + cy) % 18446744073709551616 = l2 ∧ (lo + cy) / 18446744073709551616 = c1 ∧ hi + c1 < 18446744073709551616 ∧
      (x + 18446744073709551616 - l2 - bo) % 18446744073709551616 = d ∧ (if x < l2 + bo then 1 else 0) = b2 ∧ d < 18446744073709551616 ∧ b2 ≤ 1 ∧ d + q * y + cy + bo = x + 18446744073709551616 * (b2 + (hi + c1)) := by
  have hp : q * y ≤ 18446744073709551615 * 18446744073709551615 := Nat.mul_le_mul (by omega) (by omega)
  refine ⟨_, _, _, _, _, _, rfl, rfl, rfl, rfl, ?_, rfl, rfl, by omega, by split <;> omega, ?_⟩
  · generalize q * y = p at *; omega
  · generalize q * y = p at *; split <;> omega
theorem sub_top {x cy bo : Nat} (hx : x < 18446744073709551616) (hc : cy < 18446744073709551616) (hb : bo ≤ 1) :
    ∃ d b2 : Nat, (x + 18446744073709551616 - cy - bo) % 18446744073709551616 = d ∧ (if x < cy + bo then 1 else 0) = b2 ∧ d < 18446744073709551616 ∧ b2 ≤ 1 ∧ d + cy + bo = x + 18446744073709551616 * b2 := by
  refine ⟨_, _, rfl, rfl, by omega, by split <;> omega, ?_⟩
  split <;> omega
theorem take_step {V' V W' P Pi Bj B x d k k' q y T : Nat} (e : P = Pi * Bj) (h1 : V' + P * x = V + P * d) (h2 : V + Pi * (q * T) = W' + P * k) (hs : d + q * y + k = x + B * k') : V' + Pi * (q * (T + Bj * y)) = W' + P * B * k' := by
  have h3 := congrArg (P * ·) hs
  simp only [Nat.mul_add] at h3
  have h4 : Pi * (q * (Bj * y)) = P * (q * y) := by subst e; simp only [Nat.mul_left_comm, Nat.mul_comm]
  rw [Nat.mul_add q, Nat.mul_add Pi, h4, Nat.mul_assoc P B]
  omega
theorem top_step {V' V W' P B x d k k' A : Nat} (h1 : V' + P * x = V + P * d) (h2 : V + A = W' + P * k) (hs : d + k = x + B * k') : V' + A = W' + P * B * k' := by
  have h3 := congrArg (P * ·) hs
  simp only [Nat.mul_add] at h3
  rw [Nat.mul_assoc P B]
  omega
theorem back_step {V' V W' P B x d k k' A y : Nat} (h1 : V' + P * x = V + P * d) (h2 : V + P * k = W' + A) (hs : d + B * k' = x + y + k) : V' + P * B * k' = W' + (A + P * y) := by
  have h3 := congrArg (P * ·) hs
  simp only [Nat.mul_add] at h3
  rw [Nat.mul_assoc P B]
  omega
theorem back_end {V' V C A Y P co : Nat} (hc : co ≤ 1) (h1 : V' + P * co = V + Y) (h2 : V + (A + Y) = C + P * 1) : V' + A = C + P * (1 - co) := by
  rcases (show co = 0 ∨ co = 1 by omega) with rfl | rfl
  · rw [Nat.mul_zero] at h1; rw [Nat.sub_zero]; omega
  · rw [Nat.sub_self, Nat.mul_zero]; omega
theorem val_lt_of_drop {l : List Nat} (h : W l) {k : Nat} (hd : val (l.drop k) = 0) : val l < 18446744073709551616 ^ k := by
  by_cases hk : k ≤ l.length
  · have h1 := val_append (l.take k) (l.drop k)
    rw [List.take_append_drop, List.length_take, Nat.min_eq_left hk, hd, Nat.mul_zero, Nat.add_zero] at h1
    rw [h1]; exact W_getD_take h k
  · exact Nat.lt_of_lt_of_le (val_lt h) (Nat.pow_le_pow_right (by decide) (by omega))
end Go.Ab.Nn
namespace Go.Proofs.Ytoidllhkhljlaaa.Nat
open Go Go.Ab Go.Ab.Nn
set_option linter.unusedVariables false
set_option maxRecDepth 8000
variable {gl : Nat → Option (List AV)} {σ : Own}

theorem stuo {σ : Own} {b cap o i z : Nat} {l : List Nat} (h : o + i < l.length) : upd (upd σ b ⟨l.map u, cap⟩) b ⟨(l.map u).take (o + i * 1) ++ [u z] ++ (l.map u).drop (o + i * 1 + 1), cap⟩ = upd σ b ⟨(l.set (o + i) z).map u, cap⟩ := stu h

theorem step_j1 {g cap i m gs : Nat} {c b : List Nat} (wb : W b) (hn : 0 < b.length) (hm : m = b.length + 1) (hlen : i + b.length + 1 ≤ c.length) (hcl : c.length < 1099511627776) (wc : W c) (hgs : gs < 18446744073709551616)
    (hge : val c / (18446744073709551616 ^ i * val b) ≤ gs) (hT : 0 < 18446744073709551616 ^ i * val b) (hup : val (c.drop (i + b.length + 1)) = 0) (R : AV → Own → Prop)
    (h : ∀ c' : List Nat, c'.length = c.length → W c' → val c' = val c % (18446744073709551616 ^ i * val b) → R (u (val c / (18446744073709551616 ^ i * val b))) (upd σ g ⟨c'.map u, cap⟩)) :
    vc (cx P gl) S_nat_step_j1 (retQ (Says gl) [4] R) [(0, .w (.slice (some ⟨g, i, none⟩) m m)), (1, nat b), (5, .w (.int .i64 b.length)), (6, u gs)] (upd σ g ⟨c.map u, cap⟩) := by
  refine ⟨fun k env σ' => ∃ j z cy bo, k = b.length - j ∧ j ≤ b.length ∧ z.length = c.length ∧ W z ∧ cy < 18446744073709551616 ∧ bo ≤ 1 ∧ val z + 18446744073709551616 ^ i * (gs * val (b.take j)) = val c + 18446744073709551616 ^ (i + j) * (bo + cy) ∧ z.drop (i + b.length + 1) = c.drop (i + b.length + 1) ∧ σ' = upd σ g ⟨z.map u, cap⟩ ∧
    env = [(0, .w (.slice (some ⟨g, i, none⟩) m m)), (1, nat b), (5, .w (.int .i64 b.length)), (6, u gs), (7, u bo), (8, u cy), (45, .w (.int .i64 b.length)), (46, .w (.int .i64 j))], Wk.here ⟨b.length, 0, c, 0, 0, rfl, by omega, rfl, wc, by omega, by omega, by simp [val], rfl, rfl, rfl⟩, ?_⟩
  rintro k env σ' ⟨j, z, cy, bo, rfl, hj, hz, hw, hcy, hbo, hv, hd, rfl, rfl⟩
  refine ⟨fun h1 => ?_, fun h1 => ?_⟩
  · have h1 : j < b.length := by have := of_decide_eq_true h1; omega
    obtain ⟨hi, lo, l2, c1, d, b2, e1, e2, e3, e4, hb1, e5, e6, hdl, hb2, hsum⟩ := step_digit hgs (getD_lt wb j) (getD_lt hw (i + j)) hcy hbo
    have hM := fun σ => Mul64_spec (gl := gl) (σ := σ) gs (b.getD j 0) hgs (getD_lt wb j)
    have hA := fun σ => Add64_spec (gl := gl) (σ := σ) lo cy 0 (by omega)
    have hS := fun σ => Sub64_spec (gl := gl) (σ := σ) (z.getD (i + j) 0) l2 bo hbo
    simp only [e1, e2, Nat.add_zero, e3, e4, e5, e6] at hM hA hS
    refine ⟨j, rfl, h1, _, hd1 0 h1, CallVC.here (hM _) ?_⟩
    rintro v σ' ⟨rfl, rfl⟩
    refine ⟨_, rfl, _, rfl, CallVC.here (hA _) ?_⟩
    rintro v σ' ⟨rfl, rfl⟩
    refine ⟨_, rfl, _, rfl, _, wadd' hb1, j, rfl, by show j < m; omega, _, upd_same _ _ _, _, hd' 0 (by omega), CallVC.here (hS _) ?_⟩
    rintro v σ' ⟨rfl, rfl⟩
    refine ⟨_, rfl, _, rfl, j, rfl, by show j < m; omega, _, upd_same _ _ _, by rw [List.length_map]; omega, _, stuo (by omega), (j + 1 : Nat), by rw [wi] <;> omega,
      Wk.here ⟨b.length - (j + 1), by omega, j + 1, z.set (i + j) d, hi + c1, b2, rfl, by omega, by rw [List.length_set]; exact hz, W_set hw _ _ hdl, hb1, hb2, ?_, ?_, rfl, rfl⟩⟩
    · rw [val_take_succ, ← Nat.add_assoc, Nat.pow_succ]
      exact take_step (Nat.pow_add _ _ _) (val_set (by omega) d) hv (by omega)
    · rw [List.drop_set_of_lt (by omega)]; exact hd
  · have h1 : ¬ j < b.length := by have := of_decide_eq_false h1; omega
    obtain rfl : j = b.length := by omega
    rw [List.take_length] at hv
    obtain ⟨d, b2, e5, e6, hdl, hb2, hsum⟩ := sub_top (getD_lt hw (i + b.length)) hcy hbo
    have hS := fun σ => Sub64_spec (gl := gl) (σ := σ) (z.getD (i + b.length) 0) cy bo hbo
    simp only [e5, e6] at hS
    refine ⟨b.length, rfl, by show b.length < m; omega, _, upd_same _ _ _, _, hd' 0 (by omega), CallVC.here (hS _) ?_⟩
    rintro v σ' ⟨rfl, rfl⟩
    refine ⟨_, rfl, _, rfl, b.length, rfl, by show b.length < m; omega, _, upd_same _ _ _, by rw [List.length_map]; omega, _, stuo (by omega), ?_⟩
    refine ⟨fun k env σ' => ∃ x gq bo, k = gq - val c / (18446744073709551616 ^ i * val b) ∧ val c / (18446744073709551616 ^ i * val b) ≤ gq ∧ gq < 18446744073709551616 ∧ x.length = c.length ∧ W x ∧ bo ≤ 1 ∧ val x + 18446744073709551616 ^ i * (gq * val b) = val c + 18446744073709551616 ^ (i + b.length + 1) * bo ∧ x.drop (i + b.length + 1) = c.drop (i + b.length + 1) ∧ σ' = upd σ g ⟨x.map u, cap⟩ ∧
      env = [(0, .w (.slice (some ⟨g, i, none⟩) m m)), (1, nat b), (5, .w (.int .i64 b.length)), (6, u gq), (7, u bo)], Wk.here ⟨_, z.set (i + b.length) d, gs, b2, rfl, hge, hgs, by rw [List.length_set]; exact hz, W_set hw _ _ hdl, hb2, ?_, ?_, rfl, rfl⟩, ?_⟩
    · rw [Nat.pow_succ]
      exact top_step (val_set (by omega) d) hv (by omega)
    · rw [List.drop_set_of_lt (by omega)]; exact hd
    rintro k env σ' ⟨x, gq, bo, rfl, hq, hql, hx, hxw, hbo, hv, hd, rfl, rfl⟩
    have eT : 18446744073709551616 ^ i * (gq * val b) = gq * (18446744073709551616 ^ i * val b) := Nat.mul_left_comm _ _ _
    refine ⟨fun h2 => ?_, fun h2 => ?_⟩
    · have h2 : bo = 1 := by
        have : bo ≠ 0 := by simpa using h2
        omega
      subst h2
      have hlt := val_lt_of_drop hxw (k := i + b.length + 1) (by rw [hd]; exact hup)
      have hgt : val c / (18446744073709551616 ^ i * val b) < gq := (Nat.div_lt_iff_lt_mul hT).2 (by rw [← eT]; omega)
      have hgq1 : 1 ≤ gq := Nat.lt_of_le_of_lt (Nat.zero_le _) hgt
      have hdec : gq * val b = (gq - 1) * val b + val b := by
        rw [Nat.sub_mul, Nat.one_mul]
        have : 1 * val b ≤ gq * val b := Nat.mul_le_mul_right _ hgq1
        omega
      have hgw : IntKind.u64.wrap ((gq : Int) - 1) = (gq - 1 : Nat) := by rw [wu]; omega
      refine ⟨(gq - 1 : Nat), hgw, ?_⟩
      refine ⟨fun k env σ' => ∃ j z cy, k = b.length - j ∧ j ≤ b.length ∧ z.length = c.length ∧ W z ∧ cy ≤ 1 ∧ val z + 18446744073709551616 ^ (i + j) * cy = val x + 18446744073709551616 ^ i * val (b.take j) ∧ z.drop (i + b.length + 1) = c.drop (i + b.length + 1) ∧ σ' = upd σ g ⟨z.map u, cap⟩ ∧
        env = [(0, .w (.slice (some ⟨g, i, none⟩) m m)), (1, nat b), (5, .w (.int .i64 b.length)), (6, u (gq - 1)), (7, u 1), (13, u cy), (98, .w (.int .i64 b.length)), (99, .w (.int .i64 j))], Wk.here ⟨b.length, 0, x, 0, rfl, by omega, hx, hxw, by omega, by simp [val], hd, rfl, rfl⟩, ?_⟩
      rintro k env σ' ⟨j, z, cy, rfl, hj, hz, hw, hcy, hv2, hd2, rfl, rfl⟩
      refine ⟨fun h3 => ?_, fun h3 => ?_⟩
      · have h3 : j < b.length := by have := of_decide_eq_true h3; omega
        have hx1 := getD_lt hw (i + j)
        have hy1 := getD_lt wb j
        refine Wk.here ⟨j, rfl, by show j < m; omega, _, upd_same _ _ _, _, hd' 0 (by omega), j, rfl, h3, _, hd1 0 h3, CallQ.here (Add64_spec (z.getD (i + j) 0) (b.getD j 0) cy hcy) ?_⟩
        refine ⟨_, rfl, _, rfl, j, rfl, by show j < m; omega, _, upd_same _ _ _, by rw [List.length_map]; omega, _, stuo (by omega), (j + 1 : Nat), by rw [wi] <;> omega,
          Wk.here ⟨b.length - (j + 1), by omega, j + 1, z.set (i + j) ((z.getD (i + j) 0 + b.getD j 0 + cy) % 18446744073709551616), (z.getD (i + j) 0 + b.getD j 0 + cy) / 18446744073709551616, rfl, by omega, by rw [List.length_set]; exact hz, W_set hw _ _ (by omega), by omega, ?_, ?_, rfl, rfl⟩⟩
        · rw [val_take_succ, ← Nat.add_assoc i j 1, Nat.pow_succ, Nat.mul_add, ← Nat.mul_assoc, ← Nat.pow_add]
          exact back_step (val_set (by omega) _) hv2 (by omega)
        · rw [List.drop_set_of_lt (by omega)]; exact hd2
      · have h3 : ¬ j < b.length := by have := of_decide_eq_false h3; omega
        obtain rfl : j = b.length := by omega
        rw [List.take_length] at hv2
        have hx1 := getD_lt hw (i + b.length)
        have hA := fun σ => Add64_spec (gl := gl) (σ := σ) (z.getD (i + b.length) 0) 0 cy hcy
        simp only [Nat.add_zero] at hA
        refine ⟨b.length, rfl, by show b.length < m; omega, _, upd_same _ _ _, _, hd' 0 (by omega), CallVC.here (hA _) ?_⟩
        rintro v σ' ⟨rfl, rfl⟩
        have hv3 := back_step (y := 0) (B := 18446744073709551616) (k' := (z.getD (i + b.length) 0 + cy) / 18446744073709551616) (val_set (l := z) (k := i + b.length) (by omega) ((z.getD (i + b.length) 0 + cy) % 18446744073709551616)) hv2 (by omega)
        rw [← Nat.pow_succ, Nat.mul_zero, Nat.add_zero] at hv3
        have hco : (z.getD (i + b.length) 0 + cy) / 18446744073709551616 ≤ 1 := by omega
        refine ⟨_, rfl, _, rfl, b.length, rfl, by show b.length < m; omega, _, upd_same _ _ _, by rw [List.length_map]; omega, _, stuo (by omega), (1 - (z.getD (i + b.length) 0 + cy) / 18446744073709551616 : Nat), by rw [wu]; omega,
          Wk.here ⟨gq - 1 - val c / (18446744073709551616 ^ i * val b), by omega, z.set (i + b.length) ((z.getD (i + b.length) 0 + cy) % 18446744073709551616), gq - 1, 1 - (z.getD (i + b.length) 0 + cy) / 18446744073709551616, rfl, by omega, by omega, by rw [List.length_set]; exact hz, W_set hw _ _ (by omega), by omega, ?_, ?_, rfl, rfl⟩⟩
        · rw [hdec, Nat.mul_add] at hv
          exact back_end hco hv3 hv
        · rw [List.drop_set_of_lt (by omega)]; exact hd2
    · have h2 : bo = 0 := by simpa using h2
      subst h2
      rw [Nat.mul_zero, Nat.add_zero, eT] at hv
      have hqe : gq = val c / (18446744073709551616 ^ i * val b) := Nat.le_antisymm ((Nat.le_div_iff_mul_le hT).2 (by omega)) hq
      have hm := Nat.div_add_mod (val c) (18446744073709551616 ^ i * val b)
      rw [Nat.mul_comm, ← hqe] at hm
      refine Ret.here ?_
      have := h x hx hxw (by omega)
      rw [← hqe] at this
      exact this
end Go.Proofs.Ytoidllhkhljlaaa.Nat
namespace Go.Ab.Nn
/-- a list's value by its two top limbs below k -/
theorem top_two {c b : List Nat} {i n : Nat} (wc : W c) (hn : b.length = n + 1) (hup : val (c.drop (i + n + 2)) = 0) (hpre : val c < 18446744073709551616 ^ (i + 1) * val b) :
    val c / (18446744073709551616 ^ i * val b) ≤ 18446744073709551615 ∧ (0 < b.getD n 0 → val c / (18446744073709551616 ^ i * val b) ≤ (c.getD (i + n + 1) 0 * 18446744073709551616 + c.getD (i + n) 0) / b.getD n 0) := by
  have hY : 0 < val b := by
    rcases Nat.eq_zero_or_pos (val b) with h | h
    · rw [h, Nat.mul_zero] at hpre; omega
    · exact h
  have hp := Nat.pow_pos (n := i) (show 0 < 18446744073709551616 by decide)
  have hT : 0 < 18446744073709551616 ^ i * val b := Nat.mul_pos hp hY
  constructor
  · have : val c / (18446744073709551616 ^ i * val b) < 18446744073709551616 := by
      refine (Nat.div_lt_iff_lt_mul hT).2 ?_
      rw [Nat.pow_succ, Nat.mul_right_comm, Nat.mul_comm] at hpre
      exact hpre
    omega
  · intro hy
    have hvc : val c = val (c.take (i + n)) + 18446744073709551616 ^ (i + n) * c.getD (i + n) 0 + 18446744073709551616 ^ (i + n + 1) * c.getD (i + n + 1) 0 := by
      have h1 := val_append (c.take (i + n + 2)) (c.drop (i + n + 2))
      rw [List.take_append_drop, hup, Nat.mul_zero, Nat.add_zero] at h1
      rw [h1, show i + n + 2 = i + n + 1 + 1 from rfl, val_take_succ, val_take_succ]
    have hlow := W_getD_take wc (i + n)
    have hvb : 18446744073709551616 ^ n * b.getD n 0 ≤ val b := by
      have := val_take_succ b n
      rw [← hn, List.take_length] at this
      omega
    refine (Nat.le_div_iff_mul_le hy).2 ?_
    have h1 := Nat.div_mul_le_self (val c) (18446744073709551616 ^ i * val b)
    generalize val c / (18446744073709551616 ^ i * val b) = Q at *
    have h2 : Q * (18446744073709551616 ^ i * (18446744073709551616 ^ n * b.getD n 0)) ≤ val c := Nat.le_trans (Nat.mul_le_mul_left _ (Nat.mul_le_mul_left _ hvb)) h1
    rw [← Nat.mul_assoc (18446744073709551616 ^ i), ← Nat.pow_add, Nat.mul_left_comm, hvc, Nat.pow_succ, Nat.mul_assoc (18446744073709551616 ^ (i + n))] at h2
    have hP := Nat.pow_pos (n := i + n) (show 0 < 18446744073709551616 by decide)
    generalize 18446744073709551616 ^ (i + n) = P at *
    have h3 : P * (Q * b.getD n 0) < P * (c.getD (i + n + 1) 0 * 18446744073709551616 + c.getD (i + n) 0 + 1) := by
      rw [Nat.mul_add, Nat.mul_add, Nat.mul_one, Nat.mul_comm (c.getD (i + n + 1) 0)]
      omega
    have := Nat.lt_of_mul_lt_mul_left h3
    omega
end Go.Ab.Nn
namespace Go.Proofs.Ytoidllhkhljlaaa.Nat
open Go Go.Ab Go.Ab.Nn
set_option linter.unusedVariables false
set_option maxRecDepth 8000
variable {gl : Nat → Option (List AV)} {σ : Own}

theorem step_spec {g cap i m : Nat} {c b : List Nat} (wb : W b) (hn : 0 < b.length) (hmn : m = b.length + 1) (hlen : i + b.length + 1 ≤ c.length) (hcl : c.length < 1099511627776) (wc : W c) (hup : val (c.drop (i + b.length + 1)) = 0) (hpre : val c < 18446744073709551616 ^ (i + 1) * val b) :
    ACalls P gl F_nat_step [.w (.slice (some ⟨g, i, none⟩) m m), nat b] (upd σ g ⟨c.map u, cap⟩)
      (fun v σ' => ∃ c' : List Nat, v = u (val c / (18446744073709551616 ^ i * val b)) ∧ c'.length = c.length ∧ W c' ∧ val c' = val c % (18446744073709551616 ^ i * val b) ∧ σ' = upd σ g ⟨c'.map u, cap⟩) := by
  refine C_nat_step.calls hm ?_
  obtain ⟨n, hn1⟩ : ∃ n, b.length = n + 1 := ⟨b.length - 1, by omega⟩
  obtain ⟨h1, h2⟩ := top_two wc hn1 (by rw [show i + n + 2 = i + b.length + 1 by omega]; exact hup) hpre
  have hY : 0 < val b := by
    rcases Nat.eq_zero_or_pos (val b) with h | h
    · rw [h, Nat.mul_zero] at hpre; omega
    · exact h
  have hT : 0 < 18446744073709551616 ^ i * val b := Nat.mul_pos (Nat.pow_pos (by decide)) hY
  have fin := fun gs hgs hge => step_j1 (gl := gl) (σ := σ) (g := g) (cap := cap) (i := i) (m := m) (gs := gs) (c := c) (b := b) wb hn hmn hlen hcl wc hgs hge hT hup
    (fun v σ' => ∃ c' : List Nat, v = u (val c / (18446744073709551616 ^ i * val b)) ∧ c'.length = c.length ∧ W c' ∧ val c' = val c % (18446744073709551616 ^ i * val b) ∧ σ' = upd σ g ⟨c'.map u, cap⟩) (fun c' a1 a2 a3 => ⟨c', rfl, a1, a2, a3, rfl⟩)
  have hg : (c.getD (i + b.length) 0) = c.getD (i + n + 1) 0 := by rw [hn1]; rfl
  refine ⟨b.length, rfl, by show b.length < m; omega, _, upd_same _ _ _, _, hd' 0 (by omega), (n : Nat), by rw [wi] <;> omega, n, rfl, by omega, _, hd1 0 (by omega), ?_⟩
  refine ⟨fun h3 => ?_, fun h3 => ?_⟩
  · have h3 : c.getD (i + b.length) 0 < b.getD n 0 := by have := of_decide_eq_true h3; omega
    have hD := fun σ => Div64_spec (gl := gl) (σ := σ) (c.getD (i + b.length) 0) (c.getD (i + n) 0) (b.getD n 0) (getD_lt wb n) (getD_lt wc _) h3
    refine Wk.here ⟨b.length, rfl, by show b.length < m; omega, _, upd_same _ _ _, _, hd' 0 (by omega), (n : Nat), by rw [wi] <;> omega, n, rfl, by show n < m; omega, _, upd_same _ _ _, _, hd' 0 (by omega), (n : Nat), by rw [wi] <;> omega, n, rfl, by omega, _, hd1 0 (by omega), CallQ.here (hD _) ?_⟩
    refine ⟨_, rfl, _, rfl, Wk.here (fin _ ?_ ?_)⟩
    · refine (Nat.div_lt_iff_lt_mul (by omega)).2 ?_
      have := getD_lt wc (i + n)
      have h4 := Nat.mul_le_mul_right 18446744073709551616 (show c.getD (i + b.length) 0 + 1 ≤ b.getD n 0 from h3)
      rw [Nat.add_mul, Nat.one_mul, Nat.mul_comm (b.getD n 0)] at h4
      omega
    · rw [hg]; exact h2 (by omega)
  · exact Wk.here (fin 18446744073709551615 (by decide) h1)
end Go.Proofs.Ytoidllhkhljlaaa.Nat
namespace Go.Ab.Nn
theorem val_take_lt {l : List Nat} {k : Nat} (hv : val l < 18446744073709551616 ^ k) : val (l.take k) = val l := by
  by_cases hk : k ≤ l.length
  · have h1 := val_append (l.take k) (l.drop k)
    rw [List.take_append_drop, List.length_take, Nat.min_eq_left hk] at h1
    rcases Nat.eq_zero_or_pos (val (l.drop k)) with h0 | h0
    · rw [h0, Nat.mul_zero, Nat.add_zero] at h1; exact h1.symm
    · exfalso
      have := Nat.mul_le_mul_left (18446744073709551616 ^ k) h0
      omega
  · rw [List.take_of_length_le (by omega)]
theorem val_snoc_zero (l : List Nat) : val (l ++ [0]) = val l := by rw [val_append]; simp [val]
theorem div_step {V V' Z Y T P B qd M : Nat} (eT : T = P * Y) (h : V + P * B * (Z * Y) = M) (hd : T * qd + V' = V) : V' + P * ((qd + B * Z) * Y) = M := by
  rw [← h, ← hd, eT, Nat.add_mul, Nat.mul_add P, Nat.mul_assoc P Y, Nat.mul_comm Y qd, Nat.mul_assoc P B, Nat.mul_assoc B Z]
  omega
end Go.Ab.Nn
namespace Go.Ab
open Nn
theorem upd_comm {σ : Own} {a b : Nat} (h : a ≠ b) (x y : Ob) : upd (upd σ a x) b y = upd (upd σ b y) a x := by
  funext k; unfold upd; split <;> split <;> simp_all
theorem upd_two {σ : Own} {a b : Nat} (h : a ≠ b) (x x' y : Ob) : upd (upd (upd σ a x) b y) a x' = upd (upd σ a x') b y := by
  rw [upd_comm h, upd_upd, upd_comm (fun e => h e.symm)]
/-- one block gives way to another -/
theorem del_swap {σ : Own} {a b : Nat} {x : Ob} (ha : σ a = none) (hb : upd σ a x b = none) (y : Ob) : Del (upd (upd σ a x) b y) (upd σ b y) := fun k => by
  by_cases e : k = b
  · subst e; rw [upd_same, upd_same]; exact .inl rfl
  · rw [upd_ne _ e, upd_ne _ e]
    by_cases e2 : k = a
    · subst e2; exact .inr (.inl ha)
    · rw [upd_ne _ e2]; exact .inl rfl
theorem del_take {σ : Own} {b : Nat} (xs : List AV) (k c : Nat) : Del (upd σ b ⟨xs, c⟩) (upd σ b ⟨xs.take k, c⟩) := fun i => by
  by_cases e : i = b
  · subst e; exact .inr (.inr ⟨_, k, upd_same _ _ _, upd_same _ _ _⟩)
  · rw [upd_ne _ e, upd_ne _ e]; exact .inl rfl
end Go.Ab
namespace Go.Proofs.Ytoidllhkhljlaaa.Nat
open Go Go.Ab Go.Ab.Nn
set_option linter.unusedVariables false
set_option maxRecDepth 8000
variable {gl : Nat → Option (List AV)} {σ : Own}

/-- A list in a block of the call's own that may be longer. -/
def Grown (σ : Own) (l : List Nat) (v : AV) (σ' : Own) : Prop := ∃ b c ob, σ b = none ∧ v = .w (.slice (some ⟨b, 0, none⟩) l.length c) ∧ l.length ≤ c ∧ c ≤ ob.cap ∧ ob.xs.take l.length = l.map u ∧ σ' = upd σ b ob
theorem _root_.Go.Ab.Owns.grown {l : List Nat} {v : AV} {σ' : Own} (h : Owns σ l v σ') (hl : l ≠ []) : Grown σ l v σ' := by
  rcases h with h | h | h
  · exact absurd h.1 hl
  · exact absurd h.1 hl
  · exact h

theorem trim_fr (l : List Nat) (hw : W l) (hl : l.length < 1099511627776) : ACalls P gl F_nat_trim [nat l] σ (fun v σ' => v = .ff ((strip l).map u) (strip l).length ∧ σ' = σ) := by
  refine C_nat_trim.calls hm ?_
  refine ⟨fun m env σ' => σ' = σ ∧ env = [(0, nat l), (3, .w (.int .i64 m))] ∧ m ≤ l.length ∧ strip (l.take m) = strip l, Wk.here ⟨l.length, rfl, rfl, Nat.le_refl _, by rw [List.take_length]⟩, ?_⟩
  rintro m env σ' ⟨rfl, rfl, hml, hs⟩
  refine ⟨fun h1 => ?_, fun h1 => ?_⟩
  · have h1 : (m : Int) > 0 := of_decide_eq_true h1
    obtain ⟨m, rfl⟩ : ∃ k, m = k + 1 := ⟨m - 1, by omega⟩
    refine ⟨m, by rw [wi] <;> omega, m, rfl, by omega, _, hd1 0 (by omega), ?_⟩
    refine ⟨fun h2 => ?_, fun h2 => ?_⟩
    · refine ⟨m, by rw [wi] <;> omega, Wk.here ⟨m, by omega, rfl, rfl, by omega, ?_⟩⟩
      rw [← hs, strip_take_succ (by omega) (by simpa using h2)]
    · refine ⟨0, m + 1, rfl, rfl, by omega, by omega, rfl, Ret.here ⟨?_, rfl⟩⟩
      have : strip l = l.take (m + 1) := by rw [← hs]; exact strip_top hw (by omega) (by simpa using h2)
      have h3 : (strip l).length = m + 1 := by rw [this, List.length_take]; omega
      show AV.ff (List.take ((m + 1 - 0) * 1) (List.drop (0 * 1) (l.map u))) (m + 1 - 0) = .ff ((strip l).map u) (strip l).length
      rw [h3, this, List.map_take]; simp
  · have h1 : ¬ (m : Int) > 0 := of_decide_eq_false h1
    obtain rfl : m = 0 := by omega
    refine ⟨(fun h => by cases h), fun _ => ?_⟩
    refine ⟨0, 0, rfl, rfl, by omega, by omega, rfl, Ret.here ⟨?_, rfl⟩⟩
    rw [← hs]; simp [strip, val, limbs_zero]

/-- an appended zero: the list is longer by one, the rest of the own memory stands -/
theorem grow {l : List Nat} {v : AV} {σ' : Own} (hg : Grown σ l v σ') (hl : l.length < 1099511627775) (hw : W l) (K : AV → Own → Prop)
    (k : ∀ (b c : Nat) (ob : Ob), σ b = none → l.length + 1 ≤ c → c ≤ ob.cap → ob.xs.take (l.length + 1) = (l ++ [0]).map u → ∀ σ'', Del σ'' (upd σ b ob) → K (.w (.slice (some ⟨b, 0, none⟩) (l.length + 1) c)) σ'') :
    appR 1 8 v [.w (.int .u64 0)] 1 σ' K := by
  obtain ⟨b, c, ob, hb, rfl, hc, hcap, hx, rfl⟩ := hg
  have hxl : l.length ≤ ob.xs.length := by
    have := congrArg List.length hx
    rw [List.length_take, List.length_map] at this
    omega
  refine ⟨ob, upd_same _ _ _, by omega, by omega, hc, by omega, by omega, rfl, fun h => ?_, fun h b' c' hb' hc' => ?_⟩
  · refine k b c ⟨(ob.xs.take (0 + l.length * 1)) ++ [u 0] ++ ob.xs.drop (0 + (l.length + 1) * 1), ob.cap⟩ hb h hcap ?_ _ (by rw [upd_upd]; exact .refl)
    show ((ob.xs.take (0 + l.length * 1)) ++ [u 0] ++ ob.xs.drop (0 + (l.length + 1) * 1)).take (l.length + 1) = _
    rw [show 0 + l.length * 1 = l.length by omega, hx, List.take_left' (by simp), List.map_append]; rfl
  · have hne : b' ≠ b := fun e => by subst e; rw [upd_same] at hb'; cases hb'
    have hb2 : σ b' = none := by rwa [upd_ne _ hne] at hb'
    refine k b' c' ⟨(ob.xs.drop 0).take (l.length * 1) ++ [.w (.int .u64 0)], c' * 1⟩ hb2 hc' (by show c' ≤ c' * 1; omega) ?_ _ (del_swap hb hb' _)
    show ((ob.xs.drop 0).take (l.length * 1) ++ [u 0]).take (l.length + 1) = _
    rw [List.drop_zero, Nat.mul_one, hx, List.take_of_length_le (by simp), List.map_append]; rfl
end Go.Proofs.Ytoidllhkhljlaaa.Nat
namespace Go.Proofs.Ytoidllhkhljlaaa.Nat
open Go Go.Ab Go.Ab.Nn
set_option linter.unusedVariables false
set_option maxRecDepth 8000
variable {gl : Nat → Option (List AV)} {σ : Own}

theorem own_nat {σ σ' : Own} {b c cc : Nat} {l : List Nat} (hd : Del σ σ') (hb : σ b = some ⟨l.map u, cc⟩) (hn : σ' b = none) (hc : l.length ≤ c) : Sub gl σ σ' (.w (.slice (some ⟨b, 0, none⟩) l.length c)) (nat l) := by
  refine .own_fs hd hb hn (k := l.length) ?_ hc
  show Subs gl σ σ' (((l.map u).drop 0).take l.length) (l.map u)
  rw [List.drop_zero, List.take_of_length_le (by simp)]
  exact .refl hd _

theorem stu2 {σ : Own} {h b K i q : Nat} {z : List Nat} {X : Ob} (hne : h ≠ b) (hi : i < z.length) : upd (upd (upd σ h ⟨z.map u, K⟩) b X) h ⟨(z.map u).take (0 + i * 1) ++ [u q] ++ (z.map u).drop (0 + i * 1 + 1), K⟩ = upd (upd σ h ⟨(z.set i q).map u, K⟩) b X := by
  rw [upd_two hne, set1 _ hi]
theorem del_two {σ : Own} {h b : Nat} (hh : σ h = none) (hb : σ b = none) (x y : Ob) : Del (upd (upd σ h x) b y) σ := fun k => by
  by_cases e : k = b
  · subst e; exact .inr (.inl hb)
  · rw [upd_ne _ e]; exact del_upd x hh k

/-- quotient in new memory, remainder -/
def OwnsQ (σ : Own) (q r : Nat) (v : AV) (σ' : Own) : Prop := ∃ w, v = .tup [w, num r] ∧ Owns σ (limbs q) w σ'
theorem OwnsQ.sub {σ σ' : Own} {q r : Nat} {v : AV} (h : OwnsQ σ q r v σ') : Sub gl σ' σ v (.tup [num q, num r]) ∧ Del σ' σ := by
  obtain ⟨w, rfl, h⟩ := h
  exact ⟨.tup ⟨h.sub, .refl h.del _, trivial⟩, h.del⟩

theorem div_own (m n : Nat) (hn : 0 < n) (h1 : (limbs m).length < 274877906944) (h2n : (limbs n).length < 274877906944) : ACalls P gl F_nat_div [num m, num n] σ (OwnsQ σ (m / n) (m % n)) := by
  by_cases hlt : m < n
  · have hbig : (limbs n).length < 1099511627775 := by omega
    · refine C_nat_div.calls hm ?_
      refine CallVC.here (cmp_spec m n (by omega) (by omega)) ?_
      rintro v σ' ⟨rfl, rfl⟩
      refine ⟨fun _ => ?_, fun h => absurd (c3_lt0.2 hlt) (of_decide_eq_false h)⟩
      refine CallVC.here (clone_spec _ (by omega)).frozen ?_
      rintro v σ' ⟨rfl, rfl⟩
      refine Ret.here ⟨_, ?_, .inl ⟨?_, rfl, rfl⟩⟩
      · rw [Nat.mod_eq_of_lt hlt]; rfl
      · rw [Nat.div_eq_of_lt hlt, limbs_zero]
  have hlen := len_mono (show n ≤ m by omega)
  have hm0 : 0 < m := by omega
  refine C_nat_div.calls hm ?_
  refine CallVC.here (cmp_spec m n (by omega) (by omega)) ?_
  rintro v σ' ⟨rfl, rfl⟩
  refine ⟨fun h => absurd (c3_lt0.1 (of_decide_eq_true h)) hlt, fun _ => ?_⟩
  have hn0 : limbs n ≠ [] := fun e => by rw [limbs_eq_nil] at e; omega
  have hnl : 0 < (limbs n).length := List.length_pos_iff.2 hn0
  refine ⟨fun h => ?_, fun h => ?_⟩
  · have h : (limbs n).length = 1 := by
      have : ((limbs n).length : Int) = 1 := by simpa using h
      omega
    have hnB : n < 18446744073709551616 := by have := len_lt_pow n; rw [h, Nat.pow_one] at this; exact this
    have hget : (limbs n).getD 0 0 = n := by
      rw [limbs_pos (by omega), Nat.mod_eq_of_lt hnB]; rfl
    have hD := fun σ => divWord_spec (gl := gl) (σ := σ) (limbs m) n (W_limbs m) (by omega) hn hnB
    simp only [val_limbs] at hD
    refine ⟨0, rfl, by omega, _, hd1 0 (by omega), ?_⟩
    rw [hget]
    refine CallVC.here (hD _) ?_
    rintro v σ1 ⟨w, rfl, ho⟩
    refine ⟨_, rfl, _, rfl, CallVC.here (from_spec (m % n) (Nat.lt_trans (Nat.mod_lt _ hn) hnB)) ?_⟩
    rintro v σ2 ⟨rfl, rfl⟩
    exact Ret.here ⟨_, rfl, ho⟩
  obtain ⟨t, ht⟩ : ∃ t, (limbs n).length = t + 1 := ⟨(limbs n).length - 1, by omega⟩
  have htl := getD_lt (W_limbs n) t
  have ht0 : (limbs n).getD t 0 ≠ 0 := by
    have := mayB_limbs n
    rw [mayB_last (by omega), show (limbs n).length - 1 = t by omega] at this
    simpa using this
  refine ⟨t, by rw [wi] <;> omega, t, rfl, by omega, _, hd1 0 (by omega), CallVC.here (LZ_spec _ htl) ?_⟩
  rintro v σ' ⟨rfl, rfl⟩
  obtain ⟨s, hs⟩ : ∃ s, s = 64 - bl ((limbs n).getD t 0) := ⟨_, rfl⟩
  rw [← hs]
  have hbl : 0 < bl ((limbs n).getD t 0) := bl_lt.2 (by rw [Nat.pow_zero]; omega)
  have hs64 : s < 64 := by omega
  have hp0 : 0 < 2 ^ s := Nat.pow_pos (by decide)
  have hL := fun σ => (left_spec (gl := gl) (σ := σ) (limbs n) s (W_limbs n) (by omega) (by omega)).frozen
  have hX := fun σ => left_spec (gl := gl) (σ := σ) (limbs m) s (W_limbs m) (by omega) (by omega)
  simp only [val_limbs] at hL hX
  have hYl : (limbs (n * 2 ^ s)).length ≤ (limbs m).length + 1 := by
    have h2 := len_mul n (2 ^ s)
    have h3 : (limbs (2 ^ s)).length ≤ 1 := limbs_len_le (by rw [Nat.pow_one]; exact Nat.pow_lt_pow_right (a := 2) (by decide) (show s < 64 from hs64))
    omega
  have hXl : (limbs (m * 2 ^ s)).length ≤ (limbs m).length + 1 := by
    have h2 := len_mul m (2 ^ s)
    have h3 : (limbs (2 ^ s)).length ≤ 1 := limbs_len_le (by rw [Nat.pow_one]; exact Nat.pow_lt_pow_right (a := 2) (by decide) (show s < 64 from hs64))
    omega
  have hMY : n * 2 ^ s ≤ m * 2 ^ s := Nat.mul_le_mul_right _ (by omega)
  have hYX := len_mono hMY
  have hY0 : 0 < n * 2 ^ s := Nat.mul_pos hn hp0
  have hMn : limbs (m * 2 ^ s) ≠ [] := fun e => by
    rw [limbs_eq_nil] at e
    have := Nat.mul_pos hm0 hp0
    omega
  have hq : m * 2 ^ s / (n * 2 ^ s) = m / n := Nat.mul_div_mul_right _ _ hp0
  have hr : m * 2 ^ s % (n * 2 ^ s) / 2 ^ s = m % n := by rw [Nat.mul_mod_mul_right, Nat.mul_div_cancel _ hp0]
  generalize hM : m * 2 ^ s = M at *
  generalize hN : n * 2 ^ s = N at *
  refine CallVC.here (hL _) ?_
  rintro v σ' ⟨rfl, rfl⟩
  refine CallVC.here (hX _) ?_
  intro v σ1 hv
  have hg := Go.Ab.Owns.grown hv hMn
  refine ⟨by show 1 ≤ 1; omega, grow hg (by omega) (W_limbs M) _ ?_⟩
  intro b c ob hb hc hcap hx σ2 hd2
  have hlen0 : (limbs M ++ [0]).length = (limbs M).length + 1 := by simp
  refine ⟨fun k env σ'' => ∃ (l : List Nat) (b c : Nat) (ob : Ob), k = (limbs m).length + 1 - l.length ∧ l.length ≤ (limbs m).length + 2 ∧ (limbs N).length + 1 ≤ l.length ∧ W l ∧ val l = M ∧ val l < 18446744073709551616 ^ (l.length - 1) ∧ σ' b = none ∧ l.length ≤ c ∧ c ≤ ob.cap ∧ ob.xs.take l.length = l.map u ∧ σ'' = upd σ' b ob ∧
    env = [(0, num m), (8, .w (.int .i64 s)), (9, num N), (10, .w (.slice (some ⟨b, 0, none⟩) l.length c))],
    Wk.sub hd2 (.refl hd2 _) ⟨_, limbs M ++ [0], b, c, ob, rfl, by omega, by omega, W_append.2 ⟨W_limbs M, W_cons.2 ⟨by decide, W_nil⟩⟩, by rw [val_snoc_zero, val_limbs], by rw [val_snoc_zero, hlen0, val_limbs]; exact len_lt_pow M, hb, by omega, hcap, by rw [hlen0]; exact hx, rfl, by rw [hlen0]; rfl⟩, ?_⟩
  clear hv hg hx hc hcap hb hd2
  rintro k env σ'' ⟨l, b, c, ob, rfl, hl1, hl2, hw, hvl, hvp, hb, hc, hcap, hx, rfl, rfl⟩
  refine ⟨fun h => ?_, fun h => ?_⟩
  · have h : l.length ≤ (limbs m).length := by have := of_decide_eq_true h; omega
    refine ⟨by show 1 ≤ 1; omega, grow ⟨b, c, ob, hb, rfl, hc, hcap, hx, rfl⟩ (by omega) hw _ ?_⟩
    intro b c ob hb hc hcap hx σ2 hd2
    have hlen0 : (l ++ [0]).length = l.length + 1 := by simp
    exact Wk.sub hd2 (.refl hd2 _) ⟨_, by omega, l ++ [0], b, c, ob, rfl, by omega, by omega, W_append.2 ⟨hw, W_cons.2 ⟨by decide, W_nil⟩⟩, by rw [val_snoc_zero]; exact hvl, by rw [val_snoc_zero, hlen0]; exact Nat.lt_of_lt_of_le hvp (Nat.pow_le_pow_right (by decide) (by omega)), hb, by omega, hcap, by rw [hlen0]; exact hx, rfl, by rw [hlen0]⟩
  · clear h
    obtain ⟨K, hK⟩ : ∃ K, K = l.length - (limbs N).length := ⟨_, rfl⟩
    have hK0 : 0 < K := by omega
    refine ⟨(K : Nat), by rw [wi] <;> omega, K, K, rfl, rfl, by omega, by omega, by omega, fun h hh => ?_⟩
    have hne : b ≠ h := fun e => by subst e; rw [upd_same] at hh; cases hh
    have hh2 : σ' h = none := by rwa [upd_ne _ (fun e => hne e.symm)] at hh
    refine ⟨((K : Int) - 1), by rw [wi] <;> omega, ?_⟩
    have hNp : 18446744073709551616 ^ ((limbs N).length - 1) ≤ N := pow_le_of_len (by
      have : limbs N ≠ [] := fun e => by rw [limbs_eq_nil] at e; omega
      have := List.length_pos_iff.2 this
      omega)
    have hstart : val l < 18446744073709551616 ^ K * N := by
      refine Nat.lt_of_lt_of_le hvp (Nat.le_trans ?_ (Nat.mul_le_mul_left _ hNp))
      rw [← Nat.pow_add]
      exact Nat.pow_le_pow_right (by decide) (by omega)
    have hd2 : Del (upd (upd σ' b ob) h ⟨(List.range (K * 1)).map fun i => cAV ([Value.int .u64 0][i % [Value.int IntKind.u64 0].length]!), K * 1⟩) (upd (upd σ' h ⟨(List.replicate K 0).map u, K⟩) b ⟨l.map u, ob.cap⟩) := by
      rw [mk_u, upd_comm hne, ← hx]; exact del_take _ _ _
    refine ⟨fun k env σ'' => ∃ x z : List Nat, k ≤ K ∧ x.length = l.length ∧ W x ∧ z.length = K ∧ W z ∧ val x + 18446744073709551616 ^ k * (val (z.drop k) * N) = M ∧ val x < 18446744073709551616 ^ k * N ∧ σ'' = upd (upd σ' h ⟨z.map u, K⟩) b ⟨x.map u, ob.cap⟩ ∧
      env = [(4, .w (.slice (some ⟨h, 0, none⟩) K K)), (8, .w (.int .i64 s)), (9, num N), (10, .w (.slice (some ⟨b, 0, none⟩) l.length c)), (11, .w (.int .i64 ((k : Int) - 1)))],
      Wk.sub hd2 (.refl hd2 _) ⟨K, l, List.replicate K 0, by omega, rfl, hw, by simp, W_replicate _, by rw [List.drop_eq_nil_of_le (by simp)]; simp [val, hvl], hstart, rfl, rfl⟩, ?_⟩
    clear hd2 hstart hvp hvl hw
    rintro k env σ'' ⟨x, z, hk, hxl, hw, hzl, hzw, hv, hvl, rfl, rfl⟩
    refine ⟨fun h2 => ?_, fun h2 => ?_⟩
    · have h2 : (k : Int) - 1 ≥ 0 := of_decide_eq_true h2
      obtain ⟨i, rfl⟩ : ∃ i, k = i + 1 := ⟨k - 1, by omega⟩
      have hup : val (x.drop (i + (limbs N).length + 1)) = 0 := by
        rw [val_drop hw, Nat.div_eq_of_lt]
        refine Nat.lt_of_lt_of_le hvl ?_
        rw [show i + (limbs N).length + 1 = i + 1 + (limbs N).length by omega, Nat.pow_add 18446744073709551616 (i + 1) (limbs N).length]
        exact Nat.mul_le_mul_left _ (Nat.le_of_lt (len_lt_pow N))
      have hS := step_spec (gl := gl) (σ := upd σ' h ⟨z.map u, K⟩) (g := b) (cap := ob.cap) (i := i) (m := i + (limbs N).length + 1 - i) (c := x) (b := limbs N) (W_limbs N) (by
        have : limbs N ≠ [] := fun e => by rw [limbs_eq_nil] at e; omega
        exact List.length_pos_iff.2 this) (by omega) (by omega) (by omega) hw hup (by rw [val_limbs]; exact hvl)
      rw [val_limbs] at hS
      have eT : val x / (18446744073709551616 ^ i * N) < 18446744073709551616 := by
        refine (Nat.div_lt_iff_lt_mul (Nat.mul_pos (Nat.pow_pos (by decide)) hY0)).2 ?_
        rw [Nat.pow_succ, Nat.mul_right_comm, Nat.mul_comm] at hvl
        exact hvl
      refine ⟨(i + (limbs N).length : Nat), by rw [wi] <;> omega, (i + (limbs N).length + 1 : Nat), by rw [wi] <;> omega, (i + (limbs N).length : Nat), by rw [wi] <;> omega, (i + (limbs N).length + 1 : Nat), by rw [wi] <;> omega,
        i, i + (limbs N).length + 1, i + (limbs N).length + 1, by omega, rfl, rfl, by omega, by omega, by omega, i, fun _ => by omega, fun h => by omega, CallVC.here hS ?_⟩
      rintro v σ'' ⟨x', rfl, hx1, hx2, hx3, rfl⟩
      refine ⟨i, by omega, by show i < K; omega, _, (upd_ne _ (fun e => hne e.symm)).trans (upd_same _ _ _), by rw [List.length_map]; omega, _, stu2 (fun e => hne e.symm) (by omega), (i : Int) - 1, by rw [wi] <;> omega,
        Wk.here ⟨i, by omega, x', z.set i (val x / (18446744073709551616 ^ i * N)), by omega, by omega, hx2, by rw [List.length_set]; exact hzl, W_set hzw _ _ eT, ?_, ?_, rfl, rfl⟩⟩
      · rw [drop_set_self (by omega)]
        rw [Nat.pow_succ] at hv
        exact div_step rfl hv (by rw [hx3]; exact Nat.div_add_mod _ _)
      · rw [hx3]; exact Nat.mod_lt _ (Nat.mul_pos (Nat.pow_pos (by decide)) hY0)
    · have h2 : ¬ (k : Int) - 1 ≥ 0 := of_decide_eq_false h2
      obtain rfl : k = 0 := by omega
      rw [Nat.pow_zero, Nat.one_mul, List.drop_zero] at hv
      rw [Nat.pow_zero, Nat.one_mul] at hvl
      have hqz : val z = M / N := by rw [← hv, Nat.mul_comm, Nat.add_mul_div_left _ _ hY0, Nat.div_eq_of_lt hvl, Nat.zero_add]
      have hrx : val x = M % N := by rw [← hv, Nat.mul_comm, Nat.add_mul_mod_self_left, Nat.mod_eq_of_lt hvl]
      have hd3 : Del (upd (upd σ' h ⟨z.map u, K⟩) b ⟨x.map u, ob.cap⟩) (upd σ' h ⟨z.map u, K⟩) := del_upd _ ((upd_ne _ hne).trans hb)
      have hs10 : Sub gl (upd (upd σ' h ⟨z.map u, K⟩) b ⟨x.map u, ob.cap⟩) (upd σ' h ⟨z.map u, K⟩) (.w (.slice (some ⟨b, 0, none⟩) l.length c)) (nat x) := by
        have := own_nat (gl := gl) (c := c) (l := x) hd3 (upd_same _ _ _) ((upd_ne _ hne).trans hb) (by omega)
        rwa [hxl] at this
      refine Wk.sub (env' := [(4, .w (.slice (some ⟨h, 0, none⟩) K K)), (8, .w (.int .i64 s)), (9, num N), (10, nat x)]) hd3 ⟨.refl hd3 _, .refl hd3 _, .refl hd3 _, hs10, trivial⟩ ?_
      have hvt : val (x.take (limbs N).length) = M % N := by rw [val_take_lt (Nat.lt_trans hvl (len_lt_pow N)), hrx]
      have hcut : AV.ff (((x.map u).drop (0 * 1)).take (((limbs N).length - 0) * 1)) ((limbs N).length - 0) = .ff ((x.take (limbs N).length).map u) (x.take (limbs N).length).length := by
        rw [List.length_take, Nat.min_eq_left (by omega), List.map_take]; simp
      have htz := trim_own (gl := gl) (σ := upd σ' h ⟨z.map u, K⟩) (b := h) (l := z) (c := K) (upd_same _ _ _) rfl (by omega) (by omega) hzw
      rw [hzl] at htz
      refine CallQ.here htz ⟨0, (limbs N).length, rfl, rfl, by omega, by show _ ≤ x.length; omega, rfl, ?_⟩
      refine CallQ.sub (args' := [nat (x.take (limbs N).length)]) ⟨by rw [hcut]; exact .ff_fs .refl _ _, trivial⟩ (trim_fr _ (W_take hw _) (by rw [List.length_take]; omega)) ?_
      have hrl := strip_len (W_take hw (limbs N).length)
      rw [List.length_take] at hrl
      refine CallQ.sub (args' := [nat (strip (x.take (limbs N).length)), .w (.int .i64 s)]) ⟨.ff_fs .refl _ _, .refl .refl _, trivial⟩ (right_spec (strip (x.take (limbs N).length)) s (W_limbs _) (by omega) (by omega)).frozen ?_
      have hoz := owns_strip' (σ := σ') (b := h) (n := K) hh2 hzw (by omega)
      refine Ret.here ⟨.w (.slice (some ⟨h, 0, none⟩) (strip z).length (strip z).length), ?_, ?_⟩
      · rw [strip_val, hvt, hr]; rfl
      · unfold strip at hoz ⊢
        rw [hqz, hq] at hoz ⊢
        exact hoz
theorem div_spec (m n : Nat) (hn : 0 < n) (h1 : (limbs m).length < 274877906944) (h2n : (limbs n).length < 274877906944) : ACalls P gl F_nat_div [num m, num n] σ (fun v σ' => v = .tup [num (m / n), num (m % n)] ∧ σ' = σ) :=
  (div_own m n hn h1 h2n).sub fun v σ' ho => ⟨_, σ, (ho.sub (gl := gl)).2, ho.sub.1, rfl, rfl⟩
end Go.Proofs.Ytoidllhkhljlaaa.Nat
namespace Go.Proofs.Ytoidllhkhljlaaa.Nat
open Go Go.Ab Go.Ab.Nn
set_option linter.unusedVariables false
set_option maxRecDepth 8000
variable {gl : Nat → Option (List AV)} {σ : Own}

theorem no {P : Prop} {b : Bool} (e : b = false) (h : b = true) : P := by rw [e] at h; cases h
theorem yes {P : Prop} {b : Bool} (e : b = true) (h : b = false) : P := by rw [e] at h; cases h

theorem Cmp_num (m n : Nat) (h1 : (limbs m).length < 1099511627775) (h2 : (limbs n).length < 1099511627775) : ACalls P gl F_nat_Cmp [num m, num n] σ (fun v σ' => v = .w (.int .i64 (c3 m n)) ∧ σ' = σ) := by
  have := Cmp_spec (gl := gl) (σ := σ) (limbs m) (limbs n) (W_limbs m) (W_limbs n) (by omega) (by omega)
  rw [mayB_limbs, mayB_limbs, val_limbs, val_limbs, if_pos ⟨rfl, rfl⟩] at this
  exact this
theorem EqNum (m n : Nat) (h1 : (limbs m).length < 1099511627775) : ACalls P gl F_gaugeref0_EqNat [num m, num n] σ (fun v σ' => v = .w (.bool (decide (m = n))) ∧ σ' = σ) := by
  have := EqNat_spec (gl := gl) (σ := σ) (limbs m) (limbs n) (by omega)
  rw [show decide (limbs m = limbs n) = decide (m = n) from decide_eq_decide.2 ⟨limbs_inj, fun e => by rw [e]⟩] at this
  exact this
theorem SubE_spec (m n : Nat) (h1 : (limbs m).length < 1099511627775) (h2 : (limbs n).length < 1099511627775) : ACalls P gl F_nat_Sub [num m, num n] σ (fun v σ' => v = .tup [num (m - n), .w (.int .i64 (if n ≤ m then 0 else 11))] ∧ σ' = σ) :=
  (Sub_spec m n h1 h2).sub fun v σ' h => by
    by_cases hle : n ≤ m
    · rw [if_pos hle] at h
      exact ⟨_, σ, (h.sub (gl := gl)).2, h.sub.1, by rw [if_pos hle]; rfl, rfl⟩
    · rw [if_neg hle] at h
      obtain ⟨rfl, rfl⟩ := h
      exact ⟨_, _, .refl, .refl .refl _, by rw [if_neg hle, Nat.sub_eq_zero_of_le (by omega)], rfl⟩
end Go.Proofs.Ytoidllhkhljlaaa.Nat
namespace Go.Proofs.Ytoidllhkhljlaaa.Nat
open Go Go.Ab Go.Ab.Nn
set_option linter.unusedVariables false
set_option maxRecDepth 8000
variable {gl : Nat → Option (List AV)} {σ : Own}

theorem num_zero : num 0 = .fs [] 0 := by unfold num; rw [limbs_zero]; rfl
theorem DivMod_spec (m n : Nat) (hn : 0 < n) (h1 : (limbs m).length < 274877906944) (h2 : (limbs n).length < 274877906944) : ACalls P gl F_nat_DivMod [num m, num n] σ (fun v σ' => v = .tup [num (m / n), num (m % n), .w (.int .i64 0)] ∧ σ' = σ) := by
  refine C_nat_DivMod.calls hm ?_
  refine CallVC.here (good_num m (by omega)) ?_
  rintro v σ' ⟨rfl, rfl⟩
  refine ⟨fun _ => ?_, (fun h => by cases h)⟩
  refine CallVC.here (good_num n (by omega)) ?_
  rintro v σ' ⟨rfl, rfl⟩
  refine ⟨(fun h => by cases h), fun _ => ⟨fun h => ?_, fun _ => ?_⟩⟩
  · exfalso
    have : (limbs n).length = 0 := by simpa using h
    have := limbs_eq_nil.1 (List.eq_nil_of_length_eq_zero this)
    omega
  refine CallVC.here (div_spec m n hn h1 h2) ?_
  rintro v σ' ⟨rfl, rfl⟩
  exact ⟨_, rfl, _, rfl, Ret.here ⟨rfl, rfl⟩⟩
theorem DivMod_zero (m : Nat) (h1 : (limbs m).length < 274877906944) : ACalls P gl F_nat_DivMod [num m, num 0] σ (fun v σ' => v = .tup [num 0, num 0, .w (.int .i64 12)] ∧ σ' = σ) := by
  refine C_nat_DivMod.calls hm ?_
  refine CallVC.here (good_num m (by omega)) ?_
  rintro v σ' ⟨rfl, rfl⟩
  refine ⟨fun _ => ?_, (fun h => by cases h)⟩
  refine CallVC.here (good_num 0 (by rw [limbs_zero]; decide)) ?_
  rintro v σ' ⟨rfl, rfl⟩
  refine ⟨(fun h => by cases h), fun _ => ⟨fun h => ?_, fun h => ?_⟩⟩
  · exact Ret.sub .refl (.tup (ys := [.fs [] 0, .fs [] 0, .w (.int .i64 12)]) ⟨.nil_fs, .nil_fs, .refl .refl _, trivial⟩) ⟨by rw [num_zero], rfl⟩
  · exfalso
    have : (limbs 0).length ≠ 0 := by simpa using h
    rw [limbs_zero] at this; simp at this
theorem Gcd_spec (m n : Nat) (h1 : (limbs m).length < 274877906944) (h2 : (limbs n).length < 274877906944) : ACalls P gl F_nat_Gcd [num m, num n] σ (fun v σ' => v = NumE (Nat.gcd m n) ∧ σ' = σ) := by
  refine C_nat_Gcd.calls hm ?_
  refine CallVC.here (good_num m (by omega)) ?_
  rintro v σ' ⟨rfl, rfl⟩
  refine ⟨fun _ => ?_, (fun h => by cases h)⟩
  refine CallVC.here (good_num n (by omega)) ?_
  rintro v σ' ⟨rfl, rfl⟩
  refine ⟨(fun h => by cases h), fun _ => ?_⟩
  refine CallVC.here (clone_spec (limbs m) (by omega)).frozen ?_
  rintro v σ' ⟨rfl, rfl⟩
  refine CallVC.here (clone_spec (limbs n) (by omega)).frozen ?_
  rintro v σ' ⟨rfl, rfl⟩
  refine ⟨fun k env σ'' => ∃ a : Nat, Nat.gcd a k = Nat.gcd m n ∧ (limbs a).length < 274877906944 ∧ (limbs k).length < 274877906944 ∧ σ'' = σ' ∧ env = [(0, num a), (1, num k)], Wk.here ⟨n, m, rfl, h1, h2, rfl, rfl⟩, ?_⟩
  rintro k env σ'' ⟨a, hg, ha, hb, rfl, rfl⟩
  refine ⟨fun h => ?_, fun h => ?_⟩
  · have hk : 0 < k := by
      have h := of_decide_eq_true h
      rcases Nat.eq_zero_or_pos k with h0 | h0
      · subst h0; rw [limbs_zero] at h; simp at h
      · exact h0
    refine CallVC.here (div_spec a k hk ha hb) ?_
    rintro v σ' ⟨rfl, rfl⟩
    have hlt := Nat.mod_lt a hk
    refine ⟨_, rfl, _, rfl, Wk.here ⟨a % k, hlt, k, ?_, hb, by have := len_mono (Nat.le_of_lt hlt); omega, rfl, rfl⟩⟩
    rw [← hg, Nat.gcd_comm a k, Nat.gcd_rec k a, Nat.gcd_comm]
  · have hk : k = 0 := by
      have h := of_decide_eq_false h
      have : (limbs k).length = 0 := by omega
      exact limbs_eq_nil.1 (List.eq_nil_of_length_eq_zero this)
    subst hk
    refine Ret.here ⟨?_, rfl⟩
    rw [← hg, Nat.gcd_zero_right]; rfl
end Go.Proofs.Ytoidllhkhljlaaa.Nat
namespace Go.Proofs.Ytoidllhkhljlaaa.Nat
open Go Go.Ab Go.Ab.Nn
set_option linter.unusedVariables false
set_option maxRecDepth 8000
variable {gl : Nat → Option (List AV)} {σ : Own}

theorem May_spec (l : List Nat) (hl : l.length < 1099511627776) : ACalls P gl F_gaugeref1_May [nat l] σ (fun v σ' => v = .w (.bool (mayB l)) ∧ σ' = σ) := by
  refine C_gaugeref1_May.calls hm ?_
  refine ⟨fun h1 => ?_, fun h1 => ?_⟩
  · have h1 : l.length ≠ 0 := by
      intro e; rw [e] at h1; simp at h1
    refine ⟨((l.length - 1 : Nat) : Int), by rw [wi] <;> omega, l.length - 1, rfl, by omega, _, hd1 0 (by omega), Ret.here ⟨?_, rfl⟩⟩
    rw [mayB_last h1]
  · have h1 : l = [] := by simpa using h1
    subst h1
    exact Ret.here ⟨rfl, rfl⟩
theorem CopyNat_spec (a : List Nat) (ha : a.length < 1099511627776) : ACalls P gl F_gaugeref0_CopyNat [nat a] σ (Fresh σ a) := by
  refine C_gaugeref0_CopyNat.calls hm ?_
  refine ⟨by simp, rfl, rfl, fun h0 => ?_, fun h0 => ⟨by omega, by omega, fun b c hb hc => ?_⟩⟩
  · have h0 : a = [] := List.eq_nil_of_length_eq_zero h0
    exact Ret.here (.inl ⟨h0, rfl, rfl⟩)
  · refine Ret.here (.inr (.inr ⟨b, c, c, hb, rfl, hc, Nat.le_refl _, ?_⟩))
    rw [List.take_of_length_le (by simp), Nat.mul_one]
end Go.Proofs.Ytoidllhkhljlaaa.Nat
/-! Plain arithmetic of digits of 32 bits: as Ln1. -/
namespace Go.Ab.Hn
set_option linter.unusedVariables false

def W (l : List Nat) : Prop := ∀ x ∈ l, x < 4294967296
/-- The number that limbs say, the lowest first. -/
def val : List Nat → Nat
  | [] => 0
  | x :: l => x + 4294967296 * val l
/-- A number's limbs. -/
def limbs (n : Nat) : List Nat := if _h : n = 0 then [] else n % 4294967296 :: limbs (n / 4294967296)
termination_by n
decreasing_by exact Nat.div_lt_self (by omega) (by decide)

theorem limbs_zero : limbs 0 = [] := by rw [limbs]; simp
theorem limbs_pos {n : Nat} (h : n ≠ 0) : limbs n = n % 4294967296 :: limbs (n / 4294967296) := by rw [limbs]; simp [h]

theorem W_nil : W [] := by intro x hx; cases hx
theorem W_cons {x : Nat} {l : List Nat} : W (x :: l) ↔ x < 4294967296 ∧ W l := by simp [W]
theorem W_append {l m : List Nat} : W (l ++ m) ↔ W l ∧ W m := by
  simp only [W, List.mem_append]
  constructor
  · exact fun h => ⟨fun x hx => h x (.inl hx), fun x hx => h x (.inr hx)⟩
  · rintro ⟨h1, h2⟩ x (hx | hx)
    · exact h1 x hx
    · exact h2 x hx
theorem W_take {l : List Nat} (h : W l) (n : Nat) : W (l.take n) := fun x hx => h x (List.mem_of_mem_take hx)
theorem W_drop {l : List Nat} (h : W l) (n : Nat) : W (l.drop n) := fun x hx => h x (List.mem_of_mem_drop hx)
theorem W_replicate (n : Nat) : W (List.replicate n 0) := fun x hx => by rw [List.eq_of_mem_replicate hx]; omega

theorem W_limbs (n : Nat) : W (limbs n) := by
  induction n using Nat.strongRecOn with
  | _ n ih =>
    by_cases h : n = 0
    · rw [h, limbs_zero]; exact W_nil
    · rw [limbs_pos h, W_cons]
      exact ⟨by omega, ih _ (Nat.div_lt_self (by omega) (by decide))⟩
theorem val_limbs (n : Nat) : val (limbs n) = n := by
  induction n using Nat.strongRecOn with
  | _ n ih =>
    by_cases h : n = 0
    · rw [h, limbs_zero]; rfl
    · rw [limbs_pos h, val, ih _ (Nat.div_lt_self (by omega) (by decide))]
      omega
theorem limbs_inj {a b : Nat} (h : limbs a = limbs b) : a = b := by rw [← val_limbs a, ← val_limbs b, h]
theorem val_append (l m : List Nat) : val (l ++ m) = val l + 4294967296 ^ l.length * val m := by
  induction l with
  | nil => simp [val]
  | cons x l ih =>
    rw [List.cons_append, val, ih, val, List.length_cons, Nat.pow_succ]
    have : 4294967296 * (4294967296 ^ l.length * val m) = 4294967296 ^ l.length * 4294967296 * val m := by rw [← Nat.mul_assoc, Nat.mul_comm 4294967296]
    omega
theorem val_replicate (n : Nat) : val (List.replicate n 0) = 0 := by
  induction n with
  | zero => rfl
  | succ n ih => rw [List.replicate_succ, val, ih]
theorem val_lt {l : List Nat} (h : W l) : val l < 4294967296 ^ l.length := by
  induction l with
  | nil => simp [val]
  | cons x l ih =>
    rw [W_cons] at h
    have := ih h.2
    rw [val, List.length_cons, Nat.pow_succ]
    have h1 := h.1
    omega
/-- A number's limbs bear no 0 on top. -/
theorem limbs_top (n : Nat) : ∀ x, (limbs n).getLast? = some x → x ≠ 0 := by
  induction n using Nat.strongRecOn with
  | _ n ih =>
    intro x hx
    by_cases h : n = 0
    · rw [h, limbs_zero] at hx; cases hx
    · rw [limbs_pos h] at hx
      by_cases h2 : n / 4294967296 = 0
      · rw [h2, limbs_zero] at hx
        simp at hx
        omega
      · rw [List.getLast?_cons, limbs_pos h2] at hx
        have := ih (n / 4294967296) (Nat.div_lt_self (by omega) (by decide)) x
        rw [limbs_pos h2] at this
        apply this
        rw [List.getLast?_cons] at hx ⊢
        simpa using hx
theorem limbs_len_le {n k : Nat} (h : n < 4294967296 ^ k) : (limbs n).length ≤ k := by
  induction k generalizing n with
  | zero =>
    have : n = 0 := by simpa using h
    rw [this, limbs_zero]; simp
  | succ k ih =>
    by_cases h0 : n = 0
    · rw [h0, limbs_zero]; simp
    · rw [limbs_pos h0, List.length_cons]
      have : n / 4294967296 < 4294967296 ^ k := by
        rw [Nat.pow_succ] at h
        exact Nat.div_lt_of_lt_mul (by rw [Nat.mul_comm]; exact h)
      have := ih this
      omega
/-- Limbs without a 0 on top are their number's. -/
theorem limbs_val {l : List Nat} (h : W l) (ht : ∀ x, l.getLast? = some x → x ≠ 0) : limbs (val l) = l := by
  induction l with
  | nil => exact limbs_zero
  | cons x l ih =>
    rw [W_cons] at h
    have ht' : ∀ y, l.getLast? = some y → y ≠ 0 := by
      intro y hy
      apply ht y
      rw [List.getLast?_cons, hy]
      rfl
    have e := ih h.2 ht'
    have hne : val (x :: l) ≠ 0 := by
      rw [val]
      cases l with
      | nil =>
        have := ht x (by simp)
        have := h.1
        simp [val]
        omega
      | cons y l =>
        intro h0
        have h1 : val (y :: l) = 0 := by
          have : 4294967296 * val (y :: l) = 0 := by omega
          rcases Nat.mul_eq_zero.1 this with h | h
          · cases h
          · exact h
        rw [h1, limbs_zero] at e
        cases e
    have h1 := h.1
    have hx : ((x + 4294967296 * val l) % 4294967296 : Nat) = x := by
      rw [Nat.add_mul_mod_self_left, Nat.mod_eq_of_lt (by omega)]
    have hd : ((x + 4294967296 * val l) / 4294967296 : Nat) = val l := by
      rw [Nat.add_mul_div_left _ _ (by decide), Nat.div_eq_of_lt (by omega)]; omega
    rw [limbs_pos hne]
    simp only [val]
    rw [hx, hd, e]
/-- Without noughts on top. -/
def strip (l : List Nat) : List Nat := limbs (val l)
theorem strip_snoc_zero {l : List Nat} : strip (l ++ [0]) = strip l := by
  unfold strip
  rw [val_append]
  simp [val]
theorem strip_limbs (n : Nat) : strip (limbs n) = limbs n := by unfold strip; rw [val_limbs]
/-- May these limbs be a number's? -/
def May (l : List Nat) : Prop := ∀ x, l.getLast? = some x → x ≠ 0
theorem May_limbs (n : Nat) : May (limbs n) := limbs_top n
theorem eq_limbs {l : List Nat} (h : W l) (hm : May l) : l = limbs (val l) := (limbs_val h hm).symm
theorem limbs_eq_nil {n : Nat} : limbs n = [] ↔ n = 0 := by
  constructor
  · intro h
    rw [← val_limbs n, h]; rfl
  · rintro rfl; exact limbs_zero
theorem pow_le_of_len {n k : Nat} (h : k < (limbs n).length) : 4294967296 ^ k ≤ n := by
  apply Nat.le_of_not_lt
  intro h2
  have := limbs_len_le h2
  omega
theorem len_lt_pow (n : Nat) : n < 4294967296 ^ (limbs n).length := by
  have := val_lt (W_limbs n)
  rwa [val_limbs] at this
/-- More limbs, the greater number. -/
theorem lt_of_len {a b : Nat} (h : (limbs a).length < (limbs b).length) : a < b := by
  have h1 := len_lt_pow a
  have h2 := pow_le_of_len (n := b) (k := (limbs a).length) h
  omega
theorem len_mono {a b : Nat} (h : a ≤ b) : (limbs a).length ≤ (limbs b).length := by
  apply Nat.le_of_not_lt
  intro h2
  have := lt_of_len h2
  omega
theorem len_add (a b : Nat) : (limbs (a + b)).length ≤ max (limbs a).length (limbs b).length + 1 := by
  apply limbs_len_le
  have h1 := len_lt_pow a
  have h2 := len_lt_pow b
  have h3 : 4294967296 ^ (limbs a).length ≤ 4294967296 ^ max (limbs a).length (limbs b).length := Nat.pow_le_pow_right (by decide) (Nat.le_max_left _ _)
  have h4 : 4294967296 ^ (limbs b).length ≤ 4294967296 ^ max (limbs a).length (limbs b).length := Nat.pow_le_pow_right (by decide) (Nat.le_max_right _ _)
  rw [Nat.pow_succ]
  omega
theorem len_mul (a b : Nat) : (limbs (a * b)).length ≤ (limbs a).length + (limbs b).length := by
  apply limbs_len_le
  rw [Nat.pow_add]
  have h1 := len_lt_pow a
  have h2 := len_lt_pow b
  exact Nat.mul_lt_mul'' h1 h2
theorem strip_len {l : List Nat} (h : W l) : (strip l).length ≤ l.length := limbs_len_le (val_lt h)
theorem getD_lt {l : List Nat} (h : W l) (i : Nat) : l.getD i 0 < 4294967296 := by
  rw [List.getD_eq_getElem?_getD]
  by_cases hi : i < l.length
  · rw [List.getElem?_eq_getElem hi]; exact h _ (List.getElem_mem hi)
  · rw [List.getElem?_eq_none (by omega)]; decide
theorem take_succ_getD {l : List Nat} {i : Nat} (h : i < l.length) : l.take (i + 1) = l.take i ++ [l.getD i 0] := by
  rw [List.take_succ_eq_append_getElem h, List.getD_eq_getElem?_getD, List.getElem?_eq_getElem h]; rfl
theorem val_take_succ (l : List Nat) (i : Nat) : val (l.take (i + 1)) = val (l.take i) + 4294967296 ^ i * l.getD i 0 := by
  by_cases h : i < l.length
  · rw [take_succ_getD h, val_append, List.length_take, Nat.min_eq_left (by omega)]; simp [val]
  · rw [List.take_of_length_le (by omega), List.take_of_length_le (by omega), List.getD_eq_getElem?_getD, List.getElem?_eq_none (by omega)]; simp
theorem W_set {l : List Nat} (h : W l) (i v : Nat) (hv : v < 4294967296) : W (l.set i v) := fun x hx => by
  rcases List.mem_or_eq_of_mem_set hx with h1 | h1
  · exact h x h1
  · rw [h1]; exact hv
theorem take_set_succ {l : List Nat} {i : Nat} (h : i < l.length) (v : Nat) : (l.set i v).take (i + 1) = l.take i ++ [v] := by
  rw [take_succ_getD (by simpa using h), List.take_set_of_le (Nat.le_refl i)]
  simp [List.getD_eq_getElem?_getD, h]
theorem val_take_set {l : List Nat} {i : Nat} (h : i < l.length) (v : Nat) : val ((l.set i v).take (i + 1)) = val (l.take i) + 4294967296 ^ i * v := by
  rw [take_set_succ h, val_append, List.length_take, Nat.min_eq_left (by omega)]; simp [val]
theorem W_getD_take {l : List Nat} (h : W l) (i : Nat) : val (l.take i) < 4294967296 ^ i := by
  refine Nat.lt_of_lt_of_le (val_lt (W_take h i)) (Nat.pow_le_pow_right (by decide) ?_)
  rw [List.length_take]
  exact Nat.min_le_left _ _
theorem strip_val (l : List Nat) : val (strip l) = val l := by unfold strip; rw [val_limbs]
theorem take_strip {l : List Nat} (h : W l) : l.take (strip l).length = strip l := by
  induction l with
  | nil => simp [strip, val, limbs_zero]
  | cons x l ih =>
    rw [W_cons] at h
    have hv : val (x :: l) = x + 4294967296 * val l := rfl
    by_cases h0 : val (x :: l) = 0
    · unfold strip; rw [h0, limbs_zero]; rfl
    · have e : strip (x :: l) = x :: strip l := by
        unfold strip
        rw [limbs_pos h0, hv, Nat.add_mul_mod_self_left, Nat.mod_eq_of_lt h.1, Nat.add_mul_div_left _ _ (by decide), Nat.div_eq_of_lt h.1, Nat.zero_add]
      rw [e, List.length_cons, List.take_succ_cons, ih h.2]
theorem strip_take_succ {l : List Nat} {i : Nat} (h : i < l.length) (h0 : l.getD i 0 = 0) : strip (l.take (i + 1)) = strip (l.take i) := by
  unfold strip; rw [val_take_succ, h0]; simp
theorem strip_top {l : List Nat} (h : W l) {i : Nat} (hi : i < l.length) (h0 : l.getD i 0 ≠ 0) : strip (l.take (i + 1)) = l.take (i + 1) := by
  unfold strip
  refine limbs_val (W_take h _) (fun x hx => ?_)
  rw [take_succ_getD hi, List.getLast?_append] at hx
  simp at hx
  rw [← hx]; simpa [List.getD_eq_getElem?_getD] using h0
end Go.Ab.Hn

namespace Go.Ab.Hn
open Go.Ab
theorem val_set {l : List Nat} {k : Nat} (h : k < l.length) (v : Nat) : val (l.set k v) + 4294967296 ^ k * l.getD k 0 = val l + 4294967296 ^ k * v := by
  induction l generalizing k with
  | nil => simp at h
  | cons x l ih =>
    cases k with
    | zero => simp [val]; omega
    | succ k =>
      have := ih (k := k) (by simpa using h)
      simp only [List.set_cons_succ, val, List.getD_cons_succ, Nat.pow_succ]
      rw [Nat.mul_comm (4294967296 ^ k) 4294967296, Nat.mul_assoc, Nat.mul_assoc]
      omega
theorem val_snoc (l : List Nat) (x : Nat) : val (l ++ [x]) = val l + 4294967296 ^ l.length * x := by rw [val_append]; simp [val]
/-- the digits of words -/
def halves (l : List Nat) : List Nat := l.flatMap fun a => [a % 4294967296, a / 4294967296]
theorem halves_len (l : List Nat) : (halves l).length = 2 * l.length := by
  induction l with
  | nil => rfl
  | cons x l ih => simp only [halves, List.flatMap_cons, List.length_append, List.length_cons, List.length_nil] at *; omega
theorem halves_W {l : List Nat} (h : Nn.W l) : W (halves l) := by
  intro x hx
  simp only [halves, List.mem_flatMap] at hx
  obtain ⟨a, ha, hx⟩ := hx
  have := h a ha
  simp at hx
  omega
theorem halves_val (l : List Nat) : val (halves l) = Nn.val l := by
  induction l with
  | nil => rfl
  | cons x l ih =>
    have e : halves (x :: l) = x % 4294967296 :: x / 4294967296 :: halves l := rfl
    rw [e, val, val, ih, Nn.val]; omega
theorem halves_take (l : List Nat) {i : Nat} (h : i < l.length) : halves (l.take (i + 1)) = halves (l.take i) ++ [l.getD i 0 % 4294967296, l.getD i 0 / 4294967296] := by
  rw [Nn.take_succ_getD h]; simp [halves]
/-- words of digits -/
def join : List Nat → List Nat
  | [] => []
  | [x] => [x]
  | x :: y :: r => (x + 4294967296 * y) :: join r
theorem join_W : ∀ {l : List Nat}, W l → Nn.W (join l)
  | [], _ => Nn.W_nil
  | [x], h => by
    have := h x (by simp)
    intro y hy; simp [join] at hy; omega
  | x :: y :: r, h => by
    have h1 := h x (by simp)
    have h2 := h y (by simp)
    exact Nn.W_cons.2 ⟨by omega, join_W fun z hz => h z (by simp [hz])⟩
theorem join_val : ∀ l : List Nat, Nn.val (join l) = val l
  | [] => rfl
  | [x] => by simp [join, Nn.val, val]
  | x :: y :: r => by rw [join, Nn.val, join_val r, val, val]; omega
theorem join_len : ∀ l : List Nat, (join l).length = (l.length + 1) / 2
  | [] => by simp [join]
  | [x] => by simp [join]
  | x :: y :: r => by rw [join, List.length_cons, join_len r]; simp; omega
theorem join_append : ∀ (l m : List Nat), l.length % 2 = 0 → join (l ++ m) = join l ++ join m
  | [], m, _ => rfl
  | [x], m, h => by simp at h
  | x :: y :: r, m, h => by
    rw [List.cons_append, List.cons_append, join, join, join_append r m (by simp at h; omega)]; rfl
theorem limbs_len (n : Nat) : (limbs n).length ≤ 2 * (Nn.limbs n).length := by
  refine limbs_len_le ?_
  have := Nn.len_lt_pow n
  rwa [show 18446744073709551616 = 4294967296 ^ 2 from rfl, ← Nat.pow_mul] at this
end Go.Ab.Hn
