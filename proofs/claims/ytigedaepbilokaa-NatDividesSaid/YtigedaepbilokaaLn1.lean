/-! Plain arithmetic of limbs: no program in sight. -/
namespace Go.Ab.Nn

def W (l : List Nat) : Prop := ∀ x ∈ l, x < 18446744073709551616
/-- The number that limbs say, the lowest first. -/
def val : List Nat → Nat
  | [] => 0
  | x :: l => x + 18446744073709551616 * val l
/-- A number's limbs. -/
def limbs (n : Nat) : List Nat := if _h : n = 0 then [] else n % 18446744073709551616 :: limbs (n / 18446744073709551616)
termination_by n
decreasing_by exact Nat.div_lt_self (by omega) (by decide)

theorem limbs_zero : limbs 0 = [] := by rw [limbs]; simp
theorem limbs_pos {n : Nat} (h : n ≠ 0) : limbs n = n % 18446744073709551616 :: limbs (n / 18446744073709551616) := by rw [limbs]; simp [h]

theorem W_nil : W [] := by intro x hx; cases hx
theorem W_cons {x : Nat} {l : List Nat} : W (x :: l) ↔ x < 18446744073709551616 ∧ W l := by simp [W]
theorem W_append {l m : List Nat} : W (l ++ m) ↔ W l ∧ W m := by
  simp only [W, List.mem_append]
  constructor
  · exact fun h => ⟨fun x hx => h x (.inl hx), fun x hx => h x (.inr hx)⟩
  · rintro ⟨h1, h2⟩ x (hx | hx)
    · exact h1 x hx
    · exact h2 x hx
theorem W_take {l : List Nat} (h : W l) (n : Nat) : W (l.take n) := fun x hx => h x (List.mem_of_mem_take hx)
theorem W_drop {l : List Nat} (h : W l) (n : Nat) : W (l.drop n) := fun x hx => h x (List.mem_of_mem_drop hx)
theorem W_replicate (n : Nat) : W (List.replicate n 0) := fun x hx => by rw [List.eq_of_mem_replicate hx]; omega

theorem W_limbs (n : Nat) : W (limbs n) := by
  induction n using Nat.strongRecOn with
  | _ n ih =>
    by_cases h : n = 0
    · rw [h, limbs_zero]; exact W_nil
    · rw [limbs_pos h, W_cons]
      exact ⟨by omega, ih _ (Nat.div_lt_self (by omega) (by decide))⟩
theorem val_limbs (n : Nat) : val (limbs n) = n := by
  induction n using Nat.strongRecOn with
  | _ n ih =>
    by_cases h : n = 0
    · rw [h, limbs_zero]; rfl
    · rw [limbs_pos h, val, ih _ (Nat.div_lt_self (by omega) (by decide))]
      omega
theorem limbs_inj {a b : Nat} (h : limbs a = limbs b) : a = b := by rw [← val_limbs a, ← val_limbs b, h]
theorem val_append (l m : List Nat) : val (l ++ m) = val l + 18446744073709551616 ^ l.length * val m := by
  induction l with
  | nil => simp [val]
  | cons x l ih =>
    rw [List.cons_append, val, ih, val, List.length_cons, Nat.pow_succ]
    have : 18446744073709551616 * (18446744073709551616 ^ l.length * val m) = 18446744073709551616 ^ l.length * 18446744073709551616 * val m := by rw [← Nat.mul_assoc, Nat.mul_comm 18446744073709551616]
    omega
theorem val_replicate (n : Nat) : val (List.replicate n 0) = 0 := by
  induction n with
  | zero => rfl
  | succ n ih => rw [List.replicate_succ, val, ih]
theorem val_lt {l : List Nat} (h : W l) : val l < 18446744073709551616 ^ l.length := by
  induction l with
  | nil => simp [val]
  | cons x l ih =>
    rw [W_cons] at h
    have := ih h.2
    rw [val, List.length_cons, Nat.pow_succ]
    have h1 := h.1
    omega
/-- A number's limbs bear no 0 on top. -/
theorem limbs_top (n : Nat) : ∀ x, (limbs n).getLast? = some x → x ≠ 0 := by
  induction n using Nat.strongRecOn with
  | _ n ih =>
    intro x hx
    by_cases h : n = 0
    · rw [h, limbs_zero] at hx; cases hx
    · rw [limbs_pos h] at hx
      by_cases h2 : n / 18446744073709551616 = 0
      · rw [h2, limbs_zero] at hx
        simp at hx
        omega
      · rw [List.getLast?_cons, limbs_pos h2] at hx
        have := ih (n / 18446744073709551616) (Nat.div_lt_self (by omega) (by decide)) x
        rw [limbs_pos h2] at this
        apply this
        rw [List.getLast?_cons] at hx ⊢
        simpa using hx
theorem limbs_len_le {n k : Nat} (h : n < 18446744073709551616 ^ k) : (limbs n).length ≤ k := by
  induction k generalizing n with
  | zero =>
    have : n = 0 := by simpa using h
    rw [this, limbs_zero]; simp
  | succ k ih =>
    by_cases h0 : n = 0
    · rw [h0, limbs_zero]; simp
    · rw [limbs_pos h0, List.length_cons]
      have : n / 18446744073709551616 < 18446744073709551616 ^ k := by
        rw [Nat.pow_succ] at h
        exact Nat.div_lt_of_lt_mul (by rw [Nat.mul_comm]; exact h)
      have := ih this
      omega
/-- Limbs without a 0 on top are their number's. -/
theorem limbs_val {l : List Nat} (h : W l) (ht : ∀ x, l.getLast? = some x → x ≠ 0) : limbs (val l) = l := by
  induction l with
  | nil => exact limbs_zero
  | cons x l ih =>
    rw [W_cons] at h
    have ht' : ∀ y, l.getLast? = some y → y ≠ 0 := by
      intro y hy
      apply ht y
      rw [List.getLast?_cons, hy]
      rfl
    have e := ih h.2 ht'
    have hne : val (x :: l) ≠ 0 := by
      rw [val]
      cases l with
      | nil =>
        have := ht x (by simp)
        have := h.1
        simp [val]
        omega
      | cons y l =>
        intro h0
        have h1 : val (y :: l) = 0 := by
          have : 18446744073709551616 * val (y :: l) = 0 := by omega
          rcases Nat.mul_eq_zero.1 this with h | h
          · cases h
          · exact h
        rw [h1, limbs_zero] at e
        cases e
    have h1 := h.1
    have hx : ((x + 18446744073709551616 * val l) % 18446744073709551616 : Nat) = x := by
      rw [Nat.add_mul_mod_self_left, Nat.mod_eq_of_lt (by omega)]
    have hd : ((x + 18446744073709551616 * val l) / 18446744073709551616 : Nat) = val l := by
      rw [Nat.add_mul_div_left _ _ (by decide), Nat.div_eq_of_lt (by omega)]; omega
    rw [limbs_pos hne]
    simp only [val]
    rw [hx, hd, e]
/-- Without noughts on top. -/
def strip (l : List Nat) : List Nat := limbs (val l)
theorem strip_snoc_zero {l : List Nat} : strip (l ++ [0]) = strip l := by
  unfold strip
  rw [val_append]
  simp [val]
theorem strip_limbs (n : Nat) : strip (limbs n) = limbs n := by unfold strip; rw [val_limbs]
/-- May these limbs be a number's? -/
def May (l : List Nat) : Prop := ∀ x, l.getLast? = some x → x ≠ 0
theorem May_limbs (n : Nat) : May (limbs n) := limbs_top n
theorem eq_limbs {l : List Nat} (h : W l) (hm : May l) : l = limbs (val l) := (limbs_val h hm).symm
theorem limbs_eq_nil {n : Nat} : limbs n = [] ↔ n = 0 := by
  constructor
  · intro h
    rw [← val_limbs n, h]; rfl
  · rintro rfl; exact limbs_zero
theorem pow_le_of_len {n k : Nat} (h : k < (limbs n).length) : 18446744073709551616 ^ k ≤ n := by
  apply Nat.le_of_not_lt
  intro h2
  have := limbs_len_le h2
  omega
theorem len_lt_pow (n : Nat) : n < 18446744073709551616 ^ (limbs n).length := by
  have := val_lt (W_limbs n)
  rwa [val_limbs] at this
/-- More limbs, the greater number. -/
theorem lt_of_len {a b : Nat} (h : (limbs a).length < (limbs b).length) : a < b := by
  have h1 := len_lt_pow a
  have h2 := pow_le_of_len (n := b) (k := (limbs a).length) h
  omega
theorem len_mono {a b : Nat} (h : a ≤ b) : (limbs a).length ≤ (limbs b).length := by
  apply Nat.le_of_not_lt
  intro h2
  have := lt_of_len h2
  omega
theorem len_add (a b : Nat) : (limbs (a + b)).length ≤ max (limbs a).length (limbs b).length + 1 := by
  apply limbs_len_le
  have h1 := len_lt_pow a
  have h2 := len_lt_pow b
  have h3 : 18446744073709551616 ^ (limbs a).length ≤ 18446744073709551616 ^ max (limbs a).length (limbs b).length := Nat.pow_le_pow_right (by decide) (Nat.le_max_left _ _)
  have h4 : 18446744073709551616 ^ (limbs b).length ≤ 18446744073709551616 ^ max (limbs a).length (limbs b).length := Nat.pow_le_pow_right (by decide) (Nat.le_max_right _ _)
  rw [Nat.pow_succ]
  omega
theorem len_mul (a b : Nat) : (limbs (a * b)).length ≤ (limbs a).length + (limbs b).length := by
  apply limbs_len_le
  rw [Nat.pow_add]
  have h1 := len_lt_pow a
  have h2 := len_lt_pow b
  exact Nat.mul_lt_mul'' h1 h2
theorem strip_len {l : List Nat} (h : W l) : (strip l).length ≤ l.length := limbs_len_le (val_lt h)
end Go.Ab.Nn
