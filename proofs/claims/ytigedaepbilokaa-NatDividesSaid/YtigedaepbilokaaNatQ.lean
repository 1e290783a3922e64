import Derived.Test.YtigedaepbilokaaNatP
namespace Go.Ab.Nn
/-- a list's value by its two top limbs below k -/
theorem top_two {c b : List Nat} {i n : Nat} (wc : W c) (hn : b.length = n + 1) (hup : val (c.drop (i + n + 2)) = 0) (hpre : val c < 18446744073709551616 ^ (i + 1) * val b) :
    val c / (18446744073709551616 ^ i * val b) ≤ 18446744073709551615 ∧ (0 < b.getD n 0 → val c / (18446744073709551616 ^ i * val b) ≤ (c.getD (i + n + 1) 0 * 18446744073709551616 + c.getD (i + n) 0) / b.getD n 0) := by
  have hY : 0 < val b := by
    rcases Nat.eq_zero_or_pos (val b) with h | h
    · rw [h, Nat.mul_zero] at hpre; omega
    · exact h
  have hp := Nat.pow_pos (n := i) (show 0 < 18446744073709551616 by decide)
  have hT : 0 < 18446744073709551616 ^ i * val b := Nat.mul_pos hp hY
  constructor
  · have : val c / (18446744073709551616 ^ i * val b) < 18446744073709551616 := by
      refine (Nat.div_lt_iff_lt_mul hT).2 ?_
      rw [Nat.pow_succ, Nat.mul_right_comm, Nat.mul_comm] at hpre
      exact hpre
    omega
  · intro hy
    have hvc : val c = val (c.take (i + n)) + 18446744073709551616 ^ (i + n) * c.getD (i + n) 0 + 18446744073709551616 ^ (i + n + 1) * c.getD (i + n + 1) 0 := by
      have h1 := val_append (c.take (i + n + 2)) (c.drop (i + n + 2))
      rw [List.take_append_drop, hup, Nat.mul_zero, Nat.add_zero] at h1
      rw [h1, show i + n + 2 = i + n + 1 + 1 from rfl, val_take_succ, val_take_succ]
    have hlow := W_getD_take wc (i + n)
    have hvb : 18446744073709551616 ^ n * b.getD n 0 ≤ val b := by
      have := val_take_succ b n
      rw [← hn, List.take_length] at this
      omega
    refine (Nat.le_div_iff_mul_le hy).2 ?_
    have h1 := Nat.div_mul_le_self (val c) (18446744073709551616 ^ i * val b)
    generalize val c / (18446744073709551616 ^ i * val b) = Q at *
    have h2 : Q * (18446744073709551616 ^ i * (18446744073709551616 ^ n * b.getD n 0)) ≤ val c := Nat.le_trans (Nat.mul_le_mul_left _ (Nat.mul_le_mul_left _ hvb)) h1
    rw [← Nat.mul_assoc (18446744073709551616 ^ i), ← Nat.pow_add, Nat.mul_left_comm, hvc, Nat.pow_succ, Nat.mul_assoc (18446744073709551616 ^ (i + n))] at h2
    have hP := Nat.pow_pos (n := i + n) (show 0 < 18446744073709551616 by decide)
    generalize 18446744073709551616 ^ (i + n) = P at *
    have h3 : P * (Q * b.getD n 0) < P * (c.getD (i + n + 1) 0 * 18446744073709551616 + c.getD (i + n) 0 + 1) := by
      rw [Nat.mul_add, Nat.mul_add, Nat.mul_one, Nat.mul_comm (c.getD (i + n + 1) 0)]
      omega
    have := Nat.lt_of_mul_lt_mul_left h3
    omega
end Go.Ab.Nn
namespace Go.Proofs.Ytigedaepbilokaa.Nat
open Go Go.Ab Go.Ab.Nn
set_option linter.unusedVariables false
set_option maxRecDepth 8000
variable {gl : Nat → Option (List AV)} {σ : Own}

theorem step_spec {g cap i m : Nat} {c b : List Nat} (wb : W b) (hn : 0 < b.length) (hmn : m = b.length + 1) (hlen : i + b.length + 1 ≤ c.length) (hcl : c.length < 1099511627776) (wc : W c) (hup : val (c.drop (i + b.length + 1)) = 0) (hpre : val c < 18446744073709551616 ^ (i + 1) * val b) :
    ACalls P gl F_nat_step [.w (.slice (some ⟨g, i, none⟩) m m), nat b] (upd σ g ⟨c.map u, cap⟩)
      (fun v σ' => ∃ c' : List Nat, v = u (val c / (18446744073709551616 ^ i * val b)) ∧ c'.length = c.length ∧ W c' ∧ val c' = val c % (18446744073709551616 ^ i * val b) ∧ σ' = upd σ g ⟨c'.map u, cap⟩) := by
  refine C_nat_step.calls hm ?_
  obtain ⟨n, hn1⟩ : ∃ n, b.length = n + 1 := ⟨b.length - 1, by omega⟩
  obtain ⟨h1, h2⟩ := top_two wc hn1 (by rw [show i + n + 2 = i + b.length + 1 by omega]; exact hup) hpre
  have hY : 0 < val b := by
    rcases Nat.eq_zero_or_pos (val b) with h | h
    · rw [h, Nat.mul_zero] at hpre; omega
    · exact h
  have hT : 0 < 18446744073709551616 ^ i * val b := Nat.mul_pos (Nat.pow_pos (by decide)) hY
  have fin := fun gs hgs hge => step_j1 (gl := gl) (σ := σ) (g := g) (cap := cap) (i := i) (m := m) (gs := gs) (c := c) (b := b) wb hn hmn hlen hcl wc hgs hge hT hup
    (fun v σ' => ∃ c' : List Nat, v = u (val c / (18446744073709551616 ^ i * val b)) ∧ c'.length = c.length ∧ W c' ∧ val c' = val c % (18446744073709551616 ^ i * val b) ∧ σ' = upd σ g ⟨c'.map u, cap⟩) (fun c' a1 a2 a3 => ⟨c', rfl, a1, a2, a3, rfl⟩)
  have hg : (c.getD (i + b.length) 0) = c.getD (i + n + 1) 0 := by rw [hn1]; rfl
  refine ⟨b.length, rfl, by show b.length < m; omega, _, upd_same _ _ _, _, hd' 0 (by omega), (n : Nat), by rw [wi] <;> omega, n, rfl, by omega, _, hd1 0 (by omega), ?_⟩
  refine ⟨fun h3 => ?_, fun h3 => ?_⟩
  · have h3 : c.getD (i + b.length) 0 < b.getD n 0 := by have := of_decide_eq_true h3; omega
    have hD := fun σ => Div64_spec (gl := gl) (σ := σ) (c.getD (i + b.length) 0) (c.getD (i + n) 0) (b.getD n 0) (getD_lt wb n) (getD_lt wc _) h3
    refine Wk.here ⟨b.length, rfl, by show b.length < m; omega, _, upd_same _ _ _, _, hd' 0 (by omega), (n : Nat), by rw [wi] <;> omega, n, rfl, by show n < m; omega, _, upd_same _ _ _, _, hd' 0 (by omega), (n : Nat), by rw [wi] <;> omega, n, rfl, by omega, _, hd1 0 (by omega), CallQ.here (hD _) ?_⟩
    refine ⟨_, rfl, _, rfl, Wk.here (fin _ ?_ ?_)⟩
    · refine (Nat.div_lt_iff_lt_mul (by omega)).2 ?_
      have := getD_lt wc (i + n)
      have h4 := Nat.mul_le_mul_right 18446744073709551616 (show c.getD (i + b.length) 0 + 1 ≤ b.getD n 0 from h3)
      rw [Nat.add_mul, Nat.one_mul, Nat.mul_comm (b.getD n 0)] at h4
      omega
    · rw [hg]; exact h2 (by omega)
  · exact Wk.here (fin 18446744073709551615 (by decide) h1)
end Go.Proofs.Ytigedaepbilokaa.Nat
