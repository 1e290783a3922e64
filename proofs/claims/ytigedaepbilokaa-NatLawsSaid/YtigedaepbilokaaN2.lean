import Derived.Test.YtigedaepbilokaaN1
namespace Go.Proofs.Ytigedaepbilokaa.PNat
open Go.RowKit Go.Proofs.YtigedaepbilokaaL.PrintWords Go.Proofs.YtigedaepbilokaaL.PrintLast Go.Proofs.YtigedaepbilokaaL.PrintMore
open Go.Proofs.Ytigedaepbilokaa.Plain
set_option linter.unusedVariables false

/-! #### products -/
theorem row_val {x : Int} (hx : 0 ≤ x ∧ x < 18446744073709551616) : ∀ (ys cs : List Int) (cy : Int), W ys → W cs → 0 ≤ cy ∧ cy < 18446744073709551616 → (∃ n, cs.drop ys.length = List.replicate (n + 1) 0) →
    val (nat_mul.row x cy cs ys) = val cs + x.toNat * val ys + cy.toNat ∧ W (nat_mul.row x cy cs ys) ∧ (nat_mul.row x cy cs ys).length = cs.length ∧ (nat_mul.row x cy cs ys).drop (ys.length + 1) = cs.drop (ys.length + 1)
  | [], cs, cy, hy, hc, hcy, ⟨n, hn⟩ => by
    rw [List.length_nil, List.drop_zero] at hn
    subst hn
    rw [List.replicate_succ]
    rw [List.replicate_succ, W_cons] at hc
    simp only [nat_mul.row, val, List.length_cons, List.length_nil, List.drop_succ_cons, List.drop_zero, and_true]
    refine ⟨by simp; omega, W_cons.2 ⟨hcy, hc.2⟩⟩
  | y :: ys, [], cy, hy, hc, hcy, ⟨n, hn⟩ => by simp at hn
  | y :: ys, c :: cs, cy, hy, hc, hcy, ⟨n, hn⟩ => by
    rw [W_cons] at hy hc
    have hp : x * y ≤ 18446744073709551615 * 18446744073709551615 := Int.mul_le_mul (by omega) (by omega) hy.1.1 (by decide)
    have hp0 : 0 ≤ x * y := Int.mul_nonneg hx.1 hy.1.1
    have hxy : (x * y).toNat = x.toNat * y.toNat := by
      obtain ⟨a, rfl⟩ := Int.eq_ofNat_of_zero_le hx.1
      obtain ⟨b, rfl⟩ := Int.eq_ofNat_of_zero_le hy.1.1
      rw [← Int.natCast_mul]; rfl
    have hn' : ∃ n, cs.drop ys.length = List.replicate (n + 1) 0 := ⟨n, by simpa using hn⟩
    obtain ⟨h1, h2, h3, h4⟩ := row_val hx ys cs ((c + x * y + cy) / 18446744073709551616) hy.2 hc.2 (by omega) hn'
    simp only [nat_mul.row, val, List.length_cons, List.drop_succ_cons]
    refine ⟨?_, W_cons.2 ⟨by omega, h2⟩, by rw [h3], h4⟩
    rw [h1, Nat.mul_add, Nat.mul_add, Nat.mul_add (x.toNat), ← Nat.mul_assoc, Nat.mul_comm 18446744073709551616 x.toNat, ← Nat.mul_assoc, ← hxy]
    omega
theorem out_val {ys : List Int} (hy : W ys) : ∀ (xs : List Int) (i : Nat) (c : List Int), W xs → W c → c.length = i + xs.length + ys.length → (∃ n, c.drop (i + ys.length) = List.replicate n 0) →
    val (nat_mul.out ys i xs c) = val c + 18446744073709551616 ^ i * (val xs * val ys) ∧ W (nat_mul.out ys i xs c) ∧ (nat_mul.out ys i xs c).length = c.length
  | [], i, c, hx, hc, hl, hn => by simp [nat_mul.out, val, hc]
  | x :: xs, i, c, hx, hc, hl, ⟨n, hn⟩ => by
    rw [W_cons] at hx
    rw [List.length_cons] at hl
    have hn1 : n = xs.length + 1 := by
      have := congrArg List.length hn
      rw [List.length_drop, List.length_replicate] at this
      omega
    obtain ⟨h1, h2, h3, h4⟩ := row_val hx.1 ys (c.drop i) 0 hy (W_drop hc _) (by omega) ⟨xs.length, by rw [List.drop_drop, hn, hn1]⟩
    have hl3 : (c.take i ++ nat_mul.row x 0 (c.drop i) ys).length = c.length := by rw [List.length_append, h3, List.length_take, List.length_drop]; omega
    have hti : (c.take i).length = i := by rw [List.length_take]; omega
    obtain ⟨k1, k2, k3⟩ := out_val hy xs (i + 1) (c.take i ++ nat_mul.row x 0 (c.drop i) ys) hx.2 (W_append.2 ⟨W_take hc _, h2⟩) (by rw [hl3]; omega)
      ⟨xs.length, by
        rw [List.drop_append, hti, List.drop_of_length_le (by rw [hti]; omega), List.nil_append, show i + 1 + ys.length - i = ys.length + 1 by omega, h4, List.drop_drop]
        have := congrArg (List.drop 1) hn
        rw [List.drop_drop, hn1] at this
        rw [show i + (ys.length + 1) = i + ys.length + 1 by omega, this]
        simp⟩
    simp only [nat_mul.out]
    refine ⟨?_, k2, by rw [k3, hl3]⟩
    have hv : val c = val (c.take i) + 18446744073709551616 ^ i * val (c.drop i) := by
      have := val_append (c.take i) (c.drop i)
      rwa [List.take_append_drop, hti] at this
    rw [k1, val_append, hti, h1, hv, val, Nat.pow_succ]
    simp only [Int.toNat_zero, Nat.add_zero, Nat.mul_add, Nat.add_mul, Nat.mul_assoc]
    simp only [Nat.add_assoc]
theorem mul_f {a b : List Int} (ha : W a) (hb : W b) (hl : a.length + b.length < 1099511627776) : ∃ k, nat_mul.f k a b = some (limbs (val a * val b)) := by
  refine ⟨a.length + b.length + 1, ?_⟩
  unfold nat_mul.f
  rw [if_pos ⟨ha, hb, hl⟩]
  obtain ⟨h1, h2, h3⟩ := out_val hb a 0 (List.replicate (a.length + b.length) 0) ha (W_replicate _) (by simp) ⟨a.length, by simp⟩
  rw [List.length_replicate] at h3
  rw [trim_K h2 (by omega) (by omega)]
  unfold strip
  rw [h1, val_replicate]
  simp

/-! #### what stands above -/
theorem limbs_words (n : Nat) : W (limbs n) := W_limbs n
theorem Add_f {m n : Nat} (hm : (limbs m).length < 1099511627775) (hn : (limbs n).length < 1099511627775) : ∃ k, nat_Add.f k (limbs m) (limbs n) = some (limbs (m + n), 0) := by
  obtain ⟨k, hk⟩ := add_f (W_limbs m) (W_limbs n) hm hn
  refine ⟨k, ?_⟩
  unfold nat_Add.f
  rw [good_f (by omega) (May_limbs m)]
  simp only [Option.bind_some, if_true]
  rw [good_f (by omega) (May_limbs n)]
  simp only [Option.bind_some, if_true]
  rw [hk, val_limbs, val_limbs]
  rfl
theorem law_add_f {m n : Nat} (hm : (limbs m).length < 1099511627775) (hn : (limbs n).length < 1099511627775) : ∃ k, gaugelaw1_add.f k (limbs m) (limbs n) = some (limbs (m + n)) := by
  obtain ⟨k, hk⟩ := Add_f hm hn
  exact ⟨k, by unfold gaugelaw1_add.f; rw [hk]; rfl⟩
theorem Mul_f {m n : Nat} (h : (limbs m).length + (limbs n).length < 1099511627775) : ∃ k, nat_Mul.f k (limbs m) (limbs n) = some (limbs (m * n), 0) := by
  obtain ⟨k, hk⟩ := mul_f (W_limbs m) (W_limbs n) (by omega)
  refine ⟨k, ?_⟩
  unfold nat_Mul.f
  rw [good_f (by omega) (May_limbs m)]
  simp only [Option.bind_some, if_true]
  rw [good_f (by omega) (May_limbs n)]
  simp only [Option.bind_some, if_true]
  rw [hk, val_limbs, val_limbs]
  rfl
theorem law_mul_f {m n : Nat} (h : (limbs m).length + (limbs n).length < 1099511627775) : ∃ k, gaugelaw1_mul.f k (limbs m) (limbs n) = some (limbs (m * n)) := by
  obtain ⟨k, hk⟩ := Mul_f h
  exact ⟨k, by unfold gaugelaw1_mul.f; rw [hk]; rfl⟩
theorem From_f {n : Nat} (h : n < 18446744073709551616) : nat_From.f (n : Int) = some (limbs n) := by
  unfold nat_From.f
  by_cases h0 : n = 0
  · subst h0; simp [limbs_zero]
  · rw [if_neg (by omega), limbs_pos h0, Nat.div_eq_of_lt h, limbs_zero, Nat.mod_eq_of_lt h]
/-- The document's own Trim. -/
theorem Trim_l0 {l : List Int} (hw : W l) (hl : l.length < 1099511627776) : ∀ (m i : Nat), i ≤ l.length → gaugeref1_Trim.l0 (i + m + 1) l (i : Int) = some (strip (l.take i))
  | m, 0, _ => by simp [gaugeref1_Trim.l0, strip, val, limbs_zero]
  | m, i + 1, hi => by
    have ih := Trim_l0 hw hl m i (by omega)
    have e : wrap64 (((i + 1 : Nat) : Int) - 1) = (i : Int) := by rw [w64 (by omega) (by omega)]; omega
    rw [gaugeref1_Trim.l0, if_pos (by omega), e, if_pos (by omega), if_pos (by omega), show i + 1 + m = i + m + 1 by omega]
    by_cases h0 : rd l (i : Int) = 0
    · rw [if_pos h0, ih]
      congr 1
      unfold strip
      rw [val_take_succ, h0]
      simp
    · rw [if_neg h0, if_pos (by omega), if_pos (by omega), Int.toNat_natCast]
      congr 1
      refine (limbs_val (W_take hw _) ?_).symm
      intro x hx
      rw [List.take_succ_eq_append_getElem (by omega), List.getLast?_concat] at hx
      rw [rd_lt (by omega)] at h0
      intro h
      apply h0
      injection hx with hx
      rw [hx, h]
theorem Trim_f {l : List Int} (hw : W l) (hl : l.length < 1099511627776) : ∃ k, gaugeref1_Trim.f k l = some (limbs (val l)) := by
  refine ⟨l.length + 0 + 1, ?_⟩
  unfold gaugeref1_Trim.f
  rw [Trim_l0 hw hl 0 l.length (Nat.le_refl _), List.take_length]
  rfl
theorem EqNat_l0 {a b : List Int} (h : a.length = b.length) (hl : a.length < 1099511627776) : ∀ (d i : Nat), a.length - i = d → i ≤ a.length → gaugeref0_EqNat.l0 (d + 1) a b (i : Int) = some (decide (a.drop i = b.drop i)) := by
  intro d
  induction d with
  | zero =>
    intro i hd hi
    rw [gaugeref0_EqNat.l0, if_neg (by omega), List.drop_of_length_le (by omega), List.drop_of_length_le (by omega)]
    rfl
  | succ d ih =>
    intro i hd hi
    have ih := ih (i + 1) (by omega) (by omega)
    rw [gaugeref0_EqNat.l0, if_pos (by omega), if_pos (by omega), if_pos (by omega), rd_lt (by omega), rd_lt (by omega), show wrap64 ((i : Int) + 1) = ((i + 1 : Nat) : Int) by rw [w64 (by omega) (by omega)]; omega, ih]
    rw [List.drop_eq_getElem_cons (show i < a.length by omega), List.drop_eq_getElem_cons (show i < b.length by omega)]
    by_cases hx : a[i]'(by omega) = b[i]'(by omega)
    · rw [if_pos hx, hx]
      congr 1
      rw [decide_eq_decide]
      exact ⟨fun h => by rw [h], fun h => by injection h⟩
    · rw [if_neg hx]
      congr 1
      symm
      rw [decide_eq_false_iff_not]
      exact fun h => hx (by injection h)
theorem EqNat_f {a b : List Int} (hl : a.length < 1099511627776) : ∃ k, gaugeref0_EqNat.f k a b = some (decide (a = b)) := by
  refine ⟨a.length + 1, ?_⟩
  unfold gaugeref0_EqNat.f
  by_cases h : (a.length : Int) = (b.length : Int)
  · rw [if_pos h]
    have := EqNat_l0 (a := a) (b := b) (by omega) hl a.length 0 (by omega) (by omega)
    simpa using this
  · rw [if_neg h]
    have : a ≠ b := fun e => h (by rw [e])
    simp [this]
end Go.Proofs.Ytigedaepbilokaa.PNat
