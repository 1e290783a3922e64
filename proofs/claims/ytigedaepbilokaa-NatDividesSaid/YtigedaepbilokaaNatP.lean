import Derived.Test.YtigedaepbilokaaNatO
namespace Go.Ab.Nn
/-- one limb of what a guess times a divisor takes away -/
theorem step_digit {q y x cy bo : Nat} (hq : q < 18446744073709551616) (hy : y < 18446744073709551616) (hx : x < 18446744073709551616) (hc : cy < 18446744073709551616) (hb : bo ≤ 1) :
    ∃ hi lo l2 c1 d b2 : Nat, q * y / 18446744073709551616 = hi ∧ q * y % 18446744073709551616 = lo ∧ (lo + cy) % 18446744073709551616 = l2 ∧ (lo + cy) / 18446744073709551616 = c1 ∧ hi + c1 < 18446744073709551616 ∧
      (x + 18446744073709551616 - l2 - bo) % 18446744073709551616 = d ∧ (if x < l2 + bo then 1 else 0) = b2 ∧ d < 18446744073709551616 ∧ b2 ≤ 1 ∧ d + q * y + cy + bo = x + 18446744073709551616 * (b2 + (hi + c1)) := by
  have hp : q * y ≤ 18446744073709551615 * 18446744073709551615 := Nat.mul_le_mul (by omega) (by omega)
  refine ⟨_, _, _, _, _, _, rfl, rfl, rfl, rfl, ?_, rfl, rfl, by omega, by split <;> omega, ?_⟩
  · generalize q * y = p at *; omega
  · generalize q * y = p at *; split <;> omega
theorem sub_top {x cy bo : Nat} (hx : x < 18446744073709551616) (hc : cy < 18446744073709551616) (hb : bo ≤ 1) :
    ∃ d b2 : Nat, (x + 18446744073709551616 - cy - bo) % 18446744073709551616 = d ∧ (if x < cy + bo then 1 else 0) = b2 ∧ d < 18446744073709551616 ∧ b2 ≤ 1 ∧ d + cy + bo = x + 18446744073709551616 * b2 := by
  refine ⟨_, _, rfl, rfl, by omega, by split <;> omega, ?_⟩
  split <;> omega
theorem take_step {V' V W' P Pi Bj B x d k k' q y T : Nat} (e : P = Pi * Bj) (h1 : V' + P * x = V + P * d) (h2 : V + Pi * (q * T) = W' + P * k) (hs : d + q * y + k = x + B * k') : V' + Pi * (q * (T + Bj * y)) = W' + P * B * k' := by
  have h3 := congrArg (P * ·) hs
  simp only [Nat.mul_add] at h3
  have h4 : Pi * (q * (Bj * y)) = P * (q * y) := by subst e; simp only [Nat.mul_left_comm, Nat.mul_comm]
  rw [Nat.mul_add q, Nat.mul_add Pi, h4, Nat.mul_assoc P B]
  omega
theorem top_step {V' V W' P B x d k k' A : Nat} (h1 : V' + P * x = V + P * d) (h2 : V + A = W' + P * k) (hs : d + k = x + B * k') : V' + A = W' + P * B * k' := by
  have h3 := congrArg (P * ·) hs
  simp only [Nat.mul_add] at h3
  rw [Nat.mul_assoc P B]
  omega
theorem back_step {V' V W' P B x d k k' A y : Nat} (h1 : V' + P * x = V + P * d) (h2 : V + P * k = W' + A) (hs : d + B * k' = x + y + k) : V' + P * B * k' = W' + (A + P * y) := by
  have h3 := congrArg (P * ·) hs
  simp only [Nat.mul_add] at h3
  rw [Nat.mul_assoc P B]
  omega
theorem back_end {V' V C A Y P co : Nat} (hc : co ≤ 1) (h1 : V' + P * co = V + Y) (h2 : V + (A + Y) = C + P * 1) : V' + A = C + P * (1 - co) := by
  rcases (show co = 0 ∨ co = 1 by omega) with rfl | rfl
  · rw [Nat.mul_zero] at h1; rw [Nat.sub_zero]; omega
  · rw [Nat.sub_self, Nat.mul_zero]; omega
theorem val_lt_of_drop {l : List Nat} (h : W l) {k : Nat} (hd : val (l.drop k) = 0) : val l < 18446744073709551616 ^ k := by
  by_cases hk : k ≤ l.length
  · have h1 := val_append (l.take k) (l.drop k)
    rw [List.take_append_drop, List.length_take, Nat.min_eq_left hk, hd, Nat.mul_zero, Nat.add_zero] at h1
    rw [h1]; exact W_getD_take h k
  · exact Nat.lt_of_lt_of_le (val_lt h) (Nat.pow_le_pow_right (by decide) (by omega))
end Go.Ab.Nn
namespace Go.Proofs.Ytigedaepbilokaa.Nat
open Go Go.Ab Go.Ab.Nn
set_option linter.unusedVariables false
set_option maxRecDepth 8000
variable {gl : Nat → Option (List AV)} {σ : Own}

theorem stuo {σ : Own} {b cap o i z : Nat} {l : List Nat} (h : o + i < l.length) : upd (upd σ b ⟨l.map u, cap⟩) b ⟨(l.map u).take (o + i * 1) ++ [u z] ++ (l.map u).drop (o + i * 1 + 1), cap⟩ = upd σ b ⟨(l.set (o + i) z).map u, cap⟩ := stu h

theorem step_j1 {g cap i m gs : Nat} {c b : List Nat} (wb : W b) (hn : 0 < b.length) (hm : m = b.length + 1) (hlen : i + b.length + 1 ≤ c.length) (hcl : c.length < 1099511627776) (wc : W c) (hgs : gs < 18446744073709551616)
    (hge : val c / (18446744073709551616 ^ i * val b) ≤ gs) (hT : 0 < 18446744073709551616 ^ i * val b) (hup : val (c.drop (i + b.length + 1)) = 0) (R : AV → Own → Prop)
    (h : ∀ c' : List Nat, c'.length = c.length → W c' → val c' = val c % (18446744073709551616 ^ i * val b) → R (u (val c / (18446744073709551616 ^ i * val b))) (upd σ g ⟨c'.map u, cap⟩)) :
    vc (cx P gl) S_nat_step_j1 (retQ (Says gl) [4] R) [(0, .w (.slice (some ⟨g, i, none⟩) m m)), (1, nat b), (5, .w (.int .i64 b.length)), (6, u gs)] (upd σ g ⟨c.map u, cap⟩) := by
  refine ⟨fun k env σ' => ∃ j z cy bo, k = b.length - j ∧ j ≤ b.length ∧ z.length = c.length ∧ W z ∧ cy < 18446744073709551616 ∧ bo ≤ 1 ∧ val z + 18446744073709551616 ^ i * (gs * val (b.take j)) = val c + 18446744073709551616 ^ (i + j) * (bo + cy) ∧ z.drop (i + b.length + 1) = c.drop (i + b.length + 1) ∧ σ' = upd σ g ⟨z.map u, cap⟩ ∧
    env = [(0, .w (.slice (some ⟨g, i, none⟩) m m)), (1, nat b), (5, .w (.int .i64 b.length)), (6, u gs), (7, u bo), (8, u cy), (45, .w (.int .i64 b.length)), (46, .w (.int .i64 j))], Wk.here ⟨b.length, 0, c, 0, 0, rfl, by omega, rfl, wc, by omega, by omega, by simp [val], rfl, rfl, rfl⟩, ?_⟩
  rintro k env σ' ⟨j, z, cy, bo, rfl, hj, hz, hw, hcy, hbo, hv, hd, rfl, rfl⟩
  refine ⟨fun h1 => ?_, fun h1 => ?_⟩
  · have h1 : j < b.length := by have := of_decide_eq_true h1; omega
    obtain ⟨hi, lo, l2, c1, d, b2, e1, e2, e3, e4, hb1, e5, e6, hdl, hb2, hsum⟩ := step_digit hgs (getD_lt wb j) (getD_lt hw (i + j)) hcy hbo
    have hM := fun σ => Mul64_spec (gl := gl) (σ := σ) gs (b.getD j 0) hgs (getD_lt wb j)
    have hA := fun σ => Add64_spec (gl := gl) (σ := σ) lo cy 0 (by omega)
    have hS := fun σ => Sub64_spec (gl := gl) (σ := σ) (z.getD (i + j) 0) l2 bo hbo
    simp only [e1, e2, Nat.add_zero, e3, e4, e5, e6] at hM hA hS
    refine ⟨j, rfl, h1, _, hd1 0 h1, CallVC.here (hM _) ?_⟩
    rintro v σ' ⟨rfl, rfl⟩
    refine ⟨_, rfl, _, rfl, CallVC.here (hA _) ?_⟩
    rintro v σ' ⟨rfl, rfl⟩
    refine ⟨_, rfl, _, rfl, _, wadd' hb1, j, rfl, by show j < m; omega, _, upd_same _ _ _, _, hd' 0 (by omega), CallVC.here (hS _) ?_⟩
    rintro v σ' ⟨rfl, rfl⟩
    refine ⟨_, rfl, _, rfl, j, rfl, by show j < m; omega, _, upd_same _ _ _, by rw [List.length_map]; omega, _, stuo (by omega), (j + 1 : Nat), by rw [wi] <;> omega,
      Wk.here ⟨b.length - (j + 1), by omega, j + 1, z.set (i + j) d, hi + c1, b2, rfl, by omega, by rw [List.length_set]; exact hz, W_set hw _ _ hdl, hb1, hb2, ?_, ?_, rfl, rfl⟩⟩
    · rw [val_take_succ, ← Nat.add_assoc, Nat.pow_succ]
      exact take_step (Nat.pow_add _ _ _) (val_set (by omega) d) hv (by omega)
    · rw [List.drop_set_of_lt (by omega)]; exact hd
  · have h1 : ¬ j < b.length := by have := of_decide_eq_false h1; omega
    obtain rfl : j = b.length := by omega
    rw [List.take_length] at hv
    obtain ⟨d, b2, e5, e6, hdl, hb2, hsum⟩ := sub_top (getD_lt hw (i + b.length)) hcy hbo
    have hS := fun σ => Sub64_spec (gl := gl) (σ := σ) (z.getD (i + b.length) 0) cy bo hbo
    simp only [e5, e6] at hS
    refine ⟨b.length, rfl, by show b.length < m; omega, _, upd_same _ _ _, _, hd' 0 (by omega), CallVC.here (hS _) ?_⟩
    rintro v σ' ⟨rfl, rfl⟩
    refine ⟨_, rfl, _, rfl, b.length, rfl, by show b.length < m; omega, _, upd_same _ _ _, by rw [List.length_map]; omega, _, stuo (by omega), ?_⟩
    refine ⟨fun k env σ' => ∃ x gq bo, k = gq - val c / (18446744073709551616 ^ i * val b) ∧ val c / (18446744073709551616 ^ i * val b) ≤ gq ∧ gq < 18446744073709551616 ∧ x.length = c.length ∧ W x ∧ bo ≤ 1 ∧ val x + 18446744073709551616 ^ i * (gq * val b) = val c + 18446744073709551616 ^ (i + b.length + 1) * bo ∧ x.drop (i + b.length + 1) = c.drop (i + b.length + 1) ∧ σ' = upd σ g ⟨x.map u, cap⟩ ∧
      env = [(0, .w (.slice (some ⟨g, i, none⟩) m m)), (1, nat b), (5, .w (.int .i64 b.length)), (6, u gq), (7, u bo)], Wk.here ⟨_, z.set (i + b.length) d, gs, b2, rfl, hge, hgs, by rw [List.length_set]; exact hz, W_set hw _ _ hdl, hb2, ?_, ?_, rfl, rfl⟩, ?_⟩
    · rw [Nat.pow_succ]
      exact top_step (val_set (by omega) d) hv (by omega)
    · rw [List.drop_set_of_lt (by omega)]; exact hd
    rintro k env σ' ⟨x, gq, bo, rfl, hq, hql, hx, hxw, hbo, hv, hd, rfl, rfl⟩
    have eT : 18446744073709551616 ^ i * (gq * val b) = gq * (18446744073709551616 ^ i * val b) := Nat.mul_left_comm _ _ _
    refine ⟨fun h2 => ?_, fun h2 => ?_⟩
    · have h2 : bo = 1 := by
        have : bo ≠ 0 := by simpa using h2
        omega
      subst h2
      have hlt := val_lt_of_drop hxw (k := i + b.length + 1) (by rw [hd]; exact hup)
      have hgt : val c / (18446744073709551616 ^ i * val b) < gq := (Nat.div_lt_iff_lt_mul hT).2 (by rw [← eT]; omega)
      have hgq1 : 1 ≤ gq := Nat.lt_of_le_of_lt (Nat.zero_le _) hgt
      have hdec : gq * val b = (gq - 1) * val b + val b := by
        rw [Nat.sub_mul, Nat.one_mul]
        have : 1 * val b ≤ gq * val b := Nat.mul_le_mul_right _ hgq1
        omega
      have hgw : IntKind.u64.wrap ((gq : Int) - 1) = (gq - 1 : Nat) := by rw [wu]; omega
      refine ⟨(gq - 1 : Nat), hgw, ?_⟩
      refine ⟨fun k env σ' => ∃ j z cy, k = b.length - j ∧ j ≤ b.length ∧ z.length = c.length ∧ W z ∧ cy ≤ 1 ∧ val z + 18446744073709551616 ^ (i + j) * cy = val x + 18446744073709551616 ^ i * val (b.take j) ∧ z.drop (i + b.length + 1) = c.drop (i + b.length + 1) ∧ σ' = upd σ g ⟨z.map u, cap⟩ ∧
        env = [(0, .w (.slice (some ⟨g, i, none⟩) m m)), (1, nat b), (5, .w (.int .i64 b.length)), (6, u (gq - 1)), (7, u 1), (13, u cy), (98, .w (.int .i64 b.length)), (99, .w (.int .i64 j))], Wk.here ⟨b.length, 0, x, 0, rfl, by omega, hx, hxw, by omega, by simp [val], hd, rfl, rfl⟩, ?_⟩
      rintro k env σ' ⟨j, z, cy, rfl, hj, hz, hw, hcy, hv2, hd2, rfl, rfl⟩
      refine ⟨fun h3 => ?_, fun h3 => ?_⟩
      · have h3 : j < b.length := by have := of_decide_eq_true h3; omega
        have hx1 := getD_lt hw (i + j)
        have hy1 := getD_lt wb j
        refine Wk.here ⟨j, rfl, by show j < m; omega, _, upd_same _ _ _, _, hd' 0 (by omega), j, rfl, h3, _, hd1 0 h3, CallQ.here (Add64_spec (z.getD (i + j) 0) (b.getD j 0) cy hcy) ?_⟩
        refine ⟨_, rfl, _, rfl, j, rfl, by show j < m; omega, _, upd_same _ _ _, by rw [List.length_map]; omega, _, stuo (by omega), (j + 1 : Nat), by rw [wi] <;> omega,
          Wk.here ⟨b.length - (j + 1), by omega, j + 1, z.set (i + j) ((z.getD (i + j) 0 + b.getD j 0 + cy) % 18446744073709551616), (z.getD (i + j) 0 + b.getD j 0 + cy) / 18446744073709551616, rfl, by omega, by rw [List.length_set]; exact hz, W_set hw _ _ (by omega), by omega, ?_, ?_, rfl, rfl⟩⟩
        · rw [val_take_succ, ← Nat.add_assoc i j 1, Nat.pow_succ, Nat.mul_add, ← Nat.mul_assoc, ← Nat.pow_add]
          exact back_step (val_set (by omega) _) hv2 (by omega)
        · rw [List.drop_set_of_lt (by omega)]; exact hd2
      · have h3 : ¬ j < b.length := by have := of_decide_eq_false h3; omega
        obtain rfl : j = b.length := by omega
        rw [List.take_length] at hv2
        have hx1 := getD_lt hw (i + b.length)
        have hA := fun σ => Add64_spec (gl := gl) (σ := σ) (z.getD (i + b.length) 0) 0 cy hcy
        simp only [Nat.add_zero] at hA
        refine ⟨b.length, rfl, by show b.length < m; omega, _, upd_same _ _ _, _, hd' 0 (by omega), CallVC.here (hA _) ?_⟩
        rintro v σ' ⟨rfl, rfl⟩
        have hv3 := back_step (y := 0) (B := 18446744073709551616) (k' := (z.getD (i + b.length) 0 + cy) / 18446744073709551616) (val_set (l := z) (k := i + b.length) (by omega) ((z.getD (i + b.length) 0 + cy) % 18446744073709551616)) hv2 (by omega)
        rw [← Nat.pow_succ, Nat.mul_zero, Nat.add_zero] at hv3
        have hco : (z.getD (i + b.length) 0 + cy) / 18446744073709551616 ≤ 1 := by omega
        refine ⟨_, rfl, _, rfl, b.length, rfl, by show b.length < m; omega, _, upd_same _ _ _, by rw [List.length_map]; omega, _, stuo (by omega), (1 - (z.getD (i + b.length) 0 + cy) / 18446744073709551616 : Nat), by rw [wu]; omega,
          Wk.here ⟨gq - 1 - val c / (18446744073709551616 ^ i * val b), by omega, z.set (i + b.length) ((z.getD (i + b.length) 0 + cy) % 18446744073709551616), gq - 1, 1 - (z.getD (i + b.length) 0 + cy) / 18446744073709551616, rfl, by omega, by omega, by rw [List.length_set]; exact hz, W_set hw _ _ (by omega), by omega, ?_, ?_, rfl, rfl⟩⟩
        · rw [hdec, Nat.mul_add] at hv
          exact back_end hco hv3 hv
        · rw [List.drop_set_of_lt (by omega)]; exact hd2
    · have h2 : bo = 0 := by simpa using h2
      subst h2
      rw [Nat.mul_zero, Nat.add_zero, eT] at hv
      have hqe : gq = val c / (18446744073709551616 ^ i * val b) := Nat.le_antisymm ((Nat.le_div_iff_mul_le hT).2 (by omega)) hq
      have hm := Nat.div_add_mod (val c) (18446744073709551616 ^ i * val b)
      rw [Nat.mul_comm, ← hqe] at hm
      refine Ret.here ?_
      have := h x hx hxw (by omega)
      rw [← hqe] at this
      exact this
end Go.Proofs.Ytigedaepbilokaa.Nat
