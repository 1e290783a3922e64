import Derived.Test.YtigedaepbilokaaNatE
namespace Go.Ab.Nn
theorem val_set {l : List Nat} {k : Nat} (h : k < l.length) (v : Nat) : val (l.set k v) + 18446744073709551616 ^ k * l.getD k 0 = val l + 18446744073709551616 ^ k * v := by
  induction l generalizing k with
  | nil => simp at h
  | cons x l ih =>
    cases k with
    | zero => simp [val]; omega
    | succ k =>
      have := ih (k := k) (by simpa using h)
      simp only [List.set_cons_succ, val, List.getD_cons_succ, Nat.pow_succ]
      rw [Nat.mul_comm (18446744073709551616 ^ k) 18446744073709551616, Nat.mul_assoc, Nat.mul_assoc]
      omega
theorem getD_set_other {l : List Nat} {k j : Nat} (h : k ≠ j) (v : Nat) : (l.set k v).getD j 0 = l.getD j 0 := by
  rw [List.getD_eq_getElem?_getD, List.getD_eq_getElem?_getD, List.getElem?_set_ne h]
/-- one limb of a product laid upon what is there -/
theorem mul_digit {x y r cy : Nat} (hx : x < 18446744073709551616) (hy : y < 18446744073709551616) (hr : r < 18446744073709551616) (hc : cy < 18446744073709551616) :
    ∃ hi lo c1 l2 c2 s : Nat, x * y / 18446744073709551616 = hi ∧ x * y % 18446744073709551616 = lo ∧ (lo + cy) % 18446744073709551616 = l2 ∧ (lo + cy) / 18446744073709551616 = c1 ∧ (r + l2) % 18446744073709551616 = s ∧ (r + l2) / 18446744073709551616 = c2 ∧
      hi + c1 < 18446744073709551616 ∧ hi + c1 + c2 < 18446744073709551616 ∧ s < 18446744073709551616 ∧ s + 18446744073709551616 * (hi + c1 + c2) = x * y + cy + r := by
  have hp : x * y ≤ 18446744073709551615 * 18446744073709551615 := Nat.mul_le_mul (by omega) (by omega)
  refine ⟨_, _, _, _, _, _, rfl, rfl, rfl, rfl, rfl, rfl, ?_⟩
  generalize x * y = p at *
  omega
theorem mul_step {VS VZ V0 P Pi Bj B r s cy cy' x y T : Nat} (e : P = Pi * Bj) (h1 : VS + P * r = VZ + P * s) (h2 : VZ + P * cy = V0 + Pi * (x * T)) (hs : s + B * cy' = x * y + cy + r) : VS + P * B * cy' = V0 + Pi * (x * (T + Bj * y)) := by
  have h3 := congrArg (P * ·) hs
  simp only [Nat.mul_add] at h3
  have h4 : Pi * (x * (Bj * y)) = P * (x * y) := by subst e; simp only [Nat.mul_left_comm, Nat.mul_comm]
  rw [Nat.mul_add x, Nat.mul_add Pi, h4, Nat.mul_assoc]
  omega
end Go.Ab.Nn
namespace Go.Ab
open Nn
theorem stu {σ : Own} {b cap o i z : Nat} {l : List Nat} (h : o + i < l.length) : upd (upd σ b ⟨l.map u, cap⟩) b ⟨(l.map u).take (o + i * 1) ++ [u z] ++ (l.map u).drop (o + i * 1 + 1), cap⟩ = upd σ b ⟨(l.set (o + i) z).map u, cap⟩ := by
  rw [upd_upd, set1' _ h]
end Go.Ab
namespace Go.Proofs.Ytigedaepbilokaa.Nat
open Go Go.Ab Go.Ab.Nn
set_option linter.unusedVariables false
set_option maxRecDepth 8000
variable {gl : Nat → Option (List AV)} {σ : Own}

theorem mul_spec (a b : List Nat) (wa : W a) (wb : W b) (hl : a.length + b.length < 1099511627775) : ACalls P gl F_nat_mul [nat a, nat b] σ (Owns σ (limbs (val a * val b))) := by
  refine C_nat_mul.calls hm ?_
  refine ⟨(a.length + b.length : Nat), by rw [wi] <;> omega, a.length + b.length, a.length + b.length, rfl, rfl, by omega, by omega, by omega, fun g hg => ?_⟩
  refine ⟨fun m env σ' => ∃ i z, m = a.length - i ∧ i ≤ a.length ∧ z.length = a.length + b.length ∧ W z ∧ val z = val (a.take i) * val b ∧ (∀ k, i + b.length ≤ k → z.getD k 0 = 0) ∧ σ' = upd σ g ⟨z.map u, a.length + b.length⟩ ∧
    env = [(1, nat b), (5, .w (.slice (some ⟨g, 0, none⟩) (a.length + b.length) (a.length + b.length))), (21, nat a), (22, .w (.int .i64 a.length)), (23, .w (.int .i64 i))], Wk.here ⟨a.length, 0, List.replicate (a.length + b.length) 0, rfl, by omega, by simp, W_replicate _, by simp [val, val_replicate], fun k _ => by simp [List.getD_eq_getElem?_getD, List.getElem?_replicate]; split <;> rfl, by rw [← mk_u], rfl⟩, ?_⟩
  rintro m env σ' ⟨i, z, rfl, hi, hz, hw, hv, h0, rfl, rfl⟩
  refine ⟨fun h => ?_, fun h => ?_⟩
  · have h : i < a.length := by have := of_decide_eq_true h; omega
    refine ⟨i, rfl, h, _, hd1 0 h, (i + b.length : Nat), by rw [wi] <;> omega, (i + b.length + 1 : Nat), by rw [wi] <;> omega, (i + b.length : Nat), by rw [wi] <;> omega, (i + b.length + 1 : Nat), by rw [wi] <;> omega, ?_⟩
    refine ⟨i, i + b.length + 1, i + b.length + 1, rfl, rfl, rfl, by omega, by omega, by omega, 0 + i * 1, fun _ => rfl, fun h => by omega, ?_⟩
    refine ⟨fun m env σ' => ∃ j z' cy, m = b.length - j ∧ j ≤ b.length ∧ z'.length = a.length + b.length ∧ W z' ∧ cy < 18446744073709551616 ∧ val z' + 18446744073709551616 ^ (i + j) * cy = val z + 18446744073709551616 ^ i * (a.getD i 0 * val (b.take j)) ∧ (∀ k, i + b.length ≤ k → z'.getD k 0 = 0) ∧ σ' = upd σ g ⟨z'.map u, a.length + b.length⟩ ∧
      env = [(1, nat b), (5, .w (.slice (some ⟨g, 0, none⟩) (a.length + b.length) (a.length + b.length))), (7, u (a.getD i 0)), (8, .w (.slice (some ⟨g, 0 + i * 1, none⟩) (i + b.length + 1 - i) (i + b.length + 1 - i))), (9, u cy), (21, nat a), (22, .w (.int .i64 a.length)), (23, .w (.int .i64 i)), (41, nat b), (42, .w (.int .i64 b.length)), (43, .w (.int .i64 j))], Wk.here ⟨b.length, 0, z, 0, rfl, by omega, hz, hw, by omega, by simp [val], h0, rfl, rfl⟩, ?_⟩
    rintro m env σ' ⟨j, z', cy, rfl, hj, hz', hw', hcy, hv', h0', rfl, rfl⟩
    refine ⟨fun h2 => ?_, fun h2 => ?_⟩
    · have h2 : j < b.length := by have := of_decide_eq_true h2; omega
      obtain ⟨hi', lo, c1, l2, c2, s, e1, e2, e3, e4, e5, e6, b1, b2, b3, hsum⟩ := mul_digit (getD_lt wa i) (getD_lt wb j) (getD_lt hw' (i + j)) hcy
      have hlo : lo < 18446744073709551616 := by omega
      have hl2 : l2 < 18446744073709551616 := by omega
      refine ⟨j, rfl, h2, _, hd1 0 h2, ?_⟩
      have hM := fun σ => Mul64_spec (gl := gl) (σ := σ) (a.getD i 0) (b.getD j 0) (getD_lt wa i) (getD_lt wb j)
      have hA := fun σ => Add64_spec (gl := gl) (σ := σ) lo cy 0 (by omega)
      have hB := fun σ => Add64_spec (gl := gl) (σ := σ) (z'.getD (i + j) 0) l2 0 (by omega)
      simp only [e1, e2, Nat.add_zero, e3, e4, e5, e6] at hM hA hB
      refine CallVC.here (hM _) ?_
      rintro v σ' ⟨rfl, rfl⟩
      refine ⟨_, rfl, _, rfl, ?_⟩
      refine CallVC.here (hA _) ?_
      rintro v σ' ⟨rfl, rfl⟩
      refine ⟨_, rfl, _, rfl, _, wadd' b1, j, rfl, by omega, _, upd_same _ _ _, _, hd' 0 (by omega), ?_⟩
      have ej : 0 + i * 1 + j = i + j := by omega
      have hB' := fun σ => (ej.symm ▸ hB σ)
      refine CallVC.here (hB' _) ?_
      rintro v σ' ⟨rfl, rfl⟩
      refine ⟨_, rfl, _, rfl, j, rfl, by omega, _, upd_same _ _ _, by rw [List.length_map]; show 0 + i * 1 + j * 1 + 1 ≤ _; omega, _, rfl, _, wadd' b2, (j + 1 : Nat), by rw [wi] <;> omega, Wk.here ⟨b.length - (j + 1), by omega, j + 1, z'.set (i + j) s, hi' + c1 + c2, rfl, by omega, by rw [List.length_set]; exact hz', W_set hw' _ _ b3, b2, ?_, ?_, ?_, rfl⟩⟩
      · rw [val_take_succ, ← Nat.add_assoc, Nat.pow_succ]
        exact mul_step (Nat.pow_add _ _ _) (val_set (by omega) s) hv' hsum
      · intro k hk
        rw [getD_set_other (by omega)]; exact h0' k hk
      · rw [← ej]; exact stu (by omega)
    · have h2 : ¬ j < b.length := by have := of_decide_eq_false h2; omega
      obtain rfl : j = b.length := by omega
      refine ⟨b.length, rfl, by omega, _, upd_same _ _ _, by rw [List.length_map]; show 0 + i * 1 + b.length * 1 + 1 ≤ _; omega, _, rfl, (i + 1 : Nat), by rw [wi] <;> omega, Wk.here ⟨a.length - (i + 1), by omega, i + 1, z'.set (i + b.length) cy, rfl, by omega, by rw [List.length_set]; exact hz', W_set hw' _ _ hcy, ?_, ?_, ?_, rfl⟩⟩
      · have := val_set (l := z') (k := i + b.length) (by omega) cy
        rw [h0' _ (Nat.le_refl _)] at this
        rw [List.take_length, hv] at hv'
        rw [val_take_succ, Nat.add_mul, Nat.mul_assoc]
        omega
      · intro k hk
        rw [getD_set_other (by omega)]; exact h0' k (by omega)
      · rw [show i + b.length = 0 + i * 1 + b.length by omega]; exact stu (by omega)
  · have h : ¬ i < a.length := by have := of_decide_eq_false h; omega
    obtain rfl : i = a.length := by omega
    rw [List.take_length] at hv
    have ht := trim_own (gl := gl) (σ := upd σ g ⟨z.map u, a.length + b.length⟩) (b := g) (l := z) (c := a.length + b.length) (upd_same _ _ _) rfl (by omega) (by omega) hw
    rw [hz] at ht
    refine CallVC.here ht ?_
    rintro v σ' ⟨rfl, rfl⟩
    refine Ret.here ?_
    have := owns_strip' (σ := σ) (b := g) (n := a.length + b.length) hg hw (by omega)
    unfold strip at this ⊢
    rw [hv] at this ⊢
    exact this
end Go.Proofs.Ytigedaepbilokaa.Nat
