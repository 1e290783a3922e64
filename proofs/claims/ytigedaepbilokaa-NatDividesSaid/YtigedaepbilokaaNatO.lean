import Derived.Test.YtigedaepbilokaaNatM
namespace Go.Ab.Nn
theorem drop_set_self {l : List Nat} {j : Nat} (h : j < l.length) (d : Nat) : (l.set j d).drop j = d :: l.drop (j + 1) := by
  rw [List.drop_eq_getElem_cons (by rw [List.length_set]; exact h), List.getElem_set_self, List.drop_set_of_lt (by omega)]
theorem drop_getD {l : List Nat} {j : Nat} (h : j < l.length) : l.drop j = l.getD j 0 :: l.drop (j + 1) := by
  rw [List.drop_eq_getElem_cons h, List.getD_eq_getElem?_getD, List.getElem?_eq_getElem h]; rfl
theorem divw_step {Z A r x y d r' B : Nat} (h : Z * y + r = A) (hd : d * y + r' = r * B + x) : (d + B * Z) * y + r' = x + B * A := by
  rw [← h, Nat.add_mul, Nat.mul_add B, Nat.mul_assoc, Nat.mul_comm B r]
  omega
end Go.Ab.Nn
namespace Go.Proofs.Ytigedaepbilokaa.Nat
open Go Go.Ab Go.Ab.Nn
set_option linter.unusedVariables false
set_option maxRecDepth 8000
variable {gl : Nat → Option (List AV)} {σ : Own}

theorem divWord_spec (a : List Nat) (y : Nat) (wa : W a) (hl : a.length < 1099511627775) (hy0 : 0 < y) (hy : y < 18446744073709551616) : ACalls P gl F_nat_divWord [nat a, u y] σ
    (fun v σ' => ∃ w, v = .tup [w, u (val a % y)] ∧ Owns σ (limbs (val a / y)) w σ') := by
  refine C_nat_divWord.calls hm ?_
  refine ⟨a.length, a.length, rfl, rfl, by omega, by omega, by omega, fun g hg => ?_⟩
  refine ⟨(a.length : Int) - 1, by rw [wi] <;> omega, ?_⟩
  refine ⟨fun k env σ' => ∃ z r, k ≤ a.length ∧ z.length = a.length ∧ W z ∧ r < y ∧ val (z.drop k) * y + r = val (a.drop k) ∧ σ' = upd σ g ⟨z.map u, a.length⟩ ∧
    env = [(0, nat a), (1, u y), (6, .w (.slice (some ⟨g, 0, none⟩) a.length a.length)), (7, u r), (8, .w (.int .i64 ((k : Int) - 1)))], Wk.here ⟨a.length, List.replicate a.length 0, 0, by omega, by simp, W_replicate _, hy0, by simp [val], by rw [← mk_u], rfl⟩, ?_⟩
  rintro k env σ' ⟨z, r, hk, hz, hw, hr, hv, rfl, rfl⟩
  refine ⟨fun h => ?_, fun h => ?_⟩
  · have h : (k : Int) - 1 ≥ 0 := of_decide_eq_true h
    obtain ⟨j, rfl⟩ : ∃ j, k = j + 1 := ⟨k - 1, by omega⟩
    have hx := getD_lt wa j
    have hq : (r * 18446744073709551616 + a.getD j 0) / y < 18446744073709551616 := by
      refine (Nat.div_lt_iff_lt_mul hy0).2 ?_
      have := Nat.mul_le_mul_right 18446744073709551616 (show r + 1 ≤ y from hr)
      rw [Nat.add_mul, Nat.one_mul, Nat.mul_comm y] at this
      omega
    have hdm := Nat.div_add_mod (r * 18446744073709551616 + a.getD j 0) y
    rw [Nat.mul_comm] at hdm
    refine ⟨j, by omega, by show j < a.length; omega, _, hd1 0 (by omega), CallVC.here (Div64_spec r (a.getD j 0) y hy hx hr) ?_⟩
    rintro v σ' ⟨rfl, rfl⟩
    refine ⟨_, rfl, _, rfl, j, by omega, by show j < a.length; omega, _, upd_same _ _ _, by rw [List.length_map]; omega, _, stu0 (by omega), (j : Int) - 1, by rw [wi] <;> omega,
      Wk.here ⟨j, by omega, z.set j ((r * 18446744073709551616 + a.getD j 0) / y), (r * 18446744073709551616 + a.getD j 0) % y, by omega, by rw [List.length_set]; exact hz, W_set hw _ _ hq, Nat.mod_lt _ hy0, ?_, rfl, rfl⟩⟩
    rw [drop_set_self (by omega), drop_getD (l := a) (by omega)]
    exact divw_step hv hdm
  · have h : ¬ (k : Int) - 1 ≥ 0 := of_decide_eq_false h
    obtain rfl : k = 0 := by omega
    rw [List.drop_zero, List.drop_zero] at hv
    have ht := trim_own (gl := gl) (σ := upd σ g ⟨z.map u, a.length⟩) (b := g) (l := z) (c := a.length) (upd_same _ _ _) rfl (by omega) (by omega) hw
    rw [hz] at ht
    refine CallVC.here ht ?_
    rintro v σ' ⟨rfl, rfl⟩
    have hq : val z = val a / y := by rw [← hv, Nat.mul_comm, Nat.mul_add_div hy0, Nat.div_eq_of_lt hr, Nat.add_zero]
    have hrr : val a % y = r := by rw [← hv, Nat.mul_comm, Nat.mul_add_mod, Nat.mod_eq_of_lt hr]
    refine Ret.here ⟨_, by rw [hrr], ?_⟩
    have := owns_strip' (σ := σ) (b := g) (n := a.length) hg hw (by omega)
    unfold strip at this ⊢
    rw [hq] at this ⊢
    exact this
end Go.Proofs.Ytigedaepbilokaa.Nat
