import Derived.Test.YtigedaepbilokaaNatT
namespace Go.Proofs.Ytigedaepbilokaa.Nat
open Go Go.Ab Go.Ab.Nn
set_option linter.unusedVariables false
set_option maxRecDepth 8000
variable {gl : Nat → Option (List AV)} {σ : Own}

theorem NatGcds_spec (ls : List Three) (hf : ∀ t ∈ ls, Fine t) (hn : ls.length < 1125899906842624) : ACalls P gl F_gaugelaw1_NatGcds [.fs (ls.flatMap three) ls.length] σ (fun v σ' => v = .w (.bool true) ∧ σ' = σ) := by
  refine C_gaugelaw1_NatGcds.calls hm ?_
  refine ⟨fun m env σ' => ∃ i : Nat, m = ls.length - i ∧ i ≤ ls.length ∧ σ' = σ ∧ env = [(0, .fs (ls.flatMap three) ls.length), (3, .w (.func (.func 19) #[] #[])), (4, .w (.int .i64 i))], Wk.here ⟨ls.length, 0, rfl, by omega, rfl, rfl⟩, ?_⟩
  rintro m env σ' ⟨i, rfl, hi, rfl, rfl⟩
  refine ⟨fun h => ⟨fun h60 => ?_, fun _ => ?_⟩, fun h => ⟨(fun h => by cases h), fun _ => ?_⟩⟩
  rotate_left
  · refine CallVC.here wakes_spec ?_
    rintro v σ' ⟨rfl, rfl⟩
    exact Ret.here ⟨rfl, rfl⟩
  · refine CallVC.here wakes_spec ?_
    rintro v σ' ⟨rfl, rfl⟩
    exact Ret.here ⟨rfl, rfl⟩
  have hl : i < ls.length := by have := of_decide_eq_true h; omega
  obtain ⟨⟨wa, la⟩, ⟨wb, lb⟩, ⟨wc, lc⟩⟩ := fine_get hf hl
  have ha := three0 hl
  have hb := three1 hl
  have hc := three2 hl
  generalize (ls.getD i ([], [], [])).1 = a at *
  generalize (ls.getD i ([], [], [])).2.1 = b at *
  generalize (ls.getD i ([], [], [])).2.2 = c at *
  refine Wk.here ⟨i, rfl, hl, _, ha, i, rfl, hl, _, hb, i, rfl, hl, _, hc, ?_⟩
  refine CallQ.here (Limbs_spec 60 [a, b, c] (by simp) (by simp [tot]; omega)) ?_
  refine ⟨fun _ => Ret.here ⟨rfl, rfl⟩, fun ht => ?_⟩
  have ht : a.length + b.length + c.length ≤ 60 := by have := of_decide_eq_false ht; simp [tot] at this; omega
  refine ⟨i, rfl, hl, _, ha, CallVC.here (Trim_spec a wa (by omega)) ?_⟩
  rintro v σ' ⟨rfl, rfl⟩
  refine ⟨i, rfl, hl, _, hb, CallVC.here (Trim_spec b wb (by omega)) ?_⟩
  rintro v σ' ⟨rfl, rfl⟩
  refine ⟨i, rfl, hl, _, hc, CallVC.here (Trim_spec c wc (by omega)) ?_⟩
  rintro v σ' ⟨rfl, rfl⟩
  have la' := len_lim wa
  have lb' := len_lim wb
  have lc' := len_lim wc
  generalize val a = x at *
  generalize val b = y at *
  generalize val c = z at *
  have lg : ∀ p q : Nat, (limbs (Nat.gcd p q)).length ≤ max (limbs p).length (limbs q).length := fun p q => by
    rcases Nat.eq_zero_or_pos p with h0 | h0
    · subst h0; rw [Nat.gcd_zero_left]; omega
    · have := len_mono (Nat.le_of_dvd h0 (Nat.gcd_dvd_left p q)); omega
  have l1 := lg x y
  have l2 := lg y z
  have lxz := len_mul x z
  have lyz := len_mul y z
  have l3 := len_mul (Nat.gcd x y) z
  have l4 := len_add x (y * z)
  refine CallVC.here (gcds1_spec x y (by omega) (by omega)) ?_
  rintro v σ' ⟨rfl, rfl⟩
  refine CallVC.here (gcds1_spec y x (by omega) (by omega)) ?_
  rintro v σ' ⟨rfl, rfl⟩
  refine CallVC.here (EqNum _ _ (by omega)) ?_
  rintro v σ' ⟨rfl, rfl⟩
  have e1 : (!(decide (Nat.gcd x y = Nat.gcd y x))) = false := by rw [decide_eq_true (Nat.gcd_comm x y)]; rfl
  refine ⟨fun _ => ?_, fun h => no e1 h⟩
  refine CallVC.here (gcds1_spec x y (by omega) (by omega)) ?_
  rintro v σ' ⟨rfl, rfl⟩
  refine CallVC.here (gcds1_spec (Nat.gcd x y) z (by omega) (by omega)) ?_
  rintro v σ' ⟨rfl, rfl⟩
  refine CallVC.here (gcds1_spec y z (by omega) (by omega)) ?_
  rintro v σ' ⟨rfl, rfl⟩
  refine CallVC.here (gcds1_spec x (Nat.gcd y z) (by omega) (by omega)) ?_
  rintro v σ' ⟨rfl, rfl⟩
  refine CallVC.here (EqNum _ _ (by have := lg (Nat.gcd x y) z; omega)) ?_
  rintro v σ' ⟨rfl, rfl⟩
  have e2 : (!(decide (Nat.gcd (Nat.gcd x y) z = Nat.gcd x (Nat.gcd y z)))) = false := by rw [decide_eq_true (Nat.gcd_assoc x y z)]; rfl
  refine ⟨fun _ => ?_, fun h => no e2 h⟩
  refine CallVC.here (law_mul_spec x z (by omega)) ?_
  rintro v σ' ⟨rfl, rfl⟩
  refine CallVC.here (law_mul_spec y z (by omega)) ?_
  rintro v σ' ⟨rfl, rfl⟩
  refine CallVC.here (gcds1_spec (x * z) (y * z) (by omega) (by omega)) ?_
  rintro v σ' ⟨rfl, rfl⟩
  refine CallVC.here (gcds1_spec x y (by omega) (by omega)) ?_
  rintro v σ' ⟨rfl, rfl⟩
  refine CallVC.here (law_mul_spec (Nat.gcd x y) z (by omega)) ?_
  rintro v σ' ⟨rfl, rfl⟩
  refine CallVC.here (EqNum _ _ (by have := lg (x * z) (y * z); omega)) ?_
  rintro v σ' ⟨rfl, rfl⟩
  have e3 : (!(decide (Nat.gcd (x * z) (y * z) = Nat.gcd x y * z))) = false := by rw [decide_eq_true (Nat.gcd_mul_right x z y)]; rfl
  refine ⟨fun _ => ?_, fun h => no e3 h⟩
  refine CallVC.here (law_mul_spec y z (by omega)) ?_
  rintro v σ' ⟨rfl, rfl⟩
  refine CallVC.here (law_add_spec x (y * z) (by omega) (by omega)) ?_
  rintro v σ' ⟨rfl, rfl⟩
  refine CallVC.here (gcds1_spec (x + y * z) y (by omega) (by omega)) ?_
  rintro v σ' ⟨rfl, rfl⟩
  refine CallVC.here (gcds1_spec x y (by omega) (by omega)) ?_
  rintro v σ' ⟨rfl, rfl⟩
  refine CallVC.here (EqNum _ _ (by have := lg (x + y * z) y; omega)) ?_
  rintro v σ' ⟨rfl, rfl⟩
  have e4 : (!(decide (Nat.gcd (x + y * z) y = Nat.gcd x y))) = false := by
    rw [decide_eq_true]
    · rfl
    · rw [Nat.gcd_comm, Nat.gcd_comm x y, Nat.mul_comm y z, Nat.gcd_rec y, Nat.add_mul_mod_self_right, ← Nat.gcd_rec y]
  refine ⟨fun _ => ?_, fun h => no e4 h⟩
  have h0 := fun σ => gcds1_spec (gl := gl) (σ := σ) x 0 (by omega) (by rw [limbs_zero]; decide)
  simp only [num_zero] at h0
  refine CallVC.sub .refl (args' := [num x, .fs [] 0]) ⟨.refl .refl _, .nil_fs, trivial⟩ (h0 _) ?_
  rintro v σ' ⟨rfl, rfl⟩
  refine CallVC.here (EqNum _ _ (by rw [Nat.gcd_zero_right]; omega)) ?_
  rintro v σ' ⟨rfl, rfl⟩
  have e5 : (!(decide (Nat.gcd x 0 = x))) = false := by rw [Nat.gcd_zero_right, decide_eq_true rfl]; rfl
  refine ⟨fun h => no e5 h, fun _ => ?_⟩
  exact ⟨(i + 1 : Nat), by rw [wi] <;> omega, Wk.here ⟨ls.length - (i + 1), by omega, i + 1, rfl, by omega, rfl, rfl⟩⟩
end Go.Proofs.Ytigedaepbilokaa.Nat
