import Derived.Test.YtigedaepbilokaaNatT
namespace Go.Proofs.Ytigedaepbilokaa.Nat
open Go Go.Ab Go.Ab.Nn
set_option linter.unusedVariables false
set_option maxRecDepth 8000
variable {gl : Nat → Option (List AV)} {σ : Own}

theorem NatDivides_spec (ls : List Three) (hf : ∀ t ∈ ls, Fine t) (hn : ls.length < 1125899906842624) : ACalls P gl F_gaugelaw1_NatDivides [.fs (ls.flatMap three) ls.length] σ (fun v σ' => v = .w (.bool true) ∧ σ' = σ) := by
  refine C_gaugelaw1_NatDivides.calls hm ?_
  refine ⟨fun m env σ' => ∃ i : Nat, m = ls.length - i ∧ i ≤ ls.length ∧ σ' = σ ∧ env = [(0, .fs (ls.flatMap three) ls.length), (3, .w (.int .i64 i))], Wk.here ⟨ls.length, 0, rfl, by omega, rfl, rfl⟩, ?_⟩
  rintro m env σ' ⟨i, rfl, hi, rfl, rfl⟩
  refine ⟨fun h => ⟨fun h60 => ?_, fun _ => ?_⟩, fun h => ⟨(fun h => by cases h), fun _ => ?_⟩⟩
  rotate_left
  · refine CallVC.here wakes_spec ?_
    rintro v σ' ⟨rfl, rfl⟩
    exact Ret.here ⟨rfl, rfl⟩
  · refine CallVC.here wakes_spec ?_
    rintro v σ' ⟨rfl, rfl⟩
    exact Ret.here ⟨rfl, rfl⟩
  have hl : i < ls.length := by have := of_decide_eq_true h; omega
  obtain ⟨⟨wa, la⟩, ⟨wb, lb⟩, ⟨wc, lc⟩⟩ := fine_get hf hl
  have ha := three0 hl
  have hb := three1 hl
  have hc := three2 hl
  generalize (ls.getD i ([], [], [])).1 = a at *
  generalize (ls.getD i ([], [], [])).2.1 = b at *
  generalize (ls.getD i ([], [], [])).2.2 = c at *
  refine Wk.here ⟨i, rfl, hl, _, ha, i, rfl, hl, _, hb, i, rfl, hl, _, hc, ?_⟩
  refine CallQ.here (Limbs_spec 300 [a, b, c] (by simp) (by simp [tot]; omega)) ?_
  refine ⟨fun _ => Ret.here ⟨rfl, rfl⟩, fun ht => ?_⟩
  have ht : a.length + b.length + c.length ≤ 300 := by have := of_decide_eq_false ht; simp [tot] at this; omega
  refine ⟨i, rfl, hl, _, ha, CallVC.here (Trim_spec a wa (by omega)) ?_⟩
  rintro v σ' ⟨rfl, rfl⟩
  refine ⟨i, rfl, hl, _, hb, CallVC.here (Trim_spec b wb (by omega)) ?_⟩
  rintro v σ' ⟨rfl, rfl⟩
  refine ⟨i, rfl, hl, _, hc, CallVC.here (Trim_spec c wc (by omega)) ?_⟩
  rintro v σ' ⟨rfl, rfl⟩
  have la' := len_lim wa
  have lb' := len_lim wb
  have lc' := len_lim wc
  generalize val a = x at *
  generalize val b = y at *
  generalize val c = z at *
  refine ⟨fun h0 => ?_, fun h0 => ?_⟩
  · exact Wk.here ⟨(i + 1 : Nat), by rw [wi] <;> omega, Wk.here ⟨ls.length - (i + 1), by omega, i + 1, rfl, by omega, rfl, rfl⟩⟩
  have hy : 0 < y := by
    rcases Nat.eq_zero_or_pos y with h1 | h1
    · rw [h1, limbs_zero] at h0; simp at h0
    · exact h1
  have hr := Nat.mod_lt z hy
  have lr := len_mono (Nat.le_of_lt hr)
  have lxy := len_mul x y
  have ls1 := len_add (x * y) (z % y)
  refine CallVC.here (DivMod_spec z y hy (by omega) (by omega)) ?_
  rintro v σ' ⟨rfl, rfl⟩
  refine ⟨_, rfl, _, rfl, _, rfl, ?_⟩
  refine CallVC.here (law_mul_spec x y (by omega)) ?_
  rintro v σ' ⟨rfl, rfl⟩
  refine CallVC.here (law_add_spec (x * y) (z % y) (by omega) (by omega)) ?_
  rintro v σ' ⟨rfl, rfl⟩
  refine CallVC.here (DivMod_spec (x * y + z % y) y hy (by omega) (by omega)) ?_
  rintro v σ' ⟨rfl, rfl⟩
  refine ⟨_, rfl, _, rfl, _, rfl, ?_⟩
  have hq : (x * y + z % y) / y = x := by rw [Nat.mul_comm, Nat.mul_add_div hy, Nat.div_eq_of_lt hr, Nat.add_zero]
  have hm2 : (x * y + z % y) % y = z % y := by rw [Nat.mul_comm, Nat.mul_add_mod, Nat.mod_eq_of_lt hr]
  refine CallVC.here (num_spec 0) ?_
  rintro v σ' ⟨rfl, rfl⟩
  refine ⟨fun _ => ?_, (fun h => by cases h)⟩
  refine CallVC.here (num_spec 0) ?_
  rintro v σ' ⟨rfl, rfl⟩
  refine ⟨fun _ => ?_, (fun h => by cases h)⟩
  refine CallVC.here (Cmp_num (z % y) y (by omega) (by omega)) ?_
  rintro v σ' ⟨rfl, rfl⟩
  have e1 : decide (c3 (z % y) y ≥ 0) = false := decide_eq_false (by have := (c3_lt0 (m := z % y) (n := y)).2 hr; omega)
  refine ⟨fun _ => ?_, fun h => no e1 h⟩
  refine CallVC.here (EqNum ((x * y + z % y) / y) x (by rw [hq]; omega)) ?_
  rintro v σ' ⟨rfl, rfl⟩
  have e2 : (!(decide ((x * y + z % y) / y = x))) = false := by rw [decide_eq_true hq]; rfl
  refine ⟨fun _ => ?_, fun h => no e2 h⟩
  refine CallVC.here (EqNum ((x * y + z % y) % y) (z % y) (by rw [hm2]; omega)) ?_
  rintro v σ' ⟨rfl, rfl⟩
  have e3 : (!(decide ((x * y + z % y) % y = z % y))) = false := by rw [decide_eq_true hm2]; rfl
  refine ⟨fun h => no e3 h, fun _ => ?_⟩
  have hg : 0 < Nat.gcd z y := Nat.gcd_pos_of_pos_right z hy
  have lg := len_mono (Nat.le_of_dvd hy (Nat.gcd_dvd_right z y))
  have d1 := Nat.mod_eq_zero_of_dvd (Nat.gcd_dvd_left z y)
  have d2 := Nat.mod_eq_zero_of_dvd (Nat.gcd_dvd_right z y)
  have l1 := len_mono (Nat.div_le_self z (Nat.gcd z y))
  have l2 := len_mono (Nat.div_le_self y (Nat.gcd z y))
  have hone : Nat.gcd (z / Nat.gcd z y) (y / Nat.gcd z y) = 1 := Nat.gcd_div_gcd_div_gcd_of_pos_right hy
  have l3 : (limbs 1).length ≤ 1 := limbs_len_le (by decide)
  have D1 := fun σ => DivMod_spec (gl := gl) (σ := σ) z (Nat.gcd z y) hg (by omega) (by omega)
  have D2 := fun σ => DivMod_spec (gl := gl) (σ := σ) y (Nat.gcd z y) hg (by omega) (by omega)
  have G2 := fun σ => Gcd_spec (gl := gl) (σ := σ) (z / Nat.gcd z y) (y / Nat.gcd z y) (by omega) (by omega)
  simp only [d1, d2, hone] at D1 D2 G2
  refine CallVC.here (Gcd_spec z y (by omega) (by omega)) ?_
  rintro v σ' ⟨rfl, rfl⟩
  refine ⟨_, rfl, _, rfl, CallVC.here (D1 _) ?_⟩
  rintro v σ' ⟨rfl, rfl⟩
  refine ⟨_, rfl, _, rfl, _, rfl, CallVC.here (D2 _) ?_⟩
  rintro v σ' ⟨rfl, rfl⟩
  refine ⟨_, rfl, _, rfl, _, rfl, CallVC.here (G2 _) ?_⟩
  rintro v σ' ⟨rfl, rfl⟩
  refine ⟨_, rfl, _, rfl, ?_⟩
  refine CallVC.here (num_spec 0) ?_
  rintro v σ' ⟨rfl, rfl⟩
  refine ⟨fun _ => ?_, (fun h => by cases h)⟩
  refine CallVC.here (num_spec 0) ?_
  rintro v σ' ⟨rfl, rfl⟩
  refine ⟨fun _ => ?_, (fun h => by cases h)⟩
  refine CallVC.here (num_spec 0) ?_
  rintro v σ' ⟨rfl, rfl⟩
  refine ⟨fun _ => ?_, (fun h => by cases h)⟩
  refine CallVC.here (num_spec 0) ?_
  rintro v σ' ⟨rfl, rfl⟩
  refine ⟨fun _ => ?_, (fun h => by cases h)⟩
  have e4 : decide (((limbs 0).length : Int) > 0) = false := by rw [limbs_zero]; rfl
  refine ⟨fun _ => ?_, fun h => no e4 h⟩
  refine ⟨fun _ => ?_, fun h => no e4 h⟩
  refine CallVC.here (from_spec 1 (by decide)) ?_
  rintro v σ' ⟨rfl, rfl⟩
  refine CallVC.here (EqNum 1 1 (by omega)) ?_
  rintro v σ' ⟨rfl, rfl⟩
  have e5 : (!(decide (1 = 1))) = false := rfl
  refine ⟨fun h => no e5 h, fun _ => ?_⟩
  exact Wk.here ⟨(i + 1 : Nat), by rw [wi] <;> omega, Wk.here ⟨ls.length - (i + 1), by omega, i + 1, rfl, by omega, rfl, rfl⟩⟩
end Go.Proofs.Ytigedaepbilokaa.Nat
