import Derived.Test.YtigedaepbilokaaNatI
namespace Go.Ab.Nn
theorem c3_neg (m n : Nat) : c3 n m = -c3 m n := by unfold c3; split <;> split <;> first | omega | (split <;> omega) | rfl
theorem c3_eq0 (m n : Nat) : (c3 m n == 0) = decide (m = n) := by
  unfold c3; split
  · rw [decide_eq_false (by omega)]; rfl
  · split
    · rw [decide_eq_false (by omega)]; rfl
    · rw [decide_eq_true (by omega)]; rfl
theorem c3_congr {m n m' n' : Nat} (h1 : m < n ↔ m' < n') (h2 : n < m ↔ n' < m') : c3 m n = c3 m' n' := by
  unfold c3; simp only [h1, h2]
theorem c3_add (m n k : Nat) : c3 (m + k) (n + k) = c3 m n := c3_congr (by omega) (by omega)
theorem c3_mul {m n k : Nat} (h : 0 < k) : c3 (m * k) (n * k) = c3 m n := c3_congr (Nat.mul_lt_mul_right h) (Nat.mul_lt_mul_right h)
theorem c3_lt0 {m n : Nat} : c3 m n < 0 ↔ m < n := by unfold c3; split <;> first | (split <;> omega) | omega
theorem c3_le0 {m n : Nat} : c3 m n ≤ 0 ↔ m ≤ n := by unfold c3; split <;> first | (split <;> omega) | omega
theorem c3_bounds (m n : Nat) : -1 ≤ c3 m n ∧ c3 m n ≤ 1 := by unfold c3; split <;> first | (split <;> omega) | omega
theorem len_lim {l : List Nat} (hw : W l) : (limbs (val l)).length ≤ l.length := strip_len hw
end Go.Ab.Nn
namespace Go.Proofs.Ytigedaepbilokaa.Nat
open Go Go.Ab Go.Ab.Nn
set_option linter.unusedVariables false
set_option maxRecDepth 8000
variable {gl : Nat → Option (List AV)} {σ : Own}

/-- The start that laws over three numbers share: what the place holds. -/
theorem NatOrder_spec (ls : List Three) (hf : ∀ t ∈ ls, Fine t) (hn : ls.length < 1125899906842624) : ACalls P gl F_gaugelaw1_NatOrder [.fs (ls.flatMap three) ls.length] σ (fun v σ' => v = .w (.bool true) ∧ σ' = σ) := by
  refine C_gaugelaw1_NatOrder.calls hm ?_
  refine ⟨fun m env σ' => ∃ i : Nat, m = ls.length - i ∧ i ≤ ls.length ∧ σ' = σ ∧ env = [(0, .fs (ls.flatMap three) ls.length), (3, .w (.int .i64 i))], Wk.here ⟨ls.length, 0, rfl, by omega, rfl, rfl⟩, ?_⟩
  rintro m env σ' ⟨i, rfl, hi, rfl, rfl⟩
  refine ⟨fun h => ⟨fun h60 => ?_, fun _ => ?_⟩, fun h => ⟨(fun h => by cases h), fun _ => ?_⟩⟩
  rotate_left
  · refine CallVC.here wakes_spec ?_
    rintro v σ' ⟨rfl, rfl⟩
    exact Ret.here ⟨rfl, rfl⟩
  · refine CallVC.here wakes_spec ?_
    rintro v σ' ⟨rfl, rfl⟩
    exact Ret.here ⟨rfl, rfl⟩
  have hl : i < ls.length := by have := of_decide_eq_true h; omega
  obtain ⟨⟨wa, la⟩, ⟨wb, lb⟩, ⟨wc, lc⟩⟩ := fine_get hf hl
  have ha := three0 hl
  have hb := three1 hl
  have hc := three2 hl
  generalize (ls.getD i ([], [], [])).1 = a at *
  generalize (ls.getD i ([], [], [])).2.1 = b at *
  generalize (ls.getD i ([], [], [])).2.2 = c at *
  refine ⟨i, rfl, hl, _, ha, i, rfl, hl, _, hb, i, rfl, hl, _, hc, ?_⟩
  refine CallQ.here (Limbs_spec 300 [a, b, c] (by simp) (by simp [tot]; omega)) ?_
  refine ⟨fun _ => Ret.here ⟨rfl, rfl⟩, fun ht => ?_⟩
  have ht : a.length + b.length + c.length ≤ 300 := by have := of_decide_eq_false ht; simp [tot] at this; omega
  refine ⟨i, rfl, hl, _, ha, CallVC.here (Trim_spec a wa (by omega)) ?_⟩
  rintro v σ' ⟨rfl, rfl⟩
  refine ⟨i, rfl, hl, _, hb, CallVC.here (Trim_spec b wb (by omega)) ?_⟩
  rintro v σ' ⟨rfl, rfl⟩
  refine ⟨i, rfl, hl, _, hc, CallVC.here (Trim_spec c wc (by omega)) ?_⟩
  rintro v σ' ⟨rfl, rfl⟩
  have la' := len_lim wa
  have lb' := len_lim wb
  have lc' := len_lim wc
  generalize val a = x at *
  generalize val b = y at *
  generalize val c = z at *
  have b1 := c3_bounds x y
  refine CallVC.here (Cmp_num x y (by omega) (by omega)) ?_
  rintro v σ' ⟨rfl, rfl⟩
  refine CallVC.here (Cmp_num y x (by omega) (by omega)) ?_
  rintro v σ' ⟨rfl, rfl⟩
  refine ⟨-c3 x y, by rw [wi] <;> omega, ?_⟩
  have e1 : (c3 y x != -c3 x y) = false := by rw [c3_neg x y]; simp
  refine ⟨fun _ => ?_, fun h => no e1 h⟩
  refine CallVC.here (Cmp_num x x (by omega) (by omega)) ?_
  rintro v σ' ⟨rfl, rfl⟩
  have e2 : (c3 x x != 0) = false := by rw [c3_self]; rfl
  refine ⟨fun _ => ?_, fun h => no e2 h⟩
  refine CallVC.here (EqNum x y (by omega)) ?_
  rintro v σ' ⟨rfl, rfl⟩
  have e3 : (!((c3 x y == 0) == decide (x = y))) = false := by rw [c3_eq0]; simp
  refine ⟨fun _ => ?_, fun h => no e3 h⟩
  have lxz := len_add x z
  have lyz := len_add y z
  refine CallVC.here (law_add_spec x z (by omega) (by omega)) ?_
  rintro v σ' ⟨rfl, rfl⟩
  refine CallVC.here (law_add_spec y z (by omega) (by omega)) ?_
  rintro v σ' ⟨rfl, rfl⟩
  refine CallVC.here (Cmp_num (x + z) (y + z) (by omega) (by omega)) ?_
  rintro v σ' ⟨rfl, rfl⟩
  have e4 : (c3 (x + z) (y + z) != c3 x y) = false := by rw [c3_add]; simp
  refine ⟨fun _ => ?_, fun h => no e4 h⟩
  have lxm := len_mul x z
  have lym := len_mul y z
  refine ⟨fun hz => ?_, fun _ => ?_⟩
  rotate_left
  refine ⟨(fun h => by cases h), fun _ => ?_⟩
  rotate_left
  have hz : 0 < z := by
    have h0 := of_decide_eq_true hz
    rcases Nat.eq_zero_or_pos z with h1 | h1
    · rw [h1, limbs_zero] at h0; simp at h0
    · exact h1
  refine CallVC.here (law_mul_spec x z (by omega)) ?_
  rintro v σ' ⟨rfl, rfl⟩
  refine CallVC.here (law_mul_spec y z (by omega)) ?_
  rintro v σ' ⟨rfl, rfl⟩
  refine CallVC.here (Cmp_num (x * z) (y * z) (by omega) (by omega)) ?_
  rintro v σ' ⟨rfl, rfl⟩
  have e5 : (c3 (x * z) (y * z) != c3 x y) = false := by rw [c3_mul hz]; simp
  refine ⟨fun h => no e5 h, fun _ => ?_⟩
  all_goals
    refine ⟨fun h1 => ?_, fun h1 => ⟨(fun h => by cases h), fun _ => ⟨fun _ => ?_, (fun h => by cases h)⟩⟩⟩
    have h1 := c3_lt0.1 (of_decide_eq_true h1)
    refine CallVC.here (Cmp_num y z (by omega) (by omega)) ?_
    rintro v σ' ⟨rfl, rfl⟩
    refine ⟨fun h2 => ?_, fun h2 => ⟨fun _ => ?_, (fun h => by cases h)⟩⟩
    have h2 := c3_lt0.1 (of_decide_eq_true h2)
    refine CallVC.here (Cmp_num x z (by omega) (by omega)) ?_
    rintro v σ' ⟨rfl, rfl⟩
    have e6 : decide (c3 x z ≥ 0) = false := decide_eq_false (by have := (c3_lt0 (m := x) (n := z)).2 (by omega); omega)
    refine ⟨fun _ => ?_, fun h => no e6 h⟩
  all_goals
    refine ⟨fun h3 => ?_, fun h3 => ⟨(fun h => by cases h), fun _ => ?_⟩⟩
    have h3 := c3_le0.1 (of_decide_eq_true h3)
    refine CallVC.here (Len_spec x (by omega)) ?_
    rintro v σ' ⟨rfl, rfl⟩
    refine CallVC.here (Len_spec y (by omega)) ?_
    rintro v σ' ⟨rfl, rfl⟩
    have e7 : decide ((bl x : Int) > bl y) = false := decide_eq_false (by have := bl_mono h3; omega)
    refine ⟨fun h => no e7 h, fun _ => ?_⟩
  all_goals
    refine CallVC.here (SubE_spec x y (by omega) (by omega)) ?_
    rintro v σ' ⟨rfl, rfl⟩
    refine ⟨_, rfl, _, rfl, ?_⟩
    refine CallVC.here (num_spec _) ?_
    rintro v σ' ⟨rfl, rfl⟩
    have e8 : (!(((if y ≤ x then (0 : Int) else 11) == 11) == decide (c3 x y < 0))) = false := by
      by_cases hle : y ≤ x
      · rw [if_pos hle, decide_eq_false (fun h => by have := c3_lt0.1 h; omega)]; rfl
      · rw [if_neg hle, decide_eq_true (c3_lt0.2 (by omega))]; rfl
    refine ⟨fun h => no e8 h, fun _ => ?_⟩
    exact ⟨(i + 1 : Nat), by rw [wi] <;> omega, Wk.here ⟨ls.length - (i + 1), by omega, i + 1, rfl, by omega, rfl, rfl⟩⟩
end Go.Proofs.Ytigedaepbilokaa.Nat
