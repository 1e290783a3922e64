import Derived.Test.YtigedaepbilokaaNatH
namespace Go.Proofs.Ytigedaepbilokaa.Nat
open Go Go.Ab Go.Ab.Nn
set_option linter.unusedVariables false
set_option maxRecDepth 8000
variable {gl : Nat → Option (List AV)} {σ : Own}

theorem no {P : Prop} {b : Bool} (e : b = false) (h : b = true) : P := by rw [e] at h; cases h
theorem yes {P : Prop} {b : Bool} (e : b = true) (h : b = false) : P := by rw [e] at h; cases h

abbrev Three := List Nat × List Nat × List Nat
def three (t : Three) : List AV := [nat t.1, nat t.2.1, nat t.2.2]
theorem three_drop {ls : List Three} {i : Nat} (h : i < ls.length) : (ls.flatMap three).drop (i * 3) = three (ls.getD i ([], [], [])) ++ (ls.flatMap three).drop ((i + 1) * 3) := by
  induction ls generalizing i with
  | nil => simp at h
  | cons t r ih => cases i with
    | zero => simp [three]
    | succ i =>
      have := ih (i := i) (by simpa using h)
      rw [show (i + 1) * 3 = 3 + i * 3 by omega, show (i + 1 + 1) * 3 = 3 + (i + 1) * 3 by omega, List.flatMap_cons, ← List.drop_drop, ← List.drop_drop]
      simpa [three] using this
theorem three0 {ls : List Three} {i : Nat} (h : i < ls.length) : (((ls.flatMap three).drop (i * 3)).drop 0).head? = some (nat (ls.getD i ([], [], [])).1) := by rw [three_drop h]; rfl
theorem three1 {ls : List Three} {i : Nat} (h : i < ls.length) : (((ls.flatMap three).drop (i * 3)).drop 1).head? = some (nat (ls.getD i ([], [], [])).2.1) := by rw [three_drop h]; rfl
theorem three2 {ls : List Three} {i : Nat} (h : i < ls.length) : (((ls.flatMap three).drop (i * 3)).drop 2).head? = some (nat (ls.getD i ([], [], [])).2.2) := by rw [three_drop h]; rfl
def Fine (t : Three) : Prop := (W t.1 ∧ t.1.length < 17592186044416) ∧ (W t.2.1 ∧ t.2.1.length < 17592186044416) ∧ (W t.2.2 ∧ t.2.2.length < 17592186044416)
theorem fine_get {ls : List Three} (h : ∀ t ∈ ls, Fine t) {i : Nat} (hi : i < ls.length) : Fine (ls.getD i ([], [], [])) := by
  rw [List.getD_eq_getElem?_getD, List.getElem?_eq_getElem hi]; exact h _ (List.getElem_mem hi)

theorem law_add_spec (m n : Nat) (h1 : (limbs m).length < 1099511627775) (h2 : (limbs n).length < 1099511627775) : ACalls P gl F_gaugelaw1_add [num m, num n] σ (fun v σ' => v = num (m + n) ∧ σ' = σ) := by
  refine C_gaugelaw1_add.calls hm ?_
  refine CallVC.here (Add_spec m n h1 h2).numE ?_
  rintro v σ' ⟨rfl, rfl⟩
  exact ⟨_, rfl, _, rfl, Ret.here ⟨rfl, rfl⟩⟩
theorem law_mul_spec (m n : Nat) (h : (limbs m).length + (limbs n).length < 1099511627775) : ACalls P gl F_gaugelaw1_mul [num m, num n] σ (fun v σ' => v = num (m * n) ∧ σ' = σ) := by
  refine C_gaugelaw1_mul.calls hm ?_
  refine CallVC.here (Mul_spec m n h).numE ?_
  rintro v σ' ⟨rfl, rfl⟩
  exact ⟨_, rfl, _, rfl, Ret.here ⟨rfl, rfl⟩⟩
theorem num_spec (k : Int) : ACalls P gl F_gaugelaw1_num [.w (.int .i64 k)] σ (fun v σ' => v = .w (.int .i64 k) ∧ σ' = σ) := by
  refine C_gaugelaw1_num.calls hm ?_
  exact Ret.here ⟨rfl, rfl⟩
theorem Cmp_num (m n : Nat) (h1 : (limbs m).length < 1099511627775) (h2 : (limbs n).length < 1099511627775) : ACalls P gl F_nat_Cmp [num m, num n] σ (fun v σ' => v = .w (.int .i64 (c3 m n)) ∧ σ' = σ) := by
  have := Cmp_spec (gl := gl) (σ := σ) (limbs m) (limbs n) (W_limbs m) (W_limbs n) (by omega) (by omega)
  rw [mayB_limbs, mayB_limbs, val_limbs, val_limbs, if_pos ⟨rfl, rfl⟩] at this
  exact this
theorem EqNum (m n : Nat) (h1 : (limbs m).length < 1099511627775) : ACalls P gl F_gaugeref0_EqNat [num m, num n] σ (fun v σ' => v = .w (.bool (decide (m = n))) ∧ σ' = σ) := by
  have := EqNat_spec (gl := gl) (σ := σ) (limbs m) (limbs n) (by omega)
  rw [show decide (limbs m = limbs n) = decide (m = n) from decide_eq_decide.2 ⟨limbs_inj, fun e => by rw [e]⟩] at this
  exact this
theorem SubE_spec (m n : Nat) (h1 : (limbs m).length < 1099511627775) (h2 : (limbs n).length < 1099511627775) : ACalls P gl F_nat_Sub [num m, num n] σ (fun v σ' => v = .tup [num (m - n), .w (.int .i64 (if n ≤ m then 0 else 11))] ∧ σ' = σ) :=
  (Sub_spec m n h1 h2).sub fun v σ' h => by
    by_cases hle : n ≤ m
    · rw [if_pos hle] at h
      exact ⟨_, σ, (h.sub (gl := gl)).2, h.sub.1, by rw [if_pos hle]; rfl, rfl⟩
    · rw [if_neg hle] at h
      obtain ⟨rfl, rfl⟩ := h
      exact ⟨_, _, .refl, .refl .refl _, by rw [if_neg hle, Nat.sub_eq_zero_of_le (by omega)], rfl⟩
theorem wakes_spec : ACalls P gl F_gaugelaw1_wakes [] σ (fun v σ' => v = .w (.bool true) ∧ σ' = σ) := by
  have l1 : limbs 1 = [1] := by rw [limbs_pos (by decide), show 1 / 18446744073709551616 = 0 from rfl, limbs_zero]
  have l2 : limbs 18446744073709551615 = [18446744073709551615] := by rw [limbs_pos (by decide), show 18446744073709551615 / 18446744073709551616 = 0 from rfl, limbs_zero]
  have l3 : limbs 18446744073709551616 = [0, 1] := by rw [limbs_pos (by decide), show 18446744073709551616 / 18446744073709551616 = 1 from rfl, l1]
  have e1 : num 1 = .fs [.w (.int .u64 1)] 1 := by unfold num; rw [l1]; rfl
  have e2 : num 18446744073709551615 = .fs [.w (.int .u64 18446744073709551615)] 1 := by unfold num; rw [l2]; rfl
  have e3 : num 18446744073709551616 = .fs [.w (.int .u64 0), .w (.int .u64 1)] 2 := by unfold num; rw [l3]; rfl
  refine C_gaugelaw1_wakes.calls hm ?_
  have hA := (Add_spec (gl := gl) (σ := σ) 1 18446744073709551615 (by rw [l1]; decide) (by rw [l2]; decide)).numE
  rw [e1, e2] at hA
  refine CallVC.sub .refl (args' := [.fs [.w (.int .u64 1)] 1, .fs [.w (.int .u64 18446744073709551615)] 1]) ⟨.ff_fs .refl _ _, .ff_fs .refl _ _, trivial⟩ hA ?_
  rintro v σ' ⟨rfl, rfl⟩
  refine ⟨_, rfl, _, rfl, ?_⟩
  refine CallVC.here (num_spec 0) ?_
  rintro v σ' ⟨rfl, rfl⟩
  refine ⟨fun _ => ?_, (fun h => by cases h)⟩
  have hE := EqNum (gl := gl) (σ := σ') 18446744073709551616 18446744073709551616 (by rw [l3]; decide)
  rw [decide_eq_true rfl] at hE
  refine CallVC.sub .refl (args' := [num 18446744073709551616, num 18446744073709551616]) ⟨.refl .refl _, ?_, trivial⟩ hE ?_
  · rw [e3]; exact .ff_fs .refl _ _
  rintro v σ' ⟨rfl, rfl⟩
  exact Ret.here ⟨rfl, rfl⟩
end Go.Proofs.Ytigedaepbilokaa.Nat
