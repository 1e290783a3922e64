import Derived.Test.YtigedaepbilokaaNatS
import Derived.Test.YtigedaepbilokaaNatI
namespace Go.Proofs.Ytigedaepbilokaa.Nat
open Go Go.Ab Go.Ab.Nn
set_option linter.unusedVariables false
set_option maxRecDepth 8000
variable {gl : Nat → Option (List AV)} {σ : Own}

theorem num_zero : num 0 = .fs [] 0 := by unfold num; rw [limbs_zero]; rfl
theorem DivMod_spec (m n : Nat) (hn : 0 < n) (h1 : (limbs m).length < 274877906944) (h2 : (limbs n).length < 274877906944) : ACalls P gl F_nat_DivMod [num m, num n] σ (fun v σ' => v = .tup [num (m / n), num (m % n), .w (.int .i64 0)] ∧ σ' = σ) := by
  refine C_nat_DivMod.calls hm ?_
  refine CallVC.here (good_num m (by omega)) ?_
  rintro v σ' ⟨rfl, rfl⟩
  refine ⟨fun _ => ?_, (fun h => by cases h)⟩
  refine CallVC.here (good_num n (by omega)) ?_
  rintro v σ' ⟨rfl, rfl⟩
  refine ⟨(fun h => by cases h), fun _ => ⟨fun h => ?_, fun _ => ?_⟩⟩
  · exfalso
    have : (limbs n).length = 0 := by simpa using h
    have := limbs_eq_nil.1 (List.eq_nil_of_length_eq_zero this)
    omega
  refine CallVC.here (div_spec m n hn h1 h2) ?_
  rintro v σ' ⟨rfl, rfl⟩
  exact ⟨_, rfl, _, rfl, Ret.here ⟨rfl, rfl⟩⟩
theorem DivMod_zero (m : Nat) (h1 : (limbs m).length < 274877906944) : ACalls P gl F_nat_DivMod [num m, num 0] σ (fun v σ' => v = .tup [num 0, num 0, .w (.int .i64 12)] ∧ σ' = σ) := by
  refine C_nat_DivMod.calls hm ?_
  refine CallVC.here (good_num m (by omega)) ?_
  rintro v σ' ⟨rfl, rfl⟩
  refine ⟨fun _ => ?_, (fun h => by cases h)⟩
  refine CallVC.here (good_num 0 (by rw [limbs_zero]; decide)) ?_
  rintro v σ' ⟨rfl, rfl⟩
  refine ⟨(fun h => by cases h), fun _ => ⟨fun h => ?_, fun h => ?_⟩⟩
  · exact Ret.sub .refl (.tup (ys := [.fs [] 0, .fs [] 0, .w (.int .i64 12)]) ⟨.nil_fs, .nil_fs, .refl .refl _, trivial⟩) ⟨by rw [num_zero], rfl⟩
  · exfalso
    have : (limbs 0).length ≠ 0 := by simpa using h
    rw [limbs_zero] at this; simp at this
theorem Gcd_spec (m n : Nat) (h1 : (limbs m).length < 274877906944) (h2 : (limbs n).length < 274877906944) : ACalls P gl F_nat_Gcd [num m, num n] σ (fun v σ' => v = NumE (Nat.gcd m n) ∧ σ' = σ) := by
  refine C_nat_Gcd.calls hm ?_
  refine CallVC.here (good_num m (by omega)) ?_
  rintro v σ' ⟨rfl, rfl⟩
  refine ⟨fun _ => ?_, (fun h => by cases h)⟩
  refine CallVC.here (good_num n (by omega)) ?_
  rintro v σ' ⟨rfl, rfl⟩
  refine ⟨(fun h => by cases h), fun _ => ?_⟩
  refine CallVC.here (clone_spec (limbs m) (by omega)).frozen ?_
  rintro v σ' ⟨rfl, rfl⟩
  refine CallVC.here (clone_spec (limbs n) (by omega)).frozen ?_
  rintro v σ' ⟨rfl, rfl⟩
  refine ⟨fun k env σ'' => ∃ a : Nat, Nat.gcd a k = Nat.gcd m n ∧ (limbs a).length < 274877906944 ∧ (limbs k).length < 274877906944 ∧ σ'' = σ' ∧ env = [(0, num a), (1, num k)], Wk.here ⟨n, m, rfl, h1, h2, rfl, rfl⟩, ?_⟩
  rintro k env σ'' ⟨a, hg, ha, hb, rfl, rfl⟩
  refine ⟨fun h => ?_, fun h => ?_⟩
  · have hk : 0 < k := by
      have h := of_decide_eq_true h
      rcases Nat.eq_zero_or_pos k with h0 | h0
      · subst h0; rw [limbs_zero] at h; simp at h
      · exact h0
    refine CallVC.here (div_spec a k hk ha hb) ?_
    rintro v σ' ⟨rfl, rfl⟩
    have hlt := Nat.mod_lt a hk
    refine ⟨_, rfl, _, rfl, Wk.here ⟨a % k, hlt, k, ?_, hb, by have := len_mono (Nat.le_of_lt hlt); omega, rfl, rfl⟩⟩
    rw [← hg, Nat.gcd_comm a k, Nat.gcd_rec k a, Nat.gcd_comm]
  · have hk : k = 0 := by
      have h := of_decide_eq_false h
      have : (limbs k).length = 0 := by omega
      exact limbs_eq_nil.1 (List.eq_nil_of_length_eq_zero this)
    subst hk
    refine Ret.here ⟨?_, rfl⟩
    rw [← hg, Nat.gcd_zero_right]; rfl
theorem gcds1_spec (m n : Nat) (h1 : (limbs m).length < 274877906944) (h2 : (limbs n).length < 274877906944) : ACalls P gl F_gaugelaw1_NatGcds_1 [num m, num n] σ (fun v σ' => v = num (Nat.gcd m n) ∧ σ' = σ) := by
  refine C_gaugelaw1_NatGcds_1.calls hm ?_
  refine CallVC.here (Gcd_spec m n h1 h2) ?_
  rintro v σ' ⟨rfl, rfl⟩
  exact ⟨_, rfl, _, rfl, Ret.here ⟨rfl, rfl⟩⟩
end Go.Proofs.Ytigedaepbilokaa.Nat
