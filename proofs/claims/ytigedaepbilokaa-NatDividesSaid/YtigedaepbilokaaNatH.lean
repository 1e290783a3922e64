import Derived.Test.YtigedaepbilokaaNatG
import Derived.Laws.Strings
namespace Go.Ab.Nn
def bl (n : Nat) : Nat := if n = 0 then 0 else Nat.log2 n + 1
theorem bl_zero : bl 0 = 0 := rfl
theorem bl_le {n k : Nat} : bl n ≤ k ↔ n < 2 ^ k := by
  unfold bl
  split
  · rename_i h
    subst h
    simp [Nat.pow_pos]
  · rename_i h
    rw [← Nat.log2_lt h]
    omega
theorem bl_lt {n k : Nat} : k < bl n ↔ 2 ^ k ≤ n := by
  have := @bl_le n k
  omega
theorem bl_mono {m n : Nat} (h : m ≤ n) : bl m ≤ bl n := bl_le.2 (Nat.lt_of_le_of_lt h (bl_le.1 (Nat.le_refl _)))
theorem bl_eq {n L : Nat} (h1 : n < 2 ^ L) (h2 : ∀ k, k < L → 2 ^ k ≤ n) : bl n = L := by
  refine Nat.le_antisymm (bl_le.2 h1) ?_
  rcases Nat.eq_zero_or_pos L with h | h
  · omega
  · have := bl_lt.2 (h2 (L - 1) (by omega))
    omega
theorem bl_shift {n j : Nat} (h : 2 ^ j ≤ n) : bl n = bl (n / 2 ^ j) + j := by
  have hp : 0 < 2 ^ j := Nat.pow_pos (by decide)
  refine bl_eq ?_ fun k hk => ?_
  · rw [Nat.pow_add]
    have := bl_le.1 (Nat.le_refl (bl (n / 2 ^ j)))
    exact (Nat.div_lt_iff_lt_mul hp).1 this
  · by_cases hkj : k ≤ j
    · exact Nat.le_trans (Nat.pow_le_pow_right (by decide) hkj) h
    · have h2 := bl_lt.1 (show k - j < bl (n / 2 ^ j) by omega)
      have h3 := (Nat.le_div_iff_mul_le hp).1 h2
      rwa [← Nat.pow_add, show k - j + j = k by omega] at h3
theorem bl_pow (n : Nat) : bl (2 ^ n) = n + 1 := bl_eq (Nat.pow_lt_pow_right (by decide) (by omega)) fun k hk => Nat.pow_le_pow_right (by decide) (by omega)

/-- how many bits a byte has -/
def tab8 : ByteArray := ⟨#[0, 1, 2, 2, 3, 3, 3, 3, 4, 4, 4, 4, 4, 4, 4, 4, 5, 5, 5, 5, 5, 5, 5, 5, 5, 5, 5, 5, 5, 5, 5, 5, 6, 6, 6, 6, 6, 6, 6, 6, 6, 6, 6, 6, 6, 6, 6, 6, 6, 6, 6, 6, 6, 6, 6, 6, 6, 6, 6, 6, 6, 6, 6, 6, 7, 7, 7, 7, 7, 7, 7, 7, 7, 7, 7, 7, 7, 7, 7, 7, 7, 7, 7, 7, 7, 7, 7, 7, 7, 7, 7, 7, 7, 7, 7, 7, 7, 7, 7, 7, 7, 7, 7, 7, 7, 7, 7, 7, 7, 7, 7, 7, 7, 7, 7, 7, 7, 7, 7, 7, 7, 7, 7, 7, 7, 7, 7, 7, 8, 8, 8, 8, 8, 8, 8, 8, 8, 8, 8, 8, 8, 8, 8, 8, 8, 8, 8, 8, 8, 8, 8, 8, 8, 8, 8, 8, 8, 8, 8, 8, 8, 8, 8, 8, 8, 8, 8, 8, 8, 8, 8, 8, 8, 8, 8, 8, 8, 8, 8, 8, 8, 8, 8, 8, 8, 8, 8, 8, 8, 8, 8, 8, 8, 8, 8, 8, 8, 8, 8, 8, 8, 8, 8, 8, 8, 8, 8, 8, 8, 8, 8, 8, 8, 8, 8, 8, 8, 8, 8, 8, 8, 8, 8, 8, 8, 8, 8, 8, 8, 8, 8, 8, 8, 8, 8, 8, 8, 8, 8, 8, 8, 8, 8, 8, 8, 8, 8, 8, 8, 8, 8, 8, 8, 8, 8, 8]⟩
theorem tab8_get : ∀ b : Fin 256, tab8.data.toList[b.val]? = some (UInt8.ofNat (bl b.val)) := by decide +kernel
end Go.Ab.Nn
namespace Go.Proofs.Ytigedaepbilokaa.Nat
open Go Go.Ab Go.Ab.Nn
set_option linter.unusedVariables false
set_option maxRecDepth 8000
variable {gl : Nat → Option (List AV)} {σ : Own}

theorem Len64_j3 {x n : Nat} (hx : x < 256) (hn : n ≤ 1000) (R : AV → Own → Prop) (h : R (.w (.int .i64 (n + bl x : Nat))) σ) : vc (cx P gl) S_math_bits_Len64_j3 (retQ (Says gl) [2] R) [(0, u x), (2, .w (.int .i64 n))] σ := by
  have hb : bl x ≤ 8 := bl_le.2 hx
  refine ⟨(x : Nat), by simp [IntKind.wrap, IntKind.bits, IntKind.signed]; omega, x, rfl, UInt8.ofNat (bl x), ?_, (bl x : Nat), ?_, (n + bl x : Nat), by rw [wi] <;> omega, Ret.here h⟩
  · show tab8.toList[x]? = _
    rw [ByteArray.toList_eq]
    exact tab8_get ⟨x, hx⟩
  · have e : (UInt8.ofNat (bl x)).toNat = bl x := by
      rw [UInt8.toNat_ofNat']; omega
    rw [e, wi] <;> omega
theorem Len64_j2 {x n : Nat} (hx : x < 65536) (hn : n ≤ 900) (R : AV → Own → Prop) (h : R (.w (.int .i64 (n + bl x : Nat))) σ) : vc (cx P gl) S_math_bits_Len64_j2 (retQ (Says gl) [2] R) [(0, u x), (2, .w (.int .i64 n))] σ := by
  refine ⟨fun h1 => ?_, fun h1 => ?_⟩
  · have h1 : x ≥ 256 := by have := of_decide_eq_true h1; omega
    refine ⟨by decide, _, wshr x 8, (n + 8 : Nat), by rw [wi] <;> omega, Wk.here (Len64_j3 (by omega) (by omega) R ?_)⟩
    rw [bl_shift (j := 8) h1] at h
    rwa [show n + 8 + bl (x / 2 ^ 8) = n + (bl (x / 2 ^ 8) + 8) by omega]
  · have h1 : ¬ x ≥ 256 := by have := of_decide_eq_false h1; omega
    exact Wk.here (Len64_j3 (by omega) (by omega) R h)
theorem Len64_j1 {x n : Nat} (hx : x < 4294967296) (hn : n ≤ 800) (R : AV → Own → Prop) (h : R (.w (.int .i64 (n + bl x : Nat))) σ) : vc (cx P gl) S_math_bits_Len64_j1 (retQ (Says gl) [2] R) [(0, u x), (2, .w (.int .i64 n))] σ := by
  refine ⟨fun h1 => ?_, fun h1 => ?_⟩
  · have h1 : x ≥ 65536 := by have := of_decide_eq_true h1; omega
    refine ⟨by decide, _, wshr x 16, (n + 16 : Nat), by rw [wi] <;> omega, Wk.here (Len64_j2 (by omega) (by omega) R ?_)⟩
    rw [bl_shift (j := 16) h1] at h
    rwa [show n + 16 + bl (x / 2 ^ 16) = n + (bl (x / 2 ^ 16) + 16) by omega]
  · have h1 : ¬ x ≥ 65536 := by have := of_decide_eq_false h1; omega
    exact Wk.here (Len64_j2 (by omega) (by omega) R h)
theorem Len64_spec (x : Nat) (hx : x < 18446744073709551616) : ACalls P gl F_math_bits_Len64 [u x] σ (fun v σ' => v = .w (.int .i64 (bl x : Nat)) ∧ σ' = σ) := by
  refine C_math_bits_Len64.calls hm ?_
  refine ⟨fun h1 => ?_, fun h1 => ?_⟩
  · have h1 : x ≥ 4294967296 := by have := of_decide_eq_true h1; omega
    refine ⟨by decide, _, wshr x 32, Wk.here (Len64_j1 (n := 32) (by omega) (by omega) _ ?_)⟩
    rw [bl_shift (j := 32) h1, Nat.add_comm]; exact ⟨rfl, rfl⟩
  · have h1 : ¬ x ≥ 4294967296 := by have := of_decide_eq_false h1; omega
    exact Wk.here (Len64_j1 (n := 0) (by omega) (by omega) _ ⟨by rw [Nat.zero_add], rfl⟩)

theorem len_val {l : List Nat} (hw : W l) {i : Nat} (hi : i < l.length) (h0 : l.getD i 0 ≠ 0) : bl (val (l.take (i + 1))) = 64 * i + bl (l.getD i 0) := by
  rw [val_take_succ]
  have h1 := W_getD_take hw i
  have hp : 18446744073709551616 ^ i = 2 ^ (64 * i) := by rw [show 18446744073709551616 = 2 ^ 64 from rfl, ← Nat.pow_mul]
  rw [hp] at h1 ⊢
  have hp0 : 0 < 2 ^ (64 * i) := Nat.pow_pos (by decide)
  rw [bl_shift (j := 64 * i), Nat.add_mul_div_left _ _ hp0, Nat.div_eq_of_lt h1, Nat.zero_add, Nat.add_comm]
  refine Nat.le_trans ?_ (Nat.le_add_left _ _)
  exact Nat.le_mul_of_pos_right _ (by omega)
theorem Len_spec (n : Nat) (h : (limbs n).length < 1099511627775) : ACalls P gl F_nat_Len [num n] σ (fun v σ' => v = .w (.int .i64 (bl n : Nat)) ∧ σ' = σ) := by
  refine C_nat_Len.calls hm ?_
  refine ⟨fun h1 => ?_, fun h1 => ?_⟩
  · have h1 : (limbs n).length ≠ 0 := by simpa using h1
    refine CallVC.here (good_num n (by omega)) ?_
    rintro v σ' ⟨rfl, rfl⟩
    refine ⟨(fun h => by cases h), fun _ => ?_⟩
    have ht := getD_lt (W_limbs n) ((limbs n).length - 1)
    have h0 : (limbs n).getD ((limbs n).length - 1) 0 ≠ 0 := by
      have := mayB_limbs n
      rw [mayB_last h1] at this
      simpa using this
    have hv := len_val (W_limbs n) (i := (limbs n).length - 1) (by omega) h0
    rw [show (limbs n).length - 1 + 1 = (limbs n).length by omega, List.take_length, val_limbs] at hv
    have hb : bl ((limbs n).getD ((limbs n).length - 1) 0) ≤ 64 := bl_le.2 ht
    refine ⟨((limbs n).length - 1 : Nat), by rw [wi] <;> omega, (64 * ((limbs n).length - 1) : Nat), by rw [wi] <;> omega, ((limbs n).length - 1 : Nat), by rw [wi] <;> omega, (limbs n).length - 1, rfl, by omega, _, hd1 0 (by omega), ?_⟩
    refine CallVC.here (Len64_spec _ ht) ?_
    rintro v σ' ⟨rfl, rfl⟩
    exact ⟨(bl n : Nat), by rw [hv, wi] <;> omega, Ret.here ⟨rfl, rfl⟩⟩
  · have h1 : n = 0 := by
      have : (limbs n).length = 0 := by simpa using h1
      exact limbs_eq_nil.1 (List.eq_nil_of_length_eq_zero this)
    subst h1
    exact ⟨fun _ => Ret.here ⟨rfl, rfl⟩, (fun h => by cases h)⟩
end Go.Proofs.Ytigedaepbilokaa.Nat
