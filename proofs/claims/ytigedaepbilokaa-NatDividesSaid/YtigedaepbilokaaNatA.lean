import Derived.Test.YtigedaepbilokaaAbCodes
import Derived.Test.YtigedaepbilokaaLn2
namespace Go.Proofs.Ytigedaepbilokaa.Nat
open Go Go.Ab Go.Ab.Nn
set_option linter.unusedVariables false
noncomputable abbrev P : Program := Go.Proofs.Try.prog
theorem hm : P.follows .mixedOrders = true := by kernel_rfl
variable {gl : Nat → Option (List AV)} {σ : Own}

theorem trim_own {b : Nat} {ob : Ob} {l : List Nat} {c : Nat} (hb : σ b = some ob) (hx : ob.xs = l.map u) (hc : l.length ≤ c) (hl : l.length < 1099511627776) (hw : W l) :
    ACalls P gl F_nat_trim [.w (.slice (some ⟨b, 0, none⟩) l.length c)] σ (fun v σ' => v = .w (.slice (some ⟨b, 0, none⟩) (strip l).length (strip l).length) ∧ σ' = σ) := by
  refine C_nat_trim.calls hm ?_
  refine ⟨fun m env σ' => σ' = σ ∧ env = [(0, .w (.slice (some ⟨b, 0, none⟩) l.length c)), (3, .w (.int .i64 m))] ∧ m ≤ l.length ∧ strip (l.take m) = strip l, Wk.here ⟨l.length, rfl, rfl, Nat.le_refl _, by rw [List.take_length]⟩, ?_⟩
  rintro m env σ' ⟨rfl, rfl, hml, hs⟩
  refine ⟨fun h1 => ?_, fun h1 => ?_⟩
  · have h1 : (m : Int) > 0 := of_decide_eq_true h1
    obtain ⟨m, rfl⟩ : ∃ k, m = k + 1 := ⟨m - 1, by omega⟩
    refine ⟨m, by rw [wi] <;> omega, m, rfl, by omega, ob, hb, _, by rw [hx]; exact hd0 0 (by omega), ?_⟩
    refine ⟨fun h2 => ?_, fun h2 => ?_⟩
    · refine ⟨m, by rw [wi] <;> omega, Wk.here ⟨m, by omega, rfl, rfl, by omega, ?_⟩⟩
      rw [← hs, strip_take_succ (by omega) (by simpa using h2)]
    · refine ⟨0, m + 1, m + 1, rfl, rfl, rfl, by omega, by omega, by omega, 0, fun _ => by simp, fun _ => rfl, Ret.here ⟨?_, rfl⟩⟩
      have : strip l = l.take (m + 1) := by rw [← hs]; exact strip_top hw (by omega) (by simpa using h2)
      have h3 : (strip l).length = m + 1 := by rw [this, List.length_take]; omega
      rw [h3]; rfl
  · have h1 : ¬ (m : Int) > 0 := of_decide_eq_false h1
    obtain rfl : m = 0 := by omega
    refine ⟨(fun h => by cases h), fun _ => ?_⟩
    refine ⟨0, 0, 0, rfl, rfl, rfl, by omega, by omega, by omega, 0, fun _ => by simp, fun _ => rfl, Ret.here ⟨?_, rfl⟩⟩
    rw [← hs]; simp [strip, val, limbs_zero]

/-- what trim leaves of a block just filled -/
theorem owns_strip {b : Nat} {l : List Nat} {n : Nat} (hb : σ b = none) (hw : W l) (hn : l.length = n) : Owns σ (strip l) (.w (.slice (some ⟨b, 0, none⟩) (strip l).length (strip l).length)) (upd σ b ⟨l.map u, n⟩) :=
  .inr (.inr ⟨b, _, _, hb, rfl, Nat.le_refl _, by show _ ≤ n; have := strip_len hw; omega, by rw [← List.map_take, take_strip hw], rfl⟩)

theorem good_spec (l : List Nat) (hl : l.length < 1099511627776) : ACalls P gl F_nat_good [nat l] σ (fun v σ' => v = .w (.bool (mayB l)) ∧ σ' = σ) := by
  refine C_nat_good.calls hm ?_
  refine ⟨fun h1 => ?_, fun h1 => ?_⟩
  · have h1 : l.length ≠ 0 := by simpa using h1
    refine ⟨((l.length - 1 : Nat) : Int), by rw [wi] <;> omega, l.length - 1, rfl, by omega, _, hd1 0 (by omega), Ret.here ⟨?_, rfl⟩⟩
    rw [mayB_last h1]
  · have h1 : l = [] := by simpa using h1
    subst h1
    exact Ret.here ⟨rfl, rfl⟩
theorem good_num (n : Nat) (hl : (limbs n).length < 1099511627776) : ACalls P gl F_nat_good [num n] σ (fun v σ' => v = .w (.bool true) ∧ σ' = σ) := by
  have := good_spec (gl := gl) (σ := σ) (limbs n) hl
  rwa [mayB_limbs] at this

theorem check_spec (l : List Nat) (hl : l.length < 1099511627776) : ACalls P gl F_nat_Check [nat l] σ (fun v σ' => v = .w (.int .i64 (if mayB l then 0 else 10)) ∧ σ' = σ) := by
  refine C_nat_Check.calls hm ?_
  refine CallVC.here (good_spec l hl) ?_
  rintro v σ' ⟨rfl, rfl⟩
  refine ⟨fun h => Ret.here ⟨by rw [h]; rfl, rfl⟩, fun h => Ret.here ⟨by rw [h]; rfl, rfl⟩⟩

theorem from_spec (n : Nat) (hn : n < 18446744073709551616) : ACalls P gl F_nat_From [.w (.int .u64 n)] σ (fun v σ' => v = num n ∧ σ' = σ) := by
  refine C_nat_From.calls hm ?_
  refine ⟨fun h => ?_, fun h => ?_⟩
  · have h : n = 0 := by simpa using h
    subst h
    refine Ret.sub .refl .nil_fs ⟨?_, rfl⟩
    unfold num; rw [limbs_zero]; rfl
  · have h : n ≠ 0 := by simpa using h
    refine Ret.sub .refl (.ff_fs .refl _ _) ⟨?_, rfl⟩
    unfold num
    rw [limbs_pos h, Nat.div_eq_of_lt hn, limbs_zero, Nat.mod_eq_of_lt hn]; rfl

theorem cmp_spec (m n : Nat) (h1 : (limbs m).length < 1099511627776) (h2 : (limbs n).length < 1099511627776) : ACalls P gl F_nat_cmp [num m, num n] σ (fun v σ' => v = .w (.int .i64 (c3 m n)) ∧ σ' = σ) := by
  refine C_nat_cmp.calls hm ?_
  refine ⟨fun h => ?_, fun h => ?_⟩
  · have h : (limbs m).length ≠ (limbs n).length := by
      intro e; simp [e] at h
    refine ⟨fun h => ?_, fun h => ?_⟩
    · have h : ((limbs m).length : Int) < (limbs n).length := of_decide_eq_true h
      exact Ret.here ⟨by rw [c3_lt (lt_of_len (by omega))], rfl⟩
    · have h : ¬ ((limbs m).length : Int) < (limbs n).length := of_decide_eq_false h
      exact Ret.here ⟨by rw [c3_gt (lt_of_len (by omega))], rfl⟩
  · have h : (limbs m).length = (limbs n).length := by
      have : ((limbs m).length : Int) = (limbs n).length := by simpa using h
      omega
    refine ⟨(limbs m).length - 1, by rw [wi] <;> omega, ?_⟩
    refine ⟨fun k env σ' => σ' = σ ∧ env = [(0, num m), (1, num n), (5, .w (.int .i64 ((k : Int) - 1)))] ∧ k ≤ (limbs m).length ∧ (limbs m).drop k = (limbs n).drop k, Wk.here ⟨(limbs m).length, rfl, rfl, Nat.le_refl _, by rw [List.drop_length, h, List.drop_length]⟩, ?_⟩
    rintro k env σ' ⟨rfl, rfl, hk, hd⟩
    have hvm : m = val ((limbs m).take k) + 18446744073709551616 ^ k * val ((limbs m).drop k) := by
      have := val_append ((limbs m).take k) ((limbs m).drop k)
      rwa [List.take_append_drop, val_limbs, List.length_take, Nat.min_eq_left hk] at this
    have hvn : n = val ((limbs n).take k) + 18446744073709551616 ^ k * val ((limbs n).drop k) := by
      have := val_append ((limbs n).take k) ((limbs n).drop k)
      rwa [List.take_append_drop, val_limbs, List.length_take, Nat.min_eq_left (by omega)] at this
    refine ⟨fun h => ?_, fun h => ?_⟩
    · have h : ((k : Int) - 1) ≥ 0 := of_decide_eq_true h
      obtain ⟨k, rfl⟩ : ∃ j, k = j + 1 := ⟨k - 1, by omega⟩
      rw [val_take_succ] at hvm hvn
      have w1 := W_getD_take (W_limbs m) k
      have w2 := W_getD_take (W_limbs n) k
      refine ⟨k, by omega, by show k < _; omega, _, hd1 0 (by omega), k, by omega, by show k < _; omega, _, hd1 0 (by omega), ?_⟩
      refine ⟨fun h => ?_, fun h => ?_⟩
      · have h : (((limbs m).getD k 0 : Nat) : Int) < (limbs n).getD k 0 := of_decide_eq_true h
        refine Ret.here ⟨?_, rfl⟩
        rw [c3_lt]
        have := lt_of_top (V' := val ((limbs n).take k)) w1 (x := (limbs m).getD k 0) (y := (limbs n).getD k 0) (by omega)
        rw [hd] at hvm
        omega
      · have h : ¬ (((limbs m).getD k 0 : Nat) : Int) < (limbs n).getD k 0 := of_decide_eq_false h
        refine ⟨k, by omega, by show k < _; omega, _, hd1 0 (by omega), k, by omega, by show k < _; omega, _, hd1 0 (by omega), ?_⟩
        refine ⟨fun h' => ?_, fun h' => ?_⟩
        · have h' : (((limbs m).getD k 0 : Nat) : Int) > (limbs n).getD k 0 := of_decide_eq_true h'
          refine Ret.here ⟨?_, rfl⟩
          rw [c3_gt]
          have := lt_of_top (V' := val ((limbs m).take k)) w2 (x := (limbs n).getD k 0) (y := (limbs m).getD k 0) (by omega)
          rw [hd] at hvm
          omega
        · have h' : ¬ (((limbs m).getD k 0 : Nat) : Int) > (limbs n).getD k 0 := of_decide_eq_false h'
          refine ⟨(k : Int) - 1, by rw [wi] <;> omega, Wk.here ⟨k, by omega, rfl, rfl, by omega, ?_⟩⟩
          have e : (limbs m).getD k 0 = (limbs n).getD k 0 := by omega
          rw [List.drop_eq_getElem_cons (by omega), hd]
          rw [List.drop_eq_getElem_cons (show k < (limbs n).length by omega)]
          congr 1
          simpa [List.getD_eq_getElem?_getD, show k < (limbs m).length by omega, show k < (limbs n).length by omega] using e
    · have h : ¬ ((k : Int) - 1) ≥ 0 := of_decide_eq_false h
      obtain rfl : k = 0 := by omega
      refine Ret.here ⟨?_, rfl⟩
      have : m = n := limbs_inj (by simpa using hd)
      rw [this, c3_self]
end Go.Proofs.Ytigedaepbilokaa.Nat
