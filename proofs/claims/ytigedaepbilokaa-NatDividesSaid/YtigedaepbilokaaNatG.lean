import Derived.Test.YtigedaepbilokaaNatF
namespace Go.Proofs.Ytigedaepbilokaa.Nat
open Go Go.Ab Go.Ab.Nn
set_option linter.unusedVariables false
set_option maxRecDepth 8000
variable {gl : Nat → Option (List AV)} {σ : Own}

/-- A number in new memory, and a word beside it. -/
def OwnsE (σ : Own) (n : Nat) (v : AV) (σ' : Own) : Prop := ∃ w, v = .tup [w, .w (.int .i64 0)] ∧ Owns σ (limbs n) w σ'
def NumE (n : Nat) : AV := .tup [num n, .w (.int .i64 0)]
theorem OwnsE.sub {n : Nat} {v : AV} {σ' : Own} (h : OwnsE σ n v σ') : Sub gl σ' σ v (NumE n) ∧ Del σ' σ := by
  obtain ⟨w, rfl, h⟩ := h
  exact ⟨.tup ⟨h.sub, .refl h.del _, trivial⟩, h.del⟩
theorem _root_.Go.Ab.ACalls.numE {f : FuncId} {args : List AV} {n : Nat} (h : ACalls P gl f args σ (OwnsE σ n)) : ACalls P gl f args σ (fun v σ' => v = NumE n ∧ σ' = σ) :=
  h.sub fun v σ' ho => ⟨_, σ, (ho.sub (gl := gl)).2, ho.sub.1, rfl, rfl⟩

theorem Add_spec (m n : Nat) (h1 : (limbs m).length < 1099511627775) (h2 : (limbs n).length < 1099511627775) : ACalls P gl F_nat_Add [num m, num n] σ (OwnsE σ (m + n)) := by
  refine C_nat_Add.calls hm ?_
  refine CallVC.here (good_num m (by omega)) ?_
  rintro v σ' ⟨rfl, rfl⟩
  refine ⟨fun _ => ?_, (fun h => by cases h)⟩
  refine CallVC.here (good_num n (by omega)) ?_
  rintro v σ' ⟨rfl, rfl⟩
  refine ⟨(fun h => by cases h), fun _ => ?_⟩
  refine CallVC.here (add_spec _ _ (W_limbs m) (W_limbs n) h1 h2) ?_
  intro v σ' h
  rw [val_limbs, val_limbs] at h
  exact Ret.here ⟨_, rfl, h⟩
theorem Mul_spec (m n : Nat) (h : (limbs m).length + (limbs n).length < 1099511627775) : ACalls P gl F_nat_Mul [num m, num n] σ (OwnsE σ (m * n)) := by
  refine C_nat_Mul.calls hm ?_
  refine CallVC.here (good_num m (by omega)) ?_
  rintro v σ' ⟨rfl, rfl⟩
  refine ⟨fun _ => ?_, (fun h => by cases h)⟩
  refine CallVC.here (good_num n (by omega)) ?_
  rintro v σ' ⟨rfl, rfl⟩
  refine ⟨(fun h => by cases h), fun _ => ?_⟩
  refine CallVC.here (mul_spec _ _ (W_limbs m) (W_limbs n) h) ?_
  intro v σ' h
  rw [val_limbs, val_limbs] at h
  exact Ret.here ⟨_, rfl, h⟩
theorem Sub_spec (m n : Nat) (h1 : (limbs m).length < 1099511627775) (h2 : (limbs n).length < 1099511627775) : ACalls P gl F_nat_Sub [num m, num n] σ (fun v σ' => if n ≤ m then OwnsE σ (m - n) v σ' else v = .tup [num 0, .w (.int .i64 11)] ∧ σ' = σ) := by
  refine C_nat_Sub.calls hm ?_
  refine CallVC.here (good_num m (by omega)) ?_
  rintro v σ' ⟨rfl, rfl⟩
  refine ⟨fun _ => ?_, (fun h => by cases h)⟩
  refine CallVC.here (good_num n (by omega)) ?_
  rintro v σ' ⟨rfl, rfl⟩
  refine ⟨(fun h => by cases h), fun _ => ?_⟩
  refine CallVC.here (cmp_spec m n (by omega) (by omega)) ?_
  rintro v σ' ⟨rfl, rfl⟩
  refine ⟨fun h => ?_, fun h => ?_⟩
  · have h : ¬ n ≤ m := fun hle => by
      have h := of_decide_eq_true h
      unfold c3 at h
      split at h
      · omega
      · split at h <;> omega
    refine Ret.sub .refl (.tup (ys := [.fs [] 0, .w (.int .i64 11)]) ⟨.nil_fs, .refl .refl _, trivial⟩) ?_
    rw [if_neg h]
    exact ⟨by unfold num; rw [limbs_zero]; rfl, rfl⟩
  · have h : n ≤ m := by
      have h := of_decide_eq_false h
      unfold c3 at h
      split at h
      · omega
      · omega
    refine CallVC.here (sub_spec _ _ (W_limbs m) (W_limbs n) h1 (len_mono h) (by rw [val_limbs, val_limbs]; exact h)) ?_
    intro v σ' h'
    rw [val_limbs, val_limbs] at h'
    refine Ret.here ?_
    rw [if_pos h]
    exact ⟨_, rfl, h'⟩

theorem EqNat_spec (a b : List Nat) (ha : a.length < 1099511627776) : ACalls P gl F_gaugeref0_EqNat [nat a, nat b] σ (fun v σ' => v = .w (.bool (decide (a = b))) ∧ σ' = σ) := by
  refine C_gaugeref0_EqNat.calls hm ?_
  refine ⟨fun h => ?_, fun h => ?_⟩
  · have h : a.length ≠ b.length := by intro e; simp [e] at h
    exact Ret.here ⟨by rw [decide_eq_false (fun e => h (by rw [e]))], rfl⟩
  · have h : a.length = b.length := by
      have : (a.length : Int) = b.length := by simpa using h
      omega
    refine ⟨fun m env σ' => ∃ i, m = a.length - i ∧ i ≤ a.length ∧ a.take i = b.take i ∧ σ' = σ ∧ env = [(0, nat a), (1, nat b), (5, .w (.int .i64 i))], Wk.here ⟨a.length, 0, rfl, by omega, rfl, rfl, rfl⟩, ?_⟩
    rintro m env σ' ⟨i, rfl, hi, ht, rfl, rfl⟩
    refine ⟨fun h => ?_, fun h => ?_⟩
    · have hl : i < a.length := by have := of_decide_eq_true h; omega
      refine ⟨i, rfl, hl, _, hd1 0 hl, i, rfl, by omega, _, hd1 0 (by omega), ?_⟩
      refine ⟨fun h => ?_, fun h => ?_⟩
      · refine Ret.here ⟨?_, rfl⟩
        rw [decide_eq_false]
        rintro rfl
        simp at h
      · have h : a.getD i 0 = b.getD i 0 := by
          have : ((a.getD i 0 : Nat) : Int) = (b.getD i 0 : Nat) := by simpa using h
          omega
        refine ⟨(i + 1 : Nat), by rw [wi] <;> omega, Wk.here ⟨a.length - (i + 1), by omega, i + 1, rfl, by omega, ?_, rfl, rfl⟩⟩
        rw [take_succ_getD hl, take_succ_getD (by omega), ht, h]
    · have hl : ¬ i < a.length := by have := of_decide_eq_false h; omega
      refine Ret.here ⟨?_, rfl⟩
      rw [List.take_of_length_le (by omega), List.take_of_length_le (by omega)] at ht
      rw [decide_eq_true ht]

theorem Trim_spec (l : List Nat) (hw : W l) (hl : l.length < 1099511627776) : ACalls P gl F_gaugeref1_Trim [nat l] σ (fun v σ' => v = num (val l) ∧ σ' = σ) := by
  refine C_gaugeref1_Trim.calls hm ?_
  refine ⟨fun m env σ' => σ' = σ ∧ env = [(0, nat l), (3, .w (.int .i64 m))] ∧ m ≤ l.length ∧ strip (l.take m) = strip l, Wk.here ⟨l.length, rfl, rfl, Nat.le_refl _, by rw [List.take_length]⟩, ?_⟩
  rintro m env σ' ⟨rfl, rfl, hml, hs⟩
  refine ⟨fun h1 => ?_, fun h1 => ?_⟩
  · have h1 : (m : Int) > 0 := of_decide_eq_true h1
    obtain ⟨m, rfl⟩ : ∃ k, m = k + 1 := ⟨m - 1, by omega⟩
    refine ⟨m, by rw [wi] <;> omega, m, rfl, by omega, _, hd1 0 (by omega), ?_⟩
    refine ⟨fun h2 => ?_, fun h2 => ?_⟩
    · refine ⟨m, by rw [wi] <;> omega, Wk.here ⟨m, by omega, rfl, rfl, by omega, ?_⟩⟩
      rw [← hs, strip_take_succ (by omega) (by simpa using h2)]
    · refine ⟨0, m + 1, rfl, rfl, by omega, by omega, Ret.here ⟨?_, rfl⟩⟩
      have : strip l = l.take (m + 1) := by rw [← hs]; exact strip_top hw (by omega) (by simpa using h2)
      have h3 : (strip l).length = m + 1 := by rw [this, List.length_take]; omega
      show AV.fs (List.take ((m + 1 - 0) * 1) (List.drop (0 * 1) (l.map u))) (m + 1 - 0) = .fs ((strip l).map u) (strip l).length
      rw [h3, this, List.map_take]; simp
  · have h1 : ¬ (m : Int) > 0 := of_decide_eq_false h1
    obtain rfl : m = 0 := by omega
    refine ⟨(fun h => by cases h), fun _ => ?_⟩
    refine ⟨0, 0, rfl, rfl, by omega, by omega, Ret.here ⟨?_, rfl⟩⟩
    show _ = AV.fs ((strip l).map u) (strip l).length
    rw [← hs]; simp [strip, val, limbs_zero]

/-- how many words a list of lists holds -/
def tot : List (List Nat) → Nat
  | [] => 0
  | l :: r => l.length + tot r
theorem tot_take_le (ls : List (List Nat)) (i : Nat) : tot (ls.take i) ≤ tot ls := by
  induction ls generalizing i with
  | nil => simp [tot]
  | cons l r ih => cases i with
    | zero => simp [tot]
    | succ i => have := ih i; simp only [List.take_succ_cons, tot]; omega
theorem tot_take_succ {ls : List (List Nat)} {i : Nat} (h : i < ls.length) : tot (ls.take (i + 1)) = tot (ls.take i) + (ls.getD i []).length := by
  induction ls generalizing i with
  | nil => simp at h
  | cons l r ih => cases i with
    | zero => simp [tot]
    | succ i => have := ih (i := i) (by simpa using h); simp only [List.take_succ_cons, tot, List.getD_cons_succ]; omega
theorem Limbs_spec (k : Nat) (ls : List (List Nat)) (hn : ls.length < 1125899906842624) (ht : tot ls < 1125899906842624) : ACalls P gl F_gaugelaw0_Limbs [.w (.int .i64 k), .ff (ls.map nat) ls.length] σ (fun v σ' => v = .w (.bool (decide (k < tot ls))) ∧ σ' = σ) := by
  refine C_gaugelaw0_Limbs.calls hm ?_
  refine ⟨fun m env σ' => ∃ i, m = ls.length - i ∧ i ≤ ls.length ∧ tot (ls.take i) ≤ k ∧ σ' = σ ∧ env = [(0, .w (.int .i64 k)), (1, .ff (ls.map nat) ls.length), (5, .w (.int .i64 (tot (ls.take i) : Nat))), (6, .w (.int .i64 i))], Wk.here ⟨ls.length, 0, rfl, by omega, by simp [tot], rfl, rfl⟩, ?_⟩
  rintro m env σ' ⟨i, rfl, hi, hk, rfl, rfl⟩
  refine ⟨fun h => ?_, fun h => ?_⟩
  · have hl : i < ls.length := by have := of_decide_eq_true h; omega
    have h2 := tot_take_succ hl
    have h3 := tot_take_le ls (i + 1)
    have hw2 : IntKind.i64.wrap (((tot (ls.take i) : Nat) : Int) + ((ls.getD i []).length : Nat)) = (tot (ls.take (i + 1)) : Nat) := by rw [wi] <;> omega
    refine ⟨i, rfl, hl, _, hd1 [] hl, (tot (ls.take (i + 1)) : Nat), hw2, ?_⟩
    refine ⟨fun h => ?_, fun h => ?_⟩
    · have h := of_decide_eq_true h
      exact Ret.here ⟨by rw [decide_eq_true (by omega)], rfl⟩
    · have h := of_decide_eq_false h
      exact ⟨(i + 1 : Nat), by rw [wi] <;> omega, Wk.here ⟨ls.length - (i + 1), by omega, i + 1, rfl, by omega, by omega, rfl, rfl⟩⟩
  · have hl : ¬ i < ls.length := by have := of_decide_eq_false h; omega
    rw [List.take_of_length_le (by omega)] at hk
    exact Ret.here ⟨by rw [decide_eq_false (by omega)], rfl⟩
end Go.Proofs.Ytigedaepbilokaa.Nat
