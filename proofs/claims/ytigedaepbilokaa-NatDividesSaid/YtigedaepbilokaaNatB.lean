import Derived.Test.YtigedaepbilokaaNatA
namespace Go.Proofs.Ytigedaepbilokaa.Nat
open Go Go.Ab Go.Ab.Nn
set_option linter.unusedVariables false
variable {gl : Nat → Option (List AV)} {σ : Own}

theorem Cmp_spec (a b : List Nat) (wa : W a) (wb : W b) (ha : a.length < 1099511627776) (hb : b.length < 1099511627776) :
    ACalls P gl F_nat_Cmp [nat a, nat b] σ (fun v σ' => v = .w (.int .i64 (if mayB a ∧ mayB b then c3 (val a) (val b) else 0)) ∧ σ' = σ) := by
  refine C_nat_Cmp.calls hm ?_
  refine CallVC.here (good_spec a ha) ?_
  rintro v σ' ⟨rfl, rfl⟩
  refine ⟨fun h => ?_, fun h => ?_⟩
  · have h : mayB a = true := by simpa using h
    refine CallVC.here (good_spec b hb) ?_
    rintro v σ' ⟨rfl, rfl⟩
    refine ⟨fun h2 => ?_, fun h2 => ?_⟩
    · have h2 : mayB b = false := by simpa using h2
      exact Ret.here ⟨by simp [h2], rfl⟩
    · have h2 : mayB b = true := by simpa using h2
      have e1 := mayB_eq wa h
      have e2 := mayB_eq wb h2
      have := cmp_spec (gl := gl) (σ := σ') (val a) (val b) (by rw [← e1]; exact ha) (by rw [← e2]; exact hb)
      unfold num at this
      rw [← e1, ← e2] at this
      refine CallVC.here this ?_
      rintro v σ' ⟨rfl, rfl⟩
      exact Ret.here ⟨by simp [h, h2], rfl⟩
  · have h : mayB a = false := by simpa using h
    refine ⟨fun _ => Ret.here ⟨by simp [h], rfl⟩, fun h => by cases h⟩

theorem small_spec (a : List Nat) (ha : a.length < 1099511627776) :
    ACalls P gl F_nat_Small [nat a] σ (fun v σ' => v = .tup [u (if mayB a ∧ a.length ≤ 1 then a.getD 0 0 else 0), .w (.bool (mayB a && decide (a.length ≤ 1)))] ∧ σ' = σ) := by
  refine C_nat_Small.calls hm ?_
  refine CallVC.here (good_spec a ha) ?_
  rintro v σ' ⟨rfl, rfl⟩
  refine ⟨fun h => ?_, fun h => ?_⟩
  · have h : mayB a = true := by simpa using h
    refine ⟨fun h2 => ?_, fun h2 => ?_⟩
    · have h2 : ¬ a.length ≤ 1 := by have := of_decide_eq_true h2; omega
      exact Ret.here ⟨by simp [h, h2]; rfl, rfl⟩
    · have h2 : a.length ≤ 1 := by have := of_decide_eq_false h2; omega
      refine ⟨fun h3 => ?_, fun h3 => ?_⟩
      · have h3 : a = [] := by simpa using h3
        subst h3
        exact Ret.here ⟨by simp [h]; rfl, rfl⟩
      · have h3 : a ≠ [] := by simpa using h3
        have h3 : 0 < a.length := List.length_pos_iff.2 h3
        refine ⟨0, rfl, h3, _, hd1 0 h3, Ret.here ⟨by simp [h, h2, u], rfl⟩⟩
  · have h : mayB a = false := by simpa using h
    exact ⟨fun _ => Ret.here ⟨by simp [h]; rfl, rfl⟩, fun h => by cases h⟩

/-- New memory that holds just these words. -/
def Fresh (σ : Own) (l : List Nat) (v : AV) (σ' : Own) : Prop :=
  (l = [] ∧ v = .w (.slice none 0 0) ∧ σ' = σ) ∨ (l = [] ∧ v = .ff [] 0 ∧ σ' = σ) ∨
  ∃ b c c', σ b = none ∧ v = .w (.slice (some ⟨b, 0, none⟩) l.length c) ∧ l.length ≤ c ∧ c ≤ c' ∧ σ' = upd σ b ⟨l.map u, c'⟩
theorem Fresh.owns {l : List Nat} {v : AV} {σ' : Own} (h : Fresh σ l v σ') : Owns σ l v σ' := by
  rcases h with h | h | ⟨b, c, c', hb, hv, hc, hc', hs⟩
  · exact .inl h
  · exact .inr (.inl h)
  · exact .inr (.inr ⟨b, c, _, hb, hv, hc, hc', by show List.take _ (l.map u) = _; rw [List.take_of_length_le (by simp)], hs⟩)

theorem clone_fresh (a : List Nat) (ha : a.length < 1099511627776) : ACalls P gl F_slices_Clone [nat a] σ (Fresh σ a) := by
  refine C_slices_Clone.calls hm ?_
  refine fun b hb => ⟨fun h => ?_, fun h => ?_⟩
  · have h : a = [] := by
      by_cases h0 : 0 < a.length
      · rw [hb h0] at h; cases h
      · exact List.eq_nil_of_length_eq_zero (by omega)
    exact Ret.here (.inl ⟨h, rfl, rfl⟩)
  · refine ⟨by simp, by simp, fun h0 => ?_, fun h0 => ⟨by omega, by omega, fun b' c hb' hc => ?_⟩⟩
    · have h0 : a = [] := List.eq_nil_of_length_eq_zero h0
      subst h0
      exact Ret.here (.inr (.inl ⟨rfl, rfl, rfl⟩))
    · refine Ret.here (.inr (.inr ⟨b', c, c, hb', by simp, by omega, by omega, ?_⟩))
      rw [List.take_of_length_le (l := a.map u) (by simp), Nat.mul_one, List.take_zero, List.nil_append, Nat.mul_one]
theorem clone_spec (a : List Nat) (ha : a.length < 1099511627776) : ACalls P gl F_slices_Clone [nat a] σ (Owns σ a) := (clone_fresh a ha).mono fun _ _ h => h.owns
end Go.Proofs.Ytigedaepbilokaa.Nat
