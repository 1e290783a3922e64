import Derived.Test.YtigedaepbilokaaNatQ
namespace Go.Ab.Nn
theorem val_take_lt {l : List Nat} {k : Nat} (hv : val l < 18446744073709551616 ^ k) : val (l.take k) = val l := by
  by_cases hk : k ≤ l.length
  · have h1 := val_append (l.take k) (l.drop k)
    rw [List.take_append_drop, List.length_take, Nat.min_eq_left hk] at h1
    rcases Nat.eq_zero_or_pos (val (l.drop k)) with h0 | h0
    · rw [h0, Nat.mul_zero, Nat.add_zero] at h1; exact h1.symm
    · exfalso
      have := Nat.mul_le_mul_left (18446744073709551616 ^ k) h0
      omega
  · rw [List.take_of_length_le (by omega)]
theorem val_snoc_zero (l : List Nat) : val (l ++ [0]) = val l := by rw [val_append]; simp [val]
theorem div_step {V V' Z Y T P B qd M : Nat} (eT : T = P * Y) (h : V + P * B * (Z * Y) = M) (hd : T * qd + V' = V) : V' + P * ((qd + B * Z) * Y) = M := by
  rw [← h, ← hd, eT, Nat.add_mul, Nat.mul_add P, Nat.mul_assoc P Y, Nat.mul_comm Y qd, Nat.mul_assoc P B, Nat.mul_assoc B Z]
  omega
end Go.Ab.Nn
namespace Go.Ab
open Nn
theorem upd_comm {σ : Own} {a b : Nat} (h : a ≠ b) (x y : Ob) : upd (upd σ a x) b y = upd (upd σ b y) a x := by
  funext k; unfold upd; split <;> split <;> simp_all
theorem upd_two {σ : Own} {a b : Nat} (h : a ≠ b) (x x' y : Ob) : upd (upd (upd σ a x) b y) a x' = upd (upd σ a x') b y := by
  rw [upd_comm h, upd_upd, upd_comm (fun e => h e.symm)]
/-- one block gives way to another -/
theorem del_swap {σ : Own} {a b : Nat} {x : Ob} (ha : σ a = none) (hb : upd σ a x b = none) (y : Ob) : Del (upd (upd σ a x) b y) (upd σ b y) := fun k => by
  by_cases e : k = b
  · subst e; rw [upd_same, upd_same]; exact .inl rfl
  · rw [upd_ne _ e, upd_ne _ e]
    by_cases e2 : k = a
    · subst e2; exact .inr (.inl ha)
    · rw [upd_ne _ e2]; exact .inl rfl
theorem del_take {σ : Own} {b : Nat} (xs : List AV) (k c : Nat) : Del (upd σ b ⟨xs, c⟩) (upd σ b ⟨xs.take k, c⟩) := fun i => by
  by_cases e : i = b
  · subst e; exact .inr (.inr ⟨_, k, upd_same _ _ _, upd_same _ _ _⟩)
  · rw [upd_ne _ e, upd_ne _ e]; exact .inl rfl
end Go.Ab
namespace Go.Proofs.Ytigedaepbilokaa.Nat
open Go Go.Ab Go.Ab.Nn
set_option linter.unusedVariables false
set_option maxRecDepth 8000
variable {gl : Nat → Option (List AV)} {σ : Own}

/-- A list in a block of the call's own that may be longer. -/
def Grown (σ : Own) (l : List Nat) (v : AV) (σ' : Own) : Prop := ∃ b c ob, σ b = none ∧ v = .w (.slice (some ⟨b, 0, none⟩) l.length c) ∧ l.length ≤ c ∧ c ≤ ob.cap ∧ ob.xs.take l.length = l.map u ∧ σ' = upd σ b ob
theorem _root_.Go.Ab.Owns.grown {l : List Nat} {v : AV} {σ' : Own} (h : Owns σ l v σ') (hl : l ≠ []) : Grown σ l v σ' := by
  rcases h with h | h | h
  · exact absurd h.1 hl
  · exact absurd h.1 hl
  · exact h

theorem trim_fr (l : List Nat) (hw : W l) (hl : l.length < 1099511627776) : ACalls P gl F_nat_trim [nat l] σ (fun v σ' => v = .ff ((strip l).map u) (strip l).length ∧ σ' = σ) := by
  refine C_nat_trim.calls hm ?_
  refine ⟨fun m env σ' => σ' = σ ∧ env = [(0, nat l), (3, .w (.int .i64 m))] ∧ m ≤ l.length ∧ strip (l.take m) = strip l, Wk.here ⟨l.length, rfl, rfl, Nat.le_refl _, by rw [List.take_length]⟩, ?_⟩
  rintro m env σ' ⟨rfl, rfl, hml, hs⟩
  refine ⟨fun h1 => ?_, fun h1 => ?_⟩
  · have h1 : (m : Int) > 0 := of_decide_eq_true h1
    obtain ⟨m, rfl⟩ : ∃ k, m = k + 1 := ⟨m - 1, by omega⟩
    refine ⟨m, by rw [wi] <;> omega, m, rfl, by omega, _, hd1 0 (by omega), ?_⟩
    refine ⟨fun h2 => ?_, fun h2 => ?_⟩
    · refine ⟨m, by rw [wi] <;> omega, Wk.here ⟨m, by omega, rfl, rfl, by omega, ?_⟩⟩
      rw [← hs, strip_take_succ (by omega) (by simpa using h2)]
    · refine ⟨0, m + 1, rfl, rfl, by omega, by omega, rfl, Ret.here ⟨?_, rfl⟩⟩
      have : strip l = l.take (m + 1) := by rw [← hs]; exact strip_top hw (by omega) (by simpa using h2)
      have h3 : (strip l).length = m + 1 := by rw [this, List.length_take]; omega
      show AV.ff (List.take ((m + 1 - 0) * 1) (List.drop (0 * 1) (l.map u))) (m + 1 - 0) = .ff ((strip l).map u) (strip l).length
      rw [h3, this, List.map_take]; simp
  · have h1 : ¬ (m : Int) > 0 := of_decide_eq_false h1
    obtain rfl : m = 0 := by omega
    refine ⟨(fun h => by cases h), fun _ => ?_⟩
    refine ⟨0, 0, rfl, rfl, by omega, by omega, rfl, Ret.here ⟨?_, rfl⟩⟩
    rw [← hs]; simp [strip, val, limbs_zero]

/-- an appended zero: the list is longer by one, the rest of the own memory stands -/
theorem grow {l : List Nat} {v : AV} {σ' : Own} (hg : Grown σ l v σ') (hl : l.length < 1099511627775) (hw : W l) (K : AV → Own → Prop)
    (k : ∀ (b c : Nat) (ob : Ob), σ b = none → l.length + 1 ≤ c → c ≤ ob.cap → ob.xs.take (l.length + 1) = (l ++ [0]).map u → ∀ σ'', Del σ'' (upd σ b ob) → K (.w (.slice (some ⟨b, 0, none⟩) (l.length + 1) c)) σ'') :
    appR 1 8 v [.w (.int .u64 0)] 1 σ' K := by
  obtain ⟨b, c, ob, hb, rfl, hc, hcap, hx, rfl⟩ := hg
  have hxl : l.length ≤ ob.xs.length := by
    have := congrArg List.length hx
    rw [List.length_take, List.length_map] at this
    omega
  refine ⟨ob, upd_same _ _ _, by omega, by omega, hc, by omega, by omega, rfl, fun h => ?_, fun h b' c' hb' hc' => ?_⟩
  · refine k b c ⟨(ob.xs.take (0 + l.length * 1)) ++ [u 0] ++ ob.xs.drop (0 + (l.length + 1) * 1), ob.cap⟩ hb h hcap ?_ _ (by rw [upd_upd]; exact .refl)
    show ((ob.xs.take (0 + l.length * 1)) ++ [u 0] ++ ob.xs.drop (0 + (l.length + 1) * 1)).take (l.length + 1) = _
    rw [show 0 + l.length * 1 = l.length by omega, hx, List.take_left' (by simp), List.map_append]; rfl
  · have hne : b' ≠ b := fun e => by subst e; rw [upd_same] at hb'; cases hb'
    have hb2 : σ b' = none := by rwa [upd_ne _ hne] at hb'
    refine k b' c' ⟨(ob.xs.drop 0).take (l.length * 1) ++ [.w (.int .u64 0)], c' * 1⟩ hb2 hc' (by show c' ≤ c' * 1; omega) ?_ _ (del_swap hb hb' _)
    show ((ob.xs.drop 0).take (l.length * 1) ++ [u 0]).take (l.length + 1) = _
    rw [List.drop_zero, Nat.mul_one, hx, List.take_of_length_le (by simp), List.map_append]; rfl
end Go.Proofs.Ytigedaepbilokaa.Nat
