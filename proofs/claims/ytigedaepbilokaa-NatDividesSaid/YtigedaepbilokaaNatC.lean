import Derived.Test.YtigedaepbilokaaNatB
namespace Go.Proofs.Ytigedaepbilokaa.Nat
open Go Go.Ab Go.Ab.Nn
set_option linter.unusedVariables false
set_option maxRecDepth 8000
variable {gl : Nat → Option (List AV)} {σ : Own}

theorem mk_u (n : Nat) : ({ xs := (List.range (n * 1)).map fun i => cAV ([Value.int .u64 0][i % [Value.int IntKind.u64 0].length]!), cap := n * 1 } : Ob) = ⟨(List.replicate n 0).map u, n⟩ := by
  rw [← rep_u, Nat.mul_one]; rfl
/-- one limb of a sum -/
theorem add_digit {x y cy : Nat} (hx : x < 18446744073709551616) (hy : y < 18446744073709551616) (hc : cy ≤ 1) :
    ∃ s c : Nat, s < 18446744073709551616 ∧ c ≤ 1 ∧ s + 18446744073709551616 * c = x + y + cy ∧ ((((x : Int) + cy) % 18446744073709551616 + y) % 18446744073709551616) = s ∧
      c = (if ((x : Int) + cy) % 18446744073709551616 < x then 1 else 0) + (if (s : Int) < y then 1 else 0) := by
  refine ⟨(x + y + cy) % 18446744073709551616, (x + y + cy) / 18446744073709551616, by omega, by omega, by omega, by omega, ?_⟩
  split <;> split <;> omega

theorem add_le (x y : List Nat)  (hx : W x) (hy : W y) (hle : y.length ≤ x.length) (hl : x.length < 1099511627775) :
    vc (cx P gl) S_nat_add_j1 (retQ (Says gl) [4] (Owns σ (limbs (val x + val y)))) [(0, nat x), (1, nat y)] σ := by
  refine ⟨(x.length + 1 : Nat), by rw [wi] <;> omega, x.length + 1, x.length + 1, rfl, rfl, by omega, by omega, by omega, fun b hb => ?_⟩
  refine ⟨fun m env σ' => ∃ i c cy, m = x.length - i ∧ i ≤ x.length ∧ c.length = x.length + 1 ∧ W c ∧ cy ≤ 1 ∧ val (c.take i) + 18446744073709551616 ^ i * cy = val (x.take i) + val (y.take i) ∧ σ' = upd σ b ⟨c.map u, x.length + 1⟩ ∧
    env = [(0, nat x), (1, nat y), (5, .w (.slice (some ⟨b, 0, none⟩) (x.length + 1) (x.length + 1))), (6, u cy), (21, nat x), (22, .w (.int .i64 x.length)), (23, .w (.int .i64 i))], Wk.here ⟨x.length, 0, List.replicate (x.length + 1) 0, 0, rfl, by omega, by simp, W_replicate _, by omega, by simp [val], ?_, rfl⟩, ?_⟩
  · rw [← mk_u]
  rintro m env σ' ⟨i, c, cy, rfl, hi, hc, hw, hcy, hv, rfl, rfl⟩
  refine ⟨fun h => ?_, fun h => ?_⟩
  · have h : i < x.length := by have := of_decide_eq_true h; omega
    obtain ⟨s, k, hs, hk, hsum, hz, hkk⟩ := add_digit (getD_lt hx i) (getD_lt hy i) hcy
    have hv' : val ((c.set i s).take (i + 1)) + 18446744073709551616 ^ (i + 1) * k = val (x.take (i + 1)) + val (y.take (i + 1)) := by
      rw [val_take_set (by omega), val_take_succ x, val_take_succ y, Nat.pow_succ]
      exact add_step hv hsum
    have hσ : upd (upd σ b ⟨c.map u, x.length + 1⟩) b ⟨(c.map u).take (0 + i * 1) ++ [u s] ++ (c.map u).drop (0 + i * 1 + 1), x.length + 1⟩ = upd σ b ⟨(c.set i s).map u, x.length + 1⟩ := by rw [upd_upd, set1 _ (by omega)]
    have hlen : 0 + i * 1 + 1 ≤ (c.map u).length := by rw [List.length_map]; omega
    generalize ht : (((x.getD i 0 : Nat) : Int) + cy) % 18446744073709551616 = t at hz hkk
    refine ⟨i, rfl, h, _, hd1 0 h, t, by rw [wu]; exact ht, ?_⟩
    refine have key : ∀ k1 : Nat, k1 = (if t < x.getD i 0 then 1 else 0) → vc (cx P gl) S_nat_add_j2 _ [(0, nat x), (1, nat y), (5, .w (.slice (some ⟨b, 0, none⟩) (x.length + 1) (x.length + 1))), (6, u k1), (7, .w (.int .i64 i)), (9, .w (.int .u64 t)), (21, nat x), (22, .w (.int .i64 x.length)), (23, .w (.int .i64 i))] _ := ?_; ⟨fun h1 => Wk.here (key 1 (by rw [if_pos (of_decide_eq_true h1)])), fun h1 => Wk.here (key 0 (by rw [if_neg (of_decide_eq_false h1)]))⟩
    rintro k1 hk1
    rw [← hk1] at hkk
    have hy2 : ¬ i < y.length → t = s ∧ k = k1 := fun h2 => by
      have hy0 : y.getD i 0 = 0 := by rw [List.getD_eq_getElem?_getD, List.getElem?_eq_none (by omega)]; rfl
      rw [hy0] at hz hkk
      rw [if_neg (show ¬ (s : Int) < ((0 : Nat) : Int) by omega)] at hkk
      omega
    refine have key : ∀ (k' : Nat) (t' : Int), k' = k → t' = s → vc (cx P gl) S_nat_add_j3 _ [(0, nat x), (1, nat y), (5, .w (.slice (some ⟨b, 0, none⟩) (x.length + 1) (x.length + 1))), (6, u k'), (7, .w (.int .i64 i)), (9, .w (.int .u64 t')), (21, nat x), (22, .w (.int .i64 x.length)), (23, .w (.int .i64 i))] _ := ?_
      ⟨fun h2 => have h2 : i < y.length := (by have := of_decide_eq_true h2; omega)
        ⟨i, rfl, h2, _, hd1 0 h2, s, (by rw [wu]; exact hz), i, rfl, h2, _, hd1 0 h2, fun h3 => ⟨(k1 + 1 : Nat), (by rw [wu]; omega), Wk.here (key _ _ (by rw [if_pos (of_decide_eq_true h3)] at hkk; omega) rfl)⟩,
          fun h3 => Wk.here (key _ _ (by rw [if_neg (of_decide_eq_false h3)] at hkk; omega) rfl)⟩,
        fun h2 => Wk.here (key _ _ (hy2 (by have := of_decide_eq_false h2; omega)).2.symm (hy2 (by have := of_decide_eq_false h2; omega)).1)⟩
    rintro _ _ rfl rfl
    exact ⟨i, rfl, by show i < x.length + 1; omega, _, upd_same _ _ _, hlen, _, rfl, (i + 1 : Nat), by rw [wi] <;> omega, Wk.here ⟨x.length - (i + 1), by omega, i + 1, c.set i s, _, rfl, by omega, by rw [List.length_set]; exact hc, W_set hw _ _ hs, hk, hv', hσ, rfl⟩⟩
  · have h : ¬ i < x.length := by have := of_decide_eq_false h; omega
    obtain rfl : i = x.length := by omega
    have hw' : W (c.set x.length cy) := W_set hw _ _ (by omega)
    have hval : strip (c.set x.length cy) = limbs (val x + val y) := by
      unfold strip; congr 1
      have := val_take_set (l := c) (i := x.length) (by omega) cy
      rw [List.take_of_length_le (by simp; omega)] at this
      rw [this, hv, List.take_length, List.take_of_length_le hle]
    have hσ : upd (upd σ b ⟨c.map u, x.length + 1⟩) b ⟨(c.map u).take (0 + x.length * 1) ++ [u cy] ++ (c.map u).drop (0 + x.length * 1 + 1), x.length + 1⟩ = upd σ b ⟨(c.set x.length cy).map u, x.length + 1⟩ := by rw [upd_upd, set1 _ (by omega)]
    refine ⟨x.length, rfl, by show x.length < x.length + 1; omega, _, upd_same _ _ _, by rw [List.length_map]; show 0 + x.length * 1 + 1 ≤ _; omega, _, rfl, ?_⟩
    have ht := trim_own (gl := gl) (σ := upd σ b ⟨(c.set x.length cy).map u, x.length + 1⟩) (b := b) (l := c.set x.length cy) (c := x.length + 1) (upd_same _ _ _) rfl (by simp; omega) (by simp; omega) hw'
    rw [show (c.set x.length cy).length = x.length + 1 by simp; omega] at ht
    rw [← hσ] at ht
    refine CallVC.here ht ?_
    rintro v σ' ⟨rfl, rfl⟩
    rw [hσ]
    refine Ret.here ?_
    rw [hval]
    have := owns_strip (σ := σ) (b := b) (n := x.length + 1) hb hw' (by simp; omega)
    rw [hval] at this
    exact this

theorem add_spec (a b : List Nat) (wa : W a) (wb : W b) (ha : a.length < 1099511627775) (hb : b.length < 1099511627775) : ACalls P gl F_nat_add [nat a, nat b] σ (Owns σ (limbs (val a + val b))) := by
  refine C_nat_add.calls hm ?_
  refine ⟨fun h => ?_, fun h => ?_⟩
  · have h : a.length < b.length := by have := of_decide_eq_true h; omega
    rw [Nat.add_comm]
    exact Wk.here (add_le b a wb wa (by omega) hb)
  · have h : ¬ a.length < b.length := by have := of_decide_eq_false h; omega
    exact Wk.here (add_le a b wa wb (by omega) ha)
end Go.Proofs.Ytigedaepbilokaa.Nat
