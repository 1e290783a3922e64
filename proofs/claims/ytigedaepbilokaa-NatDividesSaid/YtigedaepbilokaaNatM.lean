import Derived.Test.YtigedaepbilokaaNatL
namespace Go.Ab.Nn
theorem val_drop {l : List Nat} (h : W l) (k : Nat) : val (l.drop k) = val l / 18446744073709551616 ^ k := by
  by_cases hk : k ≤ l.length
  · have h1 := val_append (l.take k) (l.drop k)
    rw [List.take_append_drop, List.length_take, Nat.min_eq_left hk] at h1
    have h2 := W_getD_take h k
    rw [h1, Nat.add_mul_div_left _ _ (Nat.pow_pos (by decide)), Nat.div_eq_of_lt h2, Nat.zero_add]
  · rw [List.drop_eq_nil_of_le (by omega), Nat.div_eq_of_lt]
    · rfl
    · exact Nat.lt_of_lt_of_le (val_lt h) (Nat.pow_le_pow_right (by decide) (by omega))
theorem right_step {V Z P B z c0 p2 b' : Nat} (x : Nat) (h : Z * p2 + c0 = V + P * (x % p2)) (hz : z * p2 + x % p2 = x + B * b') : (Z + P * z) * p2 + c0 = V + P * x + P * B * b' := by
  have h2 := congrArg (P * ·) hz
  simp only [Nat.mul_add] at h2
  rw [Nat.add_mul, Nat.mul_assoc P z, Nat.mul_assoc P B]
  omega
end Go.Ab.Nn
namespace Go.Proofs.Ytigedaepbilokaa.Nat
open Go Go.Ab Go.Ab.Nn
set_option linter.unusedVariables false
set_option maxRecDepth 8000
variable {gl : Nat → Option (List AV)} {σ : Own}

theorem nat_drop (a : List Nat) (q : Nat) : AV.fs (((a.map u).drop (q * 1)).take ((a.length - q) * 1)) (a.length - q) = nat (a.drop q) := by
  unfold nat
  rw [Nat.mul_one, Nat.mul_one, ← List.map_drop, ← List.map_take, List.take_of_length_le (by simp), List.length_drop]

theorem right_spec (a : List Nat) (k : Nat) (wa : W a) (hl : a.length < 1099511627775) (hk : k < 9223372036854775808) : ACalls P gl F_nat_right [nat a, .w (.int .i64 k)] σ (Owns σ (limbs (val a / 2 ^ k))) := by
  refine C_nat_right.calls hm ?_
  obtain ⟨q, hq⟩ : ∃ q, q = k / 64 := ⟨_, rfl⟩
  obtain ⟨r, hr⟩ : ∃ r, r = k % 64 := ⟨_, rfl⟩
  have hr64 : r < 64 := by omega
  have eq : IntKind.i64.wrap ((k : Int).tdiv 64) = (q : Nat) := by rw [hq]; exact wquoi k (y := 64) hk
  have er : (k : Int).tmod 64 = (r : Nat) := by rw [hr]; exact wrem k 64
  have hkqr : 2 ^ k = 18446744073709551616 ^ q * 2 ^ r := by
    rw [show 18446744073709551616 = 2 ^ 64 from rfl, ← Nat.pow_mul, ← Nat.pow_add, show 64 * q + r = k by omega]
  refine ⟨by decide, q, eq, ⟨fun h => ?_, fun h => ?_⟩⟩
  · have h : a.length ≤ q := by have := of_decide_eq_true h; omega
    refine Ret.here (.inl ⟨?_, rfl, rfl⟩)
    rw [hkqr, ← Nat.div_div_eq_div_mul, ← val_drop wa, List.drop_eq_nil_of_le h]
    simp [val, limbs_zero]
  have h : q < a.length := by have := of_decide_eq_false h; omega
  have wb := W_drop wa q
  have hvb := val_drop wa q
  have hbl : (a.drop q).length = a.length - q := List.length_drop
  have hcl : ACalls P gl F_slices_Clone [AV.fs (((a.map u).drop (q * 1)).take ((a.length - q) * 1)) (a.length - q)] σ (Fresh σ (a.drop q)) := by
    rw [nat_drop]; exact clone_fresh _ (by omega)
  refine ⟨by decide, q, eq, q, a.length, rfl, rfl, by omega, by omega, CallVC.here hcl ?_⟩
  generalize a.drop q = b at *
  have hpos : 0 < b.length := by omega
  rintro v σ' (⟨h, _⟩ | ⟨h, _⟩ | ⟨g, c, cc, hg, rfl, hc, hcc, rfl⟩)
  · rw [h] at hpos; simp at hpos
  · rw [h] at hpos; simp at hpos
  have hp0 : 0 < 2 ^ r := Nat.pow_pos (by decide)
  refine ⟨fun m env σ' => ∃ i z, m = b.length - i ∧ i ≤ b.length ∧ z.length = b.length ∧ W z ∧ val (z.take i) * 2 ^ r + b.getD 0 0 % 2 ^ r = val (b.take i) + 18446744073709551616 ^ i * (b.getD i 0 % 2 ^ r) ∧ z.drop i = b.drop i ∧ σ' = upd σ g ⟨z.map u, cc⟩ ∧
    env = [(1, .w (.int .i64 k)), (5, .w (.slice (some ⟨g, 0, none⟩) b.length c)), (18, .w (.int .i64 b.length)), (19, .w (.int .i64 i))], Wk.here ⟨b.length, 0, b, rfl, by omega, rfl, wb, by simp [val], rfl, rfl, rfl⟩, ?_⟩
  rintro m env σ' ⟨i, z, rfl, hi, hz, hw, hv, hd, rfl, rfl⟩
  refine ⟨fun h => ?_, fun h => ?_⟩
  · have hlt : i < b.length := by have := of_decide_eq_true h; omega
    have hget : ∀ j, i ≤ j → z.getD j 0 = b.getD j 0 := fun j hj => by
      have := congrArg (fun l => l[j - i]?) hd
      simp only [List.getElem?_drop] at this
      rw [show i + (j - i) = j by omega] at this
      rw [List.getD_eq_getElem?_getD, List.getD_eq_getElem?_getD, this]
    have hx := getD_lt wb i
    have hy := getD_lt wb (i + 1)
    have e28 : ((z.getD i 0 : Nat) : Int).fdiv (2 ^ (min ((r : Nat) : Int).toNat IntKind.u64.bits)) = (b.getD i 0 / 2 ^ r : Nat) := by rw [hget i (by omega)]; exact wshrv _ (by omega)
    have hlo : b.getD i 0 / 2 ^ r < 2 ^ (64 - r) := (Nat.div_lt_iff_lt_mul hp0).2 (by rw [Nat.mul_comm, two_split (by omega)]; exact hx)
    have h64 : 2 ^ (64 - r) ≤ 18446744073709551616 := Nat.pow_le_pow_right (n := 2) (by decide) (show 64 - r ≤ 64 by omega)
    have hb1 : 0 + i * 1 + 1 ≤ (z.map u).length := by rw [List.length_map]; omega
    have hdm := Nat.div_add_mod (b.getD i 0) (2 ^ r)
    have hd' : ∀ w : Nat, (z.set i w).drop (i + 1) = b.drop (i + 1) := fun w => by
      rw [List.drop_set_of_lt (by omega), ← List.drop_drop, ← List.drop_drop, hd]
    have hhi : b.getD (i + 1) 0 % 2 ^ r * 2 ^ (64 - r) < 18446744073709551616 := by
      have := Nat.mul_lt_mul_of_pos_right (Nat.mod_lt (b.getD (i + 1) 0) hp0) (Nat.pow_pos (n := 64 - r) (show 0 < 2 by decide))
      rwa [two_split (by omega)] at this
    have hsum : b.getD (i + 1) 0 % 2 ^ r * 2 ^ (64 - r) + b.getD i 0 / 2 ^ r < 18446744073709551616 := by
      have h1 := Nat.mul_le_mul_right (2 ^ (64 - r)) (show b.getD (i + 1) 0 % 2 ^ r + 1 ≤ 2 ^ r from Nat.mod_lt _ hp0)
      rw [Nat.add_mul, Nat.one_mul, two_split (by omega)] at h1
      omega
    have hs0 := fun w : Nat => stu0 (σ := σ) (b := g) (cap := cc) (i := i) (z := w) (l := z) (by omega)
    refine ⟨i, rfl, by show i < b.length; omega, _, upd_same _ _ _, _, hd0 0 (by omega), by decide, r, er, by omega, _, e28, i, rfl, by show i < b.length; omega, _, upd_same _ _ _, hb1, _, hs0 _, (i + 1 : Nat), by rw [wi] <;> omega, ?_⟩
    refine have key : ∀ (w : Nat), w < 18446744073709551616 → w * 2 ^ r + b.getD i 0 % 2 ^ r = b.getD i 0 + 18446744073709551616 * (b.getD (i + 1) 0 % 2 ^ r) → vc (cx P gl) S_nat_right_j1 _ [(1, .w (.int .i64 k)), (5, .w (.slice (some ⟨g, 0, none⟩) b.length c)), (18, .w (.int .i64 b.length)), (19, .w (.int .i64 i))] (upd σ g ⟨(z.set i w).map u, cc⟩) := ?_
      ⟨fun h2 => have h2 : i + 1 < b.length := (by have := of_decide_eq_true h2; omega)
        ⟨i, rfl, (by show i < b.length; omega), _, upd_same _ _ _, _, hd0 0 (by rw [List.length_set]; omega), (i + 1 : Nat), (by rw [wi] <;> omega), i + 1, rfl, (by show i + 1 < b.length; omega), _, upd_same _ _ _, _, hd0 0 (by rw [List.length_set]; omega), by decide, r, er, (64 - r : Nat), (by rw [wi] <;> omega), (by omega), _, rfl, (b.getD (i + 1) 0 % 2 ^ r * 2 ^ (64 - r) + b.getD i 0 / 2 ^ r : Nat), ?_, i, rfl, (by show i < b.length; omega), _, upd_same _ _ _, (by rw [List.length_map, List.length_set]; omega), _, ?_, Wk.here (key (b.getD (i + 1) 0 % 2 ^ r * 2 ^ (64 - r) + b.getD i 0 / 2 ^ r) ?_ ?_)⟩,
        fun h2 => Wk.here (key _ ?_ ?_)⟩
    · intro w hwl hws
      refine ⟨(i + 1 : Nat), by rw [wi] <;> omega, Wk.here ⟨b.length - (i + 1), by omega, i + 1, z.set i w, rfl, by omega, by rw [List.length_set]; exact hz, W_set hw _ _ hwl, ?_, hd' w, rfl, rfl⟩⟩
      rw [val_take_set (by omega), val_take_succ b, Nat.pow_succ]
      exact right_step _ hv hws
    · have e1 : (z.set i (b.getD i 0 / 2 ^ r)).getD (i + 1) 0 = b.getD (i + 1) 0 := by rw [getD_set_other (by omega), hget _ (by omega)]
      have e2 : (z.set i (b.getD i 0 / 2 ^ r)).getD i 0 = b.getD i 0 / 2 ^ r := getD_set_self (by omega) _
      rw [e1, e2, wshlv _ (show 64 - r ≤ 64 by omega), shl_mod _ (by omega), show 64 - (64 - r) = r by omega]
      exact wor' (by omega) hhi hlo
    · exact (stu0 (by rw [List.length_set]; omega)).trans (by rw [List.set_set])
    · exact hsum
    · rw [Nat.add_mul, Nat.mul_assoc, Nat.mul_comm (2 ^ (64 - r)), two_split (by omega), Nat.mul_comm (b.getD i 0 / 2 ^ r)]
      omega
    · have h3 : b.getD i 0 / 2 ^ r ≤ b.getD i 0 := Nat.div_le_self _ _
      omega
    · have h2 : ¬ i + 1 < b.length := by have := of_decide_eq_false h2; omega
      rw [show b.getD (i + 1) 0 = 0 by rw [List.getD_eq_getElem?_getD, List.getElem?_eq_none (by omega)]; rfl, Nat.zero_mod, Nat.mul_comm]
      omega
  · have h : ¬ i < b.length := by have := of_decide_eq_false h; omega
    obtain rfl : i = b.length := by omega
    rw [List.take_of_length_le (by omega), List.take_length, show b.getD b.length 0 = 0 by rw [List.getD_eq_getElem?_getD, List.getElem?_eq_none (Nat.le_refl _)]; rfl, Nat.zero_mod, Nat.mul_zero, Nat.add_zero] at hv
    have hlt := Nat.mod_lt (b.getD 0 0) hp0
    have hval : val z = val b / 2 ^ r := by
      rw [← hv, Nat.mul_comm, Nat.mul_add_div hp0, Nat.div_eq_of_lt hlt, Nat.add_zero]
    have ht := trim_own (gl := gl) (σ := upd σ g ⟨z.map u, cc⟩) (b := g) (l := z) (c := c) (upd_same _ _ _) rfl (by omega) (by omega) hw
    rw [hz] at ht
    refine CallVC.here ht ?_
    rintro v σ' ⟨rfl, rfl⟩
    refine Ret.here ?_
    have := owns_strip' (σ := σ) (b := g) (n := cc) hg hw (by omega)
    have e : strip z = limbs (val a / 2 ^ k) := by
      unfold strip; rw [hval, hvb, Nat.div_div_eq_div_mul, hkqr]
    rw [e] at this ⊢
    exact this
end Go.Proofs.Ytigedaepbilokaa.Nat
