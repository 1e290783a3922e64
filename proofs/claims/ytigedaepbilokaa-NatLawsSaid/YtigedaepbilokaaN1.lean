import Derived.Test.YtigedaepbilokaaPNatx4
import Derived.Test.YtigedaepbilokaaN0
/-! What the program's numbers come to: no machine in sight. -/
namespace Go.Proofs.Ytigedaepbilokaa.PNat
open Go.RowKit Go.Proofs.YtigedaepbilokaaL.PrintWords Go.Proofs.YtigedaepbilokaaL.PrintLast Go.Proofs.YtigedaepbilokaaL.PrintMore
open Go.Proofs.Ytigedaepbilokaa.Plain
set_option linter.unusedVariables false

theorem w64 {x : Int} (h0 : -9223372036854775808 ≤ x) (h1 : x ≤ 9223372036854775807) : wrap64 x = x := by unfold wrap64; omega
theorem rd_nat (l : List Int) (i : Nat) : rd l (i : Int) = l.getD i 0 := by simp [rd]
theorem rd_lt {l : List Int} {i : Nat} (h : i < l.length) : rd l (i : Int) = l[i] := by rw [rd_nat]; simp [List.getD_eq_getElem?_getD, h]
theorem rd_W {l : List Int} (h : W l) (i : Nat) : 0 ≤ rd l (i : Int) ∧ rd l (i : Int) < 18446744073709551616 := by
  by_cases hi : i < l.length
  · rw [rd_lt hi]; exact h _ (List.getElem_mem hi)
  · rw [rd_nat, List.getD_eq_getElem?_getD, List.getElem?_eq_none (by omega)]; simp
theorem val_take_succ (l : List Int) (i : Nat) : val (l.take (i + 1)) = val (l.take i) + 18446744073709551616 ^ i * (rd l (i : Int)).toNat := by
  by_cases hi : i < l.length
  · rw [List.take_succ_eq_append_getElem hi, val_append, rd_lt hi, List.length_take, Nat.min_eq_left (by omega)]
    simp [val]
  · rw [rd_nat, List.getD_eq_getElem?_getD, List.getElem?_eq_none (by omega), List.take_of_length_le (by omega), List.take_of_length_le (by omega)]
    simp
theorem W_set {l : List Int} (h : W l) (i : Nat) (v : Int) (hv : 0 ≤ v ∧ v < 18446744073709551616) : W (l.set i v) := by
  intro x hx
  rcases List.mem_or_eq_of_mem_set hx with hx | rfl
  · exact h x hx
  · exact hv
theorem take_set_succ {l : List Int} {i : Nat} (h : i < l.length) (v : Int) : (l.set i v).take (i + 1) = l.take i ++ [v] := by
  rw [List.take_succ_eq_append_getElem (by simpa using h)]
  simp [List.take_set_of_le]
theorem val_take_set {l : List Int} {i : Nat} (h : i < l.length) (v : Int) : val ((l.set i v).take (i + 1)) = val (l.take i) + 18446744073709551616 ^ i * v.toNat := by
  rw [take_set_succ h, val_append, List.length_take, Nat.min_eq_left (by omega)]
  simp [val]

/-! #### trim, good -/
theorem trim_l0 {l : List Int} (hw : W l) (hl : l.length < 1099511627776) : ∀ (m i : Nat), i ≤ l.length → nat_trim.l0 (i + m + 1) l (i : Int) = some (strip (l.take i))
  | m, 0, _ => by simp [nat_trim.l0, strip, val, limbs_zero]
  | m, i + 1, hi => by
    have ih := trim_l0 hw hl m i (by omega)
    have e : wrap64 (((i + 1 : Nat) : Int) - 1) = (i : Int) := by rw [w64 (by omega) (by omega)]; omega
    rw [nat_trim.l0, if_pos (by omega), e, if_pos (by omega), if_pos (by omega), show i + 1 + m = i + m + 1 by omega]
    by_cases h0 : rd l (i : Int) = 0
    · rw [if_pos h0, ih]
      congr 1
      unfold strip
      rw [val_take_succ, h0]
      simp
    · rw [if_neg h0, if_pos (by omega), if_pos (by omega), Int.toNat_natCast]
      congr 1
      refine (limbs_val (W_take hw _) ?_).symm
      intro x hx
      rw [List.take_succ_eq_append_getElem (by omega), List.getLast?_concat] at hx
      rw [rd_lt (by omega)] at h0
      intro h
      apply h0
      injection hx with hx
      rw [hx, h]
theorem trim_K {l : List Int} {K : Nat} (hw : W l) (hl : l.length < 1099511627776) (hK : l.length < K) : nat_trim.f K l = some (strip l) := by
  unfold nat_trim.f
  have h := trim_l0 hw hl (K - l.length - 1) l.length (Nat.le_refl _)
  rw [show l.length + (K - l.length - 1) + 1 = K by omega, List.take_length] at h
  exact h
theorem good_f {l : List Int} (hl : l.length < 1099511627776) (hm : May l) : nat_good.f l = some true := by
  unfold nat_good.f
  by_cases h0 : l = []
  · subst h0; simp
  · have hp : 0 < l.length := List.length_pos_iff.2 h0
    have e : wrap64 ((l.length : Int) - 1) = ((l.length - 1 : Nat) : Int) := by rw [w64 (by omega) (by omega)]; omega
    rw [if_neg (by omega), e, if_pos (by omega), if_pos (by omega), rd_lt (by omega)]
    have := hm l[l.length - 1] (by rw [List.getLast?_eq_getElem?, List.getElem?_eq_getElem])
    simp [this]

/-! #### sums -/
theorem add_step {V A Bv P : Nat} {s c x y cy : Int} (hs0 : 0 ≤ s) (hc0 : 0 ≤ c) (hx0 : 0 ≤ x) (hy0 : 0 ≤ y) (hcy0 : 0 ≤ cy) (h : V + P * cy.toNat = A + Bv) (hs : s + 18446744073709551616 * c = x + y + cy) :
    V + P * s.toNat + P * 18446744073709551616 * c.toNat = A + P * x.toNat + (Bv + P * y.toNat) := by
  have h1 : s.toNat + 18446744073709551616 * c.toNat = x.toNat + y.toNat + cy.toNat := by omega
  have h2 := congrArg (P * ·) h1
  simp only [Nat.mul_add, ← Nat.mul_assoc] at h2
  omega
theorem add_digit {x y cy : Int} (hx : 0 ≤ x ∧ x < 18446744073709551616) (hy : 0 ≤ y ∧ y < 18446744073709551616) (hc : 0 ≤ cy ∧ cy ≤ 1) :
    ∃ s c : Int, (0 ≤ s ∧ s < 18446744073709551616) ∧ (0 ≤ c ∧ c ≤ 1) ∧ s + 18446744073709551616 * c = x + y + cy ∧ IntKind.u64.wrap (IntKind.u64.wrap (x + cy) + y) = s ∧
      ((IntKind.u64.wrap (x + cy) < x ∧ s < y ∧ (1 + 1 : Int) = c) ∨ (IntKind.u64.wrap (x + cy) < x ∧ ¬ s < y ∧ 1 = c) ∨ (¬ IntKind.u64.wrap (x + cy) < x ∧ s < y ∧ (0 + 1 : Int) = c) ∨ (¬ IntKind.u64.wrap (x + cy) < x ∧ ¬ s < y ∧ 0 = c)) := by
  refine ⟨(x + y + cy) % 18446744073709551616, (x + y + cy) / 18446744073709551616, by omega, by omega, by omega, ?_, ?_⟩
  · simp only [IntKind.wrap_u64]; omega
  · simp only [IntKind.wrap_u64]; omega
theorem add_digit0 {x cy : Int} (hx : 0 ≤ x ∧ x < 18446744073709551616) (hc : 0 ≤ cy ∧ cy ≤ 1) :
    ∃ s c : Int, (0 ≤ s ∧ s < 18446744073709551616) ∧ (0 ≤ c ∧ c ≤ 1) ∧ s + 18446744073709551616 * c = x + 0 + cy ∧ IntKind.u64.wrap (x + cy) = s ∧ ((s < x ∧ 1 = c) ∨ (¬ s < x ∧ 0 = c)) := by
  refine ⟨(x + cy) % 18446744073709551616, (x + cy) / 18446744073709551616, by omega, by omega, by omega, ?_, ?_⟩
  · simp only [IntKind.wrap_u64]
  · omega
theorem add_l0 {a b : List Int} (ha : W a) (hb : W b) (hle : b.length ≤ a.length) (hl : a.length < 1099511627775) : ∀ (d i : Nat) (c : List Int) (cy : Int) (K : Nat), a.length - i = d → i ≤ a.length → c.length = a.length + 1 → W c → 0 ≤ cy ∧ cy ≤ 1 →
    val (c.take i) + 18446744073709551616 ^ i * cy.toNat = val (a.take i) + val (b.take i) → a.length + 2 ≤ K → nat_add.l0 (d + 1 + K) a b c cy a (a.length : Int) (i : Int) = some (limbs (val a + val b)) := by
  intro d
  induction d with
  | zero =>
    intro i c cy K hd hi hc hw hcy hv hK
    obtain rfl : i = a.length := by omega
    rw [show 0 + 1 + K = K + 1 by omega, nat_add.l0, if_neg (by omega), if_pos (by omega), if_pos (by omega), Int.toNat_natCast]
    have hs : W (c.set a.length cy) := W_set hw _ _ ⟨hcy.1, by omega⟩
    rw [trim_K hs (by rw [List.length_set]; omega) (by rw [List.length_set]; omega)]
    have h1 := val_take_set (l := c) (i := a.length) (by omega) cy
    rw [List.take_of_length_le (by rw [List.length_set]; omega)] at h1
    rw [List.take_length, List.take_of_length_le hle] at hv
    simp only [Option.bind_some]
    unfold strip
    rw [h1, hv]
  | succ d ih =>
    intro i c cy K hd hi hc hw hcy hv hK
    have hlt : i < a.length := by omega
    have h1 : (i : Int) < (a.length : Int) := by omega
    have h2 : (0 : Int) ≤ (i : Int) := by omega
    have h3' : (i : Int) < (c.length : Int) := by omega
    have h4 : i < c.length := by omega
    have hd2 : a.length - (i + 1) = d := by omega
    have hn2 : ¬ (i : Int) < (b.length : Int) → b.length ≤ i := by omega
    rw [show d + 1 + 1 + K = (d + 1 + K) + 1 by omega, nat_add.l0, if_pos h1, if_pos h2, if_pos h1, show wrap64 ((i : Int) + 1) = ((i + 1 : Nat) : Int) by rw [w64 (by omega) (by omega)]; omega]
    have hx := rd_W ha i
    have hy := rd_W hb i
    by_cases hb2 : (i : Int) < (b.length : Int)
    · obtain ⟨s, c', hs, hc', hsum, hw2, hways⟩ := add_digit hx hy hcy
      have key := add_step hs.1 hc'.1 hx.1 hy.1 hcy.1 hv hsum
      have fin : ∀ v, v = c' → nat_add.l0 (d + 1 + K) a b (c.set i s) v a (a.length : Int) ((i + 1 : Nat) : Int) = some (limbs (val a + val b)) := by
        rintro v rfl
        refine ih (i + 1) _ _ K hd2 hlt (by rw [List.length_set]; exact hc) (W_set hw _ _ hs) hc' ?_ hK
        rw [val_take_set h4, val_take_succ, val_take_succ, Nat.pow_succ]
        exact key
      simp only [if_pos hb2, hw2, Int.toNat_natCast]
      rcases hways with ⟨h1, h2, h3⟩ | ⟨h1, h2, h3⟩ | ⟨h1, h2, h3⟩ | ⟨h1, h2, h3⟩
      · rw [if_pos h1, if_pos h2, if_pos h3']; exact fin _ h3
      · rw [if_pos h1, if_neg h2, if_pos h3']; exact fin _ h3
      · rw [if_neg h1, if_pos h2, if_pos h3']; exact fin _ h3
      · rw [if_neg h1, if_neg h2, if_pos h3']; exact fin _ h3
    · obtain ⟨s, c', hs, hc', hsum, hw2, hways⟩ := add_digit0 hx hcy
      have key := add_step hs.1 hc'.1 hx.1 (Int.le_refl 0) hcy.1 hv hsum
      have fin : ∀ v, v = c' → nat_add.l0 (d + 1 + K) a b (c.set i s) v a (a.length : Int) ((i + 1 : Nat) : Int) = some (limbs (val a + val b)) := by
        rintro v rfl
        refine ih (i + 1) _ _ K hd2 hlt (by rw [List.length_set]; exact hc) (W_set hw _ _ hs) hc' ?_ hK
        rw [val_take_set h4, val_take_succ, Nat.pow_succ]
        rw [List.take_of_length_le (l := b) (i := i) (hn2 hb2)] at key
        rw [List.take_of_length_le (l := b) (i := i + 1) (Nat.le_succ_of_le (hn2 hb2))]
        simpa using key
      simp only [if_neg hb2, hw2, Int.toNat_natCast]
      rcases hways with ⟨h1, h3⟩ | ⟨h1, h3⟩
      · rw [if_pos h1, if_pos h3']; exact fin _ h3
      · rw [if_neg h1, if_pos h3']; exact fin _ h3
theorem add_l100 {a b : List Int} (ha : W a) (hb : W b) (hle : b.length ≤ a.length) (hl : a.length < 1099511627775) : ∀ (d i : Nat) (c : List Int) (cy : Int) (K : Nat), a.length - i = d → i ≤ a.length → c.length = a.length + 1 → W c → 0 ≤ cy ∧ cy ≤ 1 →
    val (c.take i) + 18446744073709551616 ^ i * cy.toNat = val (a.take i) + val (b.take i) → a.length + 2 ≤ K → nat_add.l100 (d + 1 + K) a b c cy a (a.length : Int) (i : Int) = some (limbs (val a + val b)) := by
  intro d
  induction d with
  | zero =>
    intro i c cy K hd hi hc hw hcy hv hK
    obtain rfl : i = a.length := by omega
    rw [show 0 + 1 + K = K + 1 by omega, nat_add.l100, if_neg (by omega), if_pos (by omega), if_pos (by omega), Int.toNat_natCast]
    have hs : W (c.set a.length cy) := W_set hw _ _ ⟨hcy.1, by omega⟩
    rw [trim_K hs (by rw [List.length_set]; omega) (by rw [List.length_set]; omega)]
    have h1 := val_take_set (l := c) (i := a.length) (by omega) cy
    rw [List.take_of_length_le (by rw [List.length_set]; omega)] at h1
    rw [List.take_length, List.take_of_length_le hle] at hv
    simp only [Option.bind_some]
    unfold strip
    rw [h1, hv]
  | succ d ih =>
    intro i c cy K hd hi hc hw hcy hv hK
    have hlt : i < a.length := by omega
    have h1 : (i : Int) < (a.length : Int) := by omega
    have h2 : (0 : Int) ≤ (i : Int) := by omega
    have h3' : (i : Int) < (c.length : Int) := by omega
    have h4 : i < c.length := by omega
    have hd2 : a.length - (i + 1) = d := by omega
    have hn2 : ¬ (i : Int) < (b.length : Int) → b.length ≤ i := by omega
    rw [show d + 1 + 1 + K = (d + 1 + K) + 1 by omega, nat_add.l100, if_pos h1, if_pos h2, if_pos h1, show wrap64 ((i : Int) + 1) = ((i + 1 : Nat) : Int) by rw [w64 (by omega) (by omega)]; omega]
    have hx := rd_W ha i
    have hy := rd_W hb i
    by_cases hb2 : (i : Int) < (b.length : Int)
    · obtain ⟨s, c', hs, hc', hsum, hw2, hways⟩ := add_digit hx hy hcy
      have key := add_step hs.1 hc'.1 hx.1 hy.1 hcy.1 hv hsum
      have fin : ∀ v, v = c' → nat_add.l100 (d + 1 + K) a b (c.set i s) v a (a.length : Int) ((i + 1 : Nat) : Int) = some (limbs (val a + val b)) := by
        rintro v rfl
        refine ih (i + 1) _ _ K hd2 hlt (by rw [List.length_set]; exact hc) (W_set hw _ _ hs) hc' ?_ hK
        rw [val_take_set h4, val_take_succ, val_take_succ, Nat.pow_succ]
        exact key
      simp only [if_pos hb2, hw2, Int.toNat_natCast]
      rcases hways with ⟨h1, h2, h3⟩ | ⟨h1, h2, h3⟩ | ⟨h1, h2, h3⟩ | ⟨h1, h2, h3⟩
      · rw [if_pos h1, if_pos h2, if_pos h3']; exact fin _ h3
      · rw [if_pos h1, if_neg h2, if_pos h3']; exact fin _ h3
      · rw [if_neg h1, if_pos h2, if_pos h3']; exact fin _ h3
      · rw [if_neg h1, if_neg h2, if_pos h3']; exact fin _ h3
    · obtain ⟨s, c', hs, hc', hsum, hw2, hways⟩ := add_digit0 hx hcy
      have key := add_step hs.1 hc'.1 hx.1 (Int.le_refl 0) hcy.1 hv hsum
      have fin : ∀ v, v = c' → nat_add.l100 (d + 1 + K) a b (c.set i s) v a (a.length : Int) ((i + 1 : Nat) : Int) = some (limbs (val a + val b)) := by
        rintro v rfl
        refine ih (i + 1) _ _ K hd2 hlt (by rw [List.length_set]; exact hc) (W_set hw _ _ hs) hc' ?_ hK
        rw [val_take_set h4, val_take_succ, Nat.pow_succ]
        rw [List.take_of_length_le (l := b) (i := i) (hn2 hb2)] at key
        rw [List.take_of_length_le (l := b) (i := i + 1) (Nat.le_succ_of_le (hn2 hb2))]
        simpa using key
      simp only [if_neg hb2, hw2, Int.toNat_natCast]
      rcases hways with ⟨h1, h3⟩ | ⟨h1, h3⟩
      · rw [if_pos h1, if_pos h3']; exact fin _ h3
      · rw [if_neg h1, if_pos h3']; exact fin _ h3
theorem add_f {a b : List Int} (ha : W a) (hb : W b) (hl : a.length < 1099511627775) (hl2 : b.length < 1099511627775) : ∃ k, nat_add.f k a b = some (limbs (val a + val b)) := by
  unfold nat_add.f
  by_cases h : (a.length : Int) < (b.length : Int)
  · refine ⟨b.length + 1 + (b.length + 2), ?_⟩
    rw [if_pos h, show wrap64 ((b.length : Int) + 1) = ((b.length + 1 : Nat) : Int) by rw [w64 (by omega) (by omega)]; omega, if_pos (by omega), if_pos (by omega), Int.toNat_natCast]
    have := add_l0 hb ha (by omega) hl2 b.length 0 (List.replicate (b.length + 1) 0) 0 (b.length + 2) (by omega) (by omega) (by simp) (W_replicate _) (by omega) (by simp [val]) (Nat.le_refl _)
    rw [Nat.add_comm (val a)]
    exact this
  · refine ⟨a.length + 1 + (a.length + 2), ?_⟩
    rw [if_neg h, show wrap64 ((a.length : Int) + 1) = ((a.length + 1 : Nat) : Int) by rw [w64 (by omega) (by omega)]; omega, if_pos (by omega), if_pos (by omega), Int.toNat_natCast]
    exact add_l100 ha hb (by omega) hl a.length 0 (List.replicate (a.length + 1) 0) 0 (a.length + 2) (by omega) (by omega) (by simp) (W_replicate _) (by omega) (by simp [val]) (Nat.le_refl _)
end Go.Proofs.Ytigedaepbilokaa.PNat
