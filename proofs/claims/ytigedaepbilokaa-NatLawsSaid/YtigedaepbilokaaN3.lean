import Derived.Test.YtigedaepbilokaaN2
namespace Go.Proofs.Ytigedaepbilokaa.PNat
open Go.RowKit Go.Proofs.YtigedaepbilokaaL.PrintWords Go.Proofs.YtigedaepbilokaaL.PrintLast Go.Proofs.YtigedaepbilokaaL.PrintMore
open Go.Proofs.Ytigedaepbilokaa.Plain
set_option linter.unusedVariables false

/-! #### the order -/
def c3 (m n : Nat) : Int := if m < n then -1 else if n < m then 1 else 0
theorem c3_lt {m n : Nat} (h : m < n) : c3 m n = -1 := by simp [c3, h]
theorem c3_gt {m n : Nat} (h : n < m) : c3 m n = 1 := by simp [c3, h]; omega
theorem c3_self (m : Nat) : c3 m m = 0 := by simp [c3]
theorem val_take_lt {l : List Int} (h : W l) (i : Nat) : val (l.take i) < 18446744073709551616 ^ i := by
  refine Nat.lt_of_lt_of_le (val_lt (W_take h i)) (Nat.pow_le_pow_right (by decide) ?_)
  rw [List.length_take]
  exact Nat.min_le_left _ _
theorem lt_of_top {V V' P : Nat} {x y : Int} (hV : V < P) (hx : 0 ≤ x) (hy : x < y) : V + P * x.toNat < V' + P * y.toNat := by
  have h1 : x.toNat + 1 ≤ y.toNat := by omega
  have h2 := Nat.mul_le_mul_left P h1
  rw [Nat.mul_add, Nat.mul_one] at h2
  omega
theorem cmp_l0 {a b : List Int} (ha : W a) (hb : W b) (hl : a.length = b.length) (hs : a.length < 1099511627776) : ∀ i : Nat, i ≤ a.length → nat_cmp.l0 (i + 1) a b ((i : Int) - 1) = some (c3 (val (a.take i)) (val (b.take i)))
  | 0, _ => by
    rw [nat_cmp.l0, if_neg (by omega)]
    simp [val, c3_self]
  | i + 1, hi => by
    have ih := cmp_l0 ha hb hl hs i (by omega)
    have e : ((i + 1 : Nat) : Int) - 1 = (i : Int) := by omega
    have hx := rd_W ha i
    have hy := rd_W hb i
    rw [e, nat_cmp.l0, if_pos (by omega), if_pos (by omega), if_pos (by omega), if_pos (by omega), val_take_succ, val_take_succ, show wrap64 ((i : Int) - 1) = (i : Int) - 1 from w64 (by omega) (by omega), ih]
    by_cases h1 : rd a (i : Int) < rd b (i : Int)
    · rw [if_pos h1, c3_lt (lt_of_top (val_take_lt ha i) hx.1 h1)]
    · rw [if_neg h1]
      by_cases h2 : rd a (i : Int) > rd b (i : Int)
      · rw [if_pos h2, c3_gt (lt_of_top (val_take_lt hb i) hy.1 h2)]
      · rw [if_neg h2]
        have h3 : rd a (i : Int) = rd b (i : Int) := by omega
        rw [h3]
        congr 1
        simp only [c3, Nat.add_lt_add_iff_right]
theorem cmp_f {m n : Nat} (hm : (limbs m).length < 1099511627776) (hn : (limbs n).length < 1099511627776) : ∃ k, nat_cmp.f k (limbs m) (limbs n) = some (c3 m n) := by
  refine ⟨(limbs m).length + 1, ?_⟩
  unfold nat_cmp.f
  by_cases h : ((limbs m).length : Int) = ((limbs n).length : Int)
  · rw [if_pos h, show wrap64 (((limbs m).length : Int) - 1) = ((limbs m).length : Int) - 1 from w64 (by omega) (by omega), cmp_l0 (W_limbs m) (W_limbs n) (by omega) hm _ (Nat.le_refl _)]
    rw [List.take_length, List.take_of_length_le (by omega), val_limbs, val_limbs]
  · rw [if_neg h]
    by_cases h2 : ((limbs m).length : Int) < ((limbs n).length : Int)
    · rw [if_pos h2, c3_lt (lt_of_len (by omega))]
    · rw [if_neg h2, c3_gt (lt_of_len (by omega))]
theorem Cmp_f {m n : Nat} (hm : (limbs m).length < 1099511627776) (hn : (limbs n).length < 1099511627776) : ∃ k, nat_Cmp.f k (limbs m) (limbs n) = some (c3 m n) := by
  obtain ⟨k, hk⟩ := cmp_f hm hn
  refine ⟨k, ?_⟩
  unfold nat_Cmp.f
  rw [good_f hm (May_limbs m)]
  simp only [Option.bind_some, if_true]
  rw [good_f hn (May_limbs n)]
  simp only [Option.bind_some, if_true]
  rw [hk]
  rfl

/-! #### differences -/
theorem sub_digit {x y bo : Int} (hx : 0 ≤ x ∧ x < 18446744073709551616) (hy : 0 ≤ y ∧ y < 18446744073709551616) (hc : 0 ≤ bo ∧ bo ≤ 1) :
    ∃ s c : Int, (0 ≤ s ∧ s < 18446744073709551616) ∧ (0 ≤ c ∧ c ≤ 1) ∧ s + y + bo = x + 18446744073709551616 * c ∧ IntKind.u64.wrap (x - IntKind.u64.wrap (bo + y)) = s ∧
      ((IntKind.u64.wrap (bo + y) < y ∧ x < IntKind.u64.wrap (bo + y) ∧ (1 + 1 : Int) = c) ∨ (IntKind.u64.wrap (bo + y) < y ∧ ¬ x < IntKind.u64.wrap (bo + y) ∧ 1 = c) ∨ (¬ IntKind.u64.wrap (bo + y) < y ∧ x < IntKind.u64.wrap (bo + y) ∧ (0 + 1 : Int) = c) ∨ (¬ IntKind.u64.wrap (bo + y) < y ∧ ¬ x < IntKind.u64.wrap (bo + y) ∧ 0 = c)) := by
  simp only [IntKind.wrap_u64]
  by_cases h : x < y + bo
  · exact ⟨x - y - bo + 18446744073709551616, 1, by omega, by omega, by omega, by omega, by omega⟩
  · exact ⟨x - y - bo, 0, by omega, by omega, by omega, by omega, by omega⟩
theorem sub_digit0 {x bo : Int} (hx : 0 ≤ x ∧ x < 18446744073709551616) (hc : 0 ≤ bo ∧ bo ≤ 1) :
    ∃ s c : Int, (0 ≤ s ∧ s < 18446744073709551616) ∧ (0 ≤ c ∧ c ≤ 1) ∧ s + 0 + bo = x + 18446744073709551616 * c ∧ IntKind.u64.wrap (x - bo) = s ∧ ((x < bo ∧ (0 + 1 : Int) = c) ∨ (¬ x < bo ∧ 0 = c)) := by
  simp only [IntKind.wrap_u64]
  by_cases h : x < bo
  · exact ⟨x - bo + 18446744073709551616, 1, by omega, by omega, by omega, by omega, by omega⟩
  · exact ⟨x - bo, 0, by omega, by omega, by omega, by omega, by omega⟩
theorem sub_step {V A Bv P : Nat} {s c x y bo : Int} (hs0 : 0 ≤ s) (hc0 : 0 ≤ c) (hx0 : 0 ≤ x) (hy0 : 0 ≤ y) (hb0 : 0 ≤ bo) (h : V + Bv = A + P * bo.toNat) (hs : s + y + bo = x + 18446744073709551616 * c) :
    V + P * s.toNat + (Bv + P * y.toNat) = A + P * x.toNat + P * 18446744073709551616 * c.toNat := by
  have h1 : s.toNat + y.toNat + bo.toNat = x.toNat + 18446744073709551616 * c.toNat := by omega
  have h2 := congrArg (P * ·) h1
  simp only [Nat.mul_add, ← Nat.mul_assoc] at h2
  omega
theorem sub_l0 {a b : List Int} (ha : W a) (hb : W b) (hle : b.length ≤ a.length) (hv0 : val b ≤ val a) (hl : a.length < 1099511627775) : ∀ (d i : Nat) (c : List Int) (bo : Int) (K : Nat), a.length - i = d → i ≤ a.length → c.length = a.length → W c → c.drop i = a.drop i → 0 ≤ bo ∧ bo ≤ 1 →
    val (c.take i) + val (b.take i) = val (a.take i) + 18446744073709551616 ^ i * bo.toNat → a.length + 2 ≤ K → nat_sub.l0 (d + 1 + K) b c bo (a.length : Int) (i : Int) = some (limbs (val a - val b)) := by
  intro d
  induction d with
  | zero =>
    intro i c bo K hd hi hc hw hdr hbo hv hK
    obtain rfl : i = a.length := by omega
    rw [show 0 + 1 + K = K + 1 by omega, nat_sub.l0, if_neg (by omega)]
    rw [trim_K hw (by omega) (by omega)]
    simp only [Option.bind_some]
    unfold strip
    rw [List.take_of_length_le (by omega), List.take_of_length_le hle, List.take_length] at hv
    have h1 := val_lt hw
    rw [hc] at h1
    have h2 : bo.toNat = 0 ∨ bo.toNat = 1 := by omega
    rcases h2 with h2 | h2
    · rw [h2, Nat.mul_zero] at hv
      congr 2
      omega
    · rw [h2, Nat.mul_one] at hv
      omega
  | succ d ih =>
    intro i c bo K hd hi hc hw hdr hbo hv hK
    have hlt : i < a.length := by omega
    have h1 : (i : Int) < (a.length : Int) := by omega
    have h2 : (0 : Int) ≤ (i : Int) := by omega
    have h3' : (i : Int) < (c.length : Int) := by omega
    have h4 : i < c.length := by omega
    have hd2 : a.length - (i + 1) = d := by omega
    have hn2 : ¬ (i : Int) < (b.length : Int) → b.length ≤ i := by omega
    have hxx : rd c (i : Int) = rd a (i : Int) := by
      rw [rd_lt h4, rd_lt hlt]
      have e1 := List.drop_eq_getElem_cons h4
      have e2 := List.drop_eq_getElem_cons hlt
      rw [hdr, e2] at e1
      injection e1 with e1
      exact e1.symm
    have hdr2 : ∀ s, (c.set i s).drop (i + 1) = a.drop (i + 1) := by
      intro s
      rw [List.drop_set_of_lt (by omega)]
      have := congrArg (List.drop 1) hdr
      rwa [List.drop_drop, List.drop_drop] at this
    rw [show d + 1 + 1 + K = (d + 1 + K) + 1 by omega, nat_sub.l0, if_pos h1, hxx, show wrap64 ((i : Int) + 1) = ((i + 1 : Nat) : Int) by rw [w64 (by omega) (by omega)]; omega]
    have hx := rd_W ha i
    have hy := rd_W hb i
    by_cases hb2 : (i : Int) < (b.length : Int)
    · obtain ⟨s, c', hs, hc', hsum, hw2, hways⟩ := sub_digit hx hy hbo
      have key := sub_step hs.1 hc'.1 hx.1 hy.1 hbo.1 hv hsum
      have fin : ∀ v, v = c' → nat_sub.l0 (d + 1 + K) b (c.set i s) v (a.length : Int) ((i + 1 : Nat) : Int) = some (limbs (val a - val b)) := by
        rintro v rfl
        refine ih (i + 1) _ _ K hd2 hlt (by rw [List.length_set]; exact hc) (W_set hw _ _ hs) (hdr2 s) hc' ?_ hK
        rw [val_take_set h4, val_take_succ, val_take_succ, Nat.pow_succ]
        exact key
      rw [if_pos hb2, if_pos h2]
      simp only [hw2, Int.toNat_natCast]
      rcases hways with ⟨h1, h2, h3⟩ | ⟨h1, h2, h3⟩ | ⟨h1, h2, h3⟩ | ⟨h1, h2, h3⟩
      · rw [if_pos h1, if_pos h3', if_pos h2]; exact fin _ h3
      · rw [if_pos h1, if_pos h3', if_neg h2]; exact fin _ h3
      · rw [if_neg h1, if_pos h3', if_pos h2]; exact fin _ h3
      · rw [if_neg h1, if_pos h3', if_neg h2]; exact fin _ h3
    · obtain ⟨s, c', hs, hc', hsum, hw2, hways⟩ := sub_digit0 hx hbo
      have key := sub_step hs.1 hc'.1 hx.1 (Int.le_refl 0) hbo.1 hv hsum
      have fin : ∀ v, v = c' → nat_sub.l0 (d + 1 + K) b (c.set i s) v (a.length : Int) ((i + 1 : Nat) : Int) = some (limbs (val a - val b)) := by
        rintro v rfl
        refine ih (i + 1) _ _ K hd2 hlt (by rw [List.length_set]; exact hc) (W_set hw _ _ hs) (hdr2 s) hc' ?_ hK
        rw [val_take_set h4, val_take_succ a, Nat.pow_succ]
        rw [List.take_of_length_le (l := b) (i := i) (hn2 hb2)] at key
        rw [List.take_of_length_le (l := b) (i := i + 1) (Nat.le_succ_of_le (hn2 hb2))]
        simpa using key
      rw [if_neg hb2, if_pos h2, if_pos h3']
      simp only [hw2, Int.toNat_natCast]
      rcases hways with ⟨h1, h3⟩ | ⟨h1, h3⟩
      · rw [if_pos h1]; exact fin _ h3
      · rw [if_neg h1]; exact fin _ h3
theorem sub_f {m n : Nat} (h : n ≤ m) (hm : (limbs m).length < 1099511627775) : ∃ k, nat_sub.f k (limbs m) (limbs n) = some (limbs (m - n)) := by
  refine ⟨(limbs m).length + 1 + ((limbs m).length + 2), ?_⟩
  unfold nat_sub.f api_Nat_uint64.f
  rw [if_pos (by omega)]
  simp only [Option.bind_some]
  have := sub_l0 (W_limbs m) (W_limbs n) (len_mono h) (by rw [val_limbs, val_limbs]; exact h) hm (limbs m).length 0 (limbs m) 0 ((limbs m).length + 2) (by omega) (by omega) rfl (W_limbs m) rfl (by omega) (by simp [val]) (Nat.le_refl _)
  rw [val_limbs, val_limbs] at this
  exact this
theorem Sub_f {m n : Nat} (hm : (limbs m).length < 1099511627775) (hn : (limbs n).length < 1099511627775) : ∃ k, nat_Sub.f k (limbs m) (limbs n) = some (if m < n then ([], 11) else (limbs (m - n), 0)) := by
  obtain ⟨k1, h1⟩ := cmp_f (m := m) (n := n) (by omega) (by omega)
  by_cases h : m < n
  · refine ⟨k1 + 1, ?_⟩
    unfold nat_Sub.f
    rw [good_f (by omega) (May_limbs m)]
    simp only [Option.bind_some, if_true]
    rw [good_f (by omega) (May_limbs n)]
    simp only [Option.bind_some, nat_Sub.j0, Bool.not_true, Bool.false_eq_true, if_false]
    rw [h1, c3_lt h, if_pos h]
    simp
  · obtain ⟨k2, h2⟩ := sub_f (m := m) (n := n) (by omega) hm
    obtain ⟨k, ha, hb⟩ : ∃ k, nat_cmp.f k (limbs m) (limbs n) = some (c3 m n) ∧ nat_sub.f k (limbs m) (limbs n) = some (limbs (m - n)) :=
      ⟨max k1 k2, at_rounds (fun k => nat_cmp.mono _ _ k) (Nat.le_max_left _ _) h1, at_rounds (fun k => nat_sub.mono _ _ k) (Nat.le_max_right _ _) h2⟩
    refine ⟨k + 1, ?_⟩
    unfold nat_Sub.f
    rw [good_f (by omega) (May_limbs m)]
    simp only [Option.bind_some, if_true]
    rw [good_f (by omega) (May_limbs n)]
    simp only [Option.bind_some, nat_Sub.j0, Bool.not_true, Bool.false_eq_true, if_false]
    rw [ha, if_neg h]
    simp only [Option.bind_some]
    have h3 : ¬ c3 m n < 0 := by unfold c3; split <;> (try split) <;> omega
    rw [if_neg h3, hb]
    rfl
end Go.Proofs.Ytigedaepbilokaa.PNat
