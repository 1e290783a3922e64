import Derived.Test.YtigedaepbilokaaPLawx2
import Derived.Test.YtigedaepbilokaaN4
/-! NatLaws: what the law's function comes to is true, for every list. -/
namespace Go.Proofs.Ytigedaepbilokaa.PLaw
open Go.RowKit Go.Proofs.YtigedaepbilokaaL.PrintWords Go.Proofs.YtigedaepbilokaaL.PrintLast Go.Proofs.YtigedaepbilokaaL.PrintMore
open Go.Proofs.Ytigedaepbilokaa.Plain
open PNat (w64 rd_lt rd_nat val_take_succ)
set_option linter.unusedVariables false

theorem upto {α : Type} {f : Nat → Option α} (hm : ∀ k, LeO (f k) (f (k + 1))) {k k' : Nat} {r : α} (h : k ≤ k') (hk : f k = some r) : f k' = some r := by
  induction h with
  | refl => exact hk
  | step _ ih => exact hm _ _ ih
/-- The document's own Trim. -/
theorem Trim_l0 {l : List Int} (hw : W l) (hl : l.length < 17592186044416) : ∀ (m i : Nat), i ≤ l.length → gaugeref1_Trim.l0 (i + m + 1) l (i : Int) = some (strip (l.take i))
  | m, 0, _ => by simp [gaugeref1_Trim.l0, strip, val, limbs_zero]
  | m, i + 1, hi => by
    have ih := Trim_l0 hw hl m i (by omega)
    have e : wrap64 (((i + 1 : Nat) : Int) - 1) = (i : Int) := by rw [w64 (by omega) (by omega)]; omega
    rw [gaugeref1_Trim.l0, if_pos (by omega), e, if_pos (by omega), if_pos (by omega), show i + 1 + m = i + m + 1 by omega]
    by_cases h0 : rd l (i : Int) = 0
    · rw [if_pos h0, ih]
      congr 1
      unfold strip
      rw [val_take_succ, h0]
      simp
    · rw [if_neg h0, if_pos (by omega), if_pos (by omega), Int.toNat_natCast]
      congr 1
      refine (limbs_val (W_take hw _) ?_).symm
      intro x hx
      rw [List.take_succ_eq_append_getElem (by omega), List.getLast?_concat] at hx
      rw [rd_lt (by omega)] at h0
      intro h
      apply h0
      injection hx with hx
      rw [hx, h]
theorem Trim_f {l : List Int} (hw : W l) (hl : l.length < 17592186044416) : ∃ k, gaugeref1_Trim.f k l = some (limbs (val l)) := by
  refine ⟨l.length + 0 + 1, ?_⟩
  unfold gaugeref1_Trim.f
  rw [Trim_l0 hw hl 0 l.length (Nat.le_refl _), List.take_length]
  rfl
theorem Limbs_l0 {L : List (List Int)} (hl : L.length < 1000) (hL : ∀ x ∈ L, x.length < 17592186044416) : ∀ (d i : Nat) (s : Int), L.length - i = d → i ≤ L.length → 0 ≤ s → s ≤ 300 →
    ∃ r, gaugelaw0_Limbs.l0 (d + 1) 300 L s (i : Int) = some r ∧ (r = false → s + ((L.drop i).map fun x => (x.length : Int)).sum ≤ 300) := by
  intro d
  induction d with
  | zero =>
    intro i s hd hi h0 h1
    refine ⟨false, by rw [gaugelaw0_Limbs.l0, if_neg (by omega)], fun _ => ?_⟩
    rw [List.drop_of_length_le (by omega)]
    simpa using h1
  | succ d ih =>
    intro i s hd hi h0 h1
    have hi2 : i < L.length := by omega
    have hx := hL L[i] (List.getElem_mem hi2)
    have er : rd_L1 L (i : Int) = L[i] := by simp [rd_L1, List.getD_eq_getElem?_getD, hi2]
    rw [gaugelaw0_Limbs.l0, if_pos (by omega), if_pos (by omega), er, w64 (x := s + _) (by omega) (by omega), List.drop_eq_getElem_cons hi2, List.map_cons, List.sum_cons]
    by_cases hs : s + (L[i].length : Int) > 300
    · exact ⟨true, by rw [if_pos hs], by simp⟩
    · rw [if_neg hs]
      obtain ⟨r, h2, h3⟩ := ih (i + 1) (s + (L[i].length : Int)) (by omega) (by omega) (by omega) (by omega)
      refine ⟨r, ?_, fun hr => ?_⟩
      · rw [← h2]
        congr 1
        rw [w64 (by omega) (by omega)]
        omega
      · have := h3 hr
        omega
theorem Limbs_f {a b c : List Int} (ha : a.length < 17592186044416) (hb : b.length < 17592186044416) (hc : c.length < 17592186044416) :
    ∃ k r, gaugelaw0_Limbs.f k 300 [a, b, c] = some r ∧ (r = false → a.length + b.length + c.length ≤ 300) := by
  obtain ⟨r, h1, h2⟩ := Limbs_l0 (L := [a, b, c]) (by simp) (by simp [ha, hb, hc]) 3 0 0 rfl (by simp) (by omega) (by omega)
  refine ⟨_, r, h1, fun hr => ?_⟩
  have := h2 hr
  simp at this
  omega

/-! #### Calls on numbers -/
theorem add_s {m n : Nat} (hm : (limbs m).length < 549755813888) (hn : (limbs n).length < 549755813888) : gaugelaw1_add.f (limbs m) (limbs n) = some (limbs (m + n)) := by
  rw [gaugelaw1_add.f, if_pos ⟨Num_limbs hm, Num_limbs hn⟩, val_limbs, val_limbs]
theorem mul_s {m n : Nat} (hm : (limbs m).length < 549755813888) (hn : (limbs n).length < 549755813888) : gaugelaw1_mul.f (limbs m) (limbs n) = some (limbs (m * n)) := by
  rw [gaugelaw1_mul.f, if_pos ⟨Num_limbs hm, Num_limbs hn⟩, val_limbs, val_limbs]
theorem sub_s {m n : Nat} (hm : (limbs m).length < 549755813888) (hn : (limbs n).length < 549755813888) (h : n ≤ m) : nat_Sub.f (limbs m) (limbs n) = some (limbs (m - n), 0) := by
  rw [nat_Sub.f, if_pos ⟨Num_limbs hm, Num_limbs hn⟩, val_limbs, val_limbs, if_neg (by omega)]
theorem cmp_s {m n : Nat} (hm : (limbs m).length < 549755813888) (hn : (limbs n).length < 549755813888) : nat_Cmp.f (limbs m) (limbs n) = some (PNat.c3 m n) := by
  rw [nat_Cmp.f, if_pos ⟨Num_limbs hm, Num_limbs hn⟩, val_limbs, val_limbs]
theorem from_s {a : Int} (h0 : 0 ≤ a) (h1 : a < 18446744073709551616) : nat_From.f a = some (limbs a.toNat) := by rw [nat_From.f, if_pos ⟨h0, h1⟩]
theorem eq_s {m n : Nat} (hm : (limbs m).length < 549755813888) (h : m = n) : gaugeref0_EqNat.f (limbs m) (limbs n) = some true := by
  rw [gaugeref0_EqNat.f, if_pos (by omega), h]; simp
/-- What a list of threes may be: words, no list too long. -/
def Fine (x : S27) : Prop := (W x.f0 ∧ x.f0.length < 17592186044416) ∧ (W x.f1 ∧ x.f1.length < 17592186044416) ∧ W x.f2 ∧ x.f2.length < 17592186044416
theorem rd_fine {l : List S27} (h : ∀ x ∈ l, Fine x) (i : Nat) (hi : i < l.length) : Fine (rd_T27 l (i : Int)) := by
  have : rd_T27 l (i : Int) = l[i] := by simp [rd_T27, List.getD_eq_getElem?_getD, hi]
  rw [this]
  exact h _ (List.getElem_mem hi)
theorem wakes_s : gaugelaw1_wakes.f = some true := rfl
/-- The start that every law of threes has: too many limbs, or three numbers. -/
theorem three_start {x : S27} (h : Fine x) : ∃ K r, (∀ k, K ≤ k → gaugelaw0_Limbs.f k 300 [x.f0, x.f1, x.f2] = some r) ∧ (r = false → ∃ a b c : Nat, (limbs a).length + (limbs b).length + (limbs c).length ≤ 300 ∧ ∀ k, K ≤ k → gaugeref1_Trim.f k x.f0 = some (limbs a) ∧ gaugeref1_Trim.f k x.f1 = some (limbs b) ∧ gaugeref1_Trim.f k x.f2 = some (limbs c)) := by
  obtain ⟨⟨w0, l0⟩, ⟨w1, l1⟩, w2, l2⟩ := h
  obtain ⟨k0, r, h0, hr⟩ := Limbs_f l0 l1 l2
  obtain ⟨k1, h1⟩ := Trim_f w0 l0
  obtain ⟨k2, h2⟩ := Trim_f w1 l1
  obtain ⟨k3, h3⟩ := Trim_f w2 l2
  refine ⟨k0 + k1 + k2 + k3, r, fun k hk => upto (fun k => gaugelaw0_Limbs.mono _ _ k) (by omega) h0, fun hf => ⟨val x.f0, val x.f1, val x.f2, ?_, fun k hk => ⟨upto (fun k => gaugeref1_Trim.mono _ k) (by omega) h1, upto (fun k => gaugeref1_Trim.mono _ k) (by omega) h2, upto (fun k => gaugeref1_Trim.mono _ k) (by omega) h3⟩⟩⟩
  have e0 := strip_len w0
  have e1 := strip_len w1
  have e2 := strip_len w2
  unfold strip at e0 e1 e2
  have := hr hf
  omega
/-- A loop over a list's first 60: what each round does. -/
theorem sixty {α : Type} {n : Nat} {F : Nat → Int → Option α} {r : α} (hm : ∀ k i, LeO (F k i) (F (k + 1) i)) (hend : ∀ i : Nat, i ≤ n → (n ≤ i ∨ 60 ≤ i) → ∃ k, F k (i : Int) = some r)
    (hstep : ∀ i : Nat, i < n → i < 60 → ∃ K, ∀ k, K ≤ k → F k ((i + 1 : Nat) : Int) = some r → F (k + 1) (i : Int) = some r) : ∃ k, F k 0 = some r := by
  have key : ∀ d i : Nat, 60 - i = d → i ≤ n → ∃ k, F k (i : Int) = some r := by
    intro d
    induction d with
    | zero => exact fun i hd hi => hend i hi (by omega)
    | succ d ih =>
      intro i hd hi
      by_cases hn : n ≤ i
      · exact hend i hi (.inl hn)
      · obtain ⟨k1, h1⟩ := ih (i + 1) (by omega) (by omega)
        obtain ⟨K, hK⟩ := hstep i (by omega) (by omega)
        exact ⟨_, hK (k1 + K) (by omega) (upto (fun k => hm k _) (by omega) h1)⟩
  exact key 60 0 rfl (Nat.zero_le _)
theorem NatLaws_true (l : List S27) (h : ∀ x ∈ l, Fine x) (hl : l.length < 17592186044416) : ∃ k, gaugelaw1_NatLaws.f k l = some true := by
  unfold gaugelaw1_NatLaws.f
  refine sixty (n := l.length) (F := fun k i => gaugelaw1_NatLaws.l0 k l i) (fun k i => gaugelaw1_NatLaws.mono_l k l i) ?_ ?_
  · intro i hi ho
    refine ⟨1, ?_⟩
    show gaugelaw1_NatLaws.l0 1 l (i : Int) = some true
    rw [gaugelaw1_NatLaws.l0]
    rcases ho with ho | ho
    · rw [if_neg (by omega), wakes_s]; rfl
    · by_cases hx : (i : Int) < (l.length : Int)
      · rw [if_pos hx, if_neg (by omega), wakes_s]; rfl
      · rw [if_neg hx, wakes_s]; rfl
  · intro i hi h60
    obtain ⟨K, r, h1, h2⟩ := three_start (rd_fine h i hi)
    refine ⟨K, fun k hk hn => ?_⟩
    show gaugelaw1_NatLaws.l0 (k + 1) l (i : Int) = some true
    replace hn : gaugelaw1_NatLaws.l0 k l ((i + 1 : Nat) : Int) = some true := hn
    rw [gaugelaw1_NatLaws.l0, if_pos (by omega), if_pos (by omega), if_pos (by omega), h1 k hk, Option.bind_some]
    cases r with
    | true => rfl
    | false =>
      obtain ⟨a, b, c, hs, hT⟩ := h2 rfl
      obtain ⟨ta, tb, tc⟩ := hT k hk
      have l1 := len_add a b
      have l2 := len_add b a
      have l3 := len_mul a b
      have l4 := len_mul b a
      have l5 := len_add (a + b) c
      have l6 := len_add b c
      have l7 := len_add a (b + c)
      have l8 := len_mul (a * b) c
      have l9 := len_mul b c
      have l10 := len_mul a (b * c)
      have l11 := len_mul a (b + c)
      have l12 := len_mul a c
      have l13 := len_add (a * b) (a * c)
      have e1 : (limbs 1).length = 1 := by rw [limbs_pos (by decide), show 1 / 18446744073709551616 = 0 from rfl, limbs_zero]; rfl
      have A1 := add_s (m := a) (n := b) (by omega) (by omega)
      have A2 := add_s (m := b) (n := a) (by omega) (by omega)
      have M1 := mul_s (m := a) (n := b) (by omega) (by omega)
      have M2 := mul_s (m := b) (n := a) (by omega) (by omega)
      have A3 := add_s (m := a + b) (n := c) (by omega) (by omega)
      have A4 := add_s (m := b) (n := c) (by omega) (by omega)
      have A5 := add_s (m := a) (n := b + c) (by omega) (by omega)
      have M3 := mul_s (m := a * b) (n := c) (by omega) (by omega)
      have M4 := mul_s (m := b) (n := c) (by omega) (by omega)
      have M5 := mul_s (m := a) (n := b * c) (by omega) (by omega)
      have M6 := mul_s (m := a) (n := b + c) (by omega) (by omega)
      have M7 := mul_s (m := a) (n := c) (by omega) (by omega)
      have A6 := add_s (m := a * b) (n := a * c) (by omega) (by omega)
      have E1 := eq_s (m := a + b) (n := b + a) (by omega) (Nat.add_comm _ _)
      have E2 := eq_s (m := a * b) (n := b * a) (by omega) (Nat.mul_comm _ _)
      have E3 := eq_s (m := a + b + c) (n := a + (b + c)) (by omega) (Nat.add_assoc _ _ _)
      have E4 := eq_s (m := a * b * c) (n := a * (b * c)) (by omega) (Nat.mul_assoc _ _ _)
      have E5 := eq_s (m := a * (b + c)) (n := a * b + a * c) (by omega) (Nat.mul_add _ _ _)
      have S1 := sub_s (m := a + b) (n := b) (by omega) (by omega) (by omega)
      rw [Nat.add_sub_cancel] at S1
      have E6 := eq_s (m := a) (n := a) (by omega) rfl
      have C1 := cmp_s (m := a + b) (n := a) (by omega) (by omega)
      have C2 : ¬ PNat.c3 (a + b) a < 0 := by unfold PNat.c3; split <;> (try split) <;> omega
      have F1 : nat_From.f 1 = some (limbs 1) := from_s (by decide) (by decide)
      have M8 := mul_s (m := a) (n := 1) (by omega) (by omega)
      rw [Nat.mul_one] at M8
      have M9 := mul_s (m := a) (n := 0) (by omega) (by rw [limbs_zero]; decide)
      rw [Nat.mul_zero, limbs_zero] at M9
      have ei : wrap64 ((i : Int) + 1) = ((i + 1 : Nat) : Int) := by rw [w64 (by omega) (by omega)]; omega
      simp only [ta, tb, tc, A1, A2, A3, A4, A5, A6, M1, M2, M3, M4, M5, M6, M7, M8, M9, E1, E2, E3, E4, E5, E6, S1, C1, F1, if_neg C2, gaugelaw1_num.f, Option.bind_some, if_true, List.length_nil, ei, hn, Bool.false_eq_true, if_false, gt_iff_lt, Int.lt_irrefl, Int.ofNat_zero]
end Go.Proofs.Ytigedaepbilokaa.PLaw
