-- Written for this claim by a program of ours (a changed copy of the kit's print): Lean checks it.
import Derived.Test.YtigedaepbilokaaPNatx0
import Derived.Test.YtigedaepbilokaaPNatx1
namespace Go.Proofs.Ytigedaepbilokaa.PNat
open Go.RowKit Go.Proofs.YtigedaepbilokaaL.PrintWords Go.Proofs.YtigedaepbilokaaL.PrintLast Go.Proofs.YtigedaepbilokaaL.PrintMore
attribute [local go_sem] max2_int min2_int max_two min_two max_three min_three max_four min_four   -- for this text's walks alone
set_option linter.unusedVariables false
set_option linter.unusedSimpArgs false

/-! ### nat_add: function 53 -/
mutual
def nat_add.l0 : Nat → List Int → List Int → List Int → Int → List Int → Int → Int → Option (List Int)
  | 0, _, _, _, _, _, _, _ => none
  | k + 1, x0, x1, x5, x6, x21, x22, x23 => if x23 < x22 then (if 0 ≤ x23 then (if x23 < (x21.length : Int) then (if (IntKind.u64.wrap ((rd x21 x23) + x6)) < (rd x21 x23) then (if x23 < (x1.length : Int) then (if (IntKind.u64.wrap ((IntKind.u64.wrap ((rd x21 x23) + x6)) + (rd x1 x23))) < (rd x1 x23) then (if x23 < (x5.length : Int) then (nat_add.l0 k x0 x1 (x5.set (x23 : Int).toNat (IntKind.u64.wrap ((IntKind.u64.wrap ((rd x21 x23) + x6)) + (rd x1 x23)))) (1 + 1) x21 x22 (wrap64 (x23 + 1))) else (none)) else (if x23 < (x5.length : Int) then (nat_add.l0 k x0 x1 (x5.set (x23 : Int).toNat (IntKind.u64.wrap ((IntKind.u64.wrap ((rd x21 x23) + x6)) + (rd x1 x23)))) 1 x21 x22 (wrap64 (x23 + 1))) else (none))) else (if x23 < (x5.length : Int) then (nat_add.l0 k x0 x1 (x5.set (x23 : Int).toNat (IntKind.u64.wrap ((rd x21 x23) + x6))) 1 x21 x22 (wrap64 (x23 + 1))) else (none))) else (if x23 < (x1.length : Int) then (if (IntKind.u64.wrap ((IntKind.u64.wrap ((rd x21 x23) + x6)) + (rd x1 x23))) < (rd x1 x23) then (if x23 < (x5.length : Int) then (nat_add.l0 k x0 x1 (x5.set (x23 : Int).toNat (IntKind.u64.wrap ((IntKind.u64.wrap ((rd x21 x23) + x6)) + (rd x1 x23)))) (0 + 1) x21 x22 (wrap64 (x23 + 1))) else (none)) else (if x23 < (x5.length : Int) then (nat_add.l0 k x0 x1 (x5.set (x23 : Int).toNat (IntKind.u64.wrap ((IntKind.u64.wrap ((rd x21 x23) + x6)) + (rd x1 x23)))) 0 x21 x22 (wrap64 (x23 + 1))) else (none))) else (if x23 < (x5.length : Int) then (nat_add.l0 k x0 x1 (x5.set (x23 : Int).toNat (IntKind.u64.wrap ((rd x21 x23) + x6))) 0 x21 x22 (wrap64 (x23 + 1))) else (none)))) else (none)) else (none)) else (if 0 ≤ (x0.length : Int) then (if (x0.length : Int) < (x5.length : Int) then ((nat_trim.f k (x5.set ((x0.length : Int) : Int).toNat x6)).bind fun t138 => (some t138)) else (none)) else (none))
def nat_add.l100 : Nat → List Int → List Int → List Int → Int → List Int → Int → Int → Option (List Int)
  | 0, _, _, _, _, _, _, _ => none
  | k + 1, x0, x1, x5, x6, x21, x22, x23 => if x23 < x22 then (if 0 ≤ x23 then (if x23 < (x21.length : Int) then (if (IntKind.u64.wrap ((rd x21 x23) + x6)) < (rd x21 x23) then (if x23 < (x1.length : Int) then (if (IntKind.u64.wrap ((IntKind.u64.wrap ((rd x21 x23) + x6)) + (rd x1 x23))) < (rd x1 x23) then (if x23 < (x5.length : Int) then (nat_add.l100 k x0 x1 (x5.set (x23 : Int).toNat (IntKind.u64.wrap ((IntKind.u64.wrap ((rd x21 x23) + x6)) + (rd x1 x23)))) (1 + 1) x21 x22 (wrap64 (x23 + 1))) else (none)) else (if x23 < (x5.length : Int) then (nat_add.l100 k x0 x1 (x5.set (x23 : Int).toNat (IntKind.u64.wrap ((IntKind.u64.wrap ((rd x21 x23) + x6)) + (rd x1 x23)))) 1 x21 x22 (wrap64 (x23 + 1))) else (none))) else (if x23 < (x5.length : Int) then (nat_add.l100 k x0 x1 (x5.set (x23 : Int).toNat (IntKind.u64.wrap ((rd x21 x23) + x6))) 1 x21 x22 (wrap64 (x23 + 1))) else (none))) else (if x23 < (x1.length : Int) then (if (IntKind.u64.wrap ((IntKind.u64.wrap ((rd x21 x23) + x6)) + (rd x1 x23))) < (rd x1 x23) then (if x23 < (x5.length : Int) then (nat_add.l100 k x0 x1 (x5.set (x23 : Int).toNat (IntKind.u64.wrap ((IntKind.u64.wrap ((rd x21 x23) + x6)) + (rd x1 x23)))) (0 + 1) x21 x22 (wrap64 (x23 + 1))) else (none)) else (if x23 < (x5.length : Int) then (nat_add.l100 k x0 x1 (x5.set (x23 : Int).toNat (IntKind.u64.wrap ((IntKind.u64.wrap ((rd x21 x23) + x6)) + (rd x1 x23)))) 0 x21 x22 (wrap64 (x23 + 1))) else (none))) else (if x23 < (x5.length : Int) then (nat_add.l100 k x0 x1 (x5.set (x23 : Int).toNat (IntKind.u64.wrap ((rd x21 x23) + x6))) 0 x21 x22 (wrap64 (x23 + 1))) else (none)))) else (none)) else (none)) else (if 0 ≤ (x0.length : Int) then (if (x0.length : Int) < (x5.length : Int) then ((nat_trim.f k (x5.set ((x0.length : Int) : Int).toNat x6)).bind fun t156 => (some t156)) else (none)) else (none))
end
def nat_add.f (k : Nat) (l0 : List Int) (l1 : List Int) : Option (List Int) := if (l0.length : Int) < (l1.length : Int) then (if 0 ≤ (wrap64 ((l1.length : Int) + 1)) then (if (wrap64 ((l1.length : Int) + 1) : Int).toNat ≤ 35184372088832 then (nat_add.l0 k l1 l0 (List.replicate (wrap64 ((l1.length : Int) + 1) : Int).toNat 0) 0 l1 (l1.length : Int) 0) else (none)) else (none)) else (if 0 ≤ (wrap64 ((l0.length : Int) + 1)) then (if (wrap64 ((l0.length : Int) + 1) : Int).toNat ≤ 35184372088832 then (nat_add.l100 k l0 l1 (List.replicate (wrap64 ((l0.length : Int) + 1) : Int).toNat 0) 0 l0 (l0.length : Int) 0) else (none)) else (none))
theorem nat_add.mono_l : ∀ k, (∀ y0 y1 y2 y3 y4 y5 y6, LeO (nat_add.l0 k y0 y1 y2 y3 y4 y5 y6) (nat_add.l0 (k + 1) y0 y1 y2 y3 y4 y5 y6)) ∧ (∀ y0 y1 y2 y3 y4 y5 y6, LeO (nat_add.l100 k y0 y1 y2 y3 y4 y5 y6) (nat_add.l100 (k + 1) y0 y1 y2 y3 y4 y5 y6))
  | 0 => ⟨fun _ _ _ _ _ _ _ r h => by simp [nat_add.l0] at h, fun _ _ _ _ _ _ _ r h => by simp [nat_add.l100] at h⟩
  | k + 1 => by
    obtain ⟨ih0, ih1⟩ := nat_add.mono_l k
    refine ⟨?_, ?_⟩
    · intro y0 y1 y2 y3 y4 y5 y6
      unfold nat_add.l0
      repeat' first
      | (with_reducible exact ih0 _ _ _ _ _ _ _)
      | (with_reducible exact ih1 _ _ _ _ _ _ _)
      | (with_reducible exact nat_trim.mono _ _)
      | (with_reducible exact LeO.refl _)
      | (with_reducible exact LeO.none _)
      | (with_reducible refine LeO.ite ?_ ?_)
      | (with_reducible refine LeO.bind ?_ (fun _ => ?_))
      | exact ih0 _ _ _ _ _ _ _
      | exact ih1 _ _ _ _ _ _ _
      | exact nat_trim.mono _ _
      | exact LeO.none _
      | refine LeO.ite ?_ ?_
      | refine LeO.bind ?_ (fun _ => ?_)
    · intro y0 y1 y2 y3 y4 y5 y6
      unfold nat_add.l100
      repeat' first
      | (with_reducible exact ih0 _ _ _ _ _ _ _)
      | (with_reducible exact ih1 _ _ _ _ _ _ _)
      | (with_reducible exact nat_trim.mono _ _)
      | (with_reducible exact LeO.refl _)
      | (with_reducible exact LeO.none _)
      | (with_reducible refine LeO.ite ?_ ?_)
      | (with_reducible refine LeO.bind ?_ (fun _ => ?_))
      | exact ih0 _ _ _ _ _ _ _
      | exact ih1 _ _ _ _ _ _ _
      | exact nat_trim.mono _ _
      | exact LeO.none _
      | refine LeO.ite ?_ ?_
      | refine LeO.bind ?_ (fun _ => ?_)
theorem nat_add.mono : ∀ a0 a1 k, LeO (nat_add.f k a0 a1) (nat_add.f (k + 1) a0 a1) := by
  intro a0 a1 k
  obtain ⟨ih0, ih1⟩ := nat_add.mono_l k
  unfold nat_add.f
  repeat' first
      | (with_reducible exact ih0 _ _ _ _ _ _ _)
      | (with_reducible exact ih1 _ _ _ _ _ _ _)
      | (with_reducible exact nat_trim.mono _ _)
      | (with_reducible exact LeO.refl _)
      | (with_reducible exact LeO.none _)
      | (with_reducible refine LeO.ite ?_ ?_)
      | (with_reducible refine LeO.bind ?_ (fun _ => ?_))
      | exact ih0 _ _ _ _ _ _ _
      | exact ih1 _ _ _ _ _ _ _
      | exact nat_trim.mono _ _
      | exact LeO.none _
      | refine LeO.ite ?_ ?_
      | refine LeO.bind ?_ (fun _ => ?_)
set_option maxHeartbeats 8000000 in
set_option maxRecDepth 100000 in
theorem nat_add.calls (k : Nat) (A0 : Option Addr) (c0 : Nat) (l0 : List Int) (A1 : Option Addr) (c1 : Nat) (l1 : List Int) (r : List Int) (w : World) (hr0 : Kd.C (Kd.int .u64) w A0 l0.length l0) (hc0 : l0.length ≤ c0) (hr1 : Kd.C (Kd.int .u64) w A1 l1.length l1) (hc1 : l1.length ≤ c1) (h : nat_add.f k l0 l1 = some r) :
    Calls Try.prog 53 #[.slice A0 l0.length c0, .slice A1 l1.length c1] w fun e w' => ∃ v0_ : Value, e = .returned (v0_) ∧ Kd.R (Kd.int .u64) 37 w' w.heap.size (fun _ => True) v0_ r ∧ Below w.heap.size w w' := by
  have HR0 := Aside0.mk hr0
  have HC0 := Aside0.mk hc0
  clear hr0 hc0
  have HR1 := Aside0.mk hr1
  have HC1 := Aside0.mk hc1
  clear hr1 hc1
  have HB := Aside0.mk (Below.refl w.heap.size w)
  have H : (if (l0.length : Int) < (l1.length : Int) then (if 0 ≤ (wrap64 ((l1.length : Int) + 1)) then (if (wrap64 ((l1.length : Int) + 1) : Int).toNat ≤ 35184372088832 then (nat_add.l0 k l1 l0 (List.replicate (wrap64 ((l1.length : Int) + 1) : Int).toNat 0) 0 l1 (l1.length : Int) 0) else (none)) else (none)) else (if 0 ≤ (wrap64 ((l0.length : Int) + 1)) then (if (wrap64 ((l0.length : Int) + 1) : Int).toNat ≤ 35184372088832 then (nat_add.l100 k l0 l1 (List.replicate (wrap64 ((l0.length : Int) + 1) : Int).toNat 0) 0 l0 (l0.length : Int) 0) else (none)) else (none))) = some r := h
  clear h
  by_cases c3 : (l0.length : Int) < (l1.length : Int)
  · rw [if_pos c3] at H
    have c3b0 : decide ((l0.length : Int) < (l1.length : Int)) = true := decide_eq_true c3
    have c3b1 : decide (l0.length < l1.length) = true := decide_eq_true (Int.ofNat_lt.mp c3)
    clear c3
    obtain ⟨ji4, hji4⟩ : ∃ j_ : Int, (wrap64 ((l1.length : Int) + 1)) = j_ := ⟨_, rfl⟩
    replace H : (if 0 ≤ (ji4) then (if (ji4 : Int).toNat ≤ 35184372088832 then (nat_add.l0 k l1 l0 (List.replicate (ji4 : Int).toNat 0) 0 l1 (l1.length : Int) 0) else (none)) else (none)) = some r := by first | (rw [hji4] at H; exact H) | (simp only [hji4] at H ⊢; exact H)
    have hji4w : (IntKind.i64.wrap ((l1.length : Int) + 1)) = ji4 := (i64_w _).trans hji4
    by_cases c5 : 0 ≤ (ji4)
    · rw [if_pos c5] at H
      have c5b0 := eq_true c5
      have c5b1 : decide (0 ≤ (ji4)) = true := decide_eq_true c5
      clear c5
      by_cases c6 : (ji4 : Int).toNat ≤ 35184372088832
      · rw [if_pos c6] at H
        have c6b0 := eq_true c6
        have c6b1 : decide ((ji4 : Int).toNat ≤ 35184372088832) = true := decide_eq_true c6
        clear c6
        obtain ⟨y123, hy123⟩ : ∃ y_ : List Int, y_ = (List.replicate (ji4 : Int).toNat 0) := ⟨_, rfl⟩
        replace H : (nat_add.l0 k l1 l0 y123 0 l1 (l1.length : Int) 0) = some r := by first | (rw [hy123]; with_reducible exact H) | (have H2_ := (Option.bind_some _ _).symm.trans H; rw [hy123]; with_reducible exact H2_) | (have H2_ := (Option.bind_some _ _).symm.trans H; with_reducible exact H2_) | with_reducible exact H | (rw [hy123]; exact H) | exact H
        have Ny123 := Aside0.mk hy123
        clear hy123
        have H' := Aside0.mk H
        clear H
        go_enter Try.func53, Try.ntmps53
        go_wp2_with (first | ((with_reducible refine gate_dst (N := 20) rfl ?_); refine Kd.R_make (Kd.int .u64) _ 37 rfl (N := 20) rfl 25 _ _ rfl ji4 rfl rfl Try.underlying25 (.int .u64 0) 8 info37 rfl (by decide) (by omega) 0 (ok := fun _ => True) (okp := fun _ => True) rfl (fun _ hk => hk) trivial (of_decide_eq_true (by first | (with_reducible assumption) | assumption)) (Nat.le_trans (Nat.mul_le_mul_right _ (of_decide_eq_true (by first | (with_reducible assumption) | assumption) : ji4.toNat ≤ 35184372088832)) (by omega)) (Below.refl _ _) (Nat.le_refl _) ?_; intro v124 w7 ho8 hb hg_ hnew_; clear hg_ hnew_; (first | rw [← Ny123.out] at ho8 | (simp only [Int.reduceToNat] at ho8; rw [← Ny123.out] at ho8)); have n0_ := Aside0.mk (Kd.R_lower ho8 (below_size (by repeat (first | (with_reducible first | exact HB.out | apply below_alloc | apply pw_below_drewN | apply below_drew1) | exact HB.out)))); have n1_ := Aside0.mk (below_step (by repeat (first | (with_reducible first | exact HB.out | apply below_alloc | apply pw_below_drewN | apply below_drew1) | exact HB.out)) hb); clear HB; have HO125 := n0_; have HB := n1_; clear n0_ n1_; clear hb ho8))
        go_loopg [6, 23] k (fun kq v6 v23 w' => ∃ (x5_1 : List Int) (x6_1 : Int) (x23_1 : Int), v6 = .int .u64 x6_1 ∧ v23 = .int .i64 x23_1 ∧ Aside0 (nat_add.l0 kq l1 l0 x5_1 x6_1 l1 (l1.length : Int) x23_1 = some r) ∧ Aside0 (kq ≤ k) ∧ Aside0 (Kd.R (Kd.int .u64) 37 w' w.heap.size (fun _ => True) v124 x5_1) ∧ Aside0 (Below w.heap.size w w'))
        case atStart => exact ⟨(y123), (0), (0), (by first | rfl | (simp; done) | (simp [*]; done)), (by first | rfl | (simp; done) | (simp [*]; done)), H', ⟨Nat.le_refl _⟩, ⟨by (with_reducible repeat (first | apply Kd.R_alloc | apply Kd.R_drewN | apply Kd.R_drew)); exact HO125.out⟩, ⟨by repeat (first | (with_reducible first | exact HB.out | apply below_alloc | apply pw_below_drewN | apply below_drew1) | exact HB.out)⟩⟩
        case round =>
          clear H'
          try clear c1
          try clear p2
          try clear c3
          try clear c3b0
          try clear c3b1
          try clear c5
          try clear c5b0
          try clear c5b1
          try clear c6
          try clear c6b0
          try clear c6b1
          try clear p6
          obtain ⟨x5_1, x6_1, x23_1, rfl, rfl, HA, HK1, HO_5, HB⟩ := hrel
          cases gk with
          | zero => exact absurd HA.out (by simp [nat_add.l0])
          | succ k1 =>
            have H := HA.out
            clear HA
            simp only [nat_add.l0] at H
            by_cases c9 : x23_1 < (l1.length : Int)
            · rw [if_pos c9] at H
              have c9b0 : decide (x23_1 < (l1.length : Int)) = true := decide_eq_true c9
              clear c9
              by_cases c10 : 0 ≤ x23_1
              · rw [if_pos c10] at H
                have c10b0 : decide (0 ≤ x23_1) = true := decide_eq_true c10
                clear c10
                by_cases c11 : x23_1 < (l1.length : Int)
                · rw [if_pos c11] at H
                  have c11b0 : decide (x23_1 < (l1.length : Int)) = true := decide_eq_true c11
                  clear c11
                  by_cases c12 : (IntKind.u64.wrap ((rd l1 x23_1) + x6_1)) < (rd l1 x23_1)
                  · rw [if_pos c12] at H
                    have c12b0 : decide ((IntKind.u64.wrap ((rd l1 x23_1) + x6_1)) < (rd l1 x23_1)) = true := decide_eq_true c12
                    clear c12
                    by_cases c13 : x23_1 < (l0.length : Int)
                    · rw [if_pos c13] at H
                      have c13b0 : decide (x23_1 < (l0.length : Int)) = true := decide_eq_true c13
                      clear c13
                      by_cases c14 : (IntKind.u64.wrap ((IntKind.u64.wrap ((rd l1 x23_1) + x6_1)) + (rd l0 x23_1))) < (rd l0 x23_1)
                      · rw [if_pos c14] at H
                        have c14b0 : decide ((IntKind.u64.wrap ((IntKind.u64.wrap ((rd l1 x23_1) + x6_1)) + (rd l0 x23_1))) < (rd l0 x23_1)) = true := decide_eq_true c14
                        clear c14
                        by_cases c15 : x23_1 < (x5_1.length : Int)
                        · rw [if_pos c15] at H
                          have c15b0 : decide (x23_1 < (x5_1.length : Int)) = true := decide_eq_true c15
                          clear c15
                          obtain ⟨y129, hy129⟩ : ∃ y_ : List Int, y_ = (x5_1.set (x23_1 : Int).toNat (IntKind.u64.wrap ((IntKind.u64.wrap ((rd l1 x23_1) + x6_1)) + (rd l0 x23_1)))) := ⟨_, rfl⟩
                          replace H : (nat_add.l0 k1 l1 l0 y129 (1 + 1) l1 (l1.length : Int) (wrap64 (x23_1 + 1))) = some r := by first | (rw [hy129]; with_reducible exact H) | (have H2_ := (Option.bind_some _ _).symm.trans H; rw [hy129]; with_reducible exact H2_) | (have H2_ := (Option.bind_some _ _).symm.trans H; with_reducible exact H2_) | with_reducible exact H | (rw [hy129]; exact H) | exact H
                          have Ny129 := Aside0.mk hy129
                          clear hy129
                          have H' := Aside0.mk H
                          clear H
                          have p126 : 0 ≤ (x23_1 : Int) := of_decide_eq_true (by first | (with_reducible assumption) | assumption)
                          have q126 : x23_1 < (l1.length : Int) := of_decide_eq_true (by first | (with_reducible assumption) | assumption)
                          obtain ⟨ad126, e126, hx126_0⟩ := Kd.at_int HR1.out x23_1 p126 q126
                          cases e126
                          replace hx126_0 := (HB.out.cell (World.block_lt_of_cell? w _ hx126_0)).trans hx126_0
                          replace p126 := eq_true p126
                          replace q126 := eq_true q126
                          have p127 : 0 ≤ (x23_1 : Int) := of_decide_eq_true (by first | (with_reducible assumption) | assumption)
                          have q127 : x23_1 < (l0.length : Int) := of_decide_eq_true (by first | (with_reducible assumption) | assumption)
                          obtain ⟨ad127, e127, hx127_0⟩ := Kd.at_int HR0.out x23_1 p127 q127
                          cases e127
                          replace hx127_0 := (HB.out.cell (World.block_lt_of_cell? w _ hx127_0)).trans hx127_0
                          replace p127 := eq_true p127
                          replace q127 := eq_true q127
                          have p128 : 0 ≤ (x23_1 : Int) := of_decide_eq_true (by first | (with_reducible assumption) | assumption)
                          have q128 : x23_1 < (l0.length : Int) := of_decide_eq_true (by first | (with_reducible assumption) | assumption)
                          obtain ⟨ad128, e128, hx128_0⟩ := Kd.at_int HR0.out x23_1 p128 q128
                          obtain rfl : ad127 = ad128 := (by injection e128)
                          replace hx128_0 := (HB.out.cell (World.block_lt_of_cell? w _ hx128_0)).trans hx128_0
                          replace p128 := eq_true p128
                          replace q128 := eq_true q128
                          have p16 : 0 ≤ (x23_1 : Int) := of_decide_eq_true (by first | (with_reducible assumption) | assumption)
                          have q16 : (x23_1 : Int) < ((x5_1.length : Int) : Int) := of_decide_eq_true (by first | (with_reducible assumption) | assumption)
                          obtain ⟨go16, co16, eo16, gb16, gl16, cl16, HG16⟩ := Kd.R_form HO_5.out (by omega)
                          (first | cases eo16 | (injection eo16 with ea_ en_ ec_; (first | subst ea_ | (injection ea_ with ea_; subst ea_)); subst ec_; clear en_))
                          have GB16 := Aside0.mk gb16
                          have GG16 := Aside0.mk HG16
                          clear gb16 gl16 HG16
                          obtain ⟨hx16_0, hf16_0⟩ := Kd.R_celln 0 HO_5.out (x23_1 : Int) p16 q16
                          (try simp only [Int.toNat_natCast] at hx16_0 hf16_0)
                          replace p16 := eq_true p16
                          replace q16 := eq_true q16
                          have HP17 := Kd.R_putg HO_5.out (x23_1 : Int) (IntKind.u64.wrap ((IntKind.u64.wrap ((rd l1 x23_1) + x6_1)) + (rd l0 x23_1)))
                          go_wp2_with (first | ((with_reducible refine gate_store (t := 37) (p := 55) rfl ?_); refine store_event (t := 37) (p := 55) (v := ?vo_w18) (w1 := (wr.setCell ⟨go16, (x23_1 : Int).toNat, none⟩ (.int .u64 (IntKind.u64.wrap ((IntKind.u64.wrap ((rd l1 x23_1) + x6_1)) + (rd l0 x23_1)))))) ?hg ?ho ?hn ?hr ?_; (case ho => rfl); (case hg => rfl); (case hn => rfl); (case hr => first | (go_simp; done) | (go_simp; rfl)); intro w18 hw; have hg : wr.grownBy w18 (some go16) := (by rw [hw]; exact HP17.2); have hp_ : Kd.R (Kd.int .u64) 37 w18 w.heap.size (fun _ => True) (.slice (some ⟨go16, 0, none⟩) x5_1.length co16) y129 := (by rw [hw, Ny129.out]; exact HP17.1); clear HP17; have n0_ := Aside0.mk (hp_); have n1_ := Aside0.mk ((by rw [hw]; exact below_set (HB.out) GB16.out : Below w.heap.size w w18)); clear HO_5; clear HB; have HO_5 := n0_; have HB := n1_; clear n0_ n1_; clear hg hw hp_))
                          go_roundg k1
                          case measure => have := HK1.out; omega
                          case rel => exact ⟨(y129), (1 + 1), (wrap64 (x23_1 + 1)), (by first | rfl | (simp; done) | (simp [*]; done)), (by first | rfl | (simp; done) | (simp [*]; done)), H', ⟨by have := HK1.out; omega⟩, ⟨by (with_reducible repeat (first | apply Kd.R_alloc | apply Kd.R_drewN | apply Kd.R_drew)); exact HO_5.out⟩, ⟨by repeat (first | (with_reducible first | exact HB.out | apply below_alloc | apply pw_below_drewN | apply below_drew1) | exact HB.out)⟩⟩
                        · rw [if_neg c15] at H
                          exact absurd H (by simp)
                      · rw [if_neg c14] at H
                        have c14b0 : decide ((IntKind.u64.wrap ((IntKind.u64.wrap ((rd l1 x23_1) + x6_1)) + (rd l0 x23_1))) < (rd l0 x23_1)) = false := decide_eq_false c14
                        clear c14
                        by_cases c19 : x23_1 < (x5_1.length : Int)
                        · rw [if_pos c19] at H
                          have c19b0 : decide (x23_1 < (x5_1.length : Int)) = true := decide_eq_true c19
                          clear c19
                          obtain ⟨y130, hy130⟩ : ∃ y_ : List Int, y_ = (x5_1.set (x23_1 : Int).toNat (IntKind.u64.wrap ((IntKind.u64.wrap ((rd l1 x23_1) + x6_1)) + (rd l0 x23_1)))) := ⟨_, rfl⟩
                          replace H : (nat_add.l0 k1 l1 l0 y130 1 l1 (l1.length : Int) (wrap64 (x23_1 + 1))) = some r := by first | (rw [hy130]; with_reducible exact H) | (have H2_ := (Option.bind_some _ _).symm.trans H; rw [hy130]; with_reducible exact H2_) | (have H2_ := (Option.bind_some _ _).symm.trans H; with_reducible exact H2_) | with_reducible exact H | (rw [hy130]; exact H) | exact H
                          have Ny130 := Aside0.mk hy130
                          clear hy130
                          have H' := Aside0.mk H
                          clear H
                          have p126 : 0 ≤ (x23_1 : Int) := of_decide_eq_true (by first | (with_reducible assumption) | assumption)
                          have q126 : x23_1 < (l1.length : Int) := of_decide_eq_true (by first | (with_reducible assumption) | assumption)
                          obtain ⟨ad126, e126, hx126_0⟩ := Kd.at_int HR1.out x23_1 p126 q126
                          cases e126
                          replace hx126_0 := (HB.out.cell (World.block_lt_of_cell? w _ hx126_0)).trans hx126_0
                          replace p126 := eq_true p126
                          replace q126 := eq_true q126
                          have p127 : 0 ≤ (x23_1 : Int) := of_decide_eq_true (by first | (with_reducible assumption) | assumption)
                          have q127 : x23_1 < (l0.length : Int) := of_decide_eq_true (by first | (with_reducible assumption) | assumption)
                          obtain ⟨ad127, e127, hx127_0⟩ := Kd.at_int HR0.out x23_1 p127 q127
                          cases e127
                          replace hx127_0 := (HB.out.cell (World.block_lt_of_cell? w _ hx127_0)).trans hx127_0
                          replace p127 := eq_true p127
                          replace q127 := eq_true q127
                          have p128 : 0 ≤ (x23_1 : Int) := of_decide_eq_true (by first | (with_reducible assumption) | assumption)
                          have q128 : x23_1 < (l0.length : Int) := of_decide_eq_true (by first | (with_reducible assumption) | assumption)
                          obtain ⟨ad128, e128, hx128_0⟩ := Kd.at_int HR0.out x23_1 p128 q128
                          obtain rfl : ad127 = ad128 := (by injection e128)
                          replace hx128_0 := (HB.out.cell (World.block_lt_of_cell? w _ hx128_0)).trans hx128_0
                          replace p128 := eq_true p128
                          replace q128 := eq_true q128
                          have p20 : 0 ≤ (x23_1 : Int) := of_decide_eq_true (by first | (with_reducible assumption) | assumption)
                          have q20 : (x23_1 : Int) < ((x5_1.length : Int) : Int) := of_decide_eq_true (by first | (with_reducible assumption) | assumption)
                          obtain ⟨go20, co20, eo20, gb20, gl20, cl20, HG20⟩ := Kd.R_form HO_5.out (by omega)
                          (first | cases eo20 | (injection eo20 with ea_ en_ ec_; (first | subst ea_ | (injection ea_ with ea_; subst ea_)); subst ec_; clear en_))
                          have GB20 := Aside0.mk gb20
                          have GG20 := Aside0.mk HG20
                          clear gb20 gl20 HG20
                          obtain ⟨hx20_0, hf20_0⟩ := Kd.R_celln 0 HO_5.out (x23_1 : Int) p20 q20
                          (try simp only [Int.toNat_natCast] at hx20_0 hf20_0)
                          replace p20 := eq_true p20
                          replace q20 := eq_true q20
                          have HP21 := Kd.R_putg HO_5.out (x23_1 : Int) (IntKind.u64.wrap ((IntKind.u64.wrap ((rd l1 x23_1) + x6_1)) + (rd l0 x23_1)))
                          go_wp2_with (first | ((with_reducible refine gate_store (t := 37) (p := 55) rfl ?_); refine store_event (t := 37) (p := 55) (v := ?vo_w22) (w1 := (wr.setCell ⟨go20, (x23_1 : Int).toNat, none⟩ (.int .u64 (IntKind.u64.wrap ((IntKind.u64.wrap ((rd l1 x23_1) + x6_1)) + (rd l0 x23_1)))))) ?hg ?ho ?hn ?hr ?_; (case ho => rfl); (case hg => rfl); (case hn => rfl); (case hr => first | (go_simp; done) | (go_simp; rfl)); intro w22 hw; have hg : wr.grownBy w22 (some go20) := (by rw [hw]; exact HP21.2); have hp_ : Kd.R (Kd.int .u64) 37 w22 w.heap.size (fun _ => True) (.slice (some ⟨go20, 0, none⟩) x5_1.length co20) y130 := (by rw [hw, Ny130.out]; exact HP21.1); clear HP21; have n0_ := Aside0.mk (hp_); have n1_ := Aside0.mk ((by rw [hw]; exact below_set (HB.out) GB20.out : Below w.heap.size w w22)); clear HO_5; clear HB; have HO_5 := n0_; have HB := n1_; clear n0_ n1_; clear hg hw hp_))
                          go_roundg k1
                          case measure => have := HK1.out; omega
                          case rel => exact ⟨(y130), (1), (wrap64 (x23_1 + 1)), (by first | rfl | (simp; done) | (simp [*]; done)), (by first | rfl | (simp; done) | (simp [*]; done)), H', ⟨by have := HK1.out; omega⟩, ⟨by (with_reducible repeat (first | apply Kd.R_alloc | apply Kd.R_drewN | apply Kd.R_drew)); exact HO_5.out⟩, ⟨by repeat (first | (with_reducible first | exact HB.out | apply below_alloc | apply pw_below_drewN | apply below_drew1) | exact HB.out)⟩⟩
                        · rw [if_neg c19] at H
                          exact absurd H (by simp)
                    · rw [if_neg c13] at H
                      have c13b0 : decide (x23_1 < (l0.length : Int)) = false := decide_eq_false c13
                      clear c13
                      by_cases c23 : x23_1 < (x5_1.length : Int)
                      · rw [if_pos c23] at H
                        have c23b0 : decide (x23_1 < (x5_1.length : Int)) = true := decide_eq_true c23
                        clear c23
                        obtain ⟨y131, hy131⟩ : ∃ y_ : List Int, y_ = (x5_1.set (x23_1 : Int).toNat (IntKind.u64.wrap ((rd l1 x23_1) + x6_1))) := ⟨_, rfl⟩
                        replace H : (nat_add.l0 k1 l1 l0 y131 1 l1 (l1.length : Int) (wrap64 (x23_1 + 1))) = some r := by first | (rw [hy131]; with_reducible exact H) | (have H2_ := (Option.bind_some _ _).symm.trans H; rw [hy131]; with_reducible exact H2_) | (have H2_ := (Option.bind_some _ _).symm.trans H; with_reducible exact H2_) | with_reducible exact H | (rw [hy131]; exact H) | exact H
                        have Ny131 := Aside0.mk hy131
                        clear hy131
                        have H' := Aside0.mk H
                        clear H
                        have p126 : 0 ≤ (x23_1 : Int) := of_decide_eq_true (by first | (with_reducible assumption) | assumption)
                        have q126 : x23_1 < (l1.length : Int) := of_decide_eq_true (by first | (with_reducible assumption) | assumption)
                        obtain ⟨ad126, e126, hx126_0⟩ := Kd.at_int HR1.out x23_1 p126 q126
                        cases e126
                        replace hx126_0 := (HB.out.cell (World.block_lt_of_cell? w _ hx126_0)).trans hx126_0
                        replace p126 := eq_true p126
                        replace q126 := eq_true q126
                        have p24 : 0 ≤ (x23_1 : Int) := of_decide_eq_true (by first | (with_reducible assumption) | assumption)
                        have q24 : (x23_1 : Int) < ((x5_1.length : Int) : Int) := of_decide_eq_true (by first | (with_reducible assumption) | assumption)
                        obtain ⟨go24, co24, eo24, gb24, gl24, cl24, HG24⟩ := Kd.R_form HO_5.out (by omega)
                        (first | cases eo24 | (injection eo24 with ea_ en_ ec_; (first | subst ea_ | (injection ea_ with ea_; subst ea_)); subst ec_; clear en_))
                        have GB24 := Aside0.mk gb24
                        have GG24 := Aside0.mk HG24
                        clear gb24 gl24 HG24
                        obtain ⟨hx24_0, hf24_0⟩ := Kd.R_celln 0 HO_5.out (x23_1 : Int) p24 q24
                        (try simp only [Int.toNat_natCast] at hx24_0 hf24_0)
                        replace p24 := eq_true p24
                        replace q24 := eq_true q24
                        have HP25 := Kd.R_putg HO_5.out (x23_1 : Int) (IntKind.u64.wrap ((rd l1 x23_1) + x6_1))
                        go_wp2_with (first | ((with_reducible refine gate_store (t := 37) (p := 55) rfl ?_); refine store_event (t := 37) (p := 55) (v := ?vo_w26) (w1 := (wr.setCell ⟨go24, (x23_1 : Int).toNat, none⟩ (.int .u64 (IntKind.u64.wrap ((rd l1 x23_1) + x6_1))))) ?hg ?ho ?hn ?hr ?_; (case ho => rfl); (case hg => rfl); (case hn => rfl); (case hr => first | (go_simp; done) | (go_simp; rfl)); intro w26 hw; have hg : wr.grownBy w26 (some go24) := (by rw [hw]; exact HP25.2); have hp_ : Kd.R (Kd.int .u64) 37 w26 w.heap.size (fun _ => True) (.slice (some ⟨go24, 0, none⟩) x5_1.length co24) y131 := (by rw [hw, Ny131.out]; exact HP25.1); clear HP25; have n0_ := Aside0.mk (hp_); have n1_ := Aside0.mk ((by rw [hw]; exact below_set (HB.out) GB24.out : Below w.heap.size w w26)); clear HO_5; clear HB; have HO_5 := n0_; have HB := n1_; clear n0_ n1_; clear hg hw hp_))
                        go_roundg k1
                        case measure => have := HK1.out; omega
                        case rel => exact ⟨(y131), (1), (wrap64 (x23_1 + 1)), (by first | rfl | (simp; done) | (simp [*]; done)), (by first | rfl | (simp; done) | (simp [*]; done)), H', ⟨by have := HK1.out; omega⟩, ⟨by (with_reducible repeat (first | apply Kd.R_alloc | apply Kd.R_drewN | apply Kd.R_drew)); exact HO_5.out⟩, ⟨by repeat (first | (with_reducible first | exact HB.out | apply below_alloc | apply pw_below_drewN | apply below_drew1) | exact HB.out)⟩⟩
                      · rw [if_neg c23] at H
                        exact absurd H (by simp)
                  · rw [if_neg c12] at H
                    have c12b0 : decide ((IntKind.u64.wrap ((rd l1 x23_1) + x6_1)) < (rd l1 x23_1)) = false := decide_eq_false c12
                    clear c12
                    by_cases c27 : x23_1 < (l0.length : Int)
                    · rw [if_pos c27] at H
                      have c27b0 : decide (x23_1 < (l0.length : Int)) = true := decide_eq_true c27
                      clear c27
                      by_cases c28 : (IntKind.u64.wrap ((IntKind.u64.wrap ((rd l1 x23_1) + x6_1)) + (rd l0 x23_1))) < (rd l0 x23_1)
                      · rw [if_pos c28] at H
                        have c28b0 : decide ((IntKind.u64.wrap ((IntKind.u64.wrap ((rd l1 x23_1) + x6_1)) + (rd l0 x23_1))) < (rd l0 x23_1)) = true := decide_eq_true c28
                        clear c28
                        by_cases c29 : x23_1 < (x5_1.length : Int)
                        · rw [if_pos c29] at H
                          have c29b0 : decide (x23_1 < (x5_1.length : Int)) = true := decide_eq_true c29
                          clear c29
                          obtain ⟨y134, hy134⟩ : ∃ y_ : List Int, y_ = (x5_1.set (x23_1 : Int).toNat (IntKind.u64.wrap ((IntKind.u64.wrap ((rd l1 x23_1) + x6_1)) + (rd l0 x23_1)))) := ⟨_, rfl⟩
                          replace H : (nat_add.l0 k1 l1 l0 y134 (0 + 1) l1 (l1.length : Int) (wrap64 (x23_1 + 1))) = some r := by first | (rw [hy134]; with_reducible exact H) | (have H2_ := (Option.bind_some _ _).symm.trans H; rw [hy134]; with_reducible exact H2_) | (have H2_ := (Option.bind_some _ _).symm.trans H; with_reducible exact H2_) | with_reducible exact H | (rw [hy134]; exact H) | exact H
                          have Ny134 := Aside0.mk hy134
                          clear hy134
                          have H' := Aside0.mk H
                          clear H
                          have p126 : 0 ≤ (x23_1 : Int) := of_decide_eq_true (by first | (with_reducible assumption) | assumption)
                          have q126 : x23_1 < (l1.length : Int) := of_decide_eq_true (by first | (with_reducible assumption) | assumption)
                          obtain ⟨ad126, e126, hx126_0⟩ := Kd.at_int HR1.out x23_1 p126 q126
                          cases e126
                          replace hx126_0 := (HB.out.cell (World.block_lt_of_cell? w _ hx126_0)).trans hx126_0
                          replace p126 := eq_true p126
                          replace q126 := eq_true q126
                          have p132 : 0 ≤ (x23_1 : Int) := of_decide_eq_true (by first | (with_reducible assumption) | assumption)
                          have q132 : x23_1 < (l0.length : Int) := of_decide_eq_true (by first | (with_reducible assumption) | assumption)
                          obtain ⟨ad132, e132, hx132_0⟩ := Kd.at_int HR0.out x23_1 p132 q132
                          cases e132
                          replace hx132_0 := (HB.out.cell (World.block_lt_of_cell? w _ hx132_0)).trans hx132_0
                          replace p132 := eq_true p132
                          replace q132 := eq_true q132
                          have p133 : 0 ≤ (x23_1 : Int) := of_decide_eq_true (by first | (with_reducible assumption) | assumption)
                          have q133 : x23_1 < (l0.length : Int) := of_decide_eq_true (by first | (with_reducible assumption) | assumption)
                          obtain ⟨ad133, e133, hx133_0⟩ := Kd.at_int HR0.out x23_1 p133 q133
                          obtain rfl : ad132 = ad133 := (by injection e133)
                          replace hx133_0 := (HB.out.cell (World.block_lt_of_cell? w _ hx133_0)).trans hx133_0
                          replace p133 := eq_true p133
                          replace q133 := eq_true q133
                          have p30 : 0 ≤ (x23_1 : Int) := of_decide_eq_true (by first | (with_reducible assumption) | assumption)
                          have q30 : (x23_1 : Int) < ((x5_1.length : Int) : Int) := of_decide_eq_true (by first | (with_reducible assumption) | assumption)
                          obtain ⟨go30, co30, eo30, gb30, gl30, cl30, HG30⟩ := Kd.R_form HO_5.out (by omega)
                          (first | cases eo30 | (injection eo30 with ea_ en_ ec_; (first | subst ea_ | (injection ea_ with ea_; subst ea_)); subst ec_; clear en_))
                          have GB30 := Aside0.mk gb30
                          have GG30 := Aside0.mk HG30
                          clear gb30 gl30 HG30
                          obtain ⟨hx30_0, hf30_0⟩ := Kd.R_celln 0 HO_5.out (x23_1 : Int) p30 q30
                          (try simp only [Int.toNat_natCast] at hx30_0 hf30_0)
                          replace p30 := eq_true p30
                          replace q30 := eq_true q30
                          have HP31 := Kd.R_putg HO_5.out (x23_1 : Int) (IntKind.u64.wrap ((IntKind.u64.wrap ((rd l1 x23_1) + x6_1)) + (rd l0 x23_1)))
                          go_wp2_with (first | ((with_reducible refine gate_store (t := 37) (p := 55) rfl ?_); refine store_event (t := 37) (p := 55) (v := ?vo_w32) (w1 := (wr.setCell ⟨go30, (x23_1 : Int).toNat, none⟩ (.int .u64 (IntKind.u64.wrap ((IntKind.u64.wrap ((rd l1 x23_1) + x6_1)) + (rd l0 x23_1)))))) ?hg ?ho ?hn ?hr ?_; (case ho => rfl); (case hg => rfl); (case hn => rfl); (case hr => first | (go_simp; done) | (go_simp; rfl)); intro w32 hw; have hg : wr.grownBy w32 (some go30) := (by rw [hw]; exact HP31.2); have hp_ : Kd.R (Kd.int .u64) 37 w32 w.heap.size (fun _ => True) (.slice (some ⟨go30, 0, none⟩) x5_1.length co30) y134 := (by rw [hw, Ny134.out]; exact HP31.1); clear HP31; have n0_ := Aside0.mk (hp_); have n1_ := Aside0.mk ((by rw [hw]; exact below_set (HB.out) GB30.out : Below w.heap.size w w32)); clear HO_5; clear HB; have HO_5 := n0_; have HB := n1_; clear n0_ n1_; clear hg hw hp_))
                          go_roundg k1
                          case measure => have := HK1.out; omega
                          case rel => exact ⟨(y134), (0 + 1), (wrap64 (x23_1 + 1)), (by first | rfl | (simp; done) | (simp [*]; done)), (by first | rfl | (simp; done) | (simp [*]; done)), H', ⟨by have := HK1.out; omega⟩, ⟨by (with_reducible repeat (first | apply Kd.R_alloc | apply Kd.R_drewN | apply Kd.R_drew)); exact HO_5.out⟩, ⟨by repeat (first | (with_reducible first | exact HB.out | apply below_alloc | apply pw_below_drewN | apply below_drew1) | exact HB.out)⟩⟩
                        · rw [if_neg c29] at H
                          exact absurd H (by simp)
                      · rw [if_neg c28] at H
                        have c28b0 : decide ((IntKind.u64.wrap ((IntKind.u64.wrap ((rd l1 x23_1) + x6_1)) + (rd l0 x23_1))) < (rd l0 x23_1)) = false := decide_eq_false c28
                        clear c28
                        by_cases c33 : x23_1 < (x5_1.length : Int)
                        · rw [if_pos c33] at H
                          have c33b0 : decide (x23_1 < (x5_1.length : Int)) = true := decide_eq_true c33
                          clear c33
                          obtain ⟨y135, hy135⟩ : ∃ y_ : List Int, y_ = (x5_1.set (x23_1 : Int).toNat (IntKind.u64.wrap ((IntKind.u64.wrap ((rd l1 x23_1) + x6_1)) + (rd l0 x23_1)))) := ⟨_, rfl⟩
                          replace H : (nat_add.l0 k1 l1 l0 y135 0 l1 (l1.length : Int) (wrap64 (x23_1 + 1))) = some r := by first | (rw [hy135]; with_reducible exact H) | (have H2_ := (Option.bind_some _ _).symm.trans H; rw [hy135]; with_reducible exact H2_) | (have H2_ := (Option.bind_some _ _).symm.trans H; with_reducible exact H2_) | with_reducible exact H | (rw [hy135]; exact H) | exact H
                          have Ny135 := Aside0.mk hy135
                          clear hy135
                          have H' := Aside0.mk H
                          clear H
                          have p126 : 0 ≤ (x23_1 : Int) := of_decide_eq_true (by first | (with_reducible assumption) | assumption)
                          have q126 : x23_1 < (l1.length : Int) := of_decide_eq_true (by first | (with_reducible assumption) | assumption)
                          obtain ⟨ad126, e126, hx126_0⟩ := Kd.at_int HR1.out x23_1 p126 q126
                          cases e126
                          replace hx126_0 := (HB.out.cell (World.block_lt_of_cell? w _ hx126_0)).trans hx126_0
                          replace p126 := eq_true p126
                          replace q126 := eq_true q126
                          have p132 : 0 ≤ (x23_1 : Int) := of_decide_eq_true (by first | (with_reducible assumption) | assumption)
                          have q132 : x23_1 < (l0.length : Int) := of_decide_eq_true (by first | (with_reducible assumption) | assumption)
                          obtain ⟨ad132, e132, hx132_0⟩ := Kd.at_int HR0.out x23_1 p132 q132
                          cases e132
                          replace hx132_0 := (HB.out.cell (World.block_lt_of_cell? w _ hx132_0)).trans hx132_0
                          replace p132 := eq_true p132
                          replace q132 := eq_true q132
                          have p133 : 0 ≤ (x23_1 : Int) := of_decide_eq_true (by first | (with_reducible assumption) | assumption)
                          have q133 : x23_1 < (l0.length : Int) := of_decide_eq_true (by first | (with_reducible assumption) | assumption)
                          obtain ⟨ad133, e133, hx133_0⟩ := Kd.at_int HR0.out x23_1 p133 q133
                          obtain rfl : ad132 = ad133 := (by injection e133)
                          replace hx133_0 := (HB.out.cell (World.block_lt_of_cell? w _ hx133_0)).trans hx133_0
                          replace p133 := eq_true p133
                          replace q133 := eq_true q133
                          have p34 : 0 ≤ (x23_1 : Int) := of_decide_eq_true (by first | (with_reducible assumption) | assumption)
                          have q34 : (x23_1 : Int) < ((x5_1.length : Int) : Int) := of_decide_eq_true (by first | (with_reducible assumption) | assumption)
                          obtain ⟨go34, co34, eo34, gb34, gl34, cl34, HG34⟩ := Kd.R_form HO_5.out (by omega)
                          (first | cases eo34 | (injection eo34 with ea_ en_ ec_; (first | subst ea_ | (injection ea_ with ea_; subst ea_)); subst ec_; clear en_))
                          have GB34 := Aside0.mk gb34
                          have GG34 := Aside0.mk HG34
                          clear gb34 gl34 HG34
                          obtain ⟨hx34_0, hf34_0⟩ := Kd.R_celln 0 HO_5.out (x23_1 : Int) p34 q34
                          (try simp only [Int.toNat_natCast] at hx34_0 hf34_0)
                          replace p34 := eq_true p34
                          replace q34 := eq_true q34
                          have HP35 := Kd.R_putg HO_5.out (x23_1 : Int) (IntKind.u64.wrap ((IntKind.u64.wrap ((rd l1 x23_1) + x6_1)) + (rd l0 x23_1)))
                          go_wp2_with (first | ((with_reducible refine gate_store (t := 37) (p := 55) rfl ?_); refine store_event (t := 37) (p := 55) (v := ?vo_w36) (w1 := (wr.setCell ⟨go34, (x23_1 : Int).toNat, none⟩ (.int .u64 (IntKind.u64.wrap ((IntKind.u64.wrap ((rd l1 x23_1) + x6_1)) + (rd l0 x23_1)))))) ?hg ?ho ?hn ?hr ?_; (case ho => rfl); (case hg => rfl); (case hn => rfl); (case hr => first | (go_simp; done) | (go_simp; rfl)); intro w36 hw; have hg : wr.grownBy w36 (some go34) := (by rw [hw]; exact HP35.2); have hp_ : Kd.R (Kd.int .u64) 37 w36 w.heap.size (fun _ => True) (.slice (some ⟨go34, 0, none⟩) x5_1.length co34) y135 := (by rw [hw, Ny135.out]; exact HP35.1); clear HP35; have n0_ := Aside0.mk (hp_); have n1_ := Aside0.mk ((by rw [hw]; exact below_set (HB.out) GB34.out : Below w.heap.size w w36)); clear HO_5; clear HB; have HO_5 := n0_; have HB := n1_; clear n0_ n1_; clear hg hw hp_))
                          go_roundg k1
                          case measure => have := HK1.out; omega
                          case rel => exact ⟨(y135), (0), (wrap64 (x23_1 + 1)), (by first | rfl | (simp; done) | (simp [*]; done)), (by first | rfl | (simp; done) | (simp [*]; done)), H', ⟨by have := HK1.out; omega⟩, ⟨by (with_reducible repeat (first | apply Kd.R_alloc | apply Kd.R_drewN | apply Kd.R_drew)); exact HO_5.out⟩, ⟨by repeat (first | (with_reducible first | exact HB.out | apply below_alloc | apply pw_below_drewN | apply below_drew1) | exact HB.out)⟩⟩
                        · rw [if_neg c33] at H
                          exact absurd H (by simp)
                    · rw [if_neg c27] at H
                      have c27b0 : decide (x23_1 < (l0.length : Int)) = false := decide_eq_false c27
                      clear c27
                      by_cases c37 : x23_1 < (x5_1.length : Int)
                      · rw [if_pos c37] at H
                        have c37b0 : decide (x23_1 < (x5_1.length : Int)) = true := decide_eq_true c37
                        clear c37
                        obtain ⟨y136, hy136⟩ : ∃ y_ : List Int, y_ = (x5_1.set (x23_1 : Int).toNat (IntKind.u64.wrap ((rd l1 x23_1) + x6_1))) := ⟨_, rfl⟩
                        replace H : (nat_add.l0 k1 l1 l0 y136 0 l1 (l1.length : Int) (wrap64 (x23_1 + 1))) = some r := by first | (rw [hy136]; with_reducible exact H) | (have H2_ := (Option.bind_some _ _).symm.trans H; rw [hy136]; with_reducible exact H2_) | (have H2_ := (Option.bind_some _ _).symm.trans H; with_reducible exact H2_) | with_reducible exact H | (rw [hy136]; exact H) | exact H
                        have Ny136 := Aside0.mk hy136
                        clear hy136
                        have H' := Aside0.mk H
                        clear H
                        have p126 : 0 ≤ (x23_1 : Int) := of_decide_eq_true (by first | (with_reducible assumption) | assumption)
                        have q126 : x23_1 < (l1.length : Int) := of_decide_eq_true (by first | (with_reducible assumption) | assumption)
                        obtain ⟨ad126, e126, hx126_0⟩ := Kd.at_int HR1.out x23_1 p126 q126
                        cases e126
                        replace hx126_0 := (HB.out.cell (World.block_lt_of_cell? w _ hx126_0)).trans hx126_0
                        replace p126 := eq_true p126
                        replace q126 := eq_true q126
                        have p38 : 0 ≤ (x23_1 : Int) := of_decide_eq_true (by first | (with_reducible assumption) | assumption)
                        have q38 : (x23_1 : Int) < ((x5_1.length : Int) : Int) := of_decide_eq_true (by first | (with_reducible assumption) | assumption)
                        obtain ⟨go38, co38, eo38, gb38, gl38, cl38, HG38⟩ := Kd.R_form HO_5.out (by omega)
                        (first | cases eo38 | (injection eo38 with ea_ en_ ec_; (first | subst ea_ | (injection ea_ with ea_; subst ea_)); subst ec_; clear en_))
                        have GB38 := Aside0.mk gb38
                        have GG38 := Aside0.mk HG38
                        clear gb38 gl38 HG38
                        obtain ⟨hx38_0, hf38_0⟩ := Kd.R_celln 0 HO_5.out (x23_1 : Int) p38 q38
                        (try simp only [Int.toNat_natCast] at hx38_0 hf38_0)
                        replace p38 := eq_true p38
                        replace q38 := eq_true q38
                        have HP39 := Kd.R_putg HO_5.out (x23_1 : Int) (IntKind.u64.wrap ((rd l1 x23_1) + x6_1))
                        go_wp2_with (first | ((with_reducible refine gate_store (t := 37) (p := 55) rfl ?_); refine store_event (t := 37) (p := 55) (v := ?vo_w40) (w1 := (wr.setCell ⟨go38, (x23_1 : Int).toNat, none⟩ (.int .u64 (IntKind.u64.wrap ((rd l1 x23_1) + x6_1))))) ?hg ?ho ?hn ?hr ?_; (case ho => rfl); (case hg => rfl); (case hn => rfl); (case hr => first | (go_simp; done) | (go_simp; rfl)); intro w40 hw; have hg : wr.grownBy w40 (some go38) := (by rw [hw]; exact HP39.2); have hp_ : Kd.R (Kd.int .u64) 37 w40 w.heap.size (fun _ => True) (.slice (some ⟨go38, 0, none⟩) x5_1.length co38) y136 := (by rw [hw, Ny136.out]; exact HP39.1); clear HP39; have n0_ := Aside0.mk (hp_); have n1_ := Aside0.mk ((by rw [hw]; exact below_set (HB.out) GB38.out : Below w.heap.size w w40)); clear HO_5; clear HB; have HO_5 := n0_; have HB := n1_; clear n0_ n1_; clear hg hw hp_))
                        go_roundg k1
                        case measure => have := HK1.out; omega
                        case rel => exact ⟨(y136), (0), (wrap64 (x23_1 + 1)), (by first | rfl | (simp; done) | (simp [*]; done)), (by first | rfl | (simp; done) | (simp [*]; done)), H', ⟨by have := HK1.out; omega⟩, ⟨by (with_reducible repeat (first | apply Kd.R_alloc | apply Kd.R_drewN | apply Kd.R_drew)); exact HO_5.out⟩, ⟨by repeat (first | (with_reducible first | exact HB.out | apply below_alloc | apply pw_below_drewN | apply below_drew1) | exact HB.out)⟩⟩
                      · rw [if_neg c37] at H
                        exact absurd H (by simp)
                · rw [if_neg c11] at H
                  exact absurd H (by simp)
              · rw [if_neg c10] at H
                exact absurd H (by simp)
            · rw [if_neg c9] at H
              have c9b0 : decide (x23_1 < (l1.length : Int)) = false := decide_eq_false c9
              clear c9
              by_cases c41 : 0 ≤ (l1.length : Int)
              · rw [if_pos c41] at H
                have c41b0 : decide (0 ≤ (l1.length : Int)) = true := decide_eq_true c41
                have c41b1 : decide (0 ≤ l1.length) = true := decide_eq_true (by omega)
                clear c41
                by_cases c42 : (l1.length : Int) < (x5_1.length : Int)
                · rw [if_pos c42] at H
                  have c42b0 : decide ((l1.length : Int) < (x5_1.length : Int)) = true := decide_eq_true c42
                  have c42b1 : decide (l1.length < x5_1.length) = true := decide_eq_true (Int.ofNat_lt.mp c42)
                  clear c42
                  obtain ⟨y137, hy137⟩ : ∃ y_ : List Int, y_ = (x5_1.set ((l1.length : Int) : Int).toNat x6_1) := ⟨_, rfl⟩
                  replace H : ((nat_trim.f k1 y137).bind fun t138 => (some t138)) = some r := by first | (rw [hy137]; with_reducible exact H) | (have H2_ := (Option.bind_some _ _).symm.trans H; rw [hy137]; with_reducible exact H2_) | (have H2_ := (Option.bind_some _ _).symm.trans H; with_reducible exact H2_) | with_reducible exact H | (rw [hy137]; exact H) | exact H
                  have Ny137 := Aside0.mk hy137
                  clear hy137
                  replace H := Option.bind_eq_some_iff.mp H
                  obtain ⟨t138, A440, H⟩ := H
                  replace H : (some t138) = some r := H
                  have A44 := Aside0.mk A440
                  clear A440
                  obtain rfl := Option.some.inj H
                  have p43 : 0 ≤ ((l1.length : Int) : Int) := of_decide_eq_true (by first | (with_reducible assumption) | assumption)
                  have q43 : ((l1.length : Int) : Int) < ((x5_1.length : Int) : Int) := of_decide_eq_true (by first | (with_reducible assumption) | assumption)
                  obtain ⟨go43, co43, eo43, gb43, gl43, cl43, HG43⟩ := Kd.R_form HO_5.out (by omega)
                  (first | cases eo43 | (injection eo43 with ea_ en_ ec_; (first | subst ea_ | (injection ea_ with ea_; subst ea_)); subst ec_; clear en_))
                  have GB43 := Aside0.mk gb43
                  have GG43 := Aside0.mk HG43
                  clear gb43 gl43 HG43
                  obtain ⟨hx43_0, hf43_0⟩ := Kd.R_celln 0 HO_5.out ((l1.length : Int) : Int) p43 q43
                  (try simp only [Int.toNat_natCast] at hx43_0 hf43_0)
                  replace p43 := eq_true p43
                  replace q43 := eq_true q43
                  have HP45 := Kd.R_putg HO_5.out ((l1.length : Int) : Int) x6_1
                  go_wp2_with (first | ((with_reducible refine gate_store (t := 37) (p := 61) rfl ?_); refine store_event (t := 37) (p := 61) (v := ?vo_w46) (w1 := (wr.setCell ⟨go43, ((l1.length : Int) : Int).toNat, none⟩ (.int .u64 x6_1))) ?hg ?ho ?hn ?hr ?_; (case ho => rfl); (case hg => rfl); (case hn => rfl); (case hr => first | (go_simp; done) | (go_simp; rfl)); intro w46 hw; have hg : wr.grownBy w46 (some go43) := (by rw [hw]; exact HP45.2); have hp_ : Kd.R (Kd.int .u64) 37 w46 w.heap.size (fun _ => True) (.slice (some ⟨go43, 0, none⟩) x5_1.length co43) y137 := (by rw [hw, Ny137.out]; exact HP45.1); clear HP45; have n0_ := Aside0.mk (hp_); have n1_ := Aside0.mk ((by rw [hw]; exact below_set (HB.out) GB43.out : Below w.heap.size w w46)); clear HO_5; clear HB; have HO_5 := n0_; have HB := n1_; clear n0_ n1_; clear hg hw hp_) | ((with_reducible refine gate_callee (f := 55) rfl ?_); refine goesL_ (some 63) rfl rfl Try.func55 (by kernel_rfl) rfl #[.slice (some ⟨go43, 0, none⟩) x5_1.length co43] rfl (by (try simp only [List.map_toArray, List.map_cons, List.map_nil]); first | done | rfl | (simp only [List.length_drop, List.length_take]; rfl)) ?_; (with_reducible refine (nat_trim.calls k1 (fun k_ => some k_ = (.slice (some ⟨go43, 0, none⟩) x5_1.length co43 : Value).ownBlock) (.slice (some ⟨go43, 0, none⟩) x5_1.length co43) y137 t138 w _ ?side1 ?side2 A44.out).mono ?_); (case side1 => repeat (first | (with_reducible first | exact HB.out | apply below_alloc | apply pw_below_drewN | apply below_drew1) | exact HB.out)); (case side2 => exact Kd.R_tight rfl HO_5.out); rintro e w47 ⟨v139, rfl, ho0, hb, hkp⟩; refine ⟨_, rfl, ?_⟩; have n0_ := Aside0.mk (Kd.R_mono (ok' := fun k_ => True) ho0 (fun k_ hk_ => trivial)); have n1_ := Aside0.mk (hb); clear HB; clear HO_5; have HO140 := n0_; have HB := n1_; clear n0_ n1_; (try clear hb); (try clear hkp); (try clear ho0)))
                  go_ret
                  exact ⟨_, by first | rfl | (simp [errW_none, errW_some] <;> rfl) | (simp only [← hji4]; first | rfl | (simp [errW_none, errW_some] <;> rfl)) | (simp [*, errW_none, errW_some] <;> rfl), by (with_reducible repeat (first | apply Kd.R_alloc | apply Kd.R_drewN | apply Kd.R_drew)); exact HO140.out, by repeat (first | (with_reducible first | exact HB.out | apply below_alloc | apply pw_below_drewN | apply below_drew1) | exact HB.out)⟩
                · rw [if_neg c42] at H
                  exact absurd H (by simp)
              · rw [if_neg c41] at H
                exact absurd H (by simp)
      · rw [if_neg c6] at H
        exact absurd H (by simp)
    · rw [if_neg c5] at H
      exact absurd H (by simp)
  · rw [if_neg c3] at H
    have c3b0 : decide ((l0.length : Int) < (l1.length : Int)) = false := decide_eq_false c3
    have c3b1 : decide (l0.length < l1.length) = false := decide_eq_false (fun h => c3 (Int.ofNat_lt.mpr h))
    clear c3
    obtain ⟨ji48, hji48⟩ : ∃ j_ : Int, (wrap64 ((l0.length : Int) + 1)) = j_ := ⟨_, rfl⟩
    replace H : (if 0 ≤ (ji48) then (if (ji48 : Int).toNat ≤ 35184372088832 then (nat_add.l100 k l0 l1 (List.replicate (ji48 : Int).toNat 0) 0 l0 (l0.length : Int) 0) else (none)) else (none)) = some r := by first | (rw [hji48] at H; exact H) | (simp only [hji48] at H ⊢; exact H)
    have hji48w : (IntKind.i64.wrap ((l0.length : Int) + 1)) = ji48 := (i64_w _).trans hji48
    by_cases c49 : 0 ≤ (ji48)
    · rw [if_pos c49] at H
      have c49b0 := eq_true c49
      have c49b1 : decide (0 ≤ (ji48)) = true := decide_eq_true c49
      clear c49
      by_cases c50 : (ji48 : Int).toNat ≤ 35184372088832
      · rw [if_pos c50] at H
        have c50b0 := eq_true c50
        have c50b1 : decide ((ji48 : Int).toNat ≤ 35184372088832) = true := decide_eq_true c50
        clear c50
        obtain ⟨y141, hy141⟩ : ∃ y_ : List Int, y_ = (List.replicate (ji48 : Int).toNat 0) := ⟨_, rfl⟩
        replace H : (nat_add.l100 k l0 l1 y141 0 l0 (l0.length : Int) 0) = some r := by first | (rw [hy141]; with_reducible exact H) | (have H2_ := (Option.bind_some _ _).symm.trans H; rw [hy141]; with_reducible exact H2_) | (have H2_ := (Option.bind_some _ _).symm.trans H; with_reducible exact H2_) | with_reducible exact H | (rw [hy141]; exact H) | exact H
        have Ny141 := Aside0.mk hy141
        clear hy141
        have H' := Aside0.mk H
        clear H
        go_enter Try.func53, Try.ntmps53
        go_wp2_with (first | ((with_reducible refine gate_dst (N := 20) rfl ?_); refine Kd.R_make (Kd.int .u64) _ 37 rfl (N := 20) rfl 25 _ _ rfl ji48 rfl rfl Try.underlying25 (.int .u64 0) 8 info37 rfl (by decide) (by omega) 0 (ok := fun _ => True) (okp := fun _ => True) rfl (fun _ hk => hk) trivial (of_decide_eq_true (by first | (with_reducible assumption) | assumption)) (Nat.le_trans (Nat.mul_le_mul_right _ (of_decide_eq_true (by first | (with_reducible assumption) | assumption) : ji48.toNat ≤ 35184372088832)) (by omega)) (Below.refl _ _) (Nat.le_refl _) ?_; intro v142 w51 ho52 hb hg_ hnew_; clear hg_ hnew_; (first | rw [← Ny141.out] at ho52 | (simp only [Int.reduceToNat] at ho52; rw [← Ny141.out] at ho52)); have n0_ := Aside0.mk (Kd.R_lower ho52 (below_size (by repeat (first | (with_reducible first | exact HB.out | apply below_alloc | apply pw_below_drewN | apply below_drew1) | exact HB.out)))); have n1_ := Aside0.mk (below_step (by repeat (first | (with_reducible first | exact HB.out | apply below_alloc | apply pw_below_drewN | apply below_drew1) | exact HB.out)) hb); clear HB; have HO143 := n0_; have HB := n1_; clear n0_ n1_; clear hb ho52))
        go_loopg [6, 23] k (fun kq v6 v23 w' => ∃ (x5_1 : List Int) (x6_1 : Int) (x23_1 : Int), v6 = .int .u64 x6_1 ∧ v23 = .int .i64 x23_1 ∧ Aside0 (nat_add.l100 kq l0 l1 x5_1 x6_1 l0 (l0.length : Int) x23_1 = some r) ∧ Aside0 (kq ≤ k) ∧ Aside0 (Kd.R (Kd.int .u64) 37 w' w.heap.size (fun _ => True) v142 x5_1) ∧ Aside0 (Below w.heap.size w w'))
        case atStart => exact ⟨(y141), (0), (0), (by first | rfl | (simp; done) | (simp [*]; done)), (by first | rfl | (simp; done) | (simp [*]; done)), H', ⟨Nat.le_refl _⟩, ⟨by (with_reducible repeat (first | apply Kd.R_alloc | apply Kd.R_drewN | apply Kd.R_drew)); exact HO143.out⟩, ⟨by repeat (first | (with_reducible first | exact HB.out | apply below_alloc | apply pw_below_drewN | apply below_drew1) | exact HB.out)⟩⟩
        case round =>
          clear H'
          try clear c1
          try clear p1
          try clear q1
          try clear hx1
          try clear c2
          try clear p2
          try clear q2
          try clear hx2
          try clear hf2
          try clear c3
          try clear c3b0
          try clear c3b1
          try clear p3
          try clear q3
          try clear hx3
          try clear hf3
          try clear c4
          try clear p4
          try clear q4
          try clear hx4
          try clear hf4
          try clear c5
          try clear c5b0
          try clear c5b1
          try clear c6
          try clear c6b0
          try clear c6b1
          try clear p6
          try clear c9
          try clear c9b0
          try clear c10
          try clear c10b0
          try clear c11
          try clear c11b0
          try clear c12
          try clear c12b0
          try clear p12
          try clear q12
          try clear hx12
          try clear c13
          try clear c13b0
          try clear p13
          try clear q13
          try clear hx13
          try clear c14
          try clear c14b0
          try clear c15
          try clear c15b0
          try clear p16
          try clear q16
          try clear hx16
          try clear hf16
          try clear c19
          try clear c19b0
          try clear p20
          try clear q20
          try clear hx20
          try clear hf20
          try clear c23
          try clear c23b0
          try clear p24
          try clear q24
          try clear hx24
          try clear hf24
          try clear c27
          try clear c27b0
          try clear c28
          try clear c28b0
          try clear c29
          try clear c29b0
          try clear p30
          try clear q30
          try clear hx30
          try clear hf30
          try clear c33
          try clear c33b0
          try clear p34
          try clear q34
          try clear hx34
          try clear hf34
          try clear c37
          try clear c37b0
          try clear p38
          try clear q38
          try clear hx38
          try clear hf38
          try clear c41
          try clear c41b0
          try clear c41b1
          try clear c42
          try clear c42b0
          try clear c42b1
          try clear p43
          try clear q43
          try clear hx43
          try clear hf43
          try clear c49
          try clear c49b0
          try clear c49b1
          try clear c50
          try clear c50b0
          try clear c50b1
          try clear hx126_0
          try clear hx127_0
          try clear hx128_0
          try clear hx132_0
          try clear hx133_0
          try clear hx16_0
          try clear hx20_0
          try clear hx24_0
          try clear hx30_0
          try clear hx34_0
          try clear hx38_0
          try clear hx43_0
          try clear p126
          try clear p127
          try clear p128
          try clear p132
          try clear p133
          try clear p16
          try clear p2
          try clear p20
          try clear p24
          try clear p30
          try clear p34
          try clear p38
          try clear p43
          try clear p6
          try clear q126
          try clear q127
          try clear q128
          try clear q132
          try clear q133
          try clear q16
          try clear q20
          try clear q24
          try clear q30
          try clear q34
          try clear q38
          try clear q43
          obtain ⟨x5_1, x6_1, x23_1, rfl, rfl, HA, HK1, HO_5, HB⟩ := hrel
          cases gk with
          | zero => exact absurd HA.out (by simp [nat_add.l100])
          | succ k1 =>
            have H := HA.out
            clear HA
            simp only [nat_add.l100] at H
            by_cases c53 : x23_1 < (l0.length : Int)
            · rw [if_pos c53] at H
              have c53b0 : decide (x23_1 < (l0.length : Int)) = true := decide_eq_true c53
              clear c53
              by_cases c54 : 0 ≤ x23_1
              · rw [if_pos c54] at H
                have c54b0 : decide (0 ≤ x23_1) = true := decide_eq_true c54
                clear c54
                by_cases c55 : x23_1 < (l0.length : Int)
                · rw [if_pos c55] at H
                  have c55b0 : decide (x23_1 < (l0.length : Int)) = true := decide_eq_true c55
                  clear c55
                  by_cases c56 : (IntKind.u64.wrap ((rd l0 x23_1) + x6_1)) < (rd l0 x23_1)
                  · rw [if_pos c56] at H
                    have c56b0 : decide ((IntKind.u64.wrap ((rd l0 x23_1) + x6_1)) < (rd l0 x23_1)) = true := decide_eq_true c56
                    clear c56
                    by_cases c57 : x23_1 < (l1.length : Int)
                    · rw [if_pos c57] at H
                      have c57b0 : decide (x23_1 < (l1.length : Int)) = true := decide_eq_true c57
                      clear c57
                      by_cases c58 : (IntKind.u64.wrap ((IntKind.u64.wrap ((rd l0 x23_1) + x6_1)) + (rd l1 x23_1))) < (rd l1 x23_1)
                      · rw [if_pos c58] at H
                        have c58b0 : decide ((IntKind.u64.wrap ((IntKind.u64.wrap ((rd l0 x23_1) + x6_1)) + (rd l1 x23_1))) < (rd l1 x23_1)) = true := decide_eq_true c58
                        clear c58
                        by_cases c59 : x23_1 < (x5_1.length : Int)
                        · rw [if_pos c59] at H
                          have c59b0 : decide (x23_1 < (x5_1.length : Int)) = true := decide_eq_true c59
                          clear c59
                          obtain ⟨y147, hy147⟩ : ∃ y_ : List Int, y_ = (x5_1.set (x23_1 : Int).toNat (IntKind.u64.wrap ((IntKind.u64.wrap ((rd l0 x23_1) + x6_1)) + (rd l1 x23_1)))) := ⟨_, rfl⟩
                          replace H : (nat_add.l100 k1 l0 l1 y147 (1 + 1) l0 (l0.length : Int) (wrap64 (x23_1 + 1))) = some r := by first | (rw [hy147]; with_reducible exact H) | (have H2_ := (Option.bind_some _ _).symm.trans H; rw [hy147]; with_reducible exact H2_) | (have H2_ := (Option.bind_some _ _).symm.trans H; with_reducible exact H2_) | with_reducible exact H | (rw [hy147]; exact H) | exact H
                          have Ny147 := Aside0.mk hy147
                          clear hy147
                          have H' := Aside0.mk H
                          clear H
                          have p144 : 0 ≤ (x23_1 : Int) := of_decide_eq_true (by first | (with_reducible assumption) | assumption)
                          have q144 : x23_1 < (l0.length : Int) := of_decide_eq_true (by first | (with_reducible assumption) | assumption)
                          obtain ⟨ad144, e144, hx144_0⟩ := Kd.at_int HR0.out x23_1 p144 q144
                          cases e144
                          replace hx144_0 := (HB.out.cell (World.block_lt_of_cell? w _ hx144_0)).trans hx144_0
                          replace p144 := eq_true p144
                          replace q144 := eq_true q144
                          have p145 : 0 ≤ (x23_1 : Int) := of_decide_eq_true (by first | (with_reducible assumption) | assumption)
                          have q145 : x23_1 < (l1.length : Int) := of_decide_eq_true (by first | (with_reducible assumption) | assumption)
                          obtain ⟨ad145, e145, hx145_0⟩ := Kd.at_int HR1.out x23_1 p145 q145
                          cases e145
                          replace hx145_0 := (HB.out.cell (World.block_lt_of_cell? w _ hx145_0)).trans hx145_0
                          replace p145 := eq_true p145
                          replace q145 := eq_true q145
                          have p146 : 0 ≤ (x23_1 : Int) := of_decide_eq_true (by first | (with_reducible assumption) | assumption)
                          have q146 : x23_1 < (l1.length : Int) := of_decide_eq_true (by first | (with_reducible assumption) | assumption)
                          obtain ⟨ad146, e146, hx146_0⟩ := Kd.at_int HR1.out x23_1 p146 q146
                          obtain rfl : ad145 = ad146 := (by injection e146)
                          replace hx146_0 := (HB.out.cell (World.block_lt_of_cell? w _ hx146_0)).trans hx146_0
                          replace p146 := eq_true p146
                          replace q146 := eq_true q146
                          have p60 : 0 ≤ (x23_1 : Int) := of_decide_eq_true (by first | (with_reducible assumption) | assumption)
                          have q60 : (x23_1 : Int) < ((x5_1.length : Int) : Int) := of_decide_eq_true (by first | (with_reducible assumption) | assumption)
                          obtain ⟨go60, co60, eo60, gb60, gl60, cl60, HG60⟩ := Kd.R_form HO_5.out (by omega)
                          (first | cases eo60 | (injection eo60 with ea_ en_ ec_; (first | subst ea_ | (injection ea_ with ea_; subst ea_)); subst ec_; clear en_))
                          have GB60 := Aside0.mk gb60
                          have GG60 := Aside0.mk HG60
                          clear gb60 gl60 HG60
                          obtain ⟨hx60_0, hf60_0⟩ := Kd.R_celln 0 HO_5.out (x23_1 : Int) p60 q60
                          (try simp only [Int.toNat_natCast] at hx60_0 hf60_0)
                          replace p60 := eq_true p60
                          replace q60 := eq_true q60
                          have HP61 := Kd.R_putg HO_5.out (x23_1 : Int) (IntKind.u64.wrap ((IntKind.u64.wrap ((rd l0 x23_1) + x6_1)) + (rd l1 x23_1)))
                          go_wp2_with (first | ((with_reducible refine gate_store (t := 37) (p := 55) rfl ?_); refine store_event (t := 37) (p := 55) (v := ?vo_w62) (w1 := (wr.setCell ⟨go60, (x23_1 : Int).toNat, none⟩ (.int .u64 (IntKind.u64.wrap ((IntKind.u64.wrap ((rd l0 x23_1) + x6_1)) + (rd l1 x23_1)))))) ?hg ?ho ?hn ?hr ?_; (case ho => rfl); (case hg => rfl); (case hn => rfl); (case hr => first | (go_simp; done) | (go_simp; rfl)); intro w62 hw; have hg : wr.grownBy w62 (some go60) := (by rw [hw]; exact HP61.2); have hp_ : Kd.R (Kd.int .u64) 37 w62 w.heap.size (fun _ => True) (.slice (some ⟨go60, 0, none⟩) x5_1.length co60) y147 := (by rw [hw, Ny147.out]; exact HP61.1); clear HP61; have n0_ := Aside0.mk (hp_); have n1_ := Aside0.mk ((by rw [hw]; exact below_set (HB.out) GB60.out : Below w.heap.size w w62)); clear HO_5; clear HB; have HO_5 := n0_; have HB := n1_; clear n0_ n1_; clear hg hw hp_))
                          go_roundg k1
                          case measure => have := HK1.out; omega
                          case rel => exact ⟨(y147), (1 + 1), (wrap64 (x23_1 + 1)), (by first | rfl | (simp; done) | (simp [*]; done)), (by first | rfl | (simp; done) | (simp [*]; done)), H', ⟨by have := HK1.out; omega⟩, ⟨by (with_reducible repeat (first | apply Kd.R_alloc | apply Kd.R_drewN | apply Kd.R_drew)); exact HO_5.out⟩, ⟨by repeat (first | (with_reducible first | exact HB.out | apply below_alloc | apply pw_below_drewN | apply below_drew1) | exact HB.out)⟩⟩
                        · rw [if_neg c59] at H
                          exact absurd H (by simp)
                      · rw [if_neg c58] at H
                        have c58b0 : decide ((IntKind.u64.wrap ((IntKind.u64.wrap ((rd l0 x23_1) + x6_1)) + (rd l1 x23_1))) < (rd l1 x23_1)) = false := decide_eq_false c58
                        clear c58
                        by_cases c63 : x23_1 < (x5_1.length : Int)
                        · rw [if_pos c63] at H
                          have c63b0 : decide (x23_1 < (x5_1.length : Int)) = true := decide_eq_true c63
                          clear c63
                          obtain ⟨y148, hy148⟩ : ∃ y_ : List Int, y_ = (x5_1.set (x23_1 : Int).toNat (IntKind.u64.wrap ((IntKind.u64.wrap ((rd l0 x23_1) + x6_1)) + (rd l1 x23_1)))) := ⟨_, rfl⟩
                          replace H : (nat_add.l100 k1 l0 l1 y148 1 l0 (l0.length : Int) (wrap64 (x23_1 + 1))) = some r := by first | (rw [hy148]; with_reducible exact H) | (have H2_ := (Option.bind_some _ _).symm.trans H; rw [hy148]; with_reducible exact H2_) | (have H2_ := (Option.bind_some _ _).symm.trans H; with_reducible exact H2_) | with_reducible exact H | (rw [hy148]; exact H) | exact H
                          have Ny148 := Aside0.mk hy148
                          clear hy148
                          have H' := Aside0.mk H
                          clear H
                          have p144 : 0 ≤ (x23_1 : Int) := of_decide_eq_true (by first | (with_reducible assumption) | assumption)
                          have q144 : x23_1 < (l0.length : Int) := of_decide_eq_true (by first | (with_reducible assumption) | assumption)
                          obtain ⟨ad144, e144, hx144_0⟩ := Kd.at_int HR0.out x23_1 p144 q144
                          cases e144
                          replace hx144_0 := (HB.out.cell (World.block_lt_of_cell? w _ hx144_0)).trans hx144_0
                          replace p144 := eq_true p144
                          replace q144 := eq_true q144
                          have p145 : 0 ≤ (x23_1 : Int) := of_decide_eq_true (by first | (with_reducible assumption) | assumption)
                          have q145 : x23_1 < (l1.length : Int) := of_decide_eq_true (by first | (with_reducible assumption) | assumption)
                          obtain ⟨ad145, e145, hx145_0⟩ := Kd.at_int HR1.out x23_1 p145 q145
                          cases e145
                          replace hx145_0 := (HB.out.cell (World.block_lt_of_cell? w _ hx145_0)).trans hx145_0
                          replace p145 := eq_true p145
                          replace q145 := eq_true q145
                          have p146 : 0 ≤ (x23_1 : Int) := of_decide_eq_true (by first | (with_reducible assumption) | assumption)
                          have q146 : x23_1 < (l1.length : Int) := of_decide_eq_true (by first | (with_reducible assumption) | assumption)
                          obtain ⟨ad146, e146, hx146_0⟩ := Kd.at_int HR1.out x23_1 p146 q146
                          obtain rfl : ad145 = ad146 := (by injection e146)
                          replace hx146_0 := (HB.out.cell (World.block_lt_of_cell? w _ hx146_0)).trans hx146_0
                          replace p146 := eq_true p146
                          replace q146 := eq_true q146
                          have p64 : 0 ≤ (x23_1 : Int) := of_decide_eq_true (by first | (with_reducible assumption) | assumption)
                          have q64 : (x23_1 : Int) < ((x5_1.length : Int) : Int) := of_decide_eq_true (by first | (with_reducible assumption) | assumption)
                          obtain ⟨go64, co64, eo64, gb64, gl64, cl64, HG64⟩ := Kd.R_form HO_5.out (by omega)
                          (first | cases eo64 | (injection eo64 with ea_ en_ ec_; (first | subst ea_ | (injection ea_ with ea_; subst ea_)); subst ec_; clear en_))
                          have GB64 := Aside0.mk gb64
                          have GG64 := Aside0.mk HG64
                          clear gb64 gl64 HG64
                          obtain ⟨hx64_0, hf64_0⟩ := Kd.R_celln 0 HO_5.out (x23_1 : Int) p64 q64
                          (try simp only [Int.toNat_natCast] at hx64_0 hf64_0)
                          replace p64 := eq_true p64
                          replace q64 := eq_true q64
                          have HP65 := Kd.R_putg HO_5.out (x23_1 : Int) (IntKind.u64.wrap ((IntKind.u64.wrap ((rd l0 x23_1) + x6_1)) + (rd l1 x23_1)))
                          go_wp2_with (first | ((with_reducible refine gate_store (t := 37) (p := 55) rfl ?_); refine store_event (t := 37) (p := 55) (v := ?vo_w66) (w1 := (wr.setCell ⟨go64, (x23_1 : Int).toNat, none⟩ (.int .u64 (IntKind.u64.wrap ((IntKind.u64.wrap ((rd l0 x23_1) + x6_1)) + (rd l1 x23_1)))))) ?hg ?ho ?hn ?hr ?_; (case ho => rfl); (case hg => rfl); (case hn => rfl); (case hr => first | (go_simp; done) | (go_simp; rfl)); intro w66 hw; have hg : wr.grownBy w66 (some go64) := (by rw [hw]; exact HP65.2); have hp_ : Kd.R (Kd.int .u64) 37 w66 w.heap.size (fun _ => True) (.slice (some ⟨go64, 0, none⟩) x5_1.length co64) y148 := (by rw [hw, Ny148.out]; exact HP65.1); clear HP65; have n0_ := Aside0.mk (hp_); have n1_ := Aside0.mk ((by rw [hw]; exact below_set (HB.out) GB64.out : Below w.heap.size w w66)); clear HO_5; clear HB; have HO_5 := n0_; have HB := n1_; clear n0_ n1_; clear hg hw hp_))
                          go_roundg k1
                          case measure => have := HK1.out; omega
                          case rel => exact ⟨(y148), (1), (wrap64 (x23_1 + 1)), (by first | rfl | (simp; done) | (simp [*]; done)), (by first | rfl | (simp; done) | (simp [*]; done)), H', ⟨by have := HK1.out; omega⟩, ⟨by (with_reducible repeat (first | apply Kd.R_alloc | apply Kd.R_drewN | apply Kd.R_drew)); exact HO_5.out⟩, ⟨by repeat (first | (with_reducible first | exact HB.out | apply below_alloc | apply pw_below_drewN | apply below_drew1) | exact HB.out)⟩⟩
                        · rw [if_neg c63] at H
                          exact absurd H (by simp)
                    · rw [if_neg c57] at H
                      have c57b0 : decide (x23_1 < (l1.length : Int)) = false := decide_eq_false c57
                      clear c57
                      by_cases c67 : x23_1 < (x5_1.length : Int)
                      · rw [if_pos c67] at H
                        have c67b0 : decide (x23_1 < (x5_1.length : Int)) = true := decide_eq_true c67
                        clear c67
                        obtain ⟨y149, hy149⟩ : ∃ y_ : List Int, y_ = (x5_1.set (x23_1 : Int).toNat (IntKind.u64.wrap ((rd l0 x23_1) + x6_1))) := ⟨_, rfl⟩
                        replace H : (nat_add.l100 k1 l0 l1 y149 1 l0 (l0.length : Int) (wrap64 (x23_1 + 1))) = some r := by first | (rw [hy149]; with_reducible exact H) | (have H2_ := (Option.bind_some _ _).symm.trans H; rw [hy149]; with_reducible exact H2_) | (have H2_ := (Option.bind_some _ _).symm.trans H; with_reducible exact H2_) | with_reducible exact H | (rw [hy149]; exact H) | exact H
                        have Ny149 := Aside0.mk hy149
                        clear hy149
                        have H' := Aside0.mk H
                        clear H
                        have p144 : 0 ≤ (x23_1 : Int) := of_decide_eq_true (by first | (with_reducible assumption) | assumption)
                        have q144 : x23_1 < (l0.length : Int) := of_decide_eq_true (by first | (with_reducible assumption) | assumption)
                        obtain ⟨ad144, e144, hx144_0⟩ := Kd.at_int HR0.out x23_1 p144 q144
                        cases e144
                        replace hx144_0 := (HB.out.cell (World.block_lt_of_cell? w _ hx144_0)).trans hx144_0
                        replace p144 := eq_true p144
                        replace q144 := eq_true q144
                        have p68 : 0 ≤ (x23_1 : Int) := of_decide_eq_true (by first | (with_reducible assumption) | assumption)
                        have q68 : (x23_1 : Int) < ((x5_1.length : Int) : Int) := of_decide_eq_true (by first | (with_reducible assumption) | assumption)
                        obtain ⟨go68, co68, eo68, gb68, gl68, cl68, HG68⟩ := Kd.R_form HO_5.out (by omega)
                        (first | cases eo68 | (injection eo68 with ea_ en_ ec_; (first | subst ea_ | (injection ea_ with ea_; subst ea_)); subst ec_; clear en_))
                        have GB68 := Aside0.mk gb68
                        have GG68 := Aside0.mk HG68
                        clear gb68 gl68 HG68
                        obtain ⟨hx68_0, hf68_0⟩ := Kd.R_celln 0 HO_5.out (x23_1 : Int) p68 q68
                        (try simp only [Int.toNat_natCast] at hx68_0 hf68_0)
                        replace p68 := eq_true p68
                        replace q68 := eq_true q68
                        have HP69 := Kd.R_putg HO_5.out (x23_1 : Int) (IntKind.u64.wrap ((rd l0 x23_1) + x6_1))
                        go_wp2_with (first | ((with_reducible refine gate_store (t := 37) (p := 55) rfl ?_); refine store_event (t := 37) (p := 55) (v := ?vo_w70) (w1 := (wr.setCell ⟨go68, (x23_1 : Int).toNat, none⟩ (.int .u64 (IntKind.u64.wrap ((rd l0 x23_1) + x6_1))))) ?hg ?ho ?hn ?hr ?_; (case ho => rfl); (case hg => rfl); (case hn => rfl); (case hr => first | (go_simp; done) | (go_simp; rfl)); intro w70 hw; have hg : wr.grownBy w70 (some go68) := (by rw [hw]; exact HP69.2); have hp_ : Kd.R (Kd.int .u64) 37 w70 w.heap.size (fun _ => True) (.slice (some ⟨go68, 0, none⟩) x5_1.length co68) y149 := (by rw [hw, Ny149.out]; exact HP69.1); clear HP69; have n0_ := Aside0.mk (hp_); have n1_ := Aside0.mk ((by rw [hw]; exact below_set (HB.out) GB68.out : Below w.heap.size w w70)); clear HO_5; clear HB; have HO_5 := n0_; have HB := n1_; clear n0_ n1_; clear hg hw hp_))
                        go_roundg k1
                        case measure => have := HK1.out; omega
                        case rel => exact ⟨(y149), (1), (wrap64 (x23_1 + 1)), (by first | rfl | (simp; done) | (simp [*]; done)), (by first | rfl | (simp; done) | (simp [*]; done)), H', ⟨by have := HK1.out; omega⟩, ⟨by (with_reducible repeat (first | apply Kd.R_alloc | apply Kd.R_drewN | apply Kd.R_drew)); exact HO_5.out⟩, ⟨by repeat (first | (with_reducible first | exact HB.out | apply below_alloc | apply pw_below_drewN | apply below_drew1) | exact HB.out)⟩⟩
                      · rw [if_neg c67] at H
                        exact absurd H (by simp)
                  · rw [if_neg c56] at H
                    have c56b0 : decide ((IntKind.u64.wrap ((rd l0 x23_1) + x6_1)) < (rd l0 x23_1)) = false := decide_eq_false c56
                    clear c56
                    by_cases c71 : x23_1 < (l1.length : Int)
                    · rw [if_pos c71] at H
                      have c71b0 : decide (x23_1 < (l1.length : Int)) = true := decide_eq_true c71
                      clear c71
                      by_cases c72 : (IntKind.u64.wrap ((IntKind.u64.wrap ((rd l0 x23_1) + x6_1)) + (rd l1 x23_1))) < (rd l1 x23_1)
                      · rw [if_pos c72] at H
                        have c72b0 : decide ((IntKind.u64.wrap ((IntKind.u64.wrap ((rd l0 x23_1) + x6_1)) + (rd l1 x23_1))) < (rd l1 x23_1)) = true := decide_eq_true c72
                        clear c72
                        by_cases c73 : x23_1 < (x5_1.length : Int)
                        · rw [if_pos c73] at H
                          have c73b0 : decide (x23_1 < (x5_1.length : Int)) = true := decide_eq_true c73
                          clear c73
                          obtain ⟨y152, hy152⟩ : ∃ y_ : List Int, y_ = (x5_1.set (x23_1 : Int).toNat (IntKind.u64.wrap ((IntKind.u64.wrap ((rd l0 x23_1) + x6_1)) + (rd l1 x23_1)))) := ⟨_, rfl⟩
                          replace H : (nat_add.l100 k1 l0 l1 y152 (0 + 1) l0 (l0.length : Int) (wrap64 (x23_1 + 1))) = some r := by first | (rw [hy152]; with_reducible exact H) | (have H2_ := (Option.bind_some _ _).symm.trans H; rw [hy152]; with_reducible exact H2_) | (have H2_ := (Option.bind_some _ _).symm.trans H; with_reducible exact H2_) | with_reducible exact H | (rw [hy152]; exact H) | exact H
                          have Ny152 := Aside0.mk hy152
                          clear hy152
                          have H' := Aside0.mk H
                          clear H
                          have p144 : 0 ≤ (x23_1 : Int) := of_decide_eq_true (by first | (with_reducible assumption) | assumption)
                          have q144 : x23_1 < (l0.length : Int) := of_decide_eq_true (by first | (with_reducible assumption) | assumption)
                          obtain ⟨ad144, e144, hx144_0⟩ := Kd.at_int HR0.out x23_1 p144 q144
                          cases e144
                          replace hx144_0 := (HB.out.cell (World.block_lt_of_cell? w _ hx144_0)).trans hx144_0
                          replace p144 := eq_true p144
                          replace q144 := eq_true q144
                          have p150 : 0 ≤ (x23_1 : Int) := of_decide_eq_true (by first | (with_reducible assumption) | assumption)
                          have q150 : x23_1 < (l1.length : Int) := of_decide_eq_true (by first | (with_reducible assumption) | assumption)
                          obtain ⟨ad150, e150, hx150_0⟩ := Kd.at_int HR1.out x23_1 p150 q150
                          cases e150
                          replace hx150_0 := (HB.out.cell (World.block_lt_of_cell? w _ hx150_0)).trans hx150_0
                          replace p150 := eq_true p150
                          replace q150 := eq_true q150
                          have p151 : 0 ≤ (x23_1 : Int) := of_decide_eq_true (by first | (with_reducible assumption) | assumption)
                          have q151 : x23_1 < (l1.length : Int) := of_decide_eq_true (by first | (with_reducible assumption) | assumption)
                          obtain ⟨ad151, e151, hx151_0⟩ := Kd.at_int HR1.out x23_1 p151 q151
                          obtain rfl : ad150 = ad151 := (by injection e151)
                          replace hx151_0 := (HB.out.cell (World.block_lt_of_cell? w _ hx151_0)).trans hx151_0
                          replace p151 := eq_true p151
                          replace q151 := eq_true q151
                          have p74 : 0 ≤ (x23_1 : Int) := of_decide_eq_true (by first | (with_reducible assumption) | assumption)
                          have q74 : (x23_1 : Int) < ((x5_1.length : Int) : Int) := of_decide_eq_true (by first | (with_reducible assumption) | assumption)
                          obtain ⟨go74, co74, eo74, gb74, gl74, cl74, HG74⟩ := Kd.R_form HO_5.out (by omega)
                          (first | cases eo74 | (injection eo74 with ea_ en_ ec_; (first | subst ea_ | (injection ea_ with ea_; subst ea_)); subst ec_; clear en_))
                          have GB74 := Aside0.mk gb74
                          have GG74 := Aside0.mk HG74
                          clear gb74 gl74 HG74
                          obtain ⟨hx74_0, hf74_0⟩ := Kd.R_celln 0 HO_5.out (x23_1 : Int) p74 q74
                          (try simp only [Int.toNat_natCast] at hx74_0 hf74_0)
                          replace p74 := eq_true p74
                          replace q74 := eq_true q74
                          have HP75 := Kd.R_putg HO_5.out (x23_1 : Int) (IntKind.u64.wrap ((IntKind.u64.wrap ((rd l0 x23_1) + x6_1)) + (rd l1 x23_1)))
                          go_wp2_with (first | ((with_reducible refine gate_store (t := 37) (p := 55) rfl ?_); refine store_event (t := 37) (p := 55) (v := ?vo_w76) (w1 := (wr.setCell ⟨go74, (x23_1 : Int).toNat, none⟩ (.int .u64 (IntKind.u64.wrap ((IntKind.u64.wrap ((rd l0 x23_1) + x6_1)) + (rd l1 x23_1)))))) ?hg ?ho ?hn ?hr ?_; (case ho => rfl); (case hg => rfl); (case hn => rfl); (case hr => first | (go_simp; done) | (go_simp; rfl)); intro w76 hw; have hg : wr.grownBy w76 (some go74) := (by rw [hw]; exact HP75.2); have hp_ : Kd.R (Kd.int .u64) 37 w76 w.heap.size (fun _ => True) (.slice (some ⟨go74, 0, none⟩) x5_1.length co74) y152 := (by rw [hw, Ny152.out]; exact HP75.1); clear HP75; have n0_ := Aside0.mk (hp_); have n1_ := Aside0.mk ((by rw [hw]; exact below_set (HB.out) GB74.out : Below w.heap.size w w76)); clear HO_5; clear HB; have HO_5 := n0_; have HB := n1_; clear n0_ n1_; clear hg hw hp_))
                          go_roundg k1
                          case measure => have := HK1.out; omega
                          case rel => exact ⟨(y152), (0 + 1), (wrap64 (x23_1 + 1)), (by first | rfl | (simp; done) | (simp [*]; done)), (by first | rfl | (simp; done) | (simp [*]; done)), H', ⟨by have := HK1.out; omega⟩, ⟨by (with_reducible repeat (first | apply Kd.R_alloc | apply Kd.R_drewN | apply Kd.R_drew)); exact HO_5.out⟩, ⟨by repeat (first | (with_reducible first | exact HB.out | apply below_alloc | apply pw_below_drewN | apply below_drew1) | exact HB.out)⟩⟩
                        · rw [if_neg c73] at H
                          exact absurd H (by simp)
                      · rw [if_neg c72] at H
                        have c72b0 : decide ((IntKind.u64.wrap ((IntKind.u64.wrap ((rd l0 x23_1) + x6_1)) + (rd l1 x23_1))) < (rd l1 x23_1)) = false := decide_eq_false c72
                        clear c72
                        by_cases c77 : x23_1 < (x5_1.length : Int)
                        · rw [if_pos c77] at H
                          have c77b0 : decide (x23_1 < (x5_1.length : Int)) = true := decide_eq_true c77
                          clear c77
                          obtain ⟨y153, hy153⟩ : ∃ y_ : List Int, y_ = (x5_1.set (x23_1 : Int).toNat (IntKind.u64.wrap ((IntKind.u64.wrap ((rd l0 x23_1) + x6_1)) + (rd l1 x23_1)))) := ⟨_, rfl⟩
                          replace H : (nat_add.l100 k1 l0 l1 y153 0 l0 (l0.length : Int) (wrap64 (x23_1 + 1))) = some r := by first | (rw [hy153]; with_reducible exact H) | (have H2_ := (Option.bind_some _ _).symm.trans H; rw [hy153]; with_reducible exact H2_) | (have H2_ := (Option.bind_some _ _).symm.trans H; with_reducible exact H2_) | with_reducible exact H | (rw [hy153]; exact H) | exact H
                          have Ny153 := Aside0.mk hy153
                          clear hy153
                          have H' := Aside0.mk H
                          clear H
                          have p144 : 0 ≤ (x23_1 : Int) := of_decide_eq_true (by first | (with_reducible assumption) | assumption)
                          have q144 : x23_1 < (l0.length : Int) := of_decide_eq_true (by first | (with_reducible assumption) | assumption)
                          obtain ⟨ad144, e144, hx144_0⟩ := Kd.at_int HR0.out x23_1 p144 q144
                          cases e144
                          replace hx144_0 := (HB.out.cell (World.block_lt_of_cell? w _ hx144_0)).trans hx144_0
                          replace p144 := eq_true p144
                          replace q144 := eq_true q144
                          have p150 : 0 ≤ (x23_1 : Int) := of_decide_eq_true (by first | (with_reducible assumption) | assumption)
                          have q150 : x23_1 < (l1.length : Int) := of_decide_eq_true (by first | (with_reducible assumption) | assumption)
                          obtain ⟨ad150, e150, hx150_0⟩ := Kd.at_int HR1.out x23_1 p150 q150
                          cases e150
                          replace hx150_0 := (HB.out.cell (World.block_lt_of_cell? w _ hx150_0)).trans hx150_0
                          replace p150 := eq_true p150
                          replace q150 := eq_true q150
                          have p151 : 0 ≤ (x23_1 : Int) := of_decide_eq_true (by first | (with_reducible assumption) | assumption)
                          have q151 : x23_1 < (l1.length : Int) := of_decide_eq_true (by first | (with_reducible assumption) | assumption)
                          obtain ⟨ad151, e151, hx151_0⟩ := Kd.at_int HR1.out x23_1 p151 q151
                          obtain rfl : ad150 = ad151 := (by injection e151)
                          replace hx151_0 := (HB.out.cell (World.block_lt_of_cell? w _ hx151_0)).trans hx151_0
                          replace p151 := eq_true p151
                          replace q151 := eq_true q151
                          have p78 : 0 ≤ (x23_1 : Int) := of_decide_eq_true (by first | (with_reducible assumption) | assumption)
                          have q78 : (x23_1 : Int) < ((x5_1.length : Int) : Int) := of_decide_eq_true (by first | (with_reducible assumption) | assumption)
                          obtain ⟨go78, co78, eo78, gb78, gl78, cl78, HG78⟩ := Kd.R_form HO_5.out (by omega)
                          (first | cases eo78 | (injection eo78 with ea_ en_ ec_; (first | subst ea_ | (injection ea_ with ea_; subst ea_)); subst ec_; clear en_))
                          have GB78 := Aside0.mk gb78
                          have GG78 := Aside0.mk HG78
                          clear gb78 gl78 HG78
                          obtain ⟨hx78_0, hf78_0⟩ := Kd.R_celln 0 HO_5.out (x23_1 : Int) p78 q78
                          (try simp only [Int.toNat_natCast] at hx78_0 hf78_0)
                          replace p78 := eq_true p78
                          replace q78 := eq_true q78
                          have HP79 := Kd.R_putg HO_5.out (x23_1 : Int) (IntKind.u64.wrap ((IntKind.u64.wrap ((rd l0 x23_1) + x6_1)) + (rd l1 x23_1)))
                          go_wp2_with (first | ((with_reducible refine gate_store (t := 37) (p := 55) rfl ?_); refine store_event (t := 37) (p := 55) (v := ?vo_w80) (w1 := (wr.setCell ⟨go78, (x23_1 : Int).toNat, none⟩ (.int .u64 (IntKind.u64.wrap ((IntKind.u64.wrap ((rd l0 x23_1) + x6_1)) + (rd l1 x23_1)))))) ?hg ?ho ?hn ?hr ?_; (case ho => rfl); (case hg => rfl); (case hn => rfl); (case hr => first | (go_simp; done) | (go_simp; rfl)); intro w80 hw; have hg : wr.grownBy w80 (some go78) := (by rw [hw]; exact HP79.2); have hp_ : Kd.R (Kd.int .u64) 37 w80 w.heap.size (fun _ => True) (.slice (some ⟨go78, 0, none⟩) x5_1.length co78) y153 := (by rw [hw, Ny153.out]; exact HP79.1); clear HP79; have n0_ := Aside0.mk (hp_); have n1_ := Aside0.mk ((by rw [hw]; exact below_set (HB.out) GB78.out : Below w.heap.size w w80)); clear HO_5; clear HB; have HO_5 := n0_; have HB := n1_; clear n0_ n1_; clear hg hw hp_))
                          go_roundg k1
                          case measure => have := HK1.out; omega
                          case rel => exact ⟨(y153), (0), (wrap64 (x23_1 + 1)), (by first | rfl | (simp; done) | (simp [*]; done)), (by first | rfl | (simp; done) | (simp [*]; done)), H', ⟨by have := HK1.out; omega⟩, ⟨by (with_reducible repeat (first | apply Kd.R_alloc | apply Kd.R_drewN | apply Kd.R_drew)); exact HO_5.out⟩, ⟨by repeat (first | (with_reducible first | exact HB.out | apply below_alloc | apply pw_below_drewN | apply below_drew1) | exact HB.out)⟩⟩
                        · rw [if_neg c77] at H
                          exact absurd H (by simp)
                    · rw [if_neg c71] at H
                      have c71b0 : decide (x23_1 < (l1.length : Int)) = false := decide_eq_false c71
                      clear c71
                      by_cases c81 : x23_1 < (x5_1.length : Int)
                      · rw [if_pos c81] at H
                        have c81b0 : decide (x23_1 < (x5_1.length : Int)) = true := decide_eq_true c81
                        clear c81
                        obtain ⟨y154, hy154⟩ : ∃ y_ : List Int, y_ = (x5_1.set (x23_1 : Int).toNat (IntKind.u64.wrap ((rd l0 x23_1) + x6_1))) := ⟨_, rfl⟩
                        replace H : (nat_add.l100 k1 l0 l1 y154 0 l0 (l0.length : Int) (wrap64 (x23_1 + 1))) = some r := by first | (rw [hy154]; with_reducible exact H) | (have H2_ := (Option.bind_some _ _).symm.trans H; rw [hy154]; with_reducible exact H2_) | (have H2_ := (Option.bind_some _ _).symm.trans H; with_reducible exact H2_) | with_reducible exact H | (rw [hy154]; exact H) | exact H
                        have Ny154 := Aside0.mk hy154
                        clear hy154
                        have H' := Aside0.mk H
                        clear H
                        have p144 : 0 ≤ (x23_1 : Int) := of_decide_eq_true (by first | (with_reducible assumption) | assumption)
                        have q144 : x23_1 < (l0.length : Int) := of_decide_eq_true (by first | (with_reducible assumption) | assumption)
                        obtain ⟨ad144, e144, hx144_0⟩ := Kd.at_int HR0.out x23_1 p144 q144
                        cases e144
                        replace hx144_0 := (HB.out.cell (World.block_lt_of_cell? w _ hx144_0)).trans hx144_0
                        replace p144 := eq_true p144
                        replace q144 := eq_true q144
                        have p82 : 0 ≤ (x23_1 : Int) := of_decide_eq_true (by first | (with_reducible assumption) | assumption)
                        have q82 : (x23_1 : Int) < ((x5_1.length : Int) : Int) := of_decide_eq_true (by first | (with_reducible assumption) | assumption)
                        obtain ⟨go82, co82, eo82, gb82, gl82, cl82, HG82⟩ := Kd.R_form HO_5.out (by omega)
                        (first | cases eo82 | (injection eo82 with ea_ en_ ec_; (first | subst ea_ | (injection ea_ with ea_; subst ea_)); subst ec_; clear en_))
                        have GB82 := Aside0.mk gb82
                        have GG82 := Aside0.mk HG82
                        clear gb82 gl82 HG82
                        obtain ⟨hx82_0, hf82_0⟩ := Kd.R_celln 0 HO_5.out (x23_1 : Int) p82 q82
                        (try simp only [Int.toNat_natCast] at hx82_0 hf82_0)
                        replace p82 := eq_true p82
                        replace q82 := eq_true q82
                        have HP83 := Kd.R_putg HO_5.out (x23_1 : Int) (IntKind.u64.wrap ((rd l0 x23_1) + x6_1))
                        go_wp2_with (first | ((with_reducible refine gate_store (t := 37) (p := 55) rfl ?_); refine store_event (t := 37) (p := 55) (v := ?vo_w84) (w1 := (wr.setCell ⟨go82, (x23_1 : Int).toNat, none⟩ (.int .u64 (IntKind.u64.wrap ((rd l0 x23_1) + x6_1))))) ?hg ?ho ?hn ?hr ?_; (case ho => rfl); (case hg => rfl); (case hn => rfl); (case hr => first | (go_simp; done) | (go_simp; rfl)); intro w84 hw; have hg : wr.grownBy w84 (some go82) := (by rw [hw]; exact HP83.2); have hp_ : Kd.R (Kd.int .u64) 37 w84 w.heap.size (fun _ => True) (.slice (some ⟨go82, 0, none⟩) x5_1.length co82) y154 := (by rw [hw, Ny154.out]; exact HP83.1); clear HP83; have n0_ := Aside0.mk (hp_); have n1_ := Aside0.mk ((by rw [hw]; exact below_set (HB.out) GB82.out : Below w.heap.size w w84)); clear HO_5; clear HB; have HO_5 := n0_; have HB := n1_; clear n0_ n1_; clear hg hw hp_))
                        go_roundg k1
                        case measure => have := HK1.out; omega
                        case rel => exact ⟨(y154), (0), (wrap64 (x23_1 + 1)), (by first | rfl | (simp; done) | (simp [*]; done)), (by first | rfl | (simp; done) | (simp [*]; done)), H', ⟨by have := HK1.out; omega⟩, ⟨by (with_reducible repeat (first | apply Kd.R_alloc | apply Kd.R_drewN | apply Kd.R_drew)); exact HO_5.out⟩, ⟨by repeat (first | (with_reducible first | exact HB.out | apply below_alloc | apply pw_below_drewN | apply below_drew1) | exact HB.out)⟩⟩
                      · rw [if_neg c81] at H
                        exact absurd H (by simp)
                · rw [if_neg c55] at H
                  exact absurd H (by simp)
              · rw [if_neg c54] at H
                exact absurd H (by simp)
            · rw [if_neg c53] at H
              have c53b0 : decide (x23_1 < (l0.length : Int)) = false := decide_eq_false c53
              clear c53
              by_cases c85 : 0 ≤ (l0.length : Int)
              · rw [if_pos c85] at H
                have c85b0 : decide (0 ≤ (l0.length : Int)) = true := decide_eq_true c85
                have c85b1 : decide (0 ≤ l0.length) = true := decide_eq_true (by omega)
                clear c85
                by_cases c86 : (l0.length : Int) < (x5_1.length : Int)
                · rw [if_pos c86] at H
                  have c86b0 : decide ((l0.length : Int) < (x5_1.length : Int)) = true := decide_eq_true c86
                  have c86b1 : decide (l0.length < x5_1.length) = true := decide_eq_true (Int.ofNat_lt.mp c86)
                  clear c86
                  obtain ⟨y155, hy155⟩ : ∃ y_ : List Int, y_ = (x5_1.set ((l0.length : Int) : Int).toNat x6_1) := ⟨_, rfl⟩
                  replace H : ((nat_trim.f k1 y155).bind fun t156 => (some t156)) = some r := by first | (rw [hy155]; with_reducible exact H) | (have H2_ := (Option.bind_some _ _).symm.trans H; rw [hy155]; with_reducible exact H2_) | (have H2_ := (Option.bind_some _ _).symm.trans H; with_reducible exact H2_) | with_reducible exact H | (rw [hy155]; exact H) | exact H
                  have Ny155 := Aside0.mk hy155
                  clear hy155
                  replace H := Option.bind_eq_some_iff.mp H
                  obtain ⟨t156, A880, H⟩ := H
                  replace H : (some t156) = some r := H
                  have A88 := Aside0.mk A880
                  clear A880
                  obtain rfl := Option.some.inj H
                  have p87 : 0 ≤ ((l0.length : Int) : Int) := of_decide_eq_true (by first | (with_reducible assumption) | assumption)
                  have q87 : ((l0.length : Int) : Int) < ((x5_1.length : Int) : Int) := of_decide_eq_true (by first | (with_reducible assumption) | assumption)
                  obtain ⟨go87, co87, eo87, gb87, gl87, cl87, HG87⟩ := Kd.R_form HO_5.out (by omega)
                  (first | cases eo87 | (injection eo87 with ea_ en_ ec_; (first | subst ea_ | (injection ea_ with ea_; subst ea_)); subst ec_; clear en_))
                  have GB87 := Aside0.mk gb87
                  have GG87 := Aside0.mk HG87
                  clear gb87 gl87 HG87
                  obtain ⟨hx87_0, hf87_0⟩ := Kd.R_celln 0 HO_5.out ((l0.length : Int) : Int) p87 q87
                  (try simp only [Int.toNat_natCast] at hx87_0 hf87_0)
                  replace p87 := eq_true p87
                  replace q87 := eq_true q87
                  have HP89 := Kd.R_putg HO_5.out ((l0.length : Int) : Int) x6_1
                  go_wp2_with (first | ((with_reducible refine gate_store (t := 37) (p := 61) rfl ?_); refine store_event (t := 37) (p := 61) (v := ?vo_w90) (w1 := (wr.setCell ⟨go87, ((l0.length : Int) : Int).toNat, none⟩ (.int .u64 x6_1))) ?hg ?ho ?hn ?hr ?_; (case ho => rfl); (case hg => rfl); (case hn => rfl); (case hr => first | (go_simp; done) | (go_simp; rfl)); intro w90 hw; have hg : wr.grownBy w90 (some go87) := (by rw [hw]; exact HP89.2); have hp_ : Kd.R (Kd.int .u64) 37 w90 w.heap.size (fun _ => True) (.slice (some ⟨go87, 0, none⟩) x5_1.length co87) y155 := (by rw [hw, Ny155.out]; exact HP89.1); clear HP89; have n0_ := Aside0.mk (hp_); have n1_ := Aside0.mk ((by rw [hw]; exact below_set (HB.out) GB87.out : Below w.heap.size w w90)); clear HO_5; clear HB; have HO_5 := n0_; have HB := n1_; clear n0_ n1_; clear hg hw hp_) | ((with_reducible refine gate_callee (f := 55) rfl ?_); refine goesL_ (some 63) rfl rfl Try.func55 (by kernel_rfl) rfl #[.slice (some ⟨go87, 0, none⟩) x5_1.length co87] rfl (by (try simp only [List.map_toArray, List.map_cons, List.map_nil]); first | done | rfl | (simp only [List.length_drop, List.length_take]; rfl)) ?_; (with_reducible refine (nat_trim.calls k1 (fun k_ => some k_ = (.slice (some ⟨go87, 0, none⟩) x5_1.length co87 : Value).ownBlock) (.slice (some ⟨go87, 0, none⟩) x5_1.length co87) y155 t156 w _ ?side1 ?side2 A88.out).mono ?_); (case side1 => repeat (first | (with_reducible first | exact HB.out | apply below_alloc | apply pw_below_drewN | apply below_drew1) | exact HB.out)); (case side2 => exact Kd.R_tight rfl HO_5.out); rintro e w91 ⟨v157, rfl, ho0, hb, hkp⟩; refine ⟨_, rfl, ?_⟩; have n0_ := Aside0.mk (Kd.R_mono (ok' := fun k_ => True) ho0 (fun k_ hk_ => trivial)); have n1_ := Aside0.mk (hb); clear HB; clear HO_5; have HO158 := n0_; have HB := n1_; clear n0_ n1_; (try clear hb); (try clear hkp); (try clear ho0)))
                  go_ret
                  exact ⟨_, by first | rfl | (simp [errW_none, errW_some] <;> rfl) | (simp only [← hji48]; first | rfl | (simp [errW_none, errW_some] <;> rfl)) | (simp [*, errW_none, errW_some] <;> rfl), by (with_reducible repeat (first | apply Kd.R_alloc | apply Kd.R_drewN | apply Kd.R_drew)); exact HO158.out, by repeat (first | (with_reducible first | exact HB.out | apply below_alloc | apply pw_below_drewN | apply below_drew1) | exact HB.out)⟩
                · rw [if_neg c86] at H
                  exact absurd H (by simp)
              · rw [if_neg c85] at H
                exact absurd H (by simp)
      · rw [if_neg c50] at H
        exact absurd H (by simp)
    · rw [if_neg c49] at H
      exact absurd H (by simp)

end Go.Proofs.Ytigedaepbilokaa.PNat
