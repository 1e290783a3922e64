-- Written for this claim by a program of ours (a changed copy of the kit's print): Lean checks it.
import Derived.Test.YtigedaepbilokaaPLawx0
import Derived.Test.YtigedaepbilokaaPLawx1
namespace Go.Proofs.Ytigedaepbilokaa.PLaw
open Go.RowKit Go.Proofs.YtigedaepbilokaaL.PrintWords Go.Proofs.YtigedaepbilokaaL.PrintLast Go.Proofs.YtigedaepbilokaaL.PrintMore
attribute [local go_sem] max2_int min2_int max_two min_two max_three min_three max_four min_four   -- for this text's walks alone
set_option linter.unusedVariables false
set_option linter.unusedSimpArgs false

/-! ### gaugelaw1_NatLaws: function 3 -/
def gaugelaw1_NatLaws.l0 : Nat → List (S27) → Int → Option (Bool)
  | 0, _, _ => none
  | k + 1, x0, x3 => if x3 < (x0.length : Int) then (if x3 < 60 then (if 0 ≤ x3 then ((gaugelaw0_Limbs.f k 300 (([(rd_T27 x0 x3).f0, (rd_T27 x0 x3).f1, (rd_T27 x0 x3).f2] : List (List Int)))).bind fun t119 => (if t119 = true then (some true) else ((gaugeref1_Trim.f k ((rd_T27 x0 x3).f0)).bind fun t121 => ((gaugeref1_Trim.f k ((rd_T27 x0 x3).f1)).bind fun t125 => ((gaugeref1_Trim.f k ((rd_T27 x0 x3).f2)).bind fun t129 => ((gaugelaw1_add.f t121 t125).bind fun t132 => ((gaugelaw1_add.f t125 t121).bind fun t135 => ((gaugeref0_EqNat.f t132 t135).bind fun t138 => (if t138 = true then ((gaugelaw1_mul.f t121 t125).bind fun t139 => ((gaugelaw1_mul.f t125 t121).bind fun t142 => ((gaugeref0_EqNat.f t139 t142).bind fun t145 => (if t145 = true then ((gaugelaw1_add.f t121 t125).bind fun t146 => ((gaugelaw1_add.f t146 t129).bind fun t149 => ((gaugelaw1_add.f t125 t129).bind fun t152 => ((gaugelaw1_add.f t121 t152).bind fun t155 => ((gaugeref0_EqNat.f t149 t155).bind fun t158 => (if t158 = true then ((gaugelaw1_mul.f t121 t125).bind fun t159 => ((gaugelaw1_mul.f t159 t129).bind fun t162 => ((gaugelaw1_mul.f t125 t129).bind fun t165 => ((gaugelaw1_mul.f t121 t165).bind fun t168 => ((gaugeref0_EqNat.f t162 t168).bind fun t171 => (if t171 = true then ((gaugelaw1_add.f t125 t129).bind fun t172 => ((gaugelaw1_mul.f t121 t172).bind fun t175 => ((gaugelaw1_mul.f t121 t125).bind fun t178 => ((gaugelaw1_mul.f t121 t129).bind fun t181 => ((gaugelaw1_add.f t178 t181).bind fun t184 => ((gaugeref0_EqNat.f t175 t184).bind fun t187 => (if t187 = true then ((gaugelaw1_add.f t121 t125).bind fun t188 => ((nat_Sub.f t188 t125).bind fun bt191 => ((gaugelaw1_num.f bt191.2).bind fun t195 => (if t195 = 0 then ((gaugeref0_EqNat.f bt191.1 t121).bind fun t196 => (if t196 = true then ((gaugelaw1_add.f t121 t125).bind fun t197 => ((nat_Cmp.f t197 t121).bind fun t200 => (if t200 < 0 then (none) else ((nat_From.f 1).bind fun t201 => ((gaugelaw1_mul.f t121 t201).bind fun t204 => ((gaugeref0_EqNat.f t204 t121).bind fun t207 => (if t207 = true then ((gaugelaw1_mul.f t121 ([] : List Int)).bind fun t208 => (if (t208.length : Int) > 0 then (none) else (gaugelaw1_NatLaws.l0 k x0 (wrap64 (x3 + 1))))) else (none)))))))) else (none))) else (none))))) else (none)))))))) else (none))))))) else (none))))))) else (none))))) else (none)))))))))) else (none)) else ((gaugelaw1_wakes.f).bind fun t211 => (some t211))) else ((gaugelaw1_wakes.f).bind fun t212 => (some t212))
def gaugelaw1_NatLaws.f (k : Nat) (l0 : List (S27)) : Option (Bool) := gaugelaw1_NatLaws.l0 k l0 0
theorem gaugelaw1_NatLaws.mono_l : ∀ k, (∀ y0 y1, LeO (gaugelaw1_NatLaws.l0 k y0 y1) (gaugelaw1_NatLaws.l0 (k + 1) y0 y1))
  | 0 => fun _ _ r h => by simp [gaugelaw1_NatLaws.l0] at h
  | k + 1 => by
    have ih0 := gaugelaw1_NatLaws.mono_l k
    · intro y0 y1
      unfold gaugelaw1_NatLaws.l0
      repeat' first
      | (with_reducible exact ih0 _ _)
      | (with_reducible exact gaugelaw0_Limbs.mono _ _ _)
      | (with_reducible exact gaugeref1_Trim.mono _ _)
      | (with_reducible exact LeO.refl _)
      | (with_reducible exact LeO.none _)
      | (with_reducible refine LeO.ite ?_ ?_)
      | (with_reducible refine LeO.bind ?_ (fun _ => ?_))
      | exact ih0 _ _
      | exact gaugelaw0_Limbs.mono _ _ _
      | exact gaugeref1_Trim.mono _ _
      | exact LeO.none _
      | refine LeO.ite ?_ ?_
      | refine LeO.bind ?_ (fun _ => ?_)
theorem gaugelaw1_NatLaws.mono : ∀ a0 k, LeO (gaugelaw1_NatLaws.f k a0) (gaugelaw1_NatLaws.f (k + 1) a0) := by
  intro a0 k
  have ih0 := gaugelaw1_NatLaws.mono_l k
  unfold gaugelaw1_NatLaws.f
  repeat' first
      | (with_reducible exact ih0 _ _)
      | (with_reducible exact gaugelaw0_Limbs.mono _ _ _)
      | (with_reducible exact gaugeref1_Trim.mono _ _)
      | (with_reducible exact LeO.refl _)
      | (with_reducible exact LeO.none _)
      | (with_reducible refine LeO.ite ?_ ?_)
      | (with_reducible refine LeO.bind ?_ (fun _ => ?_))
      | exact ih0 _ _
      | exact gaugelaw0_Limbs.mono _ _ _
      | exact gaugeref1_Trim.mono _ _
      | exact LeO.none _
      | refine LeO.ite ?_ ?_
      | refine LeO.bind ?_ (fun _ => ?_)
def gaugelaw1_NatLaws.T4 : Bool × List (List Nat × List Nat) := (true, [([], []), ([], []), ([0, 1], [0, 1]), ([2], [2]), ([3], [3]), ([], []), ([], []), ([5, 6], [5, 6]), ([7], [7]), ([8], [8]), ([], []), ([], []), ([10, 11], [10, 11]), ([12], [12]), ([13], [13]), ([4, 9, 14], [4, 9, 14]), ([15], [15])])
def gaugelaw1_NatLaws.B4 : List Nat := [0, 0, 3, 7, 15, 0, 0, 96, 224, 480, 0, 0, 3072, 7168, 15360, 32767, 65535]
theorem gaugelaw1_NatLaws.tab4 : rtab .any (opsOf Try.f3 4) = gaugelaw1_NatLaws.T4 := by kernel_rfl
theorem gaugelaw1_NatLaws.bits4 : waitsOk gaugelaw1_NatLaws.T4.2 gaugelaw1_NatLaws.B4 = true := by kernel_rfl
set_option maxHeartbeats 8000000 in
set_option maxRecDepth 100000 in
theorem gaugelaw1_NatLaws.calls (k : Nat) (P0_ : Nat → Prop) (A0 : Option Addr) (c0 : Nat) (l0 : List (S27)) (r : Bool) (w : World) (hs0 : Kd.V k27 27 w w.heap.size (fun k_ => P0_ k_) (.slice A0 l0.length c0) l0) (h : gaugelaw1_NatLaws.f k l0 = some r) :
    Calls Try.prog 3 #[.slice A0 l0.length c0] w fun e w' => e = .returned (.bool r) ∧ Below w.heap.size w w' := by
  have HO0 := Aside0.mk (show Kd.V k27 27 w w.heap.size (fun k_ => (P0_ k_ ∨ w.heap.size ≤ k_)) (.slice A0 l0.length c0) l0 from Kd.V_mono hs0 (fun k_ hk => .inl hk))
  have HB := Aside0.mk (Below.refl w.heap.size w)
  have H : (gaugelaw1_NatLaws.l0 k l0 0) = some r := h
  clear h
  have H' := Aside0.mk H
  clear H
  go_enter Try.func3, Try.ntmps3
  go_wp2
  go_loopg [3] k (fun kq v3 w' => ∃ (x3_1 : Int), v3 = .int .i64 x3_1 ∧ Aside0 (gaugelaw1_NatLaws.l0 kq l0 x3_1 = some r) ∧ Aside0 (kq ≤ k) ∧ Aside0 (Kd.V k27 27 w' w.heap.size (fun k_ => (P0_ k_ ∨ w.heap.size ≤ k_)) (.slice A0 l0.length c0) l0) ∧ Aside0 (Below w.heap.size w w'))
  case atStart => exact ⟨(0), (by first | rfl | (simp; done) | (simp [*]; done)), H', ⟨Nat.le_refl _⟩, ⟨by (with_reducible repeat (first | apply Kd.V_alloc | apply Kd.V_drewN | apply Kd.V_drew)); exact HO0.out⟩, ⟨by repeat (first | (with_reducible first | exact HB.out | apply below_alloc | apply pw_below_drewN | apply below_drew1) | exact HB.out)⟩⟩
  case round =>
    clear H'
    obtain ⟨x3_1, rfl, HA, HK1, HO_0, HB⟩ := hrel
    cases gk with
    | zero => exact absurd HA.out (by simp [gaugelaw1_NatLaws.l0])
    | succ k1 =>
      have H := HA.out
      clear HA
      simp only [gaugelaw1_NatLaws.l0] at H
      by_cases c2 : x3_1 < (l0.length : Int)
      · rw [if_pos c2] at H
        have c2b0 : decide (x3_1 < (l0.length : Int)) = true := decide_eq_true c2
        clear c2
        by_cases c3 : x3_1 < 60
        · rw [if_pos c3] at H
          have c3b0 : decide (x3_1 < 60) = true := decide_eq_true c3
          clear c3
          by_cases c4 : 0 ≤ x3_1
          · rw [if_pos c4] at H
            have c4b0 : decide (0 ≤ x3_1) = true := decide_eq_true c4
            clear c4
            obtain ⟨y116, hy116⟩ : ∃ y_ : List (List Int), y_ = (([(rd_T27 l0 x3_1).f0, (rd_T27 l0 x3_1).f1, (rd_T27 l0 x3_1).f2] : List (List Int))) := ⟨_, rfl⟩
            replace H : ((gaugelaw0_Limbs.f k1 300 y116).bind fun t119 => (if t119 = true then (some true) else ((gaugeref1_Trim.f k1 ((rd_T27 l0 x3_1).f0)).bind fun t121 => ((gaugeref1_Trim.f k1 ((rd_T27 l0 x3_1).f1)).bind fun t125 => ((gaugeref1_Trim.f k1 ((rd_T27 l0 x3_1).f2)).bind fun t129 => ((gaugelaw1_add.f t121 t125).bind fun t132 => ((gaugelaw1_add.f t125 t121).bind fun t135 => ((gaugeref0_EqNat.f t132 t135).bind fun t138 => (if t138 = true then ((gaugelaw1_mul.f t121 t125).bind fun t139 => ((gaugelaw1_mul.f t125 t121).bind fun t142 => ((gaugeref0_EqNat.f t139 t142).bind fun t145 => (if t145 = true then ((gaugelaw1_add.f t121 t125).bind fun t146 => ((gaugelaw1_add.f t146 t129).bind fun t149 => ((gaugelaw1_add.f t125 t129).bind fun t152 => ((gaugelaw1_add.f t121 t152).bind fun t155 => ((gaugeref0_EqNat.f t149 t155).bind fun t158 => (if t158 = true then ((gaugelaw1_mul.f t121 t125).bind fun t159 => ((gaugelaw1_mul.f t159 t129).bind fun t162 => ((gaugelaw1_mul.f t125 t129).bind fun t165 => ((gaugelaw1_mul.f t121 t165).bind fun t168 => ((gaugeref0_EqNat.f t162 t168).bind fun t171 => (if t171 = true then ((gaugelaw1_add.f t125 t129).bind fun t172 => ((gaugelaw1_mul.f t121 t172).bind fun t175 => ((gaugelaw1_mul.f t121 t125).bind fun t178 => ((gaugelaw1_mul.f t121 t129).bind fun t181 => ((gaugelaw1_add.f t178 t181).bind fun t184 => ((gaugeref0_EqNat.f t175 t184).bind fun t187 => (if t187 = true then ((gaugelaw1_add.f t121 t125).bind fun t188 => ((nat_Sub.f t188 t125).bind fun bt191 => ((gaugelaw1_num.f bt191.2).bind fun t195 => (if t195 = 0 then ((gaugeref0_EqNat.f bt191.1 t121).bind fun t196 => (if t196 = true then ((gaugelaw1_add.f t121 t125).bind fun t197 => ((nat_Cmp.f t197 t121).bind fun t200 => (if t200 < 0 then (none) else ((nat_From.f 1).bind fun t201 => ((gaugelaw1_mul.f t121 t201).bind fun t204 => ((gaugeref0_EqNat.f t204 t121).bind fun t207 => (if t207 = true then ((gaugelaw1_mul.f t121 ([] : List Int)).bind fun t208 => (if (t208.length : Int) > 0 then (none) else (gaugelaw1_NatLaws.l0 k1 l0 (wrap64 (x3_1 + 1))))) else (none)))))))) else (none))) else (none))))) else (none)))))))) else (none))))))) else (none))))))) else (none))))) else (none)))))))))) = some r := by first | (rw [hy116]; with_reducible exact H) | (have H2_ := (Option.bind_some _ _).symm.trans H; rw [hy116]; with_reducible exact H2_) | (have H2_ := (Option.bind_some _ _).symm.trans H; with_reducible exact H2_) | with_reducible exact H | (rw [hy116]; exact H) | exact H
            have Ny116 := Aside0.mk hy116
            clear hy116
            replace H := Option.bind_eq_some_iff.mp H
            obtain ⟨t119, A50, H⟩ := H
            replace H : (if t119 = true then (some true) else ((gaugeref1_Trim.f k1 ((rd_T27 l0 x3_1).f0)).bind fun t121 => ((gaugeref1_Trim.f k1 ((rd_T27 l0 x3_1).f1)).bind fun t125 => ((gaugeref1_Trim.f k1 ((rd_T27 l0 x3_1).f2)).bind fun t129 => ((gaugelaw1_add.f t121 t125).bind fun t132 => ((gaugelaw1_add.f t125 t121).bind fun t135 => ((gaugeref0_EqNat.f t132 t135).bind fun t138 => (if t138 = true then ((gaugelaw1_mul.f t121 t125).bind fun t139 => ((gaugelaw1_mul.f t125 t121).bind fun t142 => ((gaugeref0_EqNat.f t139 t142).bind fun t145 => (if t145 = true then ((gaugelaw1_add.f t121 t125).bind fun t146 => ((gaugelaw1_add.f t146 t129).bind fun t149 => ((gaugelaw1_add.f t125 t129).bind fun t152 => ((gaugelaw1_add.f t121 t152).bind fun t155 => ((gaugeref0_EqNat.f t149 t155).bind fun t158 => (if t158 = true then ((gaugelaw1_mul.f t121 t125).bind fun t159 => ((gaugelaw1_mul.f t159 t129).bind fun t162 => ((gaugelaw1_mul.f t125 t129).bind fun t165 => ((gaugelaw1_mul.f t121 t165).bind fun t168 => ((gaugeref0_EqNat.f t162 t168).bind fun t171 => (if t171 = true then ((gaugelaw1_add.f t125 t129).bind fun t172 => ((gaugelaw1_mul.f t121 t172).bind fun t175 => ((gaugelaw1_mul.f t121 t125).bind fun t178 => ((gaugelaw1_mul.f t121 t129).bind fun t181 => ((gaugelaw1_add.f t178 t181).bind fun t184 => ((gaugeref0_EqNat.f t175 t184).bind fun t187 => (if t187 = true then ((gaugelaw1_add.f t121 t125).bind fun t188 => ((nat_Sub.f t188 t125).bind fun bt191 => ((gaugelaw1_num.f bt191.2).bind fun t195 => (if t195 = 0 then ((gaugeref0_EqNat.f bt191.1 t121).bind fun t196 => (if t196 = true then ((gaugelaw1_add.f t121 t125).bind fun t197 => ((nat_Cmp.f t197 t121).bind fun t200 => (if t200 < 0 then (none) else ((nat_From.f 1).bind fun t201 => ((gaugelaw1_mul.f t121 t201).bind fun t204 => ((gaugeref0_EqNat.f t204 t121).bind fun t207 => (if t207 = true then ((gaugelaw1_mul.f t121 ([] : List Int)).bind fun t208 => (if (t208.length : Int) > 0 then (none) else (gaugelaw1_NatLaws.l0 k1 l0 (wrap64 (x3_1 + 1))))) else (none)))))))) else (none))) else (none))))) else (none)))))))) else (none))))))) else (none))))))) else (none))))) else (none))))))))) = some r := H
            have A5 := Aside0.mk A50
            clear A50
            by_cases c6 : t119 = true
            · subst c6
              have H1 : (some true) = some r := by rw [if_pos rfl] at H; exact H
              clear H
              have H := H1
              clear H1
              obtain rfl := Option.some.inj H
              try go_wp2
              have n0_ := Aside0.mk (Kd.V_drew HO_0.out)
              have n1_ := Aside0.mk (below_drew1 HB.out)
              clear HO_0
              clear HB
              have HO_0 := n0_
              have HB := n1_
              clear n0_ n1_
              have p113 : 0 ≤ (x3_1 : Int) := of_decide_eq_true (by first | (with_reducible assumption) | assumption)
              have q113 : x3_1 < (l0.length : Int) := of_decide_eq_true (by first | (with_reducible assumption) | assumption)
              obtain ⟨ad113, A113_0, c113_0, A113_1, c113_1, A113_2, c113_2, e113, hx113_0, hx113_1, hx113_2, hl113_0, hi113_0, hl113_1, hi113_1, hl113_2, hi113_2⟩ := at_T27 (Kd.V_reads' HO_0.out).2.2 x3_1 p113 q113
              cases e113
              obtain ⟨ce113, hce113, hMe113, hcc113⟩ := Kd.V_get HO_0.out z27 x3_1 p113 (by first | exact q113 | exact of_decide_eq_true (by first | (with_reducible assumption) | assumption) | (have e_ := (Kd.V_reads' HO_0.out).1; omega))
              obtain ⟨ua113_0, uc113_0, ua113_1, uc113_1, ua113_2, uc113_2, rfl, ul113_0, ge113_0, ul113_1, ge113_1, ul113_2, ge113_2⟩ := k27_openF hMe113
              have hv113_0 := hcc113 0 _ rfl
              rw [Nat.add_zero] at hv113_0
              replace hv113_0 := Option.some.inj (hv113_0.symm.trans hx113_0)
              injection hv113_0 with hva_ hvn_ hvc_
              rw [hva_] at ge113_0
              rw [hvc_] at ul113_0
              have HL113_0 := Aside0.mk (show Kd.V (Kd.int .u64) 37 _ w.heap.size _ _ ((rd_T27 l0 x3_1).f0) from Kd.V_mk ul113_0 ge113_0)
              clear hva_ hvn_ hvc_ ge113_0 ul113_0
              have hv113_1 := hcc113 1 _ rfl
              rw [add_field _ _ 1 (by omega)] at hv113_1
              replace hv113_1 := Option.some.inj (hv113_1.symm.trans hx113_1)
              injection hv113_1 with hva_ hvn_ hvc_
              rw [hva_] at ge113_1
              rw [hvc_] at ul113_1
              have HL113_1 := Aside0.mk (show Kd.V (Kd.int .u64) 37 _ w.heap.size _ _ ((rd_T27 l0 x3_1).f1) from Kd.V_mk ul113_1 ge113_1)
              clear hva_ hvn_ hvc_ ge113_1 ul113_1
              have hv113_2 := hcc113 2 _ rfl
              rw [add_field _ _ 2 (by omega)] at hv113_2
              replace hv113_2 := Option.some.inj (hv113_2.symm.trans hx113_2)
              injection hv113_2 with hva_ hvn_ hvc_
              rw [hva_] at ge113_2
              rw [hvc_] at ul113_2
              have HL113_2 := Aside0.mk (show Kd.V (Kd.int .u64) 37 _ w.heap.size _ _ ((rd_T27 l0 x3_1).f2) from Kd.V_mk ul113_2 ge113_2)
              clear hva_ hvn_ hvc_ ge113_2 ul113_2
              clear hcc113 hce113
              have HR113_0 := Aside0.mk hi113_0
              have HC113_0 := Aside0.mk hl113_0
              clear hi113_0 hl113_0
              have HR113_1 := Aside0.mk hi113_1
              have HC113_1 := Aside0.mk hl113_1
              clear hi113_1 hl113_1
              have HR113_2 := Aside0.mk hi113_2
              have HC113_2 := Aside0.mk hl113_2
              clear hi113_2 hl113_2
              replace p113 := eq_true p113
              replace q113 := eq_true q113
              have p114 : 0 ≤ (x3_1 : Int) := of_decide_eq_true (by first | (with_reducible assumption) | assumption)
              have q114 : x3_1 < (l0.length : Int) := of_decide_eq_true (by first | (with_reducible assumption) | assumption)
              obtain ⟨ad114, A114_0, c114_0, A114_1, c114_1, A114_2, c114_2, e114, hx114_0, hx114_1, hx114_2, hl114_0, hi114_0, hl114_1, hi114_1, hl114_2, hi114_2⟩ := at_T27 (Kd.V_reads' HO_0.out).2.2 x3_1 p114 q114
              obtain rfl : ad113 = ad114 := (by injection e114)
              obtain ⟨ce114, hce114, hMe114, hcc114⟩ := Kd.V_get HO_0.out z27 x3_1 p114 (by first | exact q114 | exact of_decide_eq_true (by first | (with_reducible assumption) | assumption) | (have e_ := (Kd.V_reads' HO_0.out).1; omega))
              obtain ⟨ua114_0, uc114_0, ua114_1, uc114_1, ua114_2, uc114_2, rfl, ul114_0, ge114_0, ul114_1, ge114_1, ul114_2, ge114_2⟩ := k27_openF hMe114
              have hv114_0 := hcc114 0 _ rfl
              rw [Nat.add_zero] at hv114_0
              replace hv114_0 := Option.some.inj (hv114_0.symm.trans hx114_0)
              injection hv114_0 with hva_ hvn_ hvc_
              rw [hva_] at ge114_0
              rw [hvc_] at ul114_0
              have HL114_0 := Aside0.mk (show Kd.V (Kd.int .u64) 37 _ w.heap.size _ _ ((rd_T27 l0 x3_1).f0) from Kd.V_mk ul114_0 ge114_0)
              clear hva_ hvn_ hvc_ ge114_0 ul114_0
              have hv114_1 := hcc114 1 _ rfl
              rw [add_field _ _ 1 (by omega)] at hv114_1
              replace hv114_1 := Option.some.inj (hv114_1.symm.trans hx114_1)
              injection hv114_1 with hva_ hvn_ hvc_
              rw [hva_] at ge114_1
              rw [hvc_] at ul114_1
              have HL114_1 := Aside0.mk (show Kd.V (Kd.int .u64) 37 _ w.heap.size _ _ ((rd_T27 l0 x3_1).f1) from Kd.V_mk ul114_1 ge114_1)
              clear hva_ hvn_ hvc_ ge114_1 ul114_1
              have hv114_2 := hcc114 2 _ rfl
              rw [add_field _ _ 2 (by omega)] at hv114_2
              replace hv114_2 := Option.some.inj (hv114_2.symm.trans hx114_2)
              injection hv114_2 with hva_ hvn_ hvc_
              rw [hva_] at ge114_2
              rw [hvc_] at ul114_2
              have HL114_2 := Aside0.mk (show Kd.V (Kd.int .u64) 37 _ w.heap.size _ _ ((rd_T27 l0 x3_1).f2) from Kd.V_mk ul114_2 ge114_2)
              clear hva_ hvn_ hvc_ ge114_2 ul114_2
              clear hcc114 hce114
              have HR114_0 := Aside0.mk hi114_0
              have HC114_0 := Aside0.mk hl114_0
              clear hi114_0 hl114_0
              have HR114_1 := Aside0.mk hi114_1
              have HC114_1 := Aside0.mk hl114_1
              clear hi114_1 hl114_1
              have HR114_2 := Aside0.mk hi114_2
              have HC114_2 := Aside0.mk hl114_2
              clear hi114_2 hl114_2
              replace p114 := eq_true p114
              replace q114 := eq_true q114
              have ea_ := Option.some.inj (hx113_0.symm.trans hx114_0)
              injection ea_ with ea_ en_ ec_
              subst ea_
              subst ec_
              clear en_
              have ea_ := Option.some.inj (hx113_1.symm.trans hx114_1)
              injection ea_ with ea_ en_ ec_
              subst ea_
              subst ec_
              clear en_
              have ea_ := Option.some.inj (hx113_2.symm.trans hx114_2)
              injection ea_ with ea_ en_ ec_
              subst ea_
              subst ec_
              clear en_
              have p115 : 0 ≤ (x3_1 : Int) := of_decide_eq_true (by first | (with_reducible assumption) | assumption)
              have q115 : x3_1 < (l0.length : Int) := of_decide_eq_true (by first | (with_reducible assumption) | assumption)
              obtain ⟨ad115, A115_0, c115_0, A115_1, c115_1, A115_2, c115_2, e115, hx115_0, hx115_1, hx115_2, hl115_0, hi115_0, hl115_1, hi115_1, hl115_2, hi115_2⟩ := at_T27 (Kd.V_reads' HO_0.out).2.2 x3_1 p115 q115
              obtain rfl : ad113 = ad115 := (by injection e115)
              obtain ⟨ce115, hce115, hMe115, hcc115⟩ := Kd.V_get HO_0.out z27 x3_1 p115 (by first | exact q115 | exact of_decide_eq_true (by first | (with_reducible assumption) | assumption) | (have e_ := (Kd.V_reads' HO_0.out).1; omega))
              obtain ⟨ua115_0, uc115_0, ua115_1, uc115_1, ua115_2, uc115_2, rfl, ul115_0, ge115_0, ul115_1, ge115_1, ul115_2, ge115_2⟩ := k27_openF hMe115
              have hv115_0 := hcc115 0 _ rfl
              rw [Nat.add_zero] at hv115_0
              replace hv115_0 := Option.some.inj (hv115_0.symm.trans hx115_0)
              injection hv115_0 with hva_ hvn_ hvc_
              rw [hva_] at ge115_0
              rw [hvc_] at ul115_0
              have HL115_0 := Aside0.mk (show Kd.V (Kd.int .u64) 37 _ w.heap.size _ _ ((rd_T27 l0 x3_1).f0) from Kd.V_mk ul115_0 ge115_0)
              clear hva_ hvn_ hvc_ ge115_0 ul115_0
              have hv115_1 := hcc115 1 _ rfl
              rw [add_field _ _ 1 (by omega)] at hv115_1
              replace hv115_1 := Option.some.inj (hv115_1.symm.trans hx115_1)
              injection hv115_1 with hva_ hvn_ hvc_
              rw [hva_] at ge115_1
              rw [hvc_] at ul115_1
              have HL115_1 := Aside0.mk (show Kd.V (Kd.int .u64) 37 _ w.heap.size _ _ ((rd_T27 l0 x3_1).f1) from Kd.V_mk ul115_1 ge115_1)
              clear hva_ hvn_ hvc_ ge115_1 ul115_1
              have hv115_2 := hcc115 2 _ rfl
              rw [add_field _ _ 2 (by omega)] at hv115_2
              replace hv115_2 := Option.some.inj (hv115_2.symm.trans hx115_2)
              injection hv115_2 with hva_ hvn_ hvc_
              rw [hva_] at ge115_2
              rw [hvc_] at ul115_2
              have HL115_2 := Aside0.mk (show Kd.V (Kd.int .u64) 37 _ w.heap.size _ _ ((rd_T27 l0 x3_1).f2) from Kd.V_mk ul115_2 ge115_2)
              clear hva_ hvn_ hvc_ ge115_2 ul115_2
              clear hcc115 hce115
              have HR115_0 := Aside0.mk hi115_0
              have HC115_0 := Aside0.mk hl115_0
              clear hi115_0 hl115_0
              have HR115_1 := Aside0.mk hi115_1
              have HC115_1 := Aside0.mk hl115_1
              clear hi115_1 hl115_1
              have HR115_2 := Aside0.mk hi115_2
              have HC115_2 := Aside0.mk hl115_2
              clear hi115_2 hl115_2
              replace p115 := eq_true p115
              replace q115 := eq_true q115
              have ea_ := Option.some.inj (hx113_0.symm.trans hx115_0)
              injection ea_ with ea_ en_ ec_
              subst ea_
              subst ec_
              clear en_
              have ea_ := Option.some.inj (hx113_1.symm.trans hx115_1)
              injection ea_ with ea_ en_ ec_
              subst ea_
              subst ec_
              clear en_
              have ea_ := Option.some.inj (hx113_2.symm.trans hx115_2)
              injection ea_ with ea_ en_ ec_
              subst ea_
              subst ec_
              clear en_
              refine start_ (n := 17) (S := fun w' => w'.cell? (ad113.add ((x3_1).toNat * 3)) = some (.slice A113_0 ((rd_T27 l0 x3_1).f0).length c113_0) ∧ w'.cell? ⟨(ad113.add ((x3_1).toNat * 3)).block, (ad113.add ((x3_1).toNat * 3)).off + 1, none⟩ = some (.slice A113_1 ((rd_T27 l0 x3_1).f1).length c113_1) ∧ w'.cell? ⟨(ad113.add ((x3_1).toNat * 3)).block, (ad113.add ((x3_1).toNat * 3)).off + 2, none⟩ = some (.slice A113_2 ((rd_T27 l0 x3_1).f2).length c113_2) ∧ w'.cell? (ad113.add ((x3_1).toNat * 3)) = some (.slice A113_0 ((rd_T27 l0 x3_1).f0).length c113_0) ∧ w'.cell? ⟨(ad113.add ((x3_1).toNat * 3)).block, (ad113.add ((x3_1).toNat * 3)).off + 1, none⟩ = some (.slice A113_1 ((rd_T27 l0 x3_1).f1).length c113_1) ∧ w'.cell? ⟨(ad113.add ((x3_1).toNat * 3)).block, (ad113.add ((x3_1).toNat * 3)).off + 2, none⟩ = some (.slice A113_2 ((rd_T27 l0 x3_1).f2).length c113_2) ∧ w'.cell? (ad113.add ((x3_1).toNat * 3)) = some (.slice A113_0 ((rd_T27 l0 x3_1).f0).length c113_0) ∧ w'.cell? ⟨(ad113.add ((x3_1).toNat * 3)).block, (ad113.add ((x3_1).toNat * 3)).off + 1, none⟩ = some (.slice A113_1 ((rd_T27 l0 x3_1).f1).length c113_1) ∧ w'.cell? ⟨(ad113.add ((x3_1).toNat * 3)).block, (ad113.add ((x3_1).toNat * 3)).off + 2, none⟩ = some (.slice A113_2 ((rd_T27 l0 x3_1).f2).length c113_2)) (ds := []) #[false, false, false, false, false, false, false, false, false, false, false, false, false, false, false, false, false] (by kernel_rfl) rfl rfl ⟨hx113_0, hx113_1, hx113_2, hx114_0, hx114_1, hx114_2, hx115_0, hx115_1, hx115_2⟩ (fun hHeld => ?_); refine with_tabW gaugelaw1_NatLaws.tab4 gaugelaw1_NatLaws.bits4 (fun HT_ HW_ => ?_)
              generalize wr.drew = w7 at HO_0 HB HL113_0 HL113_1 HL113_2 HL114_0 HL114_1 HL114_2 HL115_0 HL115_1 HL115_2 HR113_0 HR113_1 HR113_2 HR114_0 HR114_1 HR114_2 HR115_0 HR115_1 HR115_2 hx113_0 hx113_1 hx113_2 hx114_0 hx114_1 hx114_2 hx115_0 hx115_1 hx115_2 hHeld ⊢
              refine pure_ (i := 0) (N := some 19) (v := ?_) (a' := ?_) #[true, false, false, false, false, false, false, false, false, false, false, false, false, false, false, false, false] rfl rfl (any_of HT_.out (by kernel_rfl)) (fun _ _ _ h => h) (Or.inl ⟨by rfl, ?_⟩) ?_ ?_
              rotate_left
              · intro w'
                go_simp
                with_reducible rfl
              rotate_left
              · simp only [Act.put, List.setIfInBounds_toArray, List.set_cons_zero, List.set_cons_succ, i64_w, i32_w]
                rfl
              refine pure_ (i := 1) (N := some 20) (v := ?_) (a' := ?_) #[true, true, false, false, false, false, false, false, false, false, false, false, false, false, false, false, false] rfl rfl (any_of HT_.out (by kernel_rfl)) (fun _ _ _ h => h) (Or.inl ⟨by rfl, ?_⟩) ?_ ?_
              rotate_left
              · intro w'
                go_simp
                with_reducible rfl
              rotate_left
              · simp only [Act.put, List.setIfInBounds_toArray, List.set_cons_zero, List.set_cons_succ, i64_w, i32_w]
                rfl
              refine pure_ (i := 2) (N := some 21) (v := ?_) (a' := ?_) #[true, true, true, false, false, false, false, false, false, false, false, false, false, false, false, false, false] rfl rfl (any_of HT_.out (by kernel_rfl)) (fun _ _ _ h => h) (Or.inl ⟨by rfl, ?_⟩) ?_ ?_
              rotate_left
              · intro w'
                go_simp
                with_reducible rfl
              rotate_left
              · simp only [Act.put, List.setIfInBounds_toArray, List.set_cons_zero, List.set_cons_succ, i64_w, i32_w]
                rfl
              refine pure_ (i := 3) (N := some 22) (v := ?_) (a' := ?_) #[true, true, true, true, false, false, false, false, false, false, false, false, false, false, false, false, false] rfl rfl (any_of HT_.out (by kernel_rfl)) (fun _ _ _ h => h) (Or.inl ⟨by rfl, ?_⟩) ?_ ?_
              rotate_left
              · intro w'
                go_simp
                with_reducible rfl
              rotate_left
              · simp only [Act.put, List.setIfInBounds_toArray, List.set_cons_zero, List.set_cons_succ, i64_w, i32_w]
                rfl
              refine pure_ (i := 5) (N := some 24) (v := ?_) (a' := ?_) #[true, true, true, true, false, true, false, false, false, false, false, false, false, false, false, false, false] rfl rfl (any_of HT_.out (by kernel_rfl)) (fun _ _ _ h => h) (Or.inl ⟨by rfl, ?_⟩) ?_ ?_
              rotate_left
              · intro w'
                go_simp
                with_reducible rfl
              rotate_left
              · simp only [Act.put, List.setIfInBounds_toArray, List.set_cons_zero, List.set_cons_succ, i64_w, i32_w]
                rfl
              refine pure_ (i := 6) (N := some 25) (v := ?_) (a' := ?_) #[true, true, true, true, false, true, true, false, false, false, false, false, false, false, false, false, false] rfl rfl (any_of HT_.out (by kernel_rfl)) (fun _ _ _ h => h) (Or.inl ⟨by rfl, ?_⟩) ?_ ?_
              rotate_left
              · intro w'
                go_simp
                with_reducible rfl
              rotate_left
              · simp only [Act.put, List.setIfInBounds_toArray, List.set_cons_zero, List.set_cons_succ, i64_w, i32_w]
                rfl
              refine pure_ (i := 7) (N := some 26) (v := ?_) (a' := ?_) #[true, true, true, true, false, true, true, true, false, false, false, false, false, false, false, false, false] rfl rfl (any_of HT_.out (by kernel_rfl)) (fun _ _ _ h => h) (Or.inl ⟨by rfl, ?_⟩) ?_ ?_
              rotate_left
              · intro w'
                go_simp
                with_reducible rfl
              rotate_left
              · simp only [Act.put, List.setIfInBounds_toArray, List.set_cons_zero, List.set_cons_succ, i64_w, i32_w]
                rfl
              refine pure_ (i := 8) (N := some 27) (v := ?_) (a' := ?_) #[true, true, true, true, false, true, true, true, true, false, false, false, false, false, false, false, false] rfl rfl (any_of HT_.out (by kernel_rfl)) (fun _ _ _ h => h) (Or.inl ⟨by rfl, ?_⟩) ?_ ?_
              rotate_left
              · intro w'
                go_simp
                with_reducible rfl
              rotate_left
              · simp only [Act.put, List.setIfInBounds_toArray, List.set_cons_zero, List.set_cons_succ, i64_w, i32_w]
                rfl
              refine pure_ (i := 10) (N := some 29) (v := ?_) (a' := ?_) #[true, true, true, true, false, true, true, true, true, false, true, false, false, false, false, false, false] rfl rfl (any_of HT_.out (by kernel_rfl)) (fun _ _ _ h => h) (Or.inl ⟨by rfl, ?_⟩) ?_ ?_
              rotate_left
              · intro w'
                go_simp
                with_reducible rfl
              rotate_left
              · simp only [Act.put, List.setIfInBounds_toArray, List.set_cons_zero, List.set_cons_succ, i64_w, i32_w]
                rfl
              refine pure_ (i := 11) (N := some 30) (v := ?_) (a' := ?_) #[true, true, true, true, false, true, true, true, true, false, true, true, false, false, false, false, false] rfl rfl (any_of HT_.out (by kernel_rfl)) (fun _ _ _ h => h) (Or.inl ⟨by rfl, ?_⟩) ?_ ?_
              rotate_left
              · intro w'
                go_simp
                with_reducible rfl
              rotate_left
              · simp only [Act.put, List.setIfInBounds_toArray, List.set_cons_zero, List.set_cons_succ, i64_w, i32_w]
                rfl
              refine pure_ (i := 12) (N := some 31) (v := ?_) (a' := ?_) #[true, true, true, true, false, true, true, true, true, false, true, true, true, false, false, false, false] rfl rfl (any_of HT_.out (by kernel_rfl)) (fun _ _ _ h => h) (Or.inl ⟨by rfl, ?_⟩) ?_ ?_
              rotate_left
              · intro w'
                go_simp
                with_reducible rfl
              rotate_left
              · simp only [Act.put, List.setIfInBounds_toArray, List.set_cons_zero, List.set_cons_succ, i64_w, i32_w]
                rfl
              refine pure_ (i := 13) (N := some 32) (v := ?_) (a' := ?_) #[true, true, true, true, false, true, true, true, true, false, true, true, true, true, false, false, false] rfl rfl (any_of HT_.out (by kernel_rfl)) (fun _ _ _ h => h) (Or.inl ⟨by rfl, ?_⟩) ?_ ?_
              rotate_left
              · intro w'
                go_simp
                with_reducible rfl
              rotate_left
              · simp only [Act.put, List.setIfInBounds_toArray, List.set_cons_zero, List.set_cons_succ, i64_w, i32_w]
                rfl
              refine take_ (i := 4) (N := some 23) (v := ?_) (a' := ?_) #[true, true, true, true, true, true, true, true, true, false, true, true, true, true, false, false, false] rfl rfl (take_ofW HT_.out HW_.out (by kernel_rfl)) (fun _ _ _ h => h) (Or.inl ⟨by rfl, ?_⟩) hHeld ?_ ?_
              rotate_left
              · rintro w' ⟨s0, s1, s2, s3, s4, s5, s6, s7, s8⟩
                go_simp
                with_reducible rfl
              rotate_left
              · simp only [Act.put, List.setIfInBounds_toArray, List.set_cons_zero, List.set_cons_succ, i64_w, i32_w]
                rfl
              refine take_ (i := 9) (N := some 28) (v := ?_) (a' := ?_) #[true, true, true, true, true, true, true, true, true, true, true, true, true, true, false, false, false] rfl rfl (take_ofW HT_.out HW_.out (by kernel_rfl)) (fun _ _ _ h => h) (Or.inl ⟨by rfl, ?_⟩) hHeld ?_ ?_
              rotate_left
              · rintro w' ⟨s0, s1, s2, s3, s4, s5, s6, s7, s8⟩
                go_simp
                with_reducible rfl
              rotate_left
              · simp only [Act.put, List.setIfInBounds_toArray, List.set_cons_zero, List.set_cons_succ, i64_w, i32_w]
                rfl
              refine take_ (i := 14) (N := some 33) (v := ?_) (a' := ?_) #[true, true, true, true, true, true, true, true, true, true, true, true, true, true, true, false, false] rfl rfl (take_ofW HT_.out HW_.out (by kernel_rfl)) (fun _ _ _ h => h) (Or.inl ⟨by rfl, ?_⟩) hHeld ?_ ?_
              rotate_left
              · rintro w' ⟨s0, s1, s2, s3, s4, s5, s6, s7, s8⟩
                go_simp
                with_reducible rfl
              rotate_left
              · simp only [Act.put, List.setIfInBounds_toArray, List.set_cons_zero, List.set_cons_succ, i64_w, i32_w]
                rfl
              refine one_ (i := 15) (N := some 34) #[true, true, true, true, true, true, true, true, true, true, true, true, true, true, true, true, false] rfl rfl (one_of HT_.out (by kernel_rfl)) (by decide) (fun K hK => ?_)
              refine Kd.N_lit_step (Kd.slice 37 (Kd.int .u64)) _ 25 ?hg (N' := 34) ?hd (xs := ([(rd_T27 l0 x3_1).f0, (rd_T27 l0 x3_1).f1, (rd_T27 l0 x3_1).f2] : List (List Int))) (inner := [.slice A113_0 ((rd_T27 l0 x3_1).f0).length c113_0, .slice A113_1 ((rd_T27 l0 x3_1).f1).length c113_1, .slice A113_2 ((rd_T27 l0 x3_1).f2).length c113_2]) (ok := (fun k_ => (P0_ k_ ∨ w.heap.size ≤ k_))) (okp := (fun k_ => (P0_ k_ ∨ w.heap.size ≤ k_))) ?hr ?hp (fun _ hk => hk) ((show ∀ k_, w7.heap.size ≤ k_ → (fun k_ => (P0_ k_ ∨ w.heap.size ≤ k_)) k_ from fun k_ hk => (.inr (Nat.le_trans (below_size (by repeat (first | (with_reducible first | exact HB.out | apply below_alloc | apply pw_below_drewN | apply below_drew1) | exact HB.out))) hk))) _ (Nat.le_refl _)) (Below.refl _ _) (Nat.le_refl _) (by simp) ?_; (case hd => rfl); (case hg => rfl); (case hr => first | (go_simp; done) | (go_simp; rfl)); (case hp => exact (Reps.one (show Kd.FK (Kd.slice 37 (Kd.int .u64)) _ _ ((rd_T27 l0 x3_1).f0) [.slice A113_0 ((rd_T27 l0 x3_1).f0).length c113_0] from (Kd.FK_slice_mk (Kd.V_reads' (Kd.V_mono (ok' := (fun k_ => (P0_ k_ ∨ w.heap.size ≤ k_))) (HL113_0.out) (fun k_ hk => hk))).2.1 (Kd.V_F (Kd.V_mono (ok' := (fun k_ => (P0_ k_ ∨ w.heap.size ≤ k_))) (HL113_0.out) (fun k_ hk => hk))))) (Reps.one (show Kd.FK (Kd.slice 37 (Kd.int .u64)) _ _ ((rd_T27 l0 x3_1).f1) [.slice A113_1 ((rd_T27 l0 x3_1).f1).length c113_1] from (Kd.FK_slice_mk (Kd.V_reads' (Kd.V_mono (ok' := (fun k_ => (P0_ k_ ∨ w.heap.size ≤ k_))) (HL114_1.out) (fun k_ hk => hk))).2.1 (Kd.V_F (Kd.V_mono (ok' := (fun k_ => (P0_ k_ ∨ w.heap.size ≤ k_))) (HL114_1.out) (fun k_ hk => hk))))) (Reps.one (show Kd.FK (Kd.slice 37 (Kd.int .u64)) _ _ ((rd_T27 l0 x3_1).f2) [.slice A113_2 ((rd_T27 l0 x3_1).f2).length c113_2] from (Kd.FK_slice_mk (Kd.V_reads' (Kd.V_mono (ok' := (fun k_ => (P0_ k_ ∨ w.heap.size ≤ k_))) (HL115_2.out) (fun k_ hk => hk))).2.1 (Kd.V_F (Kd.V_mono (ok' := (fun k_ => (P0_ k_ ∨ w.heap.size ≤ k_))) (HL115_2.out) (fun k_ hk => hk))))) (Reps.none _ _)))))
              intro v117 w8 ho9 hb hg_ hnew_
              have HS0_ := (hb.cell (World.block_lt_of_cell? _ _ (hHeld.1))).trans (hHeld.1)
              have HS1_ := (hb.cell (World.block_lt_of_cell? _ _ (hHeld.2.1))).trans (hHeld.2.1)
              have HS2_ := (hb.cell (World.block_lt_of_cell? _ _ (hHeld.2.2.1))).trans (hHeld.2.2.1)
              have HS3_ := (hb.cell (World.block_lt_of_cell? _ _ (hHeld.2.2.2.1))).trans (hHeld.2.2.2.1)
              have HS4_ := (hb.cell (World.block_lt_of_cell? _ _ (hHeld.2.2.2.2.1))).trans (hHeld.2.2.2.2.1)
              have HS5_ := (hb.cell (World.block_lt_of_cell? _ _ (hHeld.2.2.2.2.2.1))).trans (hHeld.2.2.2.2.2.1)
              have HS6_ := (hb.cell (World.block_lt_of_cell? _ _ (hHeld.2.2.2.2.2.2.1))).trans (hHeld.2.2.2.2.2.2.1)
              have HS7_ := (hb.cell (World.block_lt_of_cell? _ _ (hHeld.2.2.2.2.2.2.2.1))).trans (hHeld.2.2.2.2.2.2.2.1)
              have HS8_ := (hb.cell (World.block_lt_of_cell? _ _ (hHeld.2.2.2.2.2.2.2.2))).trans (hHeld.2.2.2.2.2.2.2.2)
              clear hg_ hnew_
              (first | rw [← Ny116.out] at ho9 | (simp only [Int.reduceToNat] at ho9; rw [← Ny116.out] at ho9))
              have n0_ := Aside0.mk (Kd.V_elder' (by (with_reducible repeat (first | apply Kd.V_alloc | apply Kd.V_drewN | apply Kd.V_drew)); exact HO_0.out) (Kd.N_base ho9) hb)
              have n1_ := Aside0.mk (Kd.V_elder' (by (with_reducible repeat (first | apply Kd.V_alloc | apply Kd.V_drewN | apply Kd.V_drew)); exact HL113_0.out) (Kd.N_base ho9) hb)
              have n2_ := Aside0.mk (Kd.V_elder' (by (with_reducible repeat (first | apply Kd.V_alloc | apply Kd.V_drewN | apply Kd.V_drew)); exact HL113_1.out) (Kd.N_base ho9) hb)
              have n3_ := Aside0.mk (Kd.V_elder' (by (with_reducible repeat (first | apply Kd.V_alloc | apply Kd.V_drewN | apply Kd.V_drew)); exact HL113_2.out) (Kd.N_base ho9) hb)
              have n4_ := Aside0.mk (Kd.V_elder' (by (with_reducible repeat (first | apply Kd.V_alloc | apply Kd.V_drewN | apply Kd.V_drew)); exact HL114_0.out) (Kd.N_base ho9) hb)
              have n5_ := Aside0.mk (Kd.V_elder' (by (with_reducible repeat (first | apply Kd.V_alloc | apply Kd.V_drewN | apply Kd.V_drew)); exact HL114_1.out) (Kd.N_base ho9) hb)
              have n6_ := Aside0.mk (Kd.V_elder' (by (with_reducible repeat (first | apply Kd.V_alloc | apply Kd.V_drewN | apply Kd.V_drew)); exact HL114_2.out) (Kd.N_base ho9) hb)
              have n7_ := Aside0.mk (Kd.V_elder' (by (with_reducible repeat (first | apply Kd.V_alloc | apply Kd.V_drewN | apply Kd.V_drew)); exact HL115_0.out) (Kd.N_base ho9) hb)
              have n8_ := Aside0.mk (Kd.V_elder' (by (with_reducible repeat (first | apply Kd.V_alloc | apply Kd.V_drewN | apply Kd.V_drew)); exact HL115_1.out) (Kd.N_base ho9) hb)
              have n9_ := Aside0.mk (Kd.V_elder' (by (with_reducible repeat (first | apply Kd.V_alloc | apply Kd.V_drewN | apply Kd.V_drew)); exact HL115_2.out) (Kd.N_base ho9) hb)
              have n10_ := Aside0.mk (Kd.N_lower ho9 (below_size (by repeat (first | (with_reducible first | exact HB.out | apply below_alloc | apply pw_below_drewN | apply below_drew1) | exact HB.out))))
              have n11_ := Aside0.mk (Kd.C_below (by repeat (first | (with_reducible exact HR113_0.out) | (with_reducible refine Kd.C_alloc ?_ _) | (with_reducible refine Kd.C_drewN ?_ _) | (with_reducible refine Kd.C_drew ?_) | exact HR113_0.out)) hb)
              have n12_ := Aside0.mk (Kd.C_below (by repeat (first | (with_reducible exact HR113_1.out) | (with_reducible refine Kd.C_alloc ?_ _) | (with_reducible refine Kd.C_drewN ?_ _) | (with_reducible refine Kd.C_drew ?_) | exact HR113_1.out)) hb)
              have n13_ := Aside0.mk (Kd.C_below (by repeat (first | (with_reducible exact HR113_2.out) | (with_reducible refine Kd.C_alloc ?_ _) | (with_reducible refine Kd.C_drewN ?_ _) | (with_reducible refine Kd.C_drew ?_) | exact HR113_2.out)) hb)
              have n14_ := Aside0.mk (Kd.C_below (by repeat (first | (with_reducible exact HR114_0.out) | (with_reducible refine Kd.C_alloc ?_ _) | (with_reducible refine Kd.C_drewN ?_ _) | (with_reducible refine Kd.C_drew ?_) | exact HR114_0.out)) hb)
              have n15_ := Aside0.mk (Kd.C_below (by repeat (first | (with_reducible exact HR114_1.out) | (with_reducible refine Kd.C_alloc ?_ _) | (with_reducible refine Kd.C_drewN ?_ _) | (with_reducible refine Kd.C_drew ?_) | exact HR114_1.out)) hb)
              have n16_ := Aside0.mk (Kd.C_below (by repeat (first | (with_reducible exact HR114_2.out) | (with_reducible refine Kd.C_alloc ?_ _) | (with_reducible refine Kd.C_drewN ?_ _) | (with_reducible refine Kd.C_drew ?_) | exact HR114_2.out)) hb)
              have n17_ := Aside0.mk (Kd.C_below (by repeat (first | (with_reducible exact HR115_0.out) | (with_reducible refine Kd.C_alloc ?_ _) | (with_reducible refine Kd.C_drewN ?_ _) | (with_reducible refine Kd.C_drew ?_) | exact HR115_0.out)) hb)
              have n18_ := Aside0.mk (Kd.C_below (by repeat (first | (with_reducible exact HR115_1.out) | (with_reducible refine Kd.C_alloc ?_ _) | (with_reducible refine Kd.C_drewN ?_ _) | (with_reducible refine Kd.C_drew ?_) | exact HR115_1.out)) hb)
              have n19_ := Aside0.mk (Kd.C_below (by repeat (first | (with_reducible exact HR115_2.out) | (with_reducible refine Kd.C_alloc ?_ _) | (with_reducible refine Kd.C_drewN ?_ _) | (with_reducible refine Kd.C_drew ?_) | exact HR115_2.out)) hb)
              have n20_ := Aside0.mk (below_step (by repeat (first | (with_reducible first | exact HB.out | apply below_alloc | apply pw_below_drewN | apply below_drew1) | exact HB.out)) hb)
              clear HO_0
              clear HL113_0
              clear HL113_1
              clear HL113_2
              clear HL114_0
              clear HL114_1
              clear HL114_2
              clear HL115_0
              clear HL115_1
              clear HL115_2
              clear HR113_0
              clear HR113_1
              clear HR113_2
              clear HR114_0
              clear HR114_1
              clear HR114_2
              clear HR115_0
              clear HR115_1
              clear HR115_2
              clear HB
              have HO_0 := n0_
              have HL113_0 := n1_
              have HL113_1 := n2_
              have HL113_2 := n3_
              have HL114_0 := n4_
              have HL114_1 := n5_
              have HL114_2 := n6_
              have HL115_0 := n7_
              have HL115_1 := n8_
              have HL115_2 := n9_
              have HO118 := n10_
              have HR113_0 := n11_
              have HR113_1 := n12_
              have HR113_2 := n13_
              have HR114_0 := n14_
              have HR114_1 := n15_
              have HR114_2 := n16_
              have HR115_0 := n17_
              have HR115_1 := n18_
              have HR115_2 := n19_
              have HB := n20_
              clear n0_ n1_ n2_ n3_ n4_ n5_ n6_ n7_ n8_ n9_ n10_ n11_ n12_ n13_ n14_ n15_ n16_ n17_ n18_ n19_ n20_
              clear hb ho9
              obtain ⟨Ao10, co10, eo10⟩ := Kd.N_slice HO118.out
              (first | subst eo10 | (injection eo10 with f1_ f2_ f3_; have f4_ := f1_.symm; have f5_ := f3_.symm; clear f1_ f2_ f3_; subst f4_; subst f5_))
              refine hK.out _ _ ⟨HS0_, HS1_, HS2_, HS3_, HS4_, HS5_, HS6_, HS7_, HS8_⟩ (fun hHeld => ?_)
              clear hK K
              refine norm_ (a' := ?_) ?_ ?_
              rotate_left
              · show Act.put _ (some 34) _ = _
                simp only [Act.put, List.setIfInBounds_toArray, List.set_cons_zero, List.set_cons_succ, i64_w, i32_w]
                rfl
              refine one_ (i := 16) (N := some 35) #[true, true, true, true, true, true, true, true, true, true, true, true, true, true, true, true, true] rfl rfl (one_of HT_.out (by kernel_rfl)) (by decide) (fun K hK => ?_)
              refine goes_ Try.func8 (by kernel_rfl) rfl #[.int .i64 300, .slice Ao10 y116.length co10] (by rfl) rfl rfl (by (try simp only [List.map_toArray, List.map_cons, List.map_nil]); first | done | rfl | (simp only [List.length_drop, List.length_take]; rfl)) ?_
              with_reducible refine (gaugelaw0_Limbs.calls k1 300 _ _ y116 true _ ?side1 ?side2 A5.out).mono ?_
              (case side1 => repeat (first | exact (Kd.N_reads' HO118.out).2.2 | (with_reducible refine Kd.C_alloc ?_ _) | (with_reducible refine Kd.C_drewN ?_ _) | (with_reducible refine Kd.C_drew ?_)))
              (case side2 => exact (Kd.N_reads' HO118.out).2.1)
              rintro e w' ⟨rfl, ⟨nd, rfl⟩⟩
              refine ⟨_, rfl, ?_⟩
              refine hK.out _ _ ⟨hHeld.1, hHeld.2.1, hHeld.2.2.1, hHeld.2.2.2.1, hHeld.2.2.2.2.1, hHeld.2.2.2.2.2.1, hHeld.2.2.2.2.2.2.1, hHeld.2.2.2.2.2.2.2.1, hHeld.2.2.2.2.2.2.2.2⟩ (fun hHeld => ?_)
              clear hK K
              refine norm_ (a' := ?_) ?_ ?_
              rotate_left
              · show Act.put _ (some 35) _ = _
                simp only [Act.put, List.setIfInBounds_toArray, List.set_cons_zero, List.set_cons_succ, i64_w, i32_w]
                rfl
              refine done_ (done_of HT_.out (by kernel_rfl)) ?_
              (repeat clear hHeld)
              (try clear HS0_ HS1_ HS2_ HS3_ HS4_ HS5_ HS6_ HS7_ HS8_)
              (try clear HS0_ HS1_ HS2_ HS3_)
              try go_wp2
              go_ret
              exact ⟨by first | rfl | (simp [errW_none, errW_some] <;> rfl) | (simp [*, errW_none, errW_some] <;> rfl), by repeat (first | (with_reducible first | exact HB.out | apply below_alloc | apply pw_below_drewN | apply below_drew1) | exact HB.out)⟩
            · replace c6 := Bool.eq_false_iff.mpr c6
              subst c6
              have H1 : ((gaugeref1_Trim.f k1 ((rd_T27 l0 x3_1).f0)).bind fun t121 => ((gaugeref1_Trim.f k1 ((rd_T27 l0 x3_1).f1)).bind fun t125 => ((gaugeref1_Trim.f k1 ((rd_T27 l0 x3_1).f2)).bind fun t129 => ((gaugelaw1_add.f t121 t125).bind fun t132 => ((gaugelaw1_add.f t125 t121).bind fun t135 => ((gaugeref0_EqNat.f t132 t135).bind fun t138 => (if t138 = true then ((gaugelaw1_mul.f t121 t125).bind fun t139 => ((gaugelaw1_mul.f t125 t121).bind fun t142 => ((gaugeref0_EqNat.f t139 t142).bind fun t145 => (if t145 = true then ((gaugelaw1_add.f t121 t125).bind fun t146 => ((gaugelaw1_add.f t146 t129).bind fun t149 => ((gaugelaw1_add.f t125 t129).bind fun t152 => ((gaugelaw1_add.f t121 t152).bind fun t155 => ((gaugeref0_EqNat.f t149 t155).bind fun t158 => (if t158 = true then ((gaugelaw1_mul.f t121 t125).bind fun t159 => ((gaugelaw1_mul.f t159 t129).bind fun t162 => ((gaugelaw1_mul.f t125 t129).bind fun t165 => ((gaugelaw1_mul.f t121 t165).bind fun t168 => ((gaugeref0_EqNat.f t162 t168).bind fun t171 => (if t171 = true then ((gaugelaw1_add.f t125 t129).bind fun t172 => ((gaugelaw1_mul.f t121 t172).bind fun t175 => ((gaugelaw1_mul.f t121 t125).bind fun t178 => ((gaugelaw1_mul.f t121 t129).bind fun t181 => ((gaugelaw1_add.f t178 t181).bind fun t184 => ((gaugeref0_EqNat.f t175 t184).bind fun t187 => (if t187 = true then ((gaugelaw1_add.f t121 t125).bind fun t188 => ((nat_Sub.f t188 t125).bind fun bt191 => ((gaugelaw1_num.f bt191.2).bind fun t195 => (if t195 = 0 then ((gaugeref0_EqNat.f bt191.1 t121).bind fun t196 => (if t196 = true then ((gaugelaw1_add.f t121 t125).bind fun t197 => ((nat_Cmp.f t197 t121).bind fun t200 => (if t200 < 0 then (none) else ((nat_From.f 1).bind fun t201 => ((gaugelaw1_mul.f t121 t201).bind fun t204 => ((gaugeref0_EqNat.f t204 t121).bind fun t207 => (if t207 = true then ((gaugelaw1_mul.f t121 ([] : List Int)).bind fun t208 => (if (t208.length : Int) > 0 then (none) else (gaugelaw1_NatLaws.l0 k1 l0 (wrap64 (x3_1 + 1))))) else (none)))))))) else (none))) else (none))))) else (none)))))))) else (none))))))) else (none))))))) else (none))))) else (none)))))))) = some r := by rw [if_neg (show ¬ (false = true) by decide)] at H; exact H
              clear H
              have H := H1
              clear H1
              replace H := Option.bind_eq_some_iff.mp H
              obtain ⟨t121, A110, H⟩ := H
              replace H : ((gaugeref1_Trim.f k1 ((rd_T27 l0 x3_1).f1)).bind fun t125 => ((gaugeref1_Trim.f k1 ((rd_T27 l0 x3_1).f2)).bind fun t129 => ((gaugelaw1_add.f t121 t125).bind fun t132 => ((gaugelaw1_add.f t125 t121).bind fun t135 => ((gaugeref0_EqNat.f t132 t135).bind fun t138 => (if t138 = true then ((gaugelaw1_mul.f t121 t125).bind fun t139 => ((gaugelaw1_mul.f t125 t121).bind fun t142 => ((gaugeref0_EqNat.f t139 t142).bind fun t145 => (if t145 = true then ((gaugelaw1_add.f t121 t125).bind fun t146 => ((gaugelaw1_add.f t146 t129).bind fun t149 => ((gaugelaw1_add.f t125 t129).bind fun t152 => ((gaugelaw1_add.f t121 t152).bind fun t155 => ((gaugeref0_EqNat.f t149 t155).bind fun t158 => (if t158 = true then ((gaugelaw1_mul.f t121 t125).bind fun t159 => ((gaugelaw1_mul.f t159 t129).bind fun t162 => ((gaugelaw1_mul.f t125 t129).bind fun t165 => ((gaugelaw1_mul.f t121 t165).bind fun t168 => ((gaugeref0_EqNat.f t162 t168).bind fun t171 => (if t171 = true then ((gaugelaw1_add.f t125 t129).bind fun t172 => ((gaugelaw1_mul.f t121 t172).bind fun t175 => ((gaugelaw1_mul.f t121 t125).bind fun t178 => ((gaugelaw1_mul.f t121 t129).bind fun t181 => ((gaugelaw1_add.f t178 t181).bind fun t184 => ((gaugeref0_EqNat.f t175 t184).bind fun t187 => (if t187 = true then ((gaugelaw1_add.f t121 t125).bind fun t188 => ((nat_Sub.f t188 t125).bind fun bt191 => ((gaugelaw1_num.f bt191.2).bind fun t195 => (if t195 = 0 then ((gaugeref0_EqNat.f bt191.1 t121).bind fun t196 => (if t196 = true then ((gaugelaw1_add.f t121 t125).bind fun t197 => ((nat_Cmp.f t197 t121).bind fun t200 => (if t200 < 0 then (none) else ((nat_From.f 1).bind fun t201 => ((gaugelaw1_mul.f t121 t201).bind fun t204 => ((gaugeref0_EqNat.f t204 t121).bind fun t207 => (if t207 = true then ((gaugelaw1_mul.f t121 ([] : List Int)).bind fun t208 => (if (t208.length : Int) > 0 then (none) else (gaugelaw1_NatLaws.l0 k1 l0 (wrap64 (x3_1 + 1))))) else (none)))))))) else (none))) else (none))))) else (none)))))))) else (none))))))) else (none))))))) else (none))))) else (none))))))) = some r := H
              have A11 := Aside0.mk A110
              clear A110
              replace H := Option.bind_eq_some_iff.mp H
              obtain ⟨t125, A120, H⟩ := H
              replace H : ((gaugeref1_Trim.f k1 ((rd_T27 l0 x3_1).f2)).bind fun t129 => ((gaugelaw1_add.f t121 t125).bind fun t132 => ((gaugelaw1_add.f t125 t121).bind fun t135 => ((gaugeref0_EqNat.f t132 t135).bind fun t138 => (if t138 = true then ((gaugelaw1_mul.f t121 t125).bind fun t139 => ((gaugelaw1_mul.f t125 t121).bind fun t142 => ((gaugeref0_EqNat.f t139 t142).bind fun t145 => (if t145 = true then ((gaugelaw1_add.f t121 t125).bind fun t146 => ((gaugelaw1_add.f t146 t129).bind fun t149 => ((gaugelaw1_add.f t125 t129).bind fun t152 => ((gaugelaw1_add.f t121 t152).bind fun t155 => ((gaugeref0_EqNat.f t149 t155).bind fun t158 => (if t158 = true then ((gaugelaw1_mul.f t121 t125).bind fun t159 => ((gaugelaw1_mul.f t159 t129).bind fun t162 => ((gaugelaw1_mul.f t125 t129).bind fun t165 => ((gaugelaw1_mul.f t121 t165).bind fun t168 => ((gaugeref0_EqNat.f t162 t168).bind fun t171 => (if t171 = true then ((gaugelaw1_add.f t125 t129).bind fun t172 => ((gaugelaw1_mul.f t121 t172).bind fun t175 => ((gaugelaw1_mul.f t121 t125).bind fun t178 => ((gaugelaw1_mul.f t121 t129).bind fun t181 => ((gaugelaw1_add.f t178 t181).bind fun t184 => ((gaugeref0_EqNat.f t175 t184).bind fun t187 => (if t187 = true then ((gaugelaw1_add.f t121 t125).bind fun t188 => ((nat_Sub.f t188 t125).bind fun bt191 => ((gaugelaw1_num.f bt191.2).bind fun t195 => (if t195 = 0 then ((gaugeref0_EqNat.f bt191.1 t121).bind fun t196 => (if t196 = true then ((gaugelaw1_add.f t121 t125).bind fun t197 => ((nat_Cmp.f t197 t121).bind fun t200 => (if t200 < 0 then (none) else ((nat_From.f 1).bind fun t201 => ((gaugelaw1_mul.f t121 t201).bind fun t204 => ((gaugeref0_EqNat.f t204 t121).bind fun t207 => (if t207 = true then ((gaugelaw1_mul.f t121 ([] : List Int)).bind fun t208 => (if (t208.length : Int) > 0 then (none) else (gaugelaw1_NatLaws.l0 k1 l0 (wrap64 (x3_1 + 1))))) else (none)))))))) else (none))) else (none))))) else (none)))))))) else (none))))))) else (none))))))) else (none))))) else (none)))))) = some r := H
              have A12 := Aside0.mk A120
              clear A120
              replace H := Option.bind_eq_some_iff.mp H
              obtain ⟨t129, A130, H⟩ := H
              replace H : ((gaugelaw1_add.f t121 t125).bind fun t132 => ((gaugelaw1_add.f t125 t121).bind fun t135 => ((gaugeref0_EqNat.f t132 t135).bind fun t138 => (if t138 = true then ((gaugelaw1_mul.f t121 t125).bind fun t139 => ((gaugelaw1_mul.f t125 t121).bind fun t142 => ((gaugeref0_EqNat.f t139 t142).bind fun t145 => (if t145 = true then ((gaugelaw1_add.f t121 t125).bind fun t146 => ((gaugelaw1_add.f t146 t129).bind fun t149 => ((gaugelaw1_add.f t125 t129).bind fun t152 => ((gaugelaw1_add.f t121 t152).bind fun t155 => ((gaugeref0_EqNat.f t149 t155).bind fun t158 => (if t158 = true then ((gaugelaw1_mul.f t121 t125).bind fun t159 => ((gaugelaw1_mul.f t159 t129).bind fun t162 => ((gaugelaw1_mul.f t125 t129).bind fun t165 => ((gaugelaw1_mul.f t121 t165).bind fun t168 => ((gaugeref0_EqNat.f t162 t168).bind fun t171 => (if t171 = true then ((gaugelaw1_add.f t125 t129).bind fun t172 => ((gaugelaw1_mul.f t121 t172).bind fun t175 => ((gaugelaw1_mul.f t121 t125).bind fun t178 => ((gaugelaw1_mul.f t121 t129).bind fun t181 => ((gaugelaw1_add.f t178 t181).bind fun t184 => ((gaugeref0_EqNat.f t175 t184).bind fun t187 => (if t187 = true then ((gaugelaw1_add.f t121 t125).bind fun t188 => ((nat_Sub.f t188 t125).bind fun bt191 => ((gaugelaw1_num.f bt191.2).bind fun t195 => (if t195 = 0 then ((gaugeref0_EqNat.f bt191.1 t121).bind fun t196 => (if t196 = true then ((gaugelaw1_add.f t121 t125).bind fun t197 => ((nat_Cmp.f t197 t121).bind fun t200 => (if t200 < 0 then (none) else ((nat_From.f 1).bind fun t201 => ((gaugelaw1_mul.f t121 t201).bind fun t204 => ((gaugeref0_EqNat.f t204 t121).bind fun t207 => (if t207 = true then ((gaugelaw1_mul.f t121 ([] : List Int)).bind fun t208 => (if (t208.length : Int) > 0 then (none) else (gaugelaw1_NatLaws.l0 k1 l0 (wrap64 (x3_1 + 1))))) else (none)))))))) else (none))) else (none))))) else (none)))))))) else (none))))))) else (none))))))) else (none))))) else (none))))) = some r := H
              have A13 := Aside0.mk A130
              clear A130
              replace H := Option.bind_eq_some_iff.mp H
              obtain ⟨t132, A140, H⟩ := H
              replace H : ((gaugelaw1_add.f t125 t121).bind fun t135 => ((gaugeref0_EqNat.f t132 t135).bind fun t138 => (if t138 = true then ((gaugelaw1_mul.f t121 t125).bind fun t139 => ((gaugelaw1_mul.f t125 t121).bind fun t142 => ((gaugeref0_EqNat.f t139 t142).bind fun t145 => (if t145 = true then ((gaugelaw1_add.f t121 t125).bind fun t146 => ((gaugelaw1_add.f t146 t129).bind fun t149 => ((gaugelaw1_add.f t125 t129).bind fun t152 => ((gaugelaw1_add.f t121 t152).bind fun t155 => ((gaugeref0_EqNat.f t149 t155).bind fun t158 => (if t158 = true then ((gaugelaw1_mul.f t121 t125).bind fun t159 => ((gaugelaw1_mul.f t159 t129).bind fun t162 => ((gaugelaw1_mul.f t125 t129).bind fun t165 => ((gaugelaw1_mul.f t121 t165).bind fun t168 => ((gaugeref0_EqNat.f t162 t168).bind fun t171 => (if t171 = true then ((gaugelaw1_add.f t125 t129).bind fun t172 => ((gaugelaw1_mul.f t121 t172).bind fun t175 => ((gaugelaw1_mul.f t121 t125).bind fun t178 => ((gaugelaw1_mul.f t121 t129).bind fun t181 => ((gaugelaw1_add.f t178 t181).bind fun t184 => ((gaugeref0_EqNat.f t175 t184).bind fun t187 => (if t187 = true then ((gaugelaw1_add.f t121 t125).bind fun t188 => ((nat_Sub.f t188 t125).bind fun bt191 => ((gaugelaw1_num.f bt191.2).bind fun t195 => (if t195 = 0 then ((gaugeref0_EqNat.f bt191.1 t121).bind fun t196 => (if t196 = true then ((gaugelaw1_add.f t121 t125).bind fun t197 => ((nat_Cmp.f t197 t121).bind fun t200 => (if t200 < 0 then (none) else ((nat_From.f 1).bind fun t201 => ((gaugelaw1_mul.f t121 t201).bind fun t204 => ((gaugeref0_EqNat.f t204 t121).bind fun t207 => (if t207 = true then ((gaugelaw1_mul.f t121 ([] : List Int)).bind fun t208 => (if (t208.length : Int) > 0 then (none) else (gaugelaw1_NatLaws.l0 k1 l0 (wrap64 (x3_1 + 1))))) else (none)))))))) else (none))) else (none))))) else (none)))))))) else (none))))))) else (none))))))) else (none))))) else (none)))) = some r := H
              have A14 := Aside0.mk A140
              clear A140
              replace H := Option.bind_eq_some_iff.mp H
              obtain ⟨t135, A150, H⟩ := H
              replace H : ((gaugeref0_EqNat.f t132 t135).bind fun t138 => (if t138 = true then ((gaugelaw1_mul.f t121 t125).bind fun t139 => ((gaugelaw1_mul.f t125 t121).bind fun t142 => ((gaugeref0_EqNat.f t139 t142).bind fun t145 => (if t145 = true then ((gaugelaw1_add.f t121 t125).bind fun t146 => ((gaugelaw1_add.f t146 t129).bind fun t149 => ((gaugelaw1_add.f t125 t129).bind fun t152 => ((gaugelaw1_add.f t121 t152).bind fun t155 => ((gaugeref0_EqNat.f t149 t155).bind fun t158 => (if t158 = true then ((gaugelaw1_mul.f t121 t125).bind fun t159 => ((gaugelaw1_mul.f t159 t129).bind fun t162 => ((gaugelaw1_mul.f t125 t129).bind fun t165 => ((gaugelaw1_mul.f t121 t165).bind fun t168 => ((gaugeref0_EqNat.f t162 t168).bind fun t171 => (if t171 = true then ((gaugelaw1_add.f t125 t129).bind fun t172 => ((gaugelaw1_mul.f t121 t172).bind fun t175 => ((gaugelaw1_mul.f t121 t125).bind fun t178 => ((gaugelaw1_mul.f t121 t129).bind fun t181 => ((gaugelaw1_add.f t178 t181).bind fun t184 => ((gaugeref0_EqNat.f t175 t184).bind fun t187 => (if t187 = true then ((gaugelaw1_add.f t121 t125).bind fun t188 => ((nat_Sub.f t188 t125).bind fun bt191 => ((gaugelaw1_num.f bt191.2).bind fun t195 => (if t195 = 0 then ((gaugeref0_EqNat.f bt191.1 t121).bind fun t196 => (if t196 = true then ((gaugelaw1_add.f t121 t125).bind fun t197 => ((nat_Cmp.f t197 t121).bind fun t200 => (if t200 < 0 then (none) else ((nat_From.f 1).bind fun t201 => ((gaugelaw1_mul.f t121 t201).bind fun t204 => ((gaugeref0_EqNat.f t204 t121).bind fun t207 => (if t207 = true then ((gaugelaw1_mul.f t121 ([] : List Int)).bind fun t208 => (if (t208.length : Int) > 0 then (none) else (gaugelaw1_NatLaws.l0 k1 l0 (wrap64 (x3_1 + 1))))) else (none)))))))) else (none))) else (none))))) else (none)))))))) else (none))))))) else (none))))))) else (none))))) else (none))) = some r := H
              have A15 := Aside0.mk A150
              clear A150
              replace H := Option.bind_eq_some_iff.mp H
              obtain ⟨t138, A160, H⟩ := H
              replace H : (if t138 = true then ((gaugelaw1_mul.f t121 t125).bind fun t139 => ((gaugelaw1_mul.f t125 t121).bind fun t142 => ((gaugeref0_EqNat.f t139 t142).bind fun t145 => (if t145 = true then ((gaugelaw1_add.f t121 t125).bind fun t146 => ((gaugelaw1_add.f t146 t129).bind fun t149 => ((gaugelaw1_add.f t125 t129).bind fun t152 => ((gaugelaw1_add.f t121 t152).bind fun t155 => ((gaugeref0_EqNat.f t149 t155).bind fun t158 => (if t158 = true then ((gaugelaw1_mul.f t121 t125).bind fun t159 => ((gaugelaw1_mul.f t159 t129).bind fun t162 => ((gaugelaw1_mul.f t125 t129).bind fun t165 => ((gaugelaw1_mul.f t121 t165).bind fun t168 => ((gaugeref0_EqNat.f t162 t168).bind fun t171 => (if t171 = true then ((gaugelaw1_add.f t125 t129).bind fun t172 => ((gaugelaw1_mul.f t121 t172).bind fun t175 => ((gaugelaw1_mul.f t121 t125).bind fun t178 => ((gaugelaw1_mul.f t121 t129).bind fun t181 => ((gaugelaw1_add.f t178 t181).bind fun t184 => ((gaugeref0_EqNat.f t175 t184).bind fun t187 => (if t187 = true then ((gaugelaw1_add.f t121 t125).bind fun t188 => ((nat_Sub.f t188 t125).bind fun bt191 => ((gaugelaw1_num.f bt191.2).bind fun t195 => (if t195 = 0 then ((gaugeref0_EqNat.f bt191.1 t121).bind fun t196 => (if t196 = true then ((gaugelaw1_add.f t121 t125).bind fun t197 => ((nat_Cmp.f t197 t121).bind fun t200 => (if t200 < 0 then (none) else ((nat_From.f 1).bind fun t201 => ((gaugelaw1_mul.f t121 t201).bind fun t204 => ((gaugeref0_EqNat.f t204 t121).bind fun t207 => (if t207 = true then ((gaugelaw1_mul.f t121 ([] : List Int)).bind fun t208 => (if (t208.length : Int) > 0 then (none) else (gaugelaw1_NatLaws.l0 k1 l0 (wrap64 (x3_1 + 1))))) else (none)))))))) else (none))) else (none))))) else (none)))))))) else (none))))))) else (none))))))) else (none))))) else (none)) = some r := H
              have A16 := Aside0.mk A160
              clear A160
              by_cases c17 : t138 = true
              · subst c17
                have H1 : ((gaugelaw1_mul.f t121 t125).bind fun t139 => ((gaugelaw1_mul.f t125 t121).bind fun t142 => ((gaugeref0_EqNat.f t139 t142).bind fun t145 => (if t145 = true then ((gaugelaw1_add.f t121 t125).bind fun t146 => ((gaugelaw1_add.f t146 t129).bind fun t149 => ((gaugelaw1_add.f t125 t129).bind fun t152 => ((gaugelaw1_add.f t121 t152).bind fun t155 => ((gaugeref0_EqNat.f t149 t155).bind fun t158 => (if t158 = true then ((gaugelaw1_mul.f t121 t125).bind fun t159 => ((gaugelaw1_mul.f t159 t129).bind fun t162 => ((gaugelaw1_mul.f t125 t129).bind fun t165 => ((gaugelaw1_mul.f t121 t165).bind fun t168 => ((gaugeref0_EqNat.f t162 t168).bind fun t171 => (if t171 = true then ((gaugelaw1_add.f t125 t129).bind fun t172 => ((gaugelaw1_mul.f t121 t172).bind fun t175 => ((gaugelaw1_mul.f t121 t125).bind fun t178 => ((gaugelaw1_mul.f t121 t129).bind fun t181 => ((gaugelaw1_add.f t178 t181).bind fun t184 => ((gaugeref0_EqNat.f t175 t184).bind fun t187 => (if t187 = true then ((gaugelaw1_add.f t121 t125).bind fun t188 => ((nat_Sub.f t188 t125).bind fun bt191 => ((gaugelaw1_num.f bt191.2).bind fun t195 => (if t195 = 0 then ((gaugeref0_EqNat.f bt191.1 t121).bind fun t196 => (if t196 = true then ((gaugelaw1_add.f t121 t125).bind fun t197 => ((nat_Cmp.f t197 t121).bind fun t200 => (if t200 < 0 then (none) else ((nat_From.f 1).bind fun t201 => ((gaugelaw1_mul.f t121 t201).bind fun t204 => ((gaugeref0_EqNat.f t204 t121).bind fun t207 => (if t207 = true then ((gaugelaw1_mul.f t121 ([] : List Int)).bind fun t208 => (if (t208.length : Int) > 0 then (none) else (gaugelaw1_NatLaws.l0 k1 l0 (wrap64 (x3_1 + 1))))) else (none)))))))) else (none))) else (none))))) else (none)))))))) else (none))))))) else (none))))))) else (none))))) = some r := by rw [if_pos rfl] at H; exact H
                clear H
                have H := H1
                clear H1
                replace H := Option.bind_eq_some_iff.mp H
                obtain ⟨t139, A180, H⟩ := H
                replace H : ((gaugelaw1_mul.f t125 t121).bind fun t142 => ((gaugeref0_EqNat.f t139 t142).bind fun t145 => (if t145 = true then ((gaugelaw1_add.f t121 t125).bind fun t146 => ((gaugelaw1_add.f t146 t129).bind fun t149 => ((gaugelaw1_add.f t125 t129).bind fun t152 => ((gaugelaw1_add.f t121 t152).bind fun t155 => ((gaugeref0_EqNat.f t149 t155).bind fun t158 => (if t158 = true then ((gaugelaw1_mul.f t121 t125).bind fun t159 => ((gaugelaw1_mul.f t159 t129).bind fun t162 => ((gaugelaw1_mul.f t125 t129).bind fun t165 => ((gaugelaw1_mul.f t121 t165).bind fun t168 => ((gaugeref0_EqNat.f t162 t168).bind fun t171 => (if t171 = true then ((gaugelaw1_add.f t125 t129).bind fun t172 => ((gaugelaw1_mul.f t121 t172).bind fun t175 => ((gaugelaw1_mul.f t121 t125).bind fun t178 => ((gaugelaw1_mul.f t121 t129).bind fun t181 => ((gaugelaw1_add.f t178 t181).bind fun t184 => ((gaugeref0_EqNat.f t175 t184).bind fun t187 => (if t187 = true then ((gaugelaw1_add.f t121 t125).bind fun t188 => ((nat_Sub.f t188 t125).bind fun bt191 => ((gaugelaw1_num.f bt191.2).bind fun t195 => (if t195 = 0 then ((gaugeref0_EqNat.f bt191.1 t121).bind fun t196 => (if t196 = true then ((gaugelaw1_add.f t121 t125).bind fun t197 => ((nat_Cmp.f t197 t121).bind fun t200 => (if t200 < 0 then (none) else ((nat_From.f 1).bind fun t201 => ((gaugelaw1_mul.f t121 t201).bind fun t204 => ((gaugeref0_EqNat.f t204 t121).bind fun t207 => (if t207 = true then ((gaugelaw1_mul.f t121 ([] : List Int)).bind fun t208 => (if (t208.length : Int) > 0 then (none) else (gaugelaw1_NatLaws.l0 k1 l0 (wrap64 (x3_1 + 1))))) else (none)))))))) else (none))) else (none))))) else (none)))))))) else (none))))))) else (none))))))) else (none)))) = some r := H
                have A18 := Aside0.mk A180
                clear A180
                replace H := Option.bind_eq_some_iff.mp H
                obtain ⟨t142, A190, H⟩ := H
                replace H : ((gaugeref0_EqNat.f t139 t142).bind fun t145 => (if t145 = true then ((gaugelaw1_add.f t121 t125).bind fun t146 => ((gaugelaw1_add.f t146 t129).bind fun t149 => ((gaugelaw1_add.f t125 t129).bind fun t152 => ((gaugelaw1_add.f t121 t152).bind fun t155 => ((gaugeref0_EqNat.f t149 t155).bind fun t158 => (if t158 = true then ((gaugelaw1_mul.f t121 t125).bind fun t159 => ((gaugelaw1_mul.f t159 t129).bind fun t162 => ((gaugelaw1_mul.f t125 t129).bind fun t165 => ((gaugelaw1_mul.f t121 t165).bind fun t168 => ((gaugeref0_EqNat.f t162 t168).bind fun t171 => (if t171 = true then ((gaugelaw1_add.f t125 t129).bind fun t172 => ((gaugelaw1_mul.f t121 t172).bind fun t175 => ((gaugelaw1_mul.f t121 t125).bind fun t178 => ((gaugelaw1_mul.f t121 t129).bind fun t181 => ((gaugelaw1_add.f t178 t181).bind fun t184 => ((gaugeref0_EqNat.f t175 t184).bind fun t187 => (if t187 = true then ((gaugelaw1_add.f t121 t125).bind fun t188 => ((nat_Sub.f t188 t125).bind fun bt191 => ((gaugelaw1_num.f bt191.2).bind fun t195 => (if t195 = 0 then ((gaugeref0_EqNat.f bt191.1 t121).bind fun t196 => (if t196 = true then ((gaugelaw1_add.f t121 t125).bind fun t197 => ((nat_Cmp.f t197 t121).bind fun t200 => (if t200 < 0 then (none) else ((nat_From.f 1).bind fun t201 => ((gaugelaw1_mul.f t121 t201).bind fun t204 => ((gaugeref0_EqNat.f t204 t121).bind fun t207 => (if t207 = true then ((gaugelaw1_mul.f t121 ([] : List Int)).bind fun t208 => (if (t208.length : Int) > 0 then (none) else (gaugelaw1_NatLaws.l0 k1 l0 (wrap64 (x3_1 + 1))))) else (none)))))))) else (none))) else (none))))) else (none)))))))) else (none))))))) else (none))))))) else (none))) = some r := H
                have A19 := Aside0.mk A190
                clear A190
                replace H := Option.bind_eq_some_iff.mp H
                obtain ⟨t145, A200, H⟩ := H
                replace H : (if t145 = true then ((gaugelaw1_add.f t121 t125).bind fun t146 => ((gaugelaw1_add.f t146 t129).bind fun t149 => ((gaugelaw1_add.f t125 t129).bind fun t152 => ((gaugelaw1_add.f t121 t152).bind fun t155 => ((gaugeref0_EqNat.f t149 t155).bind fun t158 => (if t158 = true then ((gaugelaw1_mul.f t121 t125).bind fun t159 => ((gaugelaw1_mul.f t159 t129).bind fun t162 => ((gaugelaw1_mul.f t125 t129).bind fun t165 => ((gaugelaw1_mul.f t121 t165).bind fun t168 => ((gaugeref0_EqNat.f t162 t168).bind fun t171 => (if t171 = true then ((gaugelaw1_add.f t125 t129).bind fun t172 => ((gaugelaw1_mul.f t121 t172).bind fun t175 => ((gaugelaw1_mul.f t121 t125).bind fun t178 => ((gaugelaw1_mul.f t121 t129).bind fun t181 => ((gaugelaw1_add.f t178 t181).bind fun t184 => ((gaugeref0_EqNat.f t175 t184).bind fun t187 => (if t187 = true then ((gaugelaw1_add.f t121 t125).bind fun t188 => ((nat_Sub.f t188 t125).bind fun bt191 => ((gaugelaw1_num.f bt191.2).bind fun t195 => (if t195 = 0 then ((gaugeref0_EqNat.f bt191.1 t121).bind fun t196 => (if t196 = true then ((gaugelaw1_add.f t121 t125).bind fun t197 => ((nat_Cmp.f t197 t121).bind fun t200 => (if t200 < 0 then (none) else ((nat_From.f 1).bind fun t201 => ((gaugelaw1_mul.f t121 t201).bind fun t204 => ((gaugeref0_EqNat.f t204 t121).bind fun t207 => (if t207 = true then ((gaugelaw1_mul.f t121 ([] : List Int)).bind fun t208 => (if (t208.length : Int) > 0 then (none) else (gaugelaw1_NatLaws.l0 k1 l0 (wrap64 (x3_1 + 1))))) else (none)))))))) else (none))) else (none))))) else (none)))))))) else (none))))))) else (none))))))) else (none)) = some r := H
                have A20 := Aside0.mk A200
                clear A200
                by_cases c21 : t145 = true
                · subst c21
                  have H1 : ((gaugelaw1_add.f t121 t125).bind fun t146 => ((gaugelaw1_add.f t146 t129).bind fun t149 => ((gaugelaw1_add.f t125 t129).bind fun t152 => ((gaugelaw1_add.f t121 t152).bind fun t155 => ((gaugeref0_EqNat.f t149 t155).bind fun t158 => (if t158 = true then ((gaugelaw1_mul.f t121 t125).bind fun t159 => ((gaugelaw1_mul.f t159 t129).bind fun t162 => ((gaugelaw1_mul.f t125 t129).bind fun t165 => ((gaugelaw1_mul.f t121 t165).bind fun t168 => ((gaugeref0_EqNat.f t162 t168).bind fun t171 => (if t171 = true then ((gaugelaw1_add.f t125 t129).bind fun t172 => ((gaugelaw1_mul.f t121 t172).bind fun t175 => ((gaugelaw1_mul.f t121 t125).bind fun t178 => ((gaugelaw1_mul.f t121 t129).bind fun t181 => ((gaugelaw1_add.f t178 t181).bind fun t184 => ((gaugeref0_EqNat.f t175 t184).bind fun t187 => (if t187 = true then ((gaugelaw1_add.f t121 t125).bind fun t188 => ((nat_Sub.f t188 t125).bind fun bt191 => ((gaugelaw1_num.f bt191.2).bind fun t195 => (if t195 = 0 then ((gaugeref0_EqNat.f bt191.1 t121).bind fun t196 => (if t196 = true then ((gaugelaw1_add.f t121 t125).bind fun t197 => ((nat_Cmp.f t197 t121).bind fun t200 => (if t200 < 0 then (none) else ((nat_From.f 1).bind fun t201 => ((gaugelaw1_mul.f t121 t201).bind fun t204 => ((gaugeref0_EqNat.f t204 t121).bind fun t207 => (if t207 = true then ((gaugelaw1_mul.f t121 ([] : List Int)).bind fun t208 => (if (t208.length : Int) > 0 then (none) else (gaugelaw1_NatLaws.l0 k1 l0 (wrap64 (x3_1 + 1))))) else (none)))))))) else (none))) else (none))))) else (none)))))))) else (none))))))) else (none))))))) = some r := by rw [if_pos rfl] at H; exact H
                  clear H
                  have H := H1
                  clear H1
                  replace H := Option.bind_eq_some_iff.mp H
                  obtain ⟨t146, A220, H⟩ := H
                  replace H : ((gaugelaw1_add.f t146 t129).bind fun t149 => ((gaugelaw1_add.f t125 t129).bind fun t152 => ((gaugelaw1_add.f t121 t152).bind fun t155 => ((gaugeref0_EqNat.f t149 t155).bind fun t158 => (if t158 = true then ((gaugelaw1_mul.f t121 t125).bind fun t159 => ((gaugelaw1_mul.f t159 t129).bind fun t162 => ((gaugelaw1_mul.f t125 t129).bind fun t165 => ((gaugelaw1_mul.f t121 t165).bind fun t168 => ((gaugeref0_EqNat.f t162 t168).bind fun t171 => (if t171 = true then ((gaugelaw1_add.f t125 t129).bind fun t172 => ((gaugelaw1_mul.f t121 t172).bind fun t175 => ((gaugelaw1_mul.f t121 t125).bind fun t178 => ((gaugelaw1_mul.f t121 t129).bind fun t181 => ((gaugelaw1_add.f t178 t181).bind fun t184 => ((gaugeref0_EqNat.f t175 t184).bind fun t187 => (if t187 = true then ((gaugelaw1_add.f t121 t125).bind fun t188 => ((nat_Sub.f t188 t125).bind fun bt191 => ((gaugelaw1_num.f bt191.2).bind fun t195 => (if t195 = 0 then ((gaugeref0_EqNat.f bt191.1 t121).bind fun t196 => (if t196 = true then ((gaugelaw1_add.f t121 t125).bind fun t197 => ((nat_Cmp.f t197 t121).bind fun t200 => (if t200 < 0 then (none) else ((nat_From.f 1).bind fun t201 => ((gaugelaw1_mul.f t121 t201).bind fun t204 => ((gaugeref0_EqNat.f t204 t121).bind fun t207 => (if t207 = true then ((gaugelaw1_mul.f t121 ([] : List Int)).bind fun t208 => (if (t208.length : Int) > 0 then (none) else (gaugelaw1_NatLaws.l0 k1 l0 (wrap64 (x3_1 + 1))))) else (none)))))))) else (none))) else (none))))) else (none)))))))) else (none))))))) else (none)))))) = some r := H
                  have A22 := Aside0.mk A220
                  clear A220
                  replace H := Option.bind_eq_some_iff.mp H
                  obtain ⟨t149, A230, H⟩ := H
                  replace H : ((gaugelaw1_add.f t125 t129).bind fun t152 => ((gaugelaw1_add.f t121 t152).bind fun t155 => ((gaugeref0_EqNat.f t149 t155).bind fun t158 => (if t158 = true then ((gaugelaw1_mul.f t121 t125).bind fun t159 => ((gaugelaw1_mul.f t159 t129).bind fun t162 => ((gaugelaw1_mul.f t125 t129).bind fun t165 => ((gaugelaw1_mul.f t121 t165).bind fun t168 => ((gaugeref0_EqNat.f t162 t168).bind fun t171 => (if t171 = true then ((gaugelaw1_add.f t125 t129).bind fun t172 => ((gaugelaw1_mul.f t121 t172).bind fun t175 => ((gaugelaw1_mul.f t121 t125).bind fun t178 => ((gaugelaw1_mul.f t121 t129).bind fun t181 => ((gaugelaw1_add.f t178 t181).bind fun t184 => ((gaugeref0_EqNat.f t175 t184).bind fun t187 => (if t187 = true then ((gaugelaw1_add.f t121 t125).bind fun t188 => ((nat_Sub.f t188 t125).bind fun bt191 => ((gaugelaw1_num.f bt191.2).bind fun t195 => (if t195 = 0 then ((gaugeref0_EqNat.f bt191.1 t121).bind fun t196 => (if t196 = true then ((gaugelaw1_add.f t121 t125).bind fun t197 => ((nat_Cmp.f t197 t121).bind fun t200 => (if t200 < 0 then (none) else ((nat_From.f 1).bind fun t201 => ((gaugelaw1_mul.f t121 t201).bind fun t204 => ((gaugeref0_EqNat.f t204 t121).bind fun t207 => (if t207 = true then ((gaugelaw1_mul.f t121 ([] : List Int)).bind fun t208 => (if (t208.length : Int) > 0 then (none) else (gaugelaw1_NatLaws.l0 k1 l0 (wrap64 (x3_1 + 1))))) else (none)))))))) else (none))) else (none))))) else (none)))))))) else (none))))))) else (none))))) = some r := H
                  have A23 := Aside0.mk A230
                  clear A230
                  replace H := Option.bind_eq_some_iff.mp H
                  obtain ⟨t152, A240, H⟩ := H
                  replace H : ((gaugelaw1_add.f t121 t152).bind fun t155 => ((gaugeref0_EqNat.f t149 t155).bind fun t158 => (if t158 = true then ((gaugelaw1_mul.f t121 t125).bind fun t159 => ((gaugelaw1_mul.f t159 t129).bind fun t162 => ((gaugelaw1_mul.f t125 t129).bind fun t165 => ((gaugelaw1_mul.f t121 t165).bind fun t168 => ((gaugeref0_EqNat.f t162 t168).bind fun t171 => (if t171 = true then ((gaugelaw1_add.f t125 t129).bind fun t172 => ((gaugelaw1_mul.f t121 t172).bind fun t175 => ((gaugelaw1_mul.f t121 t125).bind fun t178 => ((gaugelaw1_mul.f t121 t129).bind fun t181 => ((gaugelaw1_add.f t178 t181).bind fun t184 => ((gaugeref0_EqNat.f t175 t184).bind fun t187 => (if t187 = true then ((gaugelaw1_add.f t121 t125).bind fun t188 => ((nat_Sub.f t188 t125).bind fun bt191 => ((gaugelaw1_num.f bt191.2).bind fun t195 => (if t195 = 0 then ((gaugeref0_EqNat.f bt191.1 t121).bind fun t196 => (if t196 = true then ((gaugelaw1_add.f t121 t125).bind fun t197 => ((nat_Cmp.f t197 t121).bind fun t200 => (if t200 < 0 then (none) else ((nat_From.f 1).bind fun t201 => ((gaugelaw1_mul.f t121 t201).bind fun t204 => ((gaugeref0_EqNat.f t204 t121).bind fun t207 => (if t207 = true then ((gaugelaw1_mul.f t121 ([] : List Int)).bind fun t208 => (if (t208.length : Int) > 0 then (none) else (gaugelaw1_NatLaws.l0 k1 l0 (wrap64 (x3_1 + 1))))) else (none)))))))) else (none))) else (none))))) else (none)))))))) else (none))))))) else (none)))) = some r := H
                  have A24 := Aside0.mk A240
                  clear A240
                  replace H := Option.bind_eq_some_iff.mp H
                  obtain ⟨t155, A250, H⟩ := H
                  replace H : ((gaugeref0_EqNat.f t149 t155).bind fun t158 => (if t158 = true then ((gaugelaw1_mul.f t121 t125).bind fun t159 => ((gaugelaw1_mul.f t159 t129).bind fun t162 => ((gaugelaw1_mul.f t125 t129).bind fun t165 => ((gaugelaw1_mul.f t121 t165).bind fun t168 => ((gaugeref0_EqNat.f t162 t168).bind fun t171 => (if t171 = true then ((gaugelaw1_add.f t125 t129).bind fun t172 => ((gaugelaw1_mul.f t121 t172).bind fun t175 => ((gaugelaw1_mul.f t121 t125).bind fun t178 => ((gaugelaw1_mul.f t121 t129).bind fun t181 => ((gaugelaw1_add.f t178 t181).bind fun t184 => ((gaugeref0_EqNat.f t175 t184).bind fun t187 => (if t187 = true then ((gaugelaw1_add.f t121 t125).bind fun t188 => ((nat_Sub.f t188 t125).bind fun bt191 => ((gaugelaw1_num.f bt191.2).bind fun t195 => (if t195 = 0 then ((gaugeref0_EqNat.f bt191.1 t121).bind fun t196 => (if t196 = true then ((gaugelaw1_add.f t121 t125).bind fun t197 => ((nat_Cmp.f t197 t121).bind fun t200 => (if t200 < 0 then (none) else ((nat_From.f 1).bind fun t201 => ((gaugelaw1_mul.f t121 t201).bind fun t204 => ((gaugeref0_EqNat.f t204 t121).bind fun t207 => (if t207 = true then ((gaugelaw1_mul.f t121 ([] : List Int)).bind fun t208 => (if (t208.length : Int) > 0 then (none) else (gaugelaw1_NatLaws.l0 k1 l0 (wrap64 (x3_1 + 1))))) else (none)))))))) else (none))) else (none))))) else (none)))))))) else (none))))))) else (none))) = some r := H
                  have A25 := Aside0.mk A250
                  clear A250
                  replace H := Option.bind_eq_some_iff.mp H
                  obtain ⟨t158, A260, H⟩ := H
                  replace H : (if t158 = true then ((gaugelaw1_mul.f t121 t125).bind fun t159 => ((gaugelaw1_mul.f t159 t129).bind fun t162 => ((gaugelaw1_mul.f t125 t129).bind fun t165 => ((gaugelaw1_mul.f t121 t165).bind fun t168 => ((gaugeref0_EqNat.f t162 t168).bind fun t171 => (if t171 = true then ((gaugelaw1_add.f t125 t129).bind fun t172 => ((gaugelaw1_mul.f t121 t172).bind fun t175 => ((gaugelaw1_mul.f t121 t125).bind fun t178 => ((gaugelaw1_mul.f t121 t129).bind fun t181 => ((gaugelaw1_add.f t178 t181).bind fun t184 => ((gaugeref0_EqNat.f t175 t184).bind fun t187 => (if t187 = true then ((gaugelaw1_add.f t121 t125).bind fun t188 => ((nat_Sub.f t188 t125).bind fun bt191 => ((gaugelaw1_num.f bt191.2).bind fun t195 => (if t195 = 0 then ((gaugeref0_EqNat.f bt191.1 t121).bind fun t196 => (if t196 = true then ((gaugelaw1_add.f t121 t125).bind fun t197 => ((nat_Cmp.f t197 t121).bind fun t200 => (if t200 < 0 then (none) else ((nat_From.f 1).bind fun t201 => ((gaugelaw1_mul.f t121 t201).bind fun t204 => ((gaugeref0_EqNat.f t204 t121).bind fun t207 => (if t207 = true then ((gaugelaw1_mul.f t121 ([] : List Int)).bind fun t208 => (if (t208.length : Int) > 0 then (none) else (gaugelaw1_NatLaws.l0 k1 l0 (wrap64 (x3_1 + 1))))) else (none)))))))) else (none))) else (none))))) else (none)))))))) else (none))))))) else (none)) = some r := H
                  have A26 := Aside0.mk A260
                  clear A260
                  by_cases c27 : t158 = true
                  · subst c27
                    have H1 : ((gaugelaw1_mul.f t121 t125).bind fun t159 => ((gaugelaw1_mul.f t159 t129).bind fun t162 => ((gaugelaw1_mul.f t125 t129).bind fun t165 => ((gaugelaw1_mul.f t121 t165).bind fun t168 => ((gaugeref0_EqNat.f t162 t168).bind fun t171 => (if t171 = true then ((gaugelaw1_add.f t125 t129).bind fun t172 => ((gaugelaw1_mul.f t121 t172).bind fun t175 => ((gaugelaw1_mul.f t121 t125).bind fun t178 => ((gaugelaw1_mul.f t121 t129).bind fun t181 => ((gaugelaw1_add.f t178 t181).bind fun t184 => ((gaugeref0_EqNat.f t175 t184).bind fun t187 => (if t187 = true then ((gaugelaw1_add.f t121 t125).bind fun t188 => ((nat_Sub.f t188 t125).bind fun bt191 => ((gaugelaw1_num.f bt191.2).bind fun t195 => (if t195 = 0 then ((gaugeref0_EqNat.f bt191.1 t121).bind fun t196 => (if t196 = true then ((gaugelaw1_add.f t121 t125).bind fun t197 => ((nat_Cmp.f t197 t121).bind fun t200 => (if t200 < 0 then (none) else ((nat_From.f 1).bind fun t201 => ((gaugelaw1_mul.f t121 t201).bind fun t204 => ((gaugeref0_EqNat.f t204 t121).bind fun t207 => (if t207 = true then ((gaugelaw1_mul.f t121 ([] : List Int)).bind fun t208 => (if (t208.length : Int) > 0 then (none) else (gaugelaw1_NatLaws.l0 k1 l0 (wrap64 (x3_1 + 1))))) else (none)))))))) else (none))) else (none))))) else (none)))))))) else (none))))))) = some r := by rw [if_pos rfl] at H; exact H
                    clear H
                    have H := H1
                    clear H1
                    replace H := Option.bind_eq_some_iff.mp H
                    obtain ⟨t159, A280, H⟩ := H
                    replace H : ((gaugelaw1_mul.f t159 t129).bind fun t162 => ((gaugelaw1_mul.f t125 t129).bind fun t165 => ((gaugelaw1_mul.f t121 t165).bind fun t168 => ((gaugeref0_EqNat.f t162 t168).bind fun t171 => (if t171 = true then ((gaugelaw1_add.f t125 t129).bind fun t172 => ((gaugelaw1_mul.f t121 t172).bind fun t175 => ((gaugelaw1_mul.f t121 t125).bind fun t178 => ((gaugelaw1_mul.f t121 t129).bind fun t181 => ((gaugelaw1_add.f t178 t181).bind fun t184 => ((gaugeref0_EqNat.f t175 t184).bind fun t187 => (if t187 = true then ((gaugelaw1_add.f t121 t125).bind fun t188 => ((nat_Sub.f t188 t125).bind fun bt191 => ((gaugelaw1_num.f bt191.2).bind fun t195 => (if t195 = 0 then ((gaugeref0_EqNat.f bt191.1 t121).bind fun t196 => (if t196 = true then ((gaugelaw1_add.f t121 t125).bind fun t197 => ((nat_Cmp.f t197 t121).bind fun t200 => (if t200 < 0 then (none) else ((nat_From.f 1).bind fun t201 => ((gaugelaw1_mul.f t121 t201).bind fun t204 => ((gaugeref0_EqNat.f t204 t121).bind fun t207 => (if t207 = true then ((gaugelaw1_mul.f t121 ([] : List Int)).bind fun t208 => (if (t208.length : Int) > 0 then (none) else (gaugelaw1_NatLaws.l0 k1 l0 (wrap64 (x3_1 + 1))))) else (none)))))))) else (none))) else (none))))) else (none)))))))) else (none)))))) = some r := H
                    have A28 := Aside0.mk A280
                    clear A280
                    replace H := Option.bind_eq_some_iff.mp H
                    obtain ⟨t162, A290, H⟩ := H
                    replace H : ((gaugelaw1_mul.f t125 t129).bind fun t165 => ((gaugelaw1_mul.f t121 t165).bind fun t168 => ((gaugeref0_EqNat.f t162 t168).bind fun t171 => (if t171 = true then ((gaugelaw1_add.f t125 t129).bind fun t172 => ((gaugelaw1_mul.f t121 t172).bind fun t175 => ((gaugelaw1_mul.f t121 t125).bind fun t178 => ((gaugelaw1_mul.f t121 t129).bind fun t181 => ((gaugelaw1_add.f t178 t181).bind fun t184 => ((gaugeref0_EqNat.f t175 t184).bind fun t187 => (if t187 = true then ((gaugelaw1_add.f t121 t125).bind fun t188 => ((nat_Sub.f t188 t125).bind fun bt191 => ((gaugelaw1_num.f bt191.2).bind fun t195 => (if t195 = 0 then ((gaugeref0_EqNat.f bt191.1 t121).bind fun t196 => (if t196 = true then ((gaugelaw1_add.f t121 t125).bind fun t197 => ((nat_Cmp.f t197 t121).bind fun t200 => (if t200 < 0 then (none) else ((nat_From.f 1).bind fun t201 => ((gaugelaw1_mul.f t121 t201).bind fun t204 => ((gaugeref0_EqNat.f t204 t121).bind fun t207 => (if t207 = true then ((gaugelaw1_mul.f t121 ([] : List Int)).bind fun t208 => (if (t208.length : Int) > 0 then (none) else (gaugelaw1_NatLaws.l0 k1 l0 (wrap64 (x3_1 + 1))))) else (none)))))))) else (none))) else (none))))) else (none)))))))) else (none))))) = some r := H
                    have A29 := Aside0.mk A290
                    clear A290
                    replace H := Option.bind_eq_some_iff.mp H
                    obtain ⟨t165, A300, H⟩ := H
                    replace H : ((gaugelaw1_mul.f t121 t165).bind fun t168 => ((gaugeref0_EqNat.f t162 t168).bind fun t171 => (if t171 = true then ((gaugelaw1_add.f t125 t129).bind fun t172 => ((gaugelaw1_mul.f t121 t172).bind fun t175 => ((gaugelaw1_mul.f t121 t125).bind fun t178 => ((gaugelaw1_mul.f t121 t129).bind fun t181 => ((gaugelaw1_add.f t178 t181).bind fun t184 => ((gaugeref0_EqNat.f t175 t184).bind fun t187 => (if t187 = true then ((gaugelaw1_add.f t121 t125).bind fun t188 => ((nat_Sub.f t188 t125).bind fun bt191 => ((gaugelaw1_num.f bt191.2).bind fun t195 => (if t195 = 0 then ((gaugeref0_EqNat.f bt191.1 t121).bind fun t196 => (if t196 = true then ((gaugelaw1_add.f t121 t125).bind fun t197 => ((nat_Cmp.f t197 t121).bind fun t200 => (if t200 < 0 then (none) else ((nat_From.f 1).bind fun t201 => ((gaugelaw1_mul.f t121 t201).bind fun t204 => ((gaugeref0_EqNat.f t204 t121).bind fun t207 => (if t207 = true then ((gaugelaw1_mul.f t121 ([] : List Int)).bind fun t208 => (if (t208.length : Int) > 0 then (none) else (gaugelaw1_NatLaws.l0 k1 l0 (wrap64 (x3_1 + 1))))) else (none)))))))) else (none))) else (none))))) else (none)))))))) else (none)))) = some r := H
                    have A30 := Aside0.mk A300
                    clear A300
                    replace H := Option.bind_eq_some_iff.mp H
                    obtain ⟨t168, A310, H⟩ := H
                    replace H : ((gaugeref0_EqNat.f t162 t168).bind fun t171 => (if t171 = true then ((gaugelaw1_add.f t125 t129).bind fun t172 => ((gaugelaw1_mul.f t121 t172).bind fun t175 => ((gaugelaw1_mul.f t121 t125).bind fun t178 => ((gaugelaw1_mul.f t121 t129).bind fun t181 => ((gaugelaw1_add.f t178 t181).bind fun t184 => ((gaugeref0_EqNat.f t175 t184).bind fun t187 => (if t187 = true then ((gaugelaw1_add.f t121 t125).bind fun t188 => ((nat_Sub.f t188 t125).bind fun bt191 => ((gaugelaw1_num.f bt191.2).bind fun t195 => (if t195 = 0 then ((gaugeref0_EqNat.f bt191.1 t121).bind fun t196 => (if t196 = true then ((gaugelaw1_add.f t121 t125).bind fun t197 => ((nat_Cmp.f t197 t121).bind fun t200 => (if t200 < 0 then (none) else ((nat_From.f 1).bind fun t201 => ((gaugelaw1_mul.f t121 t201).bind fun t204 => ((gaugeref0_EqNat.f t204 t121).bind fun t207 => (if t207 = true then ((gaugelaw1_mul.f t121 ([] : List Int)).bind fun t208 => (if (t208.length : Int) > 0 then (none) else (gaugelaw1_NatLaws.l0 k1 l0 (wrap64 (x3_1 + 1))))) else (none)))))))) else (none))) else (none))))) else (none)))))))) else (none))) = some r := H
                    have A31 := Aside0.mk A310
                    clear A310
                    replace H := Option.bind_eq_some_iff.mp H
                    obtain ⟨t171, A320, H⟩ := H
                    replace H : (if t171 = true then ((gaugelaw1_add.f t125 t129).bind fun t172 => ((gaugelaw1_mul.f t121 t172).bind fun t175 => ((gaugelaw1_mul.f t121 t125).bind fun t178 => ((gaugelaw1_mul.f t121 t129).bind fun t181 => ((gaugelaw1_add.f t178 t181).bind fun t184 => ((gaugeref0_EqNat.f t175 t184).bind fun t187 => (if t187 = true then ((gaugelaw1_add.f t121 t125).bind fun t188 => ((nat_Sub.f t188 t125).bind fun bt191 => ((gaugelaw1_num.f bt191.2).bind fun t195 => (if t195 = 0 then ((gaugeref0_EqNat.f bt191.1 t121).bind fun t196 => (if t196 = true then ((gaugelaw1_add.f t121 t125).bind fun t197 => ((nat_Cmp.f t197 t121).bind fun t200 => (if t200 < 0 then (none) else ((nat_From.f 1).bind fun t201 => ((gaugelaw1_mul.f t121 t201).bind fun t204 => ((gaugeref0_EqNat.f t204 t121).bind fun t207 => (if t207 = true then ((gaugelaw1_mul.f t121 ([] : List Int)).bind fun t208 => (if (t208.length : Int) > 0 then (none) else (gaugelaw1_NatLaws.l0 k1 l0 (wrap64 (x3_1 + 1))))) else (none)))))))) else (none))) else (none))))) else (none)))))))) else (none)) = some r := H
                    have A32 := Aside0.mk A320
                    clear A320
                    by_cases c33 : t171 = true
                    · subst c33
                      have H1 : ((gaugelaw1_add.f t125 t129).bind fun t172 => ((gaugelaw1_mul.f t121 t172).bind fun t175 => ((gaugelaw1_mul.f t121 t125).bind fun t178 => ((gaugelaw1_mul.f t121 t129).bind fun t181 => ((gaugelaw1_add.f t178 t181).bind fun t184 => ((gaugeref0_EqNat.f t175 t184).bind fun t187 => (if t187 = true then ((gaugelaw1_add.f t121 t125).bind fun t188 => ((nat_Sub.f t188 t125).bind fun bt191 => ((gaugelaw1_num.f bt191.2).bind fun t195 => (if t195 = 0 then ((gaugeref0_EqNat.f bt191.1 t121).bind fun t196 => (if t196 = true then ((gaugelaw1_add.f t121 t125).bind fun t197 => ((nat_Cmp.f t197 t121).bind fun t200 => (if t200 < 0 then (none) else ((nat_From.f 1).bind fun t201 => ((gaugelaw1_mul.f t121 t201).bind fun t204 => ((gaugeref0_EqNat.f t204 t121).bind fun t207 => (if t207 = true then ((gaugelaw1_mul.f t121 ([] : List Int)).bind fun t208 => (if (t208.length : Int) > 0 then (none) else (gaugelaw1_NatLaws.l0 k1 l0 (wrap64 (x3_1 + 1))))) else (none)))))))) else (none))) else (none))))) else (none)))))))) = some r := by rw [if_pos rfl] at H; exact H
                      clear H
                      have H := H1
                      clear H1
                      replace H := Option.bind_eq_some_iff.mp H
                      obtain ⟨t172, A340, H⟩ := H
                      replace H : ((gaugelaw1_mul.f t121 t172).bind fun t175 => ((gaugelaw1_mul.f t121 t125).bind fun t178 => ((gaugelaw1_mul.f t121 t129).bind fun t181 => ((gaugelaw1_add.f t178 t181).bind fun t184 => ((gaugeref0_EqNat.f t175 t184).bind fun t187 => (if t187 = true then ((gaugelaw1_add.f t121 t125).bind fun t188 => ((nat_Sub.f t188 t125).bind fun bt191 => ((gaugelaw1_num.f bt191.2).bind fun t195 => (if t195 = 0 then ((gaugeref0_EqNat.f bt191.1 t121).bind fun t196 => (if t196 = true then ((gaugelaw1_add.f t121 t125).bind fun t197 => ((nat_Cmp.f t197 t121).bind fun t200 => (if t200 < 0 then (none) else ((nat_From.f 1).bind fun t201 => ((gaugelaw1_mul.f t121 t201).bind fun t204 => ((gaugeref0_EqNat.f t204 t121).bind fun t207 => (if t207 = true then ((gaugelaw1_mul.f t121 ([] : List Int)).bind fun t208 => (if (t208.length : Int) > 0 then (none) else (gaugelaw1_NatLaws.l0 k1 l0 (wrap64 (x3_1 + 1))))) else (none)))))))) else (none))) else (none))))) else (none))))))) = some r := H
                      have A34 := Aside0.mk A340
                      clear A340
                      replace H := Option.bind_eq_some_iff.mp H
                      obtain ⟨t175, A350, H⟩ := H
                      replace H : ((gaugelaw1_mul.f t121 t125).bind fun t178 => ((gaugelaw1_mul.f t121 t129).bind fun t181 => ((gaugelaw1_add.f t178 t181).bind fun t184 => ((gaugeref0_EqNat.f t175 t184).bind fun t187 => (if t187 = true then ((gaugelaw1_add.f t121 t125).bind fun t188 => ((nat_Sub.f t188 t125).bind fun bt191 => ((gaugelaw1_num.f bt191.2).bind fun t195 => (if t195 = 0 then ((gaugeref0_EqNat.f bt191.1 t121).bind fun t196 => (if t196 = true then ((gaugelaw1_add.f t121 t125).bind fun t197 => ((nat_Cmp.f t197 t121).bind fun t200 => (if t200 < 0 then (none) else ((nat_From.f 1).bind fun t201 => ((gaugelaw1_mul.f t121 t201).bind fun t204 => ((gaugeref0_EqNat.f t204 t121).bind fun t207 => (if t207 = true then ((gaugelaw1_mul.f t121 ([] : List Int)).bind fun t208 => (if (t208.length : Int) > 0 then (none) else (gaugelaw1_NatLaws.l0 k1 l0 (wrap64 (x3_1 + 1))))) else (none)))))))) else (none))) else (none))))) else (none)))))) = some r := H
                      have A35 := Aside0.mk A350
                      clear A350
                      replace H := Option.bind_eq_some_iff.mp H
                      obtain ⟨t178, A360, H⟩ := H
                      replace H : ((gaugelaw1_mul.f t121 t129).bind fun t181 => ((gaugelaw1_add.f t178 t181).bind fun t184 => ((gaugeref0_EqNat.f t175 t184).bind fun t187 => (if t187 = true then ((gaugelaw1_add.f t121 t125).bind fun t188 => ((nat_Sub.f t188 t125).bind fun bt191 => ((gaugelaw1_num.f bt191.2).bind fun t195 => (if t195 = 0 then ((gaugeref0_EqNat.f bt191.1 t121).bind fun t196 => (if t196 = true then ((gaugelaw1_add.f t121 t125).bind fun t197 => ((nat_Cmp.f t197 t121).bind fun t200 => (if t200 < 0 then (none) else ((nat_From.f 1).bind fun t201 => ((gaugelaw1_mul.f t121 t201).bind fun t204 => ((gaugeref0_EqNat.f t204 t121).bind fun t207 => (if t207 = true then ((gaugelaw1_mul.f t121 ([] : List Int)).bind fun t208 => (if (t208.length : Int) > 0 then (none) else (gaugelaw1_NatLaws.l0 k1 l0 (wrap64 (x3_1 + 1))))) else (none)))))))) else (none))) else (none))))) else (none))))) = some r := H
                      have A36 := Aside0.mk A360
                      clear A360
                      replace H := Option.bind_eq_some_iff.mp H
                      obtain ⟨t181, A370, H⟩ := H
                      replace H : ((gaugelaw1_add.f t178 t181).bind fun t184 => ((gaugeref0_EqNat.f t175 t184).bind fun t187 => (if t187 = true then ((gaugelaw1_add.f t121 t125).bind fun t188 => ((nat_Sub.f t188 t125).bind fun bt191 => ((gaugelaw1_num.f bt191.2).bind fun t195 => (if t195 = 0 then ((gaugeref0_EqNat.f bt191.1 t121).bind fun t196 => (if t196 = true then ((gaugelaw1_add.f t121 t125).bind fun t197 => ((nat_Cmp.f t197 t121).bind fun t200 => (if t200 < 0 then (none) else ((nat_From.f 1).bind fun t201 => ((gaugelaw1_mul.f t121 t201).bind fun t204 => ((gaugeref0_EqNat.f t204 t121).bind fun t207 => (if t207 = true then ((gaugelaw1_mul.f t121 ([] : List Int)).bind fun t208 => (if (t208.length : Int) > 0 then (none) else (gaugelaw1_NatLaws.l0 k1 l0 (wrap64 (x3_1 + 1))))) else (none)))))))) else (none))) else (none))))) else (none)))) = some r := H
                      have A37 := Aside0.mk A370
                      clear A370
                      replace H := Option.bind_eq_some_iff.mp H
                      obtain ⟨t184, A380, H⟩ := H
                      replace H : ((gaugeref0_EqNat.f t175 t184).bind fun t187 => (if t187 = true then ((gaugelaw1_add.f t121 t125).bind fun t188 => ((nat_Sub.f t188 t125).bind fun bt191 => ((gaugelaw1_num.f bt191.2).bind fun t195 => (if t195 = 0 then ((gaugeref0_EqNat.f bt191.1 t121).bind fun t196 => (if t196 = true then ((gaugelaw1_add.f t121 t125).bind fun t197 => ((nat_Cmp.f t197 t121).bind fun t200 => (if t200 < 0 then (none) else ((nat_From.f 1).bind fun t201 => ((gaugelaw1_mul.f t121 t201).bind fun t204 => ((gaugeref0_EqNat.f t204 t121).bind fun t207 => (if t207 = true then ((gaugelaw1_mul.f t121 ([] : List Int)).bind fun t208 => (if (t208.length : Int) > 0 then (none) else (gaugelaw1_NatLaws.l0 k1 l0 (wrap64 (x3_1 + 1))))) else (none)))))))) else (none))) else (none))))) else (none))) = some r := H
                      have A38 := Aside0.mk A380
                      clear A380
                      replace H := Option.bind_eq_some_iff.mp H
                      obtain ⟨t187, A390, H⟩ := H
                      replace H : (if t187 = true then ((gaugelaw1_add.f t121 t125).bind fun t188 => ((nat_Sub.f t188 t125).bind fun bt191 => ((gaugelaw1_num.f bt191.2).bind fun t195 => (if t195 = 0 then ((gaugeref0_EqNat.f bt191.1 t121).bind fun t196 => (if t196 = true then ((gaugelaw1_add.f t121 t125).bind fun t197 => ((nat_Cmp.f t197 t121).bind fun t200 => (if t200 < 0 then (none) else ((nat_From.f 1).bind fun t201 => ((gaugelaw1_mul.f t121 t201).bind fun t204 => ((gaugeref0_EqNat.f t204 t121).bind fun t207 => (if t207 = true then ((gaugelaw1_mul.f t121 ([] : List Int)).bind fun t208 => (if (t208.length : Int) > 0 then (none) else (gaugelaw1_NatLaws.l0 k1 l0 (wrap64 (x3_1 + 1))))) else (none)))))))) else (none))) else (none))))) else (none)) = some r := H
                      have A39 := Aside0.mk A390
                      clear A390
                      by_cases c40 : t187 = true
                      · subst c40
                        have H1 : ((gaugelaw1_add.f t121 t125).bind fun t188 => ((nat_Sub.f t188 t125).bind fun bt191 => ((gaugelaw1_num.f bt191.2).bind fun t195 => (if t195 = 0 then ((gaugeref0_EqNat.f bt191.1 t121).bind fun t196 => (if t196 = true then ((gaugelaw1_add.f t121 t125).bind fun t197 => ((nat_Cmp.f t197 t121).bind fun t200 => (if t200 < 0 then (none) else ((nat_From.f 1).bind fun t201 => ((gaugelaw1_mul.f t121 t201).bind fun t204 => ((gaugeref0_EqNat.f t204 t121).bind fun t207 => (if t207 = true then ((gaugelaw1_mul.f t121 ([] : List Int)).bind fun t208 => (if (t208.length : Int) > 0 then (none) else (gaugelaw1_NatLaws.l0 k1 l0 (wrap64 (x3_1 + 1))))) else (none)))))))) else (none))) else (none))))) = some r := by rw [if_pos rfl] at H; exact H
                        clear H
                        have H := H1
                        clear H1
                        replace H := Option.bind_eq_some_iff.mp H
                        obtain ⟨t188, A410, H⟩ := H
                        replace H : ((nat_Sub.f t188 t125).bind fun bt191 => ((gaugelaw1_num.f bt191.2).bind fun t195 => (if t195 = 0 then ((gaugeref0_EqNat.f bt191.1 t121).bind fun t196 => (if t196 = true then ((gaugelaw1_add.f t121 t125).bind fun t197 => ((nat_Cmp.f t197 t121).bind fun t200 => (if t200 < 0 then (none) else ((nat_From.f 1).bind fun t201 => ((gaugelaw1_mul.f t121 t201).bind fun t204 => ((gaugeref0_EqNat.f t204 t121).bind fun t207 => (if t207 = true then ((gaugelaw1_mul.f t121 ([] : List Int)).bind fun t208 => (if (t208.length : Int) > 0 then (none) else (gaugelaw1_NatLaws.l0 k1 l0 (wrap64 (x3_1 + 1))))) else (none)))))))) else (none))) else (none)))) = some r := H
                        have A41 := Aside0.mk A410
                        clear A410
                        replace H := Option.bind_eq_some_iff.mp H
                        obtain ⟨⟨t191, t194⟩, A420, H⟩ := H
                        replace H : ((gaugelaw1_num.f t194).bind fun t195 => (if t195 = 0 then ((gaugeref0_EqNat.f t191 t121).bind fun t196 => (if t196 = true then ((gaugelaw1_add.f t121 t125).bind fun t197 => ((nat_Cmp.f t197 t121).bind fun t200 => (if t200 < 0 then (none) else ((nat_From.f 1).bind fun t201 => ((gaugelaw1_mul.f t121 t201).bind fun t204 => ((gaugeref0_EqNat.f t204 t121).bind fun t207 => (if t207 = true then ((gaugelaw1_mul.f t121 ([] : List Int)).bind fun t208 => (if (t208.length : Int) > 0 then (none) else (gaugelaw1_NatLaws.l0 k1 l0 (wrap64 (x3_1 + 1))))) else (none)))))))) else (none))) else (none))) = some r := H
                        have A42 := Aside0.mk A420
                        clear A420
                        replace H := Option.bind_eq_some_iff.mp H
                        obtain ⟨t195, A430, H⟩ := H
                        replace H : (if t195 = 0 then ((gaugeref0_EqNat.f t191 t121).bind fun t196 => (if t196 = true then ((gaugelaw1_add.f t121 t125).bind fun t197 => ((nat_Cmp.f t197 t121).bind fun t200 => (if t200 < 0 then (none) else ((nat_From.f 1).bind fun t201 => ((gaugelaw1_mul.f t121 t201).bind fun t204 => ((gaugeref0_EqNat.f t204 t121).bind fun t207 => (if t207 = true then ((gaugelaw1_mul.f t121 ([] : List Int)).bind fun t208 => (if (t208.length : Int) > 0 then (none) else (gaugelaw1_NatLaws.l0 k1 l0 (wrap64 (x3_1 + 1))))) else (none)))))))) else (none))) else (none)) = some r := H
                        have A43 := Aside0.mk A430
                        clear A430
                        by_cases c44 : t195 = 0
                        · rw [if_pos c44] at H
                          have c44b0 : (t195 == 0) = true := beq_iff_eq.mpr c44
                          have c44b1 : (t195 != 0) = false := bne_eq_false_iff_eq.mpr c44
                          clear c44
                          replace H := Option.bind_eq_some_iff.mp H
                          obtain ⟨t196, A450, H⟩ := H
                          replace H : (if t196 = true then ((gaugelaw1_add.f t121 t125).bind fun t197 => ((nat_Cmp.f t197 t121).bind fun t200 => (if t200 < 0 then (none) else ((nat_From.f 1).bind fun t201 => ((gaugelaw1_mul.f t121 t201).bind fun t204 => ((gaugeref0_EqNat.f t204 t121).bind fun t207 => (if t207 = true then ((gaugelaw1_mul.f t121 ([] : List Int)).bind fun t208 => (if (t208.length : Int) > 0 then (none) else (gaugelaw1_NatLaws.l0 k1 l0 (wrap64 (x3_1 + 1))))) else (none)))))))) else (none)) = some r := H
                          have A45 := Aside0.mk A450
                          clear A450
                          by_cases c46 : t196 = true
                          · subst c46
                            have H1 : ((gaugelaw1_add.f t121 t125).bind fun t197 => ((nat_Cmp.f t197 t121).bind fun t200 => (if t200 < 0 then (none) else ((nat_From.f 1).bind fun t201 => ((gaugelaw1_mul.f t121 t201).bind fun t204 => ((gaugeref0_EqNat.f t204 t121).bind fun t207 => (if t207 = true then ((gaugelaw1_mul.f t121 ([] : List Int)).bind fun t208 => (if (t208.length : Int) > 0 then (none) else (gaugelaw1_NatLaws.l0 k1 l0 (wrap64 (x3_1 + 1))))) else (none)))))))) = some r := by rw [if_pos rfl] at H; exact H
                            clear H
                            have H := H1
                            clear H1
                            replace H := Option.bind_eq_some_iff.mp H
                            obtain ⟨t197, A470, H⟩ := H
                            replace H : ((nat_Cmp.f t197 t121).bind fun t200 => (if t200 < 0 then (none) else ((nat_From.f 1).bind fun t201 => ((gaugelaw1_mul.f t121 t201).bind fun t204 => ((gaugeref0_EqNat.f t204 t121).bind fun t207 => (if t207 = true then ((gaugelaw1_mul.f t121 ([] : List Int)).bind fun t208 => (if (t208.length : Int) > 0 then (none) else (gaugelaw1_NatLaws.l0 k1 l0 (wrap64 (x3_1 + 1))))) else (none))))))) = some r := H
                            have A47 := Aside0.mk A470
                            clear A470
                            replace H := Option.bind_eq_some_iff.mp H
                            obtain ⟨t200, A480, H⟩ := H
                            replace H : (if t200 < 0 then (none) else ((nat_From.f 1).bind fun t201 => ((gaugelaw1_mul.f t121 t201).bind fun t204 => ((gaugeref0_EqNat.f t204 t121).bind fun t207 => (if t207 = true then ((gaugelaw1_mul.f t121 ([] : List Int)).bind fun t208 => (if (t208.length : Int) > 0 then (none) else (gaugelaw1_NatLaws.l0 k1 l0 (wrap64 (x3_1 + 1))))) else (none)))))) = some r := H
                            have A48 := Aside0.mk A480
                            clear A480
                            by_cases c49 : t200 < 0
                            · rw [if_pos c49] at H
                              exact absurd H (by simp)
                            · rw [if_neg c49] at H
                              have c49b0 : decide (t200 < 0) = false := decide_eq_false c49
                              clear c49
                              replace H := Option.bind_eq_some_iff.mp H
                              obtain ⟨t201, A500, H⟩ := H
                              replace H : ((gaugelaw1_mul.f t121 t201).bind fun t204 => ((gaugeref0_EqNat.f t204 t121).bind fun t207 => (if t207 = true then ((gaugelaw1_mul.f t121 ([] : List Int)).bind fun t208 => (if (t208.length : Int) > 0 then (none) else (gaugelaw1_NatLaws.l0 k1 l0 (wrap64 (x3_1 + 1))))) else (none)))) = some r := H
                              have A50 := Aside0.mk A500
                              clear A500
                              replace H := Option.bind_eq_some_iff.mp H
                              obtain ⟨t204, A510, H⟩ := H
                              replace H : ((gaugeref0_EqNat.f t204 t121).bind fun t207 => (if t207 = true then ((gaugelaw1_mul.f t121 ([] : List Int)).bind fun t208 => (if (t208.length : Int) > 0 then (none) else (gaugelaw1_NatLaws.l0 k1 l0 (wrap64 (x3_1 + 1))))) else (none))) = some r := H
                              have A51 := Aside0.mk A510
                              clear A510
                              replace H := Option.bind_eq_some_iff.mp H
                              obtain ⟨t207, A520, H⟩ := H
                              replace H : (if t207 = true then ((gaugelaw1_mul.f t121 ([] : List Int)).bind fun t208 => (if (t208.length : Int) > 0 then (none) else (gaugelaw1_NatLaws.l0 k1 l0 (wrap64 (x3_1 + 1))))) else (none)) = some r := H
                              have A52 := Aside0.mk A520
                              clear A520
                              by_cases c53 : t207 = true
                              · subst c53
                                have H1 : ((gaugelaw1_mul.f t121 ([] : List Int)).bind fun t208 => (if (t208.length : Int) > 0 then (none) else (gaugelaw1_NatLaws.l0 k1 l0 (wrap64 (x3_1 + 1))))) = some r := by rw [if_pos rfl] at H; exact H
                                clear H
                                have H := H1
                                clear H1
                                replace H := Option.bind_eq_some_iff.mp H
                                obtain ⟨t208, A540, H⟩ := H
                                replace H : (if (t208.length : Int) > 0 then (none) else (gaugelaw1_NatLaws.l0 k1 l0 (wrap64 (x3_1 + 1)))) = some r := H
                                have A54 := Aside0.mk A540
                                clear A540
                                by_cases c55 : (t208.length : Int) > 0
                                · rw [if_pos c55] at H
                                  exact absurd H (by simp)
                                · rw [if_neg c55] at H
                                  have c55b0 : decide (0 < (t208.length : Int)) = false := decide_eq_false c55
                                  have c55b1 : decide (0 < t208.length) = false := decide_eq_false (by omega)
                                  clear c55
                                  have H' := Aside0.mk H
                                  clear H
                                  try go_wp2
                                  have n0_ := Aside0.mk (Kd.V_drew HO_0.out)
                                  have n1_ := Aside0.mk (below_drew1 HB.out)
                                  clear HO_0
                                  clear HB
                                  have HO_0 := n0_
                                  have HB := n1_
                                  clear n0_ n1_
                                  have p113 : 0 ≤ (x3_1 : Int) := of_decide_eq_true (by first | (with_reducible assumption) | assumption)
                                  have q113 : x3_1 < (l0.length : Int) := of_decide_eq_true (by first | (with_reducible assumption) | assumption)
                                  obtain ⟨ad113, A113_0, c113_0, A113_1, c113_1, A113_2, c113_2, e113, hx113_0, hx113_1, hx113_2, hl113_0, hi113_0, hl113_1, hi113_1, hl113_2, hi113_2⟩ := at_T27 (Kd.V_reads' HO_0.out).2.2 x3_1 p113 q113
                                  cases e113
                                  obtain ⟨ce113, hce113, hMe113, hcc113⟩ := Kd.V_get HO_0.out z27 x3_1 p113 (by first | exact q113 | exact of_decide_eq_true (by first | (with_reducible assumption) | assumption) | (have e_ := (Kd.V_reads' HO_0.out).1; omega))
                                  obtain ⟨ua113_0, uc113_0, ua113_1, uc113_1, ua113_2, uc113_2, rfl, ul113_0, ge113_0, ul113_1, ge113_1, ul113_2, ge113_2⟩ := k27_openF hMe113
                                  have hv113_0 := hcc113 0 _ rfl
                                  rw [Nat.add_zero] at hv113_0
                                  replace hv113_0 := Option.some.inj (hv113_0.symm.trans hx113_0)
                                  injection hv113_0 with hva_ hvn_ hvc_
                                  rw [hva_] at ge113_0
                                  rw [hvc_] at ul113_0
                                  have HL113_0 := Aside0.mk (show Kd.V (Kd.int .u64) 37 _ w.heap.size _ _ ((rd_T27 l0 x3_1).f0) from Kd.V_mk ul113_0 ge113_0)
                                  clear hva_ hvn_ hvc_ ge113_0 ul113_0
                                  have hv113_1 := hcc113 1 _ rfl
                                  rw [add_field _ _ 1 (by omega)] at hv113_1
                                  replace hv113_1 := Option.some.inj (hv113_1.symm.trans hx113_1)
                                  injection hv113_1 with hva_ hvn_ hvc_
                                  rw [hva_] at ge113_1
                                  rw [hvc_] at ul113_1
                                  have HL113_1 := Aside0.mk (show Kd.V (Kd.int .u64) 37 _ w.heap.size _ _ ((rd_T27 l0 x3_1).f1) from Kd.V_mk ul113_1 ge113_1)
                                  clear hva_ hvn_ hvc_ ge113_1 ul113_1
                                  have hv113_2 := hcc113 2 _ rfl
                                  rw [add_field _ _ 2 (by omega)] at hv113_2
                                  replace hv113_2 := Option.some.inj (hv113_2.symm.trans hx113_2)
                                  injection hv113_2 with hva_ hvn_ hvc_
                                  rw [hva_] at ge113_2
                                  rw [hvc_] at ul113_2
                                  have HL113_2 := Aside0.mk (show Kd.V (Kd.int .u64) 37 _ w.heap.size _ _ ((rd_T27 l0 x3_1).f2) from Kd.V_mk ul113_2 ge113_2)
                                  clear hva_ hvn_ hvc_ ge113_2 ul113_2
                                  clear hcc113 hce113
                                  have HR113_0 := Aside0.mk hi113_0
                                  have HC113_0 := Aside0.mk hl113_0
                                  clear hi113_0 hl113_0
                                  have HR113_1 := Aside0.mk hi113_1
                                  have HC113_1 := Aside0.mk hl113_1
                                  clear hi113_1 hl113_1
                                  have HR113_2 := Aside0.mk hi113_2
                                  have HC113_2 := Aside0.mk hl113_2
                                  clear hi113_2 hl113_2
                                  replace p113 := eq_true p113
                                  replace q113 := eq_true q113
                                  have p114 : 0 ≤ (x3_1 : Int) := of_decide_eq_true (by first | (with_reducible assumption) | assumption)
                                  have q114 : x3_1 < (l0.length : Int) := of_decide_eq_true (by first | (with_reducible assumption) | assumption)
                                  obtain ⟨ad114, A114_0, c114_0, A114_1, c114_1, A114_2, c114_2, e114, hx114_0, hx114_1, hx114_2, hl114_0, hi114_0, hl114_1, hi114_1, hl114_2, hi114_2⟩ := at_T27 (Kd.V_reads' HO_0.out).2.2 x3_1 p114 q114
                                  obtain rfl : ad113 = ad114 := (by injection e114)
                                  obtain ⟨ce114, hce114, hMe114, hcc114⟩ := Kd.V_get HO_0.out z27 x3_1 p114 (by first | exact q114 | exact of_decide_eq_true (by first | (with_reducible assumption) | assumption) | (have e_ := (Kd.V_reads' HO_0.out).1; omega))
                                  obtain ⟨ua114_0, uc114_0, ua114_1, uc114_1, ua114_2, uc114_2, rfl, ul114_0, ge114_0, ul114_1, ge114_1, ul114_2, ge114_2⟩ := k27_openF hMe114
                                  have hv114_0 := hcc114 0 _ rfl
                                  rw [Nat.add_zero] at hv114_0
                                  replace hv114_0 := Option.some.inj (hv114_0.symm.trans hx114_0)
                                  injection hv114_0 with hva_ hvn_ hvc_
                                  rw [hva_] at ge114_0
                                  rw [hvc_] at ul114_0
                                  have HL114_0 := Aside0.mk (show Kd.V (Kd.int .u64) 37 _ w.heap.size _ _ ((rd_T27 l0 x3_1).f0) from Kd.V_mk ul114_0 ge114_0)
                                  clear hva_ hvn_ hvc_ ge114_0 ul114_0
                                  have hv114_1 := hcc114 1 _ rfl
                                  rw [add_field _ _ 1 (by omega)] at hv114_1
                                  replace hv114_1 := Option.some.inj (hv114_1.symm.trans hx114_1)
                                  injection hv114_1 with hva_ hvn_ hvc_
                                  rw [hva_] at ge114_1
                                  rw [hvc_] at ul114_1
                                  have HL114_1 := Aside0.mk (show Kd.V (Kd.int .u64) 37 _ w.heap.size _ _ ((rd_T27 l0 x3_1).f1) from Kd.V_mk ul114_1 ge114_1)
                                  clear hva_ hvn_ hvc_ ge114_1 ul114_1
                                  have hv114_2 := hcc114 2 _ rfl
                                  rw [add_field _ _ 2 (by omega)] at hv114_2
                                  replace hv114_2 := Option.some.inj (hv114_2.symm.trans hx114_2)
                                  injection hv114_2 with hva_ hvn_ hvc_
                                  rw [hva_] at ge114_2
                                  rw [hvc_] at ul114_2
                                  have HL114_2 := Aside0.mk (show Kd.V (Kd.int .u64) 37 _ w.heap.size _ _ ((rd_T27 l0 x3_1).f2) from Kd.V_mk ul114_2 ge114_2)
                                  clear hva_ hvn_ hvc_ ge114_2 ul114_2
                                  clear hcc114 hce114
                                  have HR114_0 := Aside0.mk hi114_0
                                  have HC114_0 := Aside0.mk hl114_0
                                  clear hi114_0 hl114_0
                                  have HR114_1 := Aside0.mk hi114_1
                                  have HC114_1 := Aside0.mk hl114_1
                                  clear hi114_1 hl114_1
                                  have HR114_2 := Aside0.mk hi114_2
                                  have HC114_2 := Aside0.mk hl114_2
                                  clear hi114_2 hl114_2
                                  replace p114 := eq_true p114
                                  replace q114 := eq_true q114
                                  have ea_ := Option.some.inj (hx113_0.symm.trans hx114_0)
                                  injection ea_ with ea_ en_ ec_
                                  subst ea_
                                  subst ec_
                                  clear en_
                                  have ea_ := Option.some.inj (hx113_1.symm.trans hx114_1)
                                  injection ea_ with ea_ en_ ec_
                                  subst ea_
                                  subst ec_
                                  clear en_
                                  have ea_ := Option.some.inj (hx113_2.symm.trans hx114_2)
                                  injection ea_ with ea_ en_ ec_
                                  subst ea_
                                  subst ec_
                                  clear en_
                                  have p115 : 0 ≤ (x3_1 : Int) := of_decide_eq_true (by first | (with_reducible assumption) | assumption)
                                  have q115 : x3_1 < (l0.length : Int) := of_decide_eq_true (by first | (with_reducible assumption) | assumption)
                                  obtain ⟨ad115, A115_0, c115_0, A115_1, c115_1, A115_2, c115_2, e115, hx115_0, hx115_1, hx115_2, hl115_0, hi115_0, hl115_1, hi115_1, hl115_2, hi115_2⟩ := at_T27 (Kd.V_reads' HO_0.out).2.2 x3_1 p115 q115
                                  obtain rfl : ad113 = ad115 := (by injection e115)
                                  obtain ⟨ce115, hce115, hMe115, hcc115⟩ := Kd.V_get HO_0.out z27 x3_1 p115 (by first | exact q115 | exact of_decide_eq_true (by first | (with_reducible assumption) | assumption) | (have e_ := (Kd.V_reads' HO_0.out).1; omega))
                                  obtain ⟨ua115_0, uc115_0, ua115_1, uc115_1, ua115_2, uc115_2, rfl, ul115_0, ge115_0, ul115_1, ge115_1, ul115_2, ge115_2⟩ := k27_openF hMe115
                                  have hv115_0 := hcc115 0 _ rfl
                                  rw [Nat.add_zero] at hv115_0
                                  replace hv115_0 := Option.some.inj (hv115_0.symm.trans hx115_0)
                                  injection hv115_0 with hva_ hvn_ hvc_
                                  rw [hva_] at ge115_0
                                  rw [hvc_] at ul115_0
                                  have HL115_0 := Aside0.mk (show Kd.V (Kd.int .u64) 37 _ w.heap.size _ _ ((rd_T27 l0 x3_1).f0) from Kd.V_mk ul115_0 ge115_0)
                                  clear hva_ hvn_ hvc_ ge115_0 ul115_0
                                  have hv115_1 := hcc115 1 _ rfl
                                  rw [add_field _ _ 1 (by omega)] at hv115_1
                                  replace hv115_1 := Option.some.inj (hv115_1.symm.trans hx115_1)
                                  injection hv115_1 with hva_ hvn_ hvc_
                                  rw [hva_] at ge115_1
                                  rw [hvc_] at ul115_1
                                  have HL115_1 := Aside0.mk (show Kd.V (Kd.int .u64) 37 _ w.heap.size _ _ ((rd_T27 l0 x3_1).f1) from Kd.V_mk ul115_1 ge115_1)
                                  clear hva_ hvn_ hvc_ ge115_1 ul115_1
                                  have hv115_2 := hcc115 2 _ rfl
                                  rw [add_field _ _ 2 (by omega)] at hv115_2
                                  replace hv115_2 := Option.some.inj (hv115_2.symm.trans hx115_2)
                                  injection hv115_2 with hva_ hvn_ hvc_
                                  rw [hva_] at ge115_2
                                  rw [hvc_] at ul115_2
                                  have HL115_2 := Aside0.mk (show Kd.V (Kd.int .u64) 37 _ w.heap.size _ _ ((rd_T27 l0 x3_1).f2) from Kd.V_mk ul115_2 ge115_2)
                                  clear hva_ hvn_ hvc_ ge115_2 ul115_2
                                  clear hcc115 hce115
                                  have HR115_0 := Aside0.mk hi115_0
                                  have HC115_0 := Aside0.mk hl115_0
                                  clear hi115_0 hl115_0
                                  have HR115_1 := Aside0.mk hi115_1
                                  have HC115_1 := Aside0.mk hl115_1
                                  clear hi115_1 hl115_1
                                  have HR115_2 := Aside0.mk hi115_2
                                  have HC115_2 := Aside0.mk hl115_2
                                  clear hi115_2 hl115_2
                                  replace p115 := eq_true p115
                                  replace q115 := eq_true q115
                                  have ea_ := Option.some.inj (hx113_0.symm.trans hx115_0)
                                  injection ea_ with ea_ en_ ec_
                                  subst ea_
                                  subst ec_
                                  clear en_
                                  have ea_ := Option.some.inj (hx113_1.symm.trans hx115_1)
                                  injection ea_ with ea_ en_ ec_
                                  subst ea_
                                  subst ec_
                                  clear en_
                                  have ea_ := Option.some.inj (hx113_2.symm.trans hx115_2)
                                  injection ea_ with ea_ en_ ec_
                                  subst ea_
                                  subst ec_
                                  clear en_
                                  refine start_ (n := 17) (S := fun w' => w'.cell? (ad113.add ((x3_1).toNat * 3)) = some (.slice A113_0 ((rd_T27 l0 x3_1).f0).length c113_0) ∧ w'.cell? ⟨(ad113.add ((x3_1).toNat * 3)).block, (ad113.add ((x3_1).toNat * 3)).off + 1, none⟩ = some (.slice A113_1 ((rd_T27 l0 x3_1).f1).length c113_1) ∧ w'.cell? ⟨(ad113.add ((x3_1).toNat * 3)).block, (ad113.add ((x3_1).toNat * 3)).off + 2, none⟩ = some (.slice A113_2 ((rd_T27 l0 x3_1).f2).length c113_2) ∧ w'.cell? (ad113.add ((x3_1).toNat * 3)) = some (.slice A113_0 ((rd_T27 l0 x3_1).f0).length c113_0) ∧ w'.cell? ⟨(ad113.add ((x3_1).toNat * 3)).block, (ad113.add ((x3_1).toNat * 3)).off + 1, none⟩ = some (.slice A113_1 ((rd_T27 l0 x3_1).f1).length c113_1) ∧ w'.cell? ⟨(ad113.add ((x3_1).toNat * 3)).block, (ad113.add ((x3_1).toNat * 3)).off + 2, none⟩ = some (.slice A113_2 ((rd_T27 l0 x3_1).f2).length c113_2) ∧ w'.cell? (ad113.add ((x3_1).toNat * 3)) = some (.slice A113_0 ((rd_T27 l0 x3_1).f0).length c113_0) ∧ w'.cell? ⟨(ad113.add ((x3_1).toNat * 3)).block, (ad113.add ((x3_1).toNat * 3)).off + 1, none⟩ = some (.slice A113_1 ((rd_T27 l0 x3_1).f1).length c113_1) ∧ w'.cell? ⟨(ad113.add ((x3_1).toNat * 3)).block, (ad113.add ((x3_1).toNat * 3)).off + 2, none⟩ = some (.slice A113_2 ((rd_T27 l0 x3_1).f2).length c113_2)) (ds := []) #[false, false, false, false, false, false, false, false, false, false, false, false, false, false, false, false, false] (by kernel_rfl) rfl rfl ⟨hx113_0, hx113_1, hx113_2, hx114_0, hx114_1, hx114_2, hx115_0, hx115_1, hx115_2⟩ (fun hHeld => ?_); refine with_tabW gaugelaw1_NatLaws.tab4 gaugelaw1_NatLaws.bits4 (fun HT_ HW_ => ?_)
                                  generalize wr.drew = w56 at HO_0 HB HL113_0 HL113_1 HL113_2 HL114_0 HL114_1 HL114_2 HL115_0 HL115_1 HL115_2 HR113_0 HR113_1 HR113_2 HR114_0 HR114_1 HR114_2 HR115_0 HR115_1 HR115_2 hx113_0 hx113_1 hx113_2 hx114_0 hx114_1 hx114_2 hx115_0 hx115_1 hx115_2 hHeld ⊢
                                  refine pure_ (i := 0) (N := some 19) (v := ?_) (a' := ?_) #[true, false, false, false, false, false, false, false, false, false, false, false, false, false, false, false, false] rfl rfl (any_of HT_.out (by kernel_rfl)) (fun _ _ _ h => h) (Or.inl ⟨by rfl, ?_⟩) ?_ ?_
                                  rotate_left
                                  · intro w'
                                    go_simp
                                    with_reducible rfl
                                  rotate_left
                                  · simp only [Act.put, List.setIfInBounds_toArray, List.set_cons_zero, List.set_cons_succ, i64_w, i32_w]
                                    rfl
                                  refine pure_ (i := 1) (N := some 20) (v := ?_) (a' := ?_) #[true, true, false, false, false, false, false, false, false, false, false, false, false, false, false, false, false] rfl rfl (any_of HT_.out (by kernel_rfl)) (fun _ _ _ h => h) (Or.inl ⟨by rfl, ?_⟩) ?_ ?_
                                  rotate_left
                                  · intro w'
                                    go_simp
                                    with_reducible rfl
                                  rotate_left
                                  · simp only [Act.put, List.setIfInBounds_toArray, List.set_cons_zero, List.set_cons_succ, i64_w, i32_w]
                                    rfl
                                  refine pure_ (i := 2) (N := some 21) (v := ?_) (a' := ?_) #[true, true, true, false, false, false, false, false, false, false, false, false, false, false, false, false, false] rfl rfl (any_of HT_.out (by kernel_rfl)) (fun _ _ _ h => h) (Or.inl ⟨by rfl, ?_⟩) ?_ ?_
                                  rotate_left
                                  · intro w'
                                    go_simp
                                    with_reducible rfl
                                  rotate_left
                                  · simp only [Act.put, List.setIfInBounds_toArray, List.set_cons_zero, List.set_cons_succ, i64_w, i32_w]
                                    rfl
                                  refine pure_ (i := 3) (N := some 22) (v := ?_) (a' := ?_) #[true, true, true, true, false, false, false, false, false, false, false, false, false, false, false, false, false] rfl rfl (any_of HT_.out (by kernel_rfl)) (fun _ _ _ h => h) (Or.inl ⟨by rfl, ?_⟩) ?_ ?_
                                  rotate_left
                                  · intro w'
                                    go_simp
                                    with_reducible rfl
                                  rotate_left
                                  · simp only [Act.put, List.setIfInBounds_toArray, List.set_cons_zero, List.set_cons_succ, i64_w, i32_w]
                                    rfl
                                  refine pure_ (i := 5) (N := some 24) (v := ?_) (a' := ?_) #[true, true, true, true, false, true, false, false, false, false, false, false, false, false, false, false, false] rfl rfl (any_of HT_.out (by kernel_rfl)) (fun _ _ _ h => h) (Or.inl ⟨by rfl, ?_⟩) ?_ ?_
                                  rotate_left
                                  · intro w'
                                    go_simp
                                    with_reducible rfl
                                  rotate_left
                                  · simp only [Act.put, List.setIfInBounds_toArray, List.set_cons_zero, List.set_cons_succ, i64_w, i32_w]
                                    rfl
                                  refine pure_ (i := 6) (N := some 25) (v := ?_) (a' := ?_) #[true, true, true, true, false, true, true, false, false, false, false, false, false, false, false, false, false] rfl rfl (any_of HT_.out (by kernel_rfl)) (fun _ _ _ h => h) (Or.inl ⟨by rfl, ?_⟩) ?_ ?_
                                  rotate_left
                                  · intro w'
                                    go_simp
                                    with_reducible rfl
                                  rotate_left
                                  · simp only [Act.put, List.setIfInBounds_toArray, List.set_cons_zero, List.set_cons_succ, i64_w, i32_w]
                                    rfl
                                  refine pure_ (i := 7) (N := some 26) (v := ?_) (a' := ?_) #[true, true, true, true, false, true, true, true, false, false, false, false, false, false, false, false, false] rfl rfl (any_of HT_.out (by kernel_rfl)) (fun _ _ _ h => h) (Or.inl ⟨by rfl, ?_⟩) ?_ ?_
                                  rotate_left
                                  · intro w'
                                    go_simp
                                    with_reducible rfl
                                  rotate_left
                                  · simp only [Act.put, List.setIfInBounds_toArray, List.set_cons_zero, List.set_cons_succ, i64_w, i32_w]
                                    rfl
                                  refine pure_ (i := 8) (N := some 27) (v := ?_) (a' := ?_) #[true, true, true, true, false, true, true, true, true, false, false, false, false, false, false, false, false] rfl rfl (any_of HT_.out (by kernel_rfl)) (fun _ _ _ h => h) (Or.inl ⟨by rfl, ?_⟩) ?_ ?_
                                  rotate_left
                                  · intro w'
                                    go_simp
                                    with_reducible rfl
                                  rotate_left
                                  · simp only [Act.put, List.setIfInBounds_toArray, List.set_cons_zero, List.set_cons_succ, i64_w, i32_w]
                                    rfl
                                  refine pure_ (i := 10) (N := some 29) (v := ?_) (a' := ?_) #[true, true, true, true, false, true, true, true, true, false, true, false, false, false, false, false, false] rfl rfl (any_of HT_.out (by kernel_rfl)) (fun _ _ _ h => h) (Or.inl ⟨by rfl, ?_⟩) ?_ ?_
                                  rotate_left
                                  · intro w'
                                    go_simp
                                    with_reducible rfl
                                  rotate_left
                                  · simp only [Act.put, List.setIfInBounds_toArray, List.set_cons_zero, List.set_cons_succ, i64_w, i32_w]
                                    rfl
                                  refine pure_ (i := 11) (N := some 30) (v := ?_) (a' := ?_) #[true, true, true, true, false, true, true, true, true, false, true, true, false, false, false, false, false] rfl rfl (any_of HT_.out (by kernel_rfl)) (fun _ _ _ h => h) (Or.inl ⟨by rfl, ?_⟩) ?_ ?_
                                  rotate_left
                                  · intro w'
                                    go_simp
                                    with_reducible rfl
                                  rotate_left
                                  · simp only [Act.put, List.setIfInBounds_toArray, List.set_cons_zero, List.set_cons_succ, i64_w, i32_w]
                                    rfl
                                  refine pure_ (i := 12) (N := some 31) (v := ?_) (a' := ?_) #[true, true, true, true, false, true, true, true, true, false, true, true, true, false, false, false, false] rfl rfl (any_of HT_.out (by kernel_rfl)) (fun _ _ _ h => h) (Or.inl ⟨by rfl, ?_⟩) ?_ ?_
                                  rotate_left
                                  · intro w'
                                    go_simp
                                    with_reducible rfl
                                  rotate_left
                                  · simp only [Act.put, List.setIfInBounds_toArray, List.set_cons_zero, List.set_cons_succ, i64_w, i32_w]
                                    rfl
                                  refine pure_ (i := 13) (N := some 32) (v := ?_) (a' := ?_) #[true, true, true, true, false, true, true, true, true, false, true, true, true, true, false, false, false] rfl rfl (any_of HT_.out (by kernel_rfl)) (fun _ _ _ h => h) (Or.inl ⟨by rfl, ?_⟩) ?_ ?_
                                  rotate_left
                                  · intro w'
                                    go_simp
                                    with_reducible rfl
                                  rotate_left
                                  · simp only [Act.put, List.setIfInBounds_toArray, List.set_cons_zero, List.set_cons_succ, i64_w, i32_w]
                                    rfl
                                  refine take_ (i := 4) (N := some 23) (v := ?_) (a' := ?_) #[true, true, true, true, true, true, true, true, true, false, true, true, true, true, false, false, false] rfl rfl (take_ofW HT_.out HW_.out (by kernel_rfl)) (fun _ _ _ h => h) (Or.inl ⟨by rfl, ?_⟩) hHeld ?_ ?_
                                  rotate_left
                                  · rintro w' ⟨s0, s1, s2, s3, s4, s5, s6, s7, s8⟩
                                    go_simp
                                    with_reducible rfl
                                  rotate_left
                                  · simp only [Act.put, List.setIfInBounds_toArray, List.set_cons_zero, List.set_cons_succ, i64_w, i32_w]
                                    rfl
                                  refine take_ (i := 9) (N := some 28) (v := ?_) (a' := ?_) #[true, true, true, true, true, true, true, true, true, true, true, true, true, true, false, false, false] rfl rfl (take_ofW HT_.out HW_.out (by kernel_rfl)) (fun _ _ _ h => h) (Or.inl ⟨by rfl, ?_⟩) hHeld ?_ ?_
                                  rotate_left
                                  · rintro w' ⟨s0, s1, s2, s3, s4, s5, s6, s7, s8⟩
                                    go_simp
                                    with_reducible rfl
                                  rotate_left
                                  · simp only [Act.put, List.setIfInBounds_toArray, List.set_cons_zero, List.set_cons_succ, i64_w, i32_w]
                                    rfl
                                  refine take_ (i := 14) (N := some 33) (v := ?_) (a' := ?_) #[true, true, true, true, true, true, true, true, true, true, true, true, true, true, true, false, false] rfl rfl (take_ofW HT_.out HW_.out (by kernel_rfl)) (fun _ _ _ h => h) (Or.inl ⟨by rfl, ?_⟩) hHeld ?_ ?_
                                  rotate_left
                                  · rintro w' ⟨s0, s1, s2, s3, s4, s5, s6, s7, s8⟩
                                    go_simp
                                    with_reducible rfl
                                  rotate_left
                                  · simp only [Act.put, List.setIfInBounds_toArray, List.set_cons_zero, List.set_cons_succ, i64_w, i32_w]
                                    rfl
                                  refine one_ (i := 15) (N := some 34) #[true, true, true, true, true, true, true, true, true, true, true, true, true, true, true, true, false] rfl rfl (one_of HT_.out (by kernel_rfl)) (by decide) (fun K hK => ?_)
                                  refine Kd.N_lit_step (Kd.slice 37 (Kd.int .u64)) _ 25 ?hg (N' := 34) ?hd (xs := ([(rd_T27 l0 x3_1).f0, (rd_T27 l0 x3_1).f1, (rd_T27 l0 x3_1).f2] : List (List Int))) (inner := [.slice A113_0 ((rd_T27 l0 x3_1).f0).length c113_0, .slice A113_1 ((rd_T27 l0 x3_1).f1).length c113_1, .slice A113_2 ((rd_T27 l0 x3_1).f2).length c113_2]) (ok := (fun k_ => (P0_ k_ ∨ w.heap.size ≤ k_))) (okp := (fun k_ => (P0_ k_ ∨ w.heap.size ≤ k_))) ?hr ?hp (fun _ hk => hk) ((show ∀ k_, w56.heap.size ≤ k_ → (fun k_ => (P0_ k_ ∨ w.heap.size ≤ k_)) k_ from fun k_ hk => (.inr (Nat.le_trans (below_size (by repeat (first | (with_reducible first | exact HB.out | apply below_alloc | apply pw_below_drewN | apply below_drew1) | exact HB.out))) hk))) _ (Nat.le_refl _)) (Below.refl _ _) (Nat.le_refl _) (by simp) ?_; (case hd => rfl); (case hg => rfl); (case hr => first | (go_simp; done) | (go_simp; rfl)); (case hp => exact (Reps.one (show Kd.FK (Kd.slice 37 (Kd.int .u64)) _ _ ((rd_T27 l0 x3_1).f0) [.slice A113_0 ((rd_T27 l0 x3_1).f0).length c113_0] from (Kd.FK_slice_mk (Kd.V_reads' (Kd.V_mono (ok' := (fun k_ => (P0_ k_ ∨ w.heap.size ≤ k_))) (HL113_0.out) (fun k_ hk => hk))).2.1 (Kd.V_F (Kd.V_mono (ok' := (fun k_ => (P0_ k_ ∨ w.heap.size ≤ k_))) (HL113_0.out) (fun k_ hk => hk))))) (Reps.one (show Kd.FK (Kd.slice 37 (Kd.int .u64)) _ _ ((rd_T27 l0 x3_1).f1) [.slice A113_1 ((rd_T27 l0 x3_1).f1).length c113_1] from (Kd.FK_slice_mk (Kd.V_reads' (Kd.V_mono (ok' := (fun k_ => (P0_ k_ ∨ w.heap.size ≤ k_))) (HL114_1.out) (fun k_ hk => hk))).2.1 (Kd.V_F (Kd.V_mono (ok' := (fun k_ => (P0_ k_ ∨ w.heap.size ≤ k_))) (HL114_1.out) (fun k_ hk => hk))))) (Reps.one (show Kd.FK (Kd.slice 37 (Kd.int .u64)) _ _ ((rd_T27 l0 x3_1).f2) [.slice A113_2 ((rd_T27 l0 x3_1).f2).length c113_2] from (Kd.FK_slice_mk (Kd.V_reads' (Kd.V_mono (ok' := (fun k_ => (P0_ k_ ∨ w.heap.size ≤ k_))) (HL115_2.out) (fun k_ hk => hk))).2.1 (Kd.V_F (Kd.V_mono (ok' := (fun k_ => (P0_ k_ ∨ w.heap.size ≤ k_))) (HL115_2.out) (fun k_ hk => hk))))) (Reps.none _ _)))))
                                  intro v117 w57 ho58 hb hg_ hnew_
                                  have HS0_ := (hb.cell (World.block_lt_of_cell? _ _ (hHeld.1))).trans (hHeld.1)
                                  have HS1_ := (hb.cell (World.block_lt_of_cell? _ _ (hHeld.2.1))).trans (hHeld.2.1)
                                  have HS2_ := (hb.cell (World.block_lt_of_cell? _ _ (hHeld.2.2.1))).trans (hHeld.2.2.1)
                                  have HS3_ := (hb.cell (World.block_lt_of_cell? _ _ (hHeld.2.2.2.1))).trans (hHeld.2.2.2.1)
                                  have HS4_ := (hb.cell (World.block_lt_of_cell? _ _ (hHeld.2.2.2.2.1))).trans (hHeld.2.2.2.2.1)
                                  have HS5_ := (hb.cell (World.block_lt_of_cell? _ _ (hHeld.2.2.2.2.2.1))).trans (hHeld.2.2.2.2.2.1)
                                  have HS6_ := (hb.cell (World.block_lt_of_cell? _ _ (hHeld.2.2.2.2.2.2.1))).trans (hHeld.2.2.2.2.2.2.1)
                                  have HS7_ := (hb.cell (World.block_lt_of_cell? _ _ (hHeld.2.2.2.2.2.2.2.1))).trans (hHeld.2.2.2.2.2.2.2.1)
                                  have HS8_ := (hb.cell (World.block_lt_of_cell? _ _ (hHeld.2.2.2.2.2.2.2.2))).trans (hHeld.2.2.2.2.2.2.2.2)
                                  clear hg_ hnew_
                                  (first | rw [← Ny116.out] at ho58 | (simp only [Int.reduceToNat] at ho58; rw [← Ny116.out] at ho58))
                                  have n0_ := Aside0.mk (Kd.V_elder' (by (with_reducible repeat (first | apply Kd.V_alloc | apply Kd.V_drewN | apply Kd.V_drew)); exact HO_0.out) (Kd.N_base ho58) hb)
                                  have n1_ := Aside0.mk (Kd.V_elder' (by (with_reducible repeat (first | apply Kd.V_alloc | apply Kd.V_drewN | apply Kd.V_drew)); exact HL113_0.out) (Kd.N_base ho58) hb)
                                  have n2_ := Aside0.mk (Kd.V_elder' (by (with_reducible repeat (first | apply Kd.V_alloc | apply Kd.V_drewN | apply Kd.V_drew)); exact HL113_1.out) (Kd.N_base ho58) hb)
                                  have n3_ := Aside0.mk (Kd.V_elder' (by (with_reducible repeat (first | apply Kd.V_alloc | apply Kd.V_drewN | apply Kd.V_drew)); exact HL113_2.out) (Kd.N_base ho58) hb)
                                  have n4_ := Aside0.mk (Kd.V_elder' (by (with_reducible repeat (first | apply Kd.V_alloc | apply Kd.V_drewN | apply Kd.V_drew)); exact HL114_0.out) (Kd.N_base ho58) hb)
                                  have n5_ := Aside0.mk (Kd.V_elder' (by (with_reducible repeat (first | apply Kd.V_alloc | apply Kd.V_drewN | apply Kd.V_drew)); exact HL114_1.out) (Kd.N_base ho58) hb)
                                  have n6_ := Aside0.mk (Kd.V_elder' (by (with_reducible repeat (first | apply Kd.V_alloc | apply Kd.V_drewN | apply Kd.V_drew)); exact HL114_2.out) (Kd.N_base ho58) hb)
                                  have n7_ := Aside0.mk (Kd.V_elder' (by (with_reducible repeat (first | apply Kd.V_alloc | apply Kd.V_drewN | apply Kd.V_drew)); exact HL115_0.out) (Kd.N_base ho58) hb)
                                  have n8_ := Aside0.mk (Kd.V_elder' (by (with_reducible repeat (first | apply Kd.V_alloc | apply Kd.V_drewN | apply Kd.V_drew)); exact HL115_1.out) (Kd.N_base ho58) hb)
                                  have n9_ := Aside0.mk (Kd.V_elder' (by (with_reducible repeat (first | apply Kd.V_alloc | apply Kd.V_drewN | apply Kd.V_drew)); exact HL115_2.out) (Kd.N_base ho58) hb)
                                  have n10_ := Aside0.mk (Kd.N_lower ho58 (below_size (by repeat (first | (with_reducible first | exact HB.out | apply below_alloc | apply pw_below_drewN | apply below_drew1) | exact HB.out))))
                                  have n11_ := Aside0.mk (Kd.C_below (by repeat (first | (with_reducible exact HR113_0.out) | (with_reducible refine Kd.C_alloc ?_ _) | (with_reducible refine Kd.C_drewN ?_ _) | (with_reducible refine Kd.C_drew ?_) | exact HR113_0.out)) hb)
                                  have n12_ := Aside0.mk (Kd.C_below (by repeat (first | (with_reducible exact HR113_1.out) | (with_reducible refine Kd.C_alloc ?_ _) | (with_reducible refine Kd.C_drewN ?_ _) | (with_reducible refine Kd.C_drew ?_) | exact HR113_1.out)) hb)
                                  have n13_ := Aside0.mk (Kd.C_below (by repeat (first | (with_reducible exact HR113_2.out) | (with_reducible refine Kd.C_alloc ?_ _) | (with_reducible refine Kd.C_drewN ?_ _) | (with_reducible refine Kd.C_drew ?_) | exact HR113_2.out)) hb)
                                  have n14_ := Aside0.mk (Kd.C_below (by repeat (first | (with_reducible exact HR114_0.out) | (with_reducible refine Kd.C_alloc ?_ _) | (with_reducible refine Kd.C_drewN ?_ _) | (with_reducible refine Kd.C_drew ?_) | exact HR114_0.out)) hb)
                                  have n15_ := Aside0.mk (Kd.C_below (by repeat (first | (with_reducible exact HR114_1.out) | (with_reducible refine Kd.C_alloc ?_ _) | (with_reducible refine Kd.C_drewN ?_ _) | (with_reducible refine Kd.C_drew ?_) | exact HR114_1.out)) hb)
                                  have n16_ := Aside0.mk (Kd.C_below (by repeat (first | (with_reducible exact HR114_2.out) | (with_reducible refine Kd.C_alloc ?_ _) | (with_reducible refine Kd.C_drewN ?_ _) | (with_reducible refine Kd.C_drew ?_) | exact HR114_2.out)) hb)
                                  have n17_ := Aside0.mk (Kd.C_below (by repeat (first | (with_reducible exact HR115_0.out) | (with_reducible refine Kd.C_alloc ?_ _) | (with_reducible refine Kd.C_drewN ?_ _) | (with_reducible refine Kd.C_drew ?_) | exact HR115_0.out)) hb)
                                  have n18_ := Aside0.mk (Kd.C_below (by repeat (first | (with_reducible exact HR115_1.out) | (with_reducible refine Kd.C_alloc ?_ _) | (with_reducible refine Kd.C_drewN ?_ _) | (with_reducible refine Kd.C_drew ?_) | exact HR115_1.out)) hb)
                                  have n19_ := Aside0.mk (Kd.C_below (by repeat (first | (with_reducible exact HR115_2.out) | (with_reducible refine Kd.C_alloc ?_ _) | (with_reducible refine Kd.C_drewN ?_ _) | (with_reducible refine Kd.C_drew ?_) | exact HR115_2.out)) hb)
                                  have n20_ := Aside0.mk (below_step (by repeat (first | (with_reducible first | exact HB.out | apply below_alloc | apply pw_below_drewN | apply below_drew1) | exact HB.out)) hb)
                                  clear HO_0
                                  clear HL113_0
                                  clear HL113_1
                                  clear HL113_2
                                  clear HL114_0
                                  clear HL114_1
                                  clear HL114_2
                                  clear HL115_0
                                  clear HL115_1
                                  clear HL115_2
                                  clear HR113_0
                                  clear HR113_1
                                  clear HR113_2
                                  clear HR114_0
                                  clear HR114_1
                                  clear HR114_2
                                  clear HR115_0
                                  clear HR115_1
                                  clear HR115_2
                                  clear HB
                                  have HO_0 := n0_
                                  have HL113_0 := n1_
                                  have HL113_1 := n2_
                                  have HL113_2 := n3_
                                  have HL114_0 := n4_
                                  have HL114_1 := n5_
                                  have HL114_2 := n6_
                                  have HL115_0 := n7_
                                  have HL115_1 := n8_
                                  have HL115_2 := n9_
                                  have HO118 := n10_
                                  have HR113_0 := n11_
                                  have HR113_1 := n12_
                                  have HR113_2 := n13_
                                  have HR114_0 := n14_
                                  have HR114_1 := n15_
                                  have HR114_2 := n16_
                                  have HR115_0 := n17_
                                  have HR115_1 := n18_
                                  have HR115_2 := n19_
                                  have HB := n20_
                                  clear n0_ n1_ n2_ n3_ n4_ n5_ n6_ n7_ n8_ n9_ n10_ n11_ n12_ n13_ n14_ n15_ n16_ n17_ n18_ n19_ n20_
                                  clear hb ho58
                                  obtain ⟨Ao59, co59, eo59⟩ := Kd.N_slice HO118.out
                                  (first | subst eo59 | (injection eo59 with f1_ f2_ f3_; have f4_ := f1_.symm; have f5_ := f3_.symm; clear f1_ f2_ f3_; subst f4_; subst f5_))
                                  refine hK.out _ _ ⟨HS0_, HS1_, HS2_, HS3_, HS4_, HS5_, HS6_, HS7_, HS8_⟩ (fun hHeld => ?_)
                                  clear hK K
                                  refine norm_ (a' := ?_) ?_ ?_
                                  rotate_left
                                  · show Act.put _ (some 34) _ = _
                                    simp only [Act.put, List.setIfInBounds_toArray, List.set_cons_zero, List.set_cons_succ, i64_w, i32_w]
                                    rfl
                                  refine one_ (i := 16) (N := some 35) #[true, true, true, true, true, true, true, true, true, true, true, true, true, true, true, true, true] rfl rfl (one_of HT_.out (by kernel_rfl)) (by decide) (fun K hK => ?_)
                                  refine goes_ Try.func8 (by kernel_rfl) rfl #[.int .i64 300, .slice Ao59 y116.length co59] (by rfl) rfl rfl (by (try simp only [List.map_toArray, List.map_cons, List.map_nil]); first | done | rfl | (simp only [List.length_drop, List.length_take]; rfl)) ?_
                                  with_reducible refine (gaugelaw0_Limbs.calls k1 300 _ _ y116 false _ ?side1 ?side2 A5.out).mono ?_
                                  (case side1 => repeat (first | exact (Kd.N_reads' HO118.out).2.2 | (with_reducible refine Kd.C_alloc ?_ _) | (with_reducible refine Kd.C_drewN ?_ _) | (with_reducible refine Kd.C_drew ?_)))
                                  (case side2 => exact (Kd.N_reads' HO118.out).2.1)
                                  rintro e w' ⟨rfl, ⟨nd, rfl⟩⟩
                                  refine ⟨_, rfl, ?_⟩
                                  refine hK.out _ _ ⟨hHeld.1, hHeld.2.1, hHeld.2.2.1, hHeld.2.2.2.1, hHeld.2.2.2.2.1, hHeld.2.2.2.2.2.1, hHeld.2.2.2.2.2.2.1, hHeld.2.2.2.2.2.2.2.1, hHeld.2.2.2.2.2.2.2.2⟩ (fun hHeld => ?_)
                                  clear hK K
                                  refine norm_ (a' := ?_) ?_ ?_
                                  rotate_left
                                  · show Act.put _ (some 35) _ = _
                                    simp only [Act.put, List.setIfInBounds_toArray, List.set_cons_zero, List.set_cons_succ, i64_w, i32_w]
                                    rfl
                                  refine done_ (done_of HT_.out (by kernel_rfl)) ?_
                                  (repeat clear hHeld)
                                  (try clear HS0_ HS1_ HS2_ HS3_ HS4_ HS5_ HS6_ HS7_ HS8_)
                                  (try clear HS0_ HS1_ HS2_ HS3_)
                                  have p120 : 0 ≤ (x3_1 : Int) := of_decide_eq_true (by first | (with_reducible assumption) | assumption)
                                  have q120 : x3_1 < (l0.length : Int) := of_decide_eq_true (by first | (with_reducible assumption) | assumption)
                                  obtain ⟨ad120, A120_0, c120_0, A120_1, c120_1, A120_2, c120_2, e120, hx120_0, hx120_1, hx120_2, hl120_0, hi120_0, hl120_1, hi120_1, hl120_2, hi120_2⟩ := at_T27 (Kd.V_reads' HO_0.out).2.2 x3_1 p120 q120
                                  obtain rfl : ad113 = ad120 := (by injection e120)
                                  obtain ⟨ce120, hce120, hMe120, hcc120⟩ := Kd.V_get HO_0.out z27 x3_1 p120 (by first | exact q120 | exact of_decide_eq_true (by first | (with_reducible assumption) | assumption) | (have e_ := (Kd.V_reads' HO_0.out).1; omega))
                                  obtain ⟨ua120_0, uc120_0, ua120_1, uc120_1, ua120_2, uc120_2, rfl, ul120_0, ge120_0, ul120_1, ge120_1, ul120_2, ge120_2⟩ := k27_openF hMe120
                                  have hv120_0 := hcc120 0 _ rfl
                                  rw [Nat.add_zero] at hv120_0
                                  replace hv120_0 := Option.some.inj (hv120_0.symm.trans hx120_0)
                                  injection hv120_0 with hva_ hvn_ hvc_
                                  rw [hva_] at ge120_0
                                  rw [hvc_] at ul120_0
                                  have HL120_0 := Aside0.mk (show Kd.V (Kd.int .u64) 37 _ w.heap.size _ _ ((rd_T27 l0 x3_1).f0) from Kd.V_mk ul120_0 ge120_0)
                                  clear hva_ hvn_ hvc_ ge120_0 ul120_0
                                  have hv120_1 := hcc120 1 _ rfl
                                  rw [add_field _ _ 1 (by omega)] at hv120_1
                                  replace hv120_1 := Option.some.inj (hv120_1.symm.trans hx120_1)
                                  injection hv120_1 with hva_ hvn_ hvc_
                                  rw [hva_] at ge120_1
                                  rw [hvc_] at ul120_1
                                  have HL120_1 := Aside0.mk (show Kd.V (Kd.int .u64) 37 _ w.heap.size _ _ ((rd_T27 l0 x3_1).f1) from Kd.V_mk ul120_1 ge120_1)
                                  clear hva_ hvn_ hvc_ ge120_1 ul120_1
                                  have hv120_2 := hcc120 2 _ rfl
                                  rw [add_field _ _ 2 (by omega)] at hv120_2
                                  replace hv120_2 := Option.some.inj (hv120_2.symm.trans hx120_2)
                                  injection hv120_2 with hva_ hvn_ hvc_
                                  rw [hva_] at ge120_2
                                  rw [hvc_] at ul120_2
                                  have HL120_2 := Aside0.mk (show Kd.V (Kd.int .u64) 37 _ w.heap.size _ _ ((rd_T27 l0 x3_1).f2) from Kd.V_mk ul120_2 ge120_2)
                                  clear hva_ hvn_ hvc_ ge120_2 ul120_2
                                  clear hcc120 hce120
                                  have HR120_0 := Aside0.mk hi120_0
                                  have HC120_0 := Aside0.mk hl120_0
                                  clear hi120_0 hl120_0
                                  have HR120_1 := Aside0.mk hi120_1
                                  have HC120_1 := Aside0.mk hl120_1
                                  clear hi120_1 hl120_1
                                  have HR120_2 := Aside0.mk hi120_2
                                  have HC120_2 := Aside0.mk hl120_2
                                  clear hi120_2 hl120_2
                                  replace p120 := eq_true p120
                                  replace q120 := eq_true q120
                                  (try clear HL113_0 HL113_1 HL113_2 HL114_0 HL114_1 HL114_2 HL115_0 HL115_1 HL115_2 HL120_1 HL120_2 HR113_0 HR113_1 HR113_2 HR114_0 HR114_1 HR114_2 HR115_0 HR115_1 HR115_2 HR120_0 HR120_1 HR120_2)
                                  try go_wp2_with ((with_reducible refine gate_callee (f := 9) rfl ?_); refine goesL_ (some 41) rfl rfl Try.func9 (by kernel_rfl) rfl #[.slice A120_0 ((rd_T27 l0 x3_1).f0).length c120_0] rfl (by (try simp only [List.map_toArray, List.map_cons, List.map_nil]); first | done | rfl | (simp only [List.length_drop, List.length_take]; rfl)) ?_; (with_reducible refine (gaugeref1_Trim.calls k1 (fun k_ => ((P0_ k_ ∨ w.heap.size ≤ k_) ∧ some k_ ≠ (.slice Ao59 y116.length co59 : Value).ownBlock)) _ _ ((rd_T27 l0 x3_1).f0) t121 _ ?side1 A11.out).mono ?_); (case side1 => exact HL120_0.out); rintro e w60 ⟨v122, rfl, ho0, hb⟩; refine ⟨_, rfl, ?_⟩; have n0_ := Aside0.mk (Kd.V_below (by (with_reducible repeat (first | apply Kd.V_alloc | apply Kd.V_drewN | apply Kd.V_drew)); exact HO_0.out) hb); have n10_ := Aside0.mk (Kd.N_below (by (with_reducible repeat (first | apply Kd.N_alloc | apply Kd.N_drewN | apply Kd.N_drew)); exact HO118.out) hb); have n11_ := Aside0.mk (Kd.V_below (by (with_reducible repeat (first | apply Kd.V_alloc | apply Kd.V_drewN | apply Kd.V_drew)); exact HL120_0.out) hb); have n14_ := Aside0.mk (Kd.V_lower (Kd.V_mono (ok' := fun k_ => (P0_ k_ ∨ w.heap.size ≤ k_) ∧ some k_ ≠ (.slice Ao59 y116.length co59 : Value).ownBlock) ho0 (fun k_ hk_ => ⟨Or.elim hk_ (fun hs_ => hs_.1) (fun hn_ => (.inr (Nat.le_trans (below_size (by repeat (first | (with_reducible first | exact HB.out | apply below_alloc | apply pw_below_drewN | apply below_drew1) | exact HB.out))) hn_))), Or.elim hk_ (fun hs_ => hs_.2) (fun hn_ => (Kd.fresh' (Kd.N_lt (by (with_reducible repeat (first | apply Kd.N_alloc | apply Kd.N_drewN | apply Kd.N_drew)); exact HO118.out)) k_ hn_))⟩)) (below_size (by repeat (first | (with_reducible first | exact HB.out | apply below_alloc | apply pw_below_drewN | apply below_drew1) | exact HB.out)))); have n27_ := Aside0.mk (below_step (by repeat (first | (with_reducible first | exact HB.out | apply below_alloc | apply pw_below_drewN | apply below_drew1) | exact HB.out)) hb); clear HO_0; clear HO118; clear HL120_0; clear HB; have HO_0 := n0_; have HO118 := n10_; have HL120_0 := n11_; have HO123 := n14_; have HB := n27_; clear n0_ n10_ n11_ n14_ n27_; (try clear hb); (try clear hb2); (try clear hk); (try clear hi); (try clear ho0); have p124 : 0 ≤ (x3_1 : Int) := of_decide_eq_true (by first | (with_reducible assumption) | assumption); have q124 : x3_1 < (l0.length : Int) := of_decide_eq_true (by first | (with_reducible assumption) | assumption); obtain ⟨ad124, A124_0, c124_0, A124_1, c124_1, A124_2, c124_2, e124, hx124_0, hx124_1, hx124_2, hl124_0, hi124_0, hl124_1, hi124_1, hl124_2, hi124_2⟩ := at_T27 (Kd.V_reads' HO_0.out).2.2 x3_1 p124 q124; obtain rfl : ad113 = ad124 := (by injection e124); obtain ⟨ce124, hce124, hMe124, hcc124⟩ := Kd.V_get HO_0.out z27 x3_1 p124 (by first | exact q124 | exact of_decide_eq_true (by first | (with_reducible assumption) | assumption) | (have e_ := (Kd.V_reads' HO_0.out).1; omega)); obtain ⟨ua124_0, uc124_0, ua124_1, uc124_1, ua124_2, uc124_2, rfl, ul124_0, ge124_0, ul124_1, ge124_1, ul124_2, ge124_2⟩ := k27_openF hMe124; have hv124_0 := hcc124 0 _ rfl; rw [Nat.add_zero] at hv124_0; replace hv124_0 := Option.some.inj (hv124_0.symm.trans hx124_0); injection hv124_0 with hva_ hvn_ hvc_; rw [hva_] at ge124_0; rw [hvc_] at ul124_0; have HL124_0 := Aside0.mk (show Kd.V (Kd.int .u64) 37 _ w.heap.size _ _ ((rd_T27 l0 x3_1).f0) from Kd.V_mk ul124_0 ge124_0); clear hva_ hvn_ hvc_ ge124_0 ul124_0; have hv124_1 := hcc124 1 _ rfl; rw [add_field _ _ 1 (by omega)] at hv124_1; replace hv124_1 := Option.some.inj (hv124_1.symm.trans hx124_1); injection hv124_1 with hva_ hvn_ hvc_; rw [hva_] at ge124_1; rw [hvc_] at ul124_1; have HL124_1 := Aside0.mk (show Kd.V (Kd.int .u64) 37 _ w.heap.size _ _ ((rd_T27 l0 x3_1).f1) from Kd.V_mk ul124_1 ge124_1); clear hva_ hvn_ hvc_ ge124_1 ul124_1; have hv124_2 := hcc124 2 _ rfl; rw [add_field _ _ 2 (by omega)] at hv124_2; replace hv124_2 := Option.some.inj (hv124_2.symm.trans hx124_2); injection hv124_2 with hva_ hvn_ hvc_; rw [hva_] at ge124_2; rw [hvc_] at ul124_2; have HL124_2 := Aside0.mk (show Kd.V (Kd.int .u64) 37 _ w.heap.size _ _ ((rd_T27 l0 x3_1).f2) from Kd.V_mk ul124_2 ge124_2); clear hva_ hvn_ hvc_ ge124_2 ul124_2; clear hcc124 hce124; have HR124_0 := Aside0.mk hi124_0; have HC124_0 := Aside0.mk hl124_0; clear hi124_0 hl124_0; have HR124_1 := Aside0.mk hi124_1; have HC124_1 := Aside0.mk hl124_1; clear hi124_1 hl124_1; have HR124_2 := Aside0.mk hi124_2; have HC124_2 := Aside0.mk hl124_2; clear hi124_2 hl124_2; replace p124 := eq_true p124; replace q124 := eq_true q124)
                                  try go_wp2_with (go_at_call 9; (with_reducible refine (gaugeref1_Trim.calls k1 (fun k_ => ((P0_ k_ ∨ w.heap.size ≤ k_) ∧ some k_ ≠ (.slice Ao59 y116.length co59 : Value).ownBlock)) _ _ ((rd_T27 l0 x3_1).f1) t125 _ ?side1 A12.out).mono ?_); (case side1 => exact HL124_1.out); rintro e w61 ⟨v126, rfl, ho0, hb⟩; have n0_ := Aside0.mk (Kd.V_below (by (with_reducible repeat (first | apply Kd.V_alloc | apply Kd.V_drewN | apply Kd.V_drew)); exact HO_0.out) hb); have n10_ := Aside0.mk (Kd.N_below (by (with_reducible repeat (first | apply Kd.N_alloc | apply Kd.N_drewN | apply Kd.N_drew)); exact HO118.out) hb); have n14_ := Aside0.mk (Kd.V_below (by (with_reducible repeat (first | apply Kd.V_alloc | apply Kd.V_drewN | apply Kd.V_drew)); exact HO123.out) hb); have n16_ := Aside0.mk (Kd.V_below (by (with_reducible repeat (first | apply Kd.V_alloc | apply Kd.V_drewN | apply Kd.V_drew)); exact HL124_1.out) hb); have n18_ := Aside0.mk (Kd.V_lower (Kd.V_mono (ok' := fun k_ => (P0_ k_ ∨ w.heap.size ≤ k_) ∧ some k_ ≠ (.slice Ao59 y116.length co59 : Value).ownBlock) ho0 (fun k_ hk_ => ⟨Or.elim hk_ (fun hs_ => hs_.1) (fun hn_ => (.inr (Nat.le_trans (below_size (by repeat (first | (with_reducible first | exact HB.out | apply below_alloc | apply pw_below_drewN | apply below_drew1) | exact HB.out))) hn_))), Or.elim hk_ (fun hs_ => hs_.2) (fun hn_ => (Kd.fresh' (Kd.N_lt (by (with_reducible repeat (first | apply Kd.N_alloc | apply Kd.N_drewN | apply Kd.N_drew)); exact HO118.out)) k_ hn_))⟩)) (below_size (by repeat (first | (with_reducible first | exact HB.out | apply below_alloc | apply pw_below_drewN | apply below_drew1) | exact HB.out)))); have n34_ := Aside0.mk (below_step (by repeat (first | (with_reducible first | exact HB.out | apply below_alloc | apply pw_below_drewN | apply below_drew1) | exact HB.out)) hb); clear HO_0; clear HO118; clear HO123; clear HL124_1; clear HB; have HO_0 := n0_; have HO118 := n10_; have HO123 := n14_; have HL124_1 := n16_; have HO127 := n18_; have HB := n34_; clear n0_ n10_ n14_ n16_ n18_ n34_; (try clear hb); (try clear hb2); (try clear hk); (try clear hi); (try clear ho0); have p128 : 0 ≤ (x3_1 : Int) := of_decide_eq_true (by first | (with_reducible assumption) | assumption); have q128 : x3_1 < (l0.length : Int) := of_decide_eq_true (by first | (with_reducible assumption) | assumption); obtain ⟨ad128, A128_0, c128_0, A128_1, c128_1, A128_2, c128_2, e128, hx128_0, hx128_1, hx128_2, hl128_0, hi128_0, hl128_1, hi128_1, hl128_2, hi128_2⟩ := at_T27 (Kd.V_reads' HO_0.out).2.2 x3_1 p128 q128; obtain rfl : ad113 = ad128 := (by injection e128); obtain ⟨ce128, hce128, hMe128, hcc128⟩ := Kd.V_get HO_0.out z27 x3_1 p128 (by first | exact q128 | exact of_decide_eq_true (by first | (with_reducible assumption) | assumption) | (have e_ := (Kd.V_reads' HO_0.out).1; omega)); obtain ⟨ua128_0, uc128_0, ua128_1, uc128_1, ua128_2, uc128_2, rfl, ul128_0, ge128_0, ul128_1, ge128_1, ul128_2, ge128_2⟩ := k27_openF hMe128; have hv128_0 := hcc128 0 _ rfl; rw [Nat.add_zero] at hv128_0; replace hv128_0 := Option.some.inj (hv128_0.symm.trans hx128_0); injection hv128_0 with hva_ hvn_ hvc_; rw [hva_] at ge128_0; rw [hvc_] at ul128_0; have HL128_0 := Aside0.mk (show Kd.V (Kd.int .u64) 37 _ w.heap.size _ _ ((rd_T27 l0 x3_1).f0) from Kd.V_mk ul128_0 ge128_0); clear hva_ hvn_ hvc_ ge128_0 ul128_0; have hv128_1 := hcc128 1 _ rfl; rw [add_field _ _ 1 (by omega)] at hv128_1; replace hv128_1 := Option.some.inj (hv128_1.symm.trans hx128_1); injection hv128_1 with hva_ hvn_ hvc_; rw [hva_] at ge128_1; rw [hvc_] at ul128_1; have HL128_1 := Aside0.mk (show Kd.V (Kd.int .u64) 37 _ w.heap.size _ _ ((rd_T27 l0 x3_1).f1) from Kd.V_mk ul128_1 ge128_1); clear hva_ hvn_ hvc_ ge128_1 ul128_1; have hv128_2 := hcc128 2 _ rfl; rw [add_field _ _ 2 (by omega)] at hv128_2; replace hv128_2 := Option.some.inj (hv128_2.symm.trans hx128_2); injection hv128_2 with hva_ hvn_ hvc_; rw [hva_] at ge128_2; rw [hvc_] at ul128_2; have HL128_2 := Aside0.mk (show Kd.V (Kd.int .u64) 37 _ w.heap.size _ _ ((rd_T27 l0 x3_1).f2) from Kd.V_mk ul128_2 ge128_2); clear hva_ hvn_ hvc_ ge128_2 ul128_2; clear hcc128 hce128; have HR128_0 := Aside0.mk hi128_0; have HC128_0 := Aside0.mk hl128_0; clear hi128_0 hl128_0; have HR128_1 := Aside0.mk hi128_1; have HC128_1 := Aside0.mk hl128_1; clear hi128_1 hl128_1; have HR128_2 := Aside0.mk hi128_2; have HC128_2 := Aside0.mk hl128_2; clear hi128_2 hl128_2; replace p128 := eq_true p128; replace q128 := eq_true q128; (try clear HL120_0); (try clear HL124_0); (try clear HL124_2); (try clear HR124_0); (try clear HR124_1); (try clear HR124_2))
                                  try go_wp2_with (go_at_call 9; (with_reducible refine (gaugeref1_Trim.calls k1 (fun k_ => ((P0_ k_ ∨ w.heap.size ≤ k_) ∧ some k_ ≠ (.slice Ao59 y116.length co59 : Value).ownBlock)) _ _ ((rd_T27 l0 x3_1).f2) t129 _ ?side1 A13.out).mono ?_); (case side1 => exact HL128_2.out); rintro e w62 ⟨v130, rfl, ho0, hb⟩; have n0_ := Aside0.mk (Kd.V_below (by (with_reducible repeat (first | apply Kd.V_alloc | apply Kd.V_drewN | apply Kd.V_drew)); exact HO_0.out) hb); have n10_ := Aside0.mk (Kd.N_below (by (with_reducible repeat (first | apply Kd.N_alloc | apply Kd.N_drewN | apply Kd.N_drew)); exact HO118.out) hb); have n14_ := Aside0.mk (Kd.V_below (by (with_reducible repeat (first | apply Kd.V_alloc | apply Kd.V_drewN | apply Kd.V_drew)); exact HO123.out) hb); have n18_ := Aside0.mk (Kd.V_below (by (with_reducible repeat (first | apply Kd.V_alloc | apply Kd.V_drewN | apply Kd.V_drew)); exact HO127.out) hb); have n21_ := Aside0.mk (Kd.V_below (by (with_reducible repeat (first | apply Kd.V_alloc | apply Kd.V_drewN | apply Kd.V_drew)); exact HL128_2.out) hb); have n22_ := Aside0.mk (Kd.V_lower (Kd.V_mono (ok' := fun k_ => (P0_ k_ ∨ w.heap.size ≤ k_) ∧ some k_ ≠ (.slice Ao59 y116.length co59 : Value).ownBlock) ho0 (fun k_ hk_ => ⟨Or.elim hk_ (fun hs_ => hs_.1) (fun hn_ => (.inr (Nat.le_trans (below_size (by repeat (first | (with_reducible first | exact HB.out | apply below_alloc | apply pw_below_drewN | apply below_drew1) | exact HB.out))) hn_))), Or.elim hk_ (fun hs_ => hs_.2) (fun hn_ => (Kd.fresh' (Kd.N_lt (by (with_reducible repeat (first | apply Kd.N_alloc | apply Kd.N_drewN | apply Kd.N_drew)); exact HO118.out)) k_ hn_))⟩)) (below_size (by repeat (first | (with_reducible first | exact HB.out | apply below_alloc | apply pw_below_drewN | apply below_drew1) | exact HB.out)))); have n41_ := Aside0.mk (below_step (by repeat (first | (with_reducible first | exact HB.out | apply below_alloc | apply pw_below_drewN | apply below_drew1) | exact HB.out)) hb); clear HO_0; clear HO118; clear HO123; clear HO127; clear HL128_2; clear HB; have HO_0 := n0_; have HO118 := n10_; have HO123 := n14_; have HO127 := n18_; have HL128_2 := n21_; have HO131 := n22_; have HB := n41_; clear n0_ n10_ n14_ n18_ n21_ n22_ n41_; (try clear hb); (try clear hb2); (try clear hk); (try clear hi); (try clear ho0); obtain ⟨Ao63, co63, eo63⟩ := Kd.V_slice HO123.out; subst eo63; obtain ⟨Ao64, co64, eo64⟩ := Kd.V_slice HO127.out; subst eo64; (try clear HL124_1); (try clear HL128_0); (try clear HL128_1); (try clear HR128_0); (try clear HR128_1); (try clear HR128_2))
                                  try go_wp2_with (go_at_call 11; (with_reducible refine (gaugelaw1_add.calls _ _ t121 _ _ t125 t132 _ ?side1 ?side2 ?side3 ?side4 A14.out).mono ?_); (case side1 => repeat (first | exact (Kd.V_reads' HO123.out).2.2 | (with_reducible refine Kd.C_alloc ?_ _) | (with_reducible refine Kd.C_drewN ?_ _) | (with_reducible refine Kd.C_drew ?_))); (case side2 => exact (Kd.V_reads' HO123.out).2.1); (case side3 => repeat (first | exact (Kd.V_reads' HO127.out).2.2 | (with_reducible refine Kd.C_alloc ?_ _) | (with_reducible refine Kd.C_drewN ?_ _) | (with_reducible refine Kd.C_drew ?_))); (case side4 => exact (Kd.V_reads' HO127.out).2.1); rintro e w65 ⟨v133, rfl, ho0, hb⟩; have n0_ := Aside0.mk (Kd.V_below (by (with_reducible repeat (first | apply Kd.V_alloc | apply Kd.V_drewN | apply Kd.V_drew)); exact HO_0.out) hb); have n10_ := Aside0.mk (Kd.N_below (by (with_reducible repeat (first | apply Kd.N_alloc | apply Kd.N_drewN | apply Kd.N_drew)); exact HO118.out) hb); have n14_ := Aside0.mk (Kd.V_below (by (with_reducible repeat (first | apply Kd.V_alloc | apply Kd.V_drewN | apply Kd.V_drew)); exact HO123.out) hb); have n18_ := Aside0.mk (Kd.V_below (by (with_reducible repeat (first | apply Kd.V_alloc | apply Kd.V_drewN | apply Kd.V_drew)); exact HO127.out) hb); have n22_ := Aside0.mk (Kd.V_below (by (with_reducible repeat (first | apply Kd.V_alloc | apply Kd.V_drewN | apply Kd.V_drew)); exact HO131.out) hb); have n23_ := Aside0.mk (Kd.V_lower (Kd.V_mono (ok' := fun k_ => (P0_ k_ ∨ w.heap.size ≤ k_) ∧ some k_ ≠ (.slice Ao59 y116.length co59 : Value).ownBlock) ho0 (fun k_ hk_ => ⟨(.inr (Nat.le_trans (below_size (by repeat (first | (with_reducible first | exact HB.out | apply below_alloc | apply pw_below_drewN | apply below_drew1) | exact HB.out))) hk_)), (Kd.fresh' (Kd.N_lt (by (with_reducible repeat (first | apply Kd.N_alloc | apply Kd.N_drewN | apply Kd.N_drew)); exact HO118.out)) k_ hk_)⟩)) (below_size (by repeat (first | (with_reducible first | exact HB.out | apply below_alloc | apply pw_below_drewN | apply below_drew1) | exact HB.out)))); have n42_ := Aside0.mk (below_step (by repeat (first | (with_reducible first | exact HB.out | apply below_alloc | apply pw_below_drewN | apply below_drew1) | exact HB.out)) hb); clear HO_0; clear HO118; clear HO123; clear HO127; clear HO131; clear HB; have HO_0 := n0_; have HO118 := n10_; have HO123 := n14_; have HO127 := n18_; have HO131 := n22_; have HO134 := n23_; have HB := n42_; clear n0_ n10_ n14_ n18_ n22_ n23_ n42_; (try clear hb); (try clear hb2); (try clear hk); (try clear hi); (try clear ho0); (try clear HL128_2))
                                  try go_wp2_with (go_at_call 11; (with_reducible refine (gaugelaw1_add.calls _ _ t125 _ _ t121 t135 _ ?side1 ?side2 ?side3 ?side4 A15.out).mono ?_); (case side1 => repeat (first | exact (Kd.V_reads' HO127.out).2.2 | (with_reducible refine Kd.C_alloc ?_ _) | (with_reducible refine Kd.C_drewN ?_ _) | (with_reducible refine Kd.C_drew ?_))); (case side2 => exact (Kd.V_reads' HO127.out).2.1); (case side3 => repeat (first | exact (Kd.V_reads' HO123.out).2.2 | (with_reducible refine Kd.C_alloc ?_ _) | (with_reducible refine Kd.C_drewN ?_ _) | (with_reducible refine Kd.C_drew ?_))); (case side4 => exact (Kd.V_reads' HO123.out).2.1); rintro e w66 ⟨v136, rfl, ho0, hb⟩; have n0_ := Aside0.mk (Kd.V_below (by (with_reducible repeat (first | apply Kd.V_alloc | apply Kd.V_drewN | apply Kd.V_drew)); exact HO_0.out) hb); have n10_ := Aside0.mk (Kd.N_below (by (with_reducible repeat (first | apply Kd.N_alloc | apply Kd.N_drewN | apply Kd.N_drew)); exact HO118.out) hb); have n14_ := Aside0.mk (Kd.V_below (by (with_reducible repeat (first | apply Kd.V_alloc | apply Kd.V_drewN | apply Kd.V_drew)); exact HO123.out) hb); have n18_ := Aside0.mk (Kd.V_below (by (with_reducible repeat (first | apply Kd.V_alloc | apply Kd.V_drewN | apply Kd.V_drew)); exact HO127.out) hb); have n22_ := Aside0.mk (Kd.V_below (by (with_reducible repeat (first | apply Kd.V_alloc | apply Kd.V_drewN | apply Kd.V_drew)); exact HO131.out) hb); have n23_ := Aside0.mk (Kd.V_below (by (with_reducible repeat (first | apply Kd.V_alloc | apply Kd.V_drewN | apply Kd.V_drew)); exact HO134.out) hb); have n24_ := Aside0.mk (Kd.V_lower (Kd.V_mono (ok' := fun k_ => (P0_ k_ ∨ w.heap.size ≤ k_) ∧ some k_ ≠ (.slice Ao59 y116.length co59 : Value).ownBlock) ho0 (fun k_ hk_ => ⟨(.inr (Nat.le_trans (below_size (by repeat (first | (with_reducible first | exact HB.out | apply below_alloc | apply pw_below_drewN | apply below_drew1) | exact HB.out))) hk_)), (Kd.fresh' (Kd.N_lt (by (with_reducible repeat (first | apply Kd.N_alloc | apply Kd.N_drewN | apply Kd.N_drew)); exact HO118.out)) k_ hk_)⟩)) (below_size (by repeat (first | (with_reducible first | exact HB.out | apply below_alloc | apply pw_below_drewN | apply below_drew1) | exact HB.out)))); have n43_ := Aside0.mk (below_step (by repeat (first | (with_reducible first | exact HB.out | apply below_alloc | apply pw_below_drewN | apply below_drew1) | exact HB.out)) hb); clear HO_0; clear HO118; clear HO123; clear HO127; clear HO131; clear HO134; clear HB; have HO_0 := n0_; have HO118 := n10_; have HO123 := n14_; have HO127 := n18_; have HO131 := n22_; have HO134 := n23_; have HO137 := n24_; have HB := n43_; clear n0_ n10_ n14_ n18_ n22_ n23_ n24_ n43_; (try clear hb); (try clear hb2); (try clear hk); (try clear hi); (try clear ho0); obtain ⟨Ao67, co67, eo67⟩ := Kd.V_slice HO134.out; subst eo67; obtain ⟨Ao68, co68, eo68⟩ := Kd.V_slice HO137.out; subst eo68)
                                  try go_wp2_with (go_at_call 10; (with_reducible refine (gaugeref0_EqNat.calls _ _ t132 _ _ t135 true _ ?side1 ?side2 ?side3 ?side4 A16.out).mono ?_); (case side1 => repeat (first | exact (Kd.V_reads' HO134.out).2.2 | (with_reducible refine Kd.C_alloc ?_ _) | (with_reducible refine Kd.C_drewN ?_ _) | (with_reducible refine Kd.C_drew ?_))); (case side2 => exact (Kd.V_reads' HO134.out).2.1); (case side3 => repeat (first | exact (Kd.V_reads' HO137.out).2.2 | (with_reducible refine Kd.C_alloc ?_ _) | (with_reducible refine Kd.C_drewN ?_ _) | (with_reducible refine Kd.C_drew ?_))); (case side4 => exact (Kd.V_reads' HO137.out).2.1); rintro e w' ⟨rfl, ⟨nd, rfl⟩⟩)
                                  try go_wp2_with (go_at_call 12; (with_reducible refine (gaugelaw1_mul.calls _ _ t121 _ _ t125 t139 _ ?side1 ?side2 ?side3 ?side4 A18.out).mono ?_); (case side1 => repeat (first | exact (Kd.V_reads' HO123.out).2.2 | (with_reducible refine Kd.C_alloc ?_ _) | (with_reducible refine Kd.C_drewN ?_ _) | (with_reducible refine Kd.C_drew ?_))); (case side2 => exact (Kd.V_reads' HO123.out).2.1); (case side3 => repeat (first | exact (Kd.V_reads' HO127.out).2.2 | (with_reducible refine Kd.C_alloc ?_ _) | (with_reducible refine Kd.C_drewN ?_ _) | (with_reducible refine Kd.C_drew ?_))); (case side4 => exact (Kd.V_reads' HO127.out).2.1); rintro e w69 ⟨v140, rfl, ho0, hb⟩; have n0_ := Aside0.mk (Kd.V_below (by (with_reducible repeat (first | apply Kd.V_alloc | apply Kd.V_drewN | apply Kd.V_drew)); exact HO_0.out) hb); have n10_ := Aside0.mk (Kd.N_below (by (with_reducible repeat (first | apply Kd.N_alloc | apply Kd.N_drewN | apply Kd.N_drew)); exact HO118.out) hb); have n14_ := Aside0.mk (Kd.V_below (by (with_reducible repeat (first | apply Kd.V_alloc | apply Kd.V_drewN | apply Kd.V_drew)); exact HO123.out) hb); have n18_ := Aside0.mk (Kd.V_below (by (with_reducible repeat (first | apply Kd.V_alloc | apply Kd.V_drewN | apply Kd.V_drew)); exact HO127.out) hb); have n22_ := Aside0.mk (Kd.V_below (by (with_reducible repeat (first | apply Kd.V_alloc | apply Kd.V_drewN | apply Kd.V_drew)); exact HO131.out) hb); have n25_ := Aside0.mk (Kd.V_lower (Kd.V_mono (ok' := fun k_ => (P0_ k_ ∨ w.heap.size ≤ k_) ∧ some k_ ≠ (.slice Ao59 y116.length co59 : Value).ownBlock) ho0 (fun k_ hk_ => ⟨(.inr (Nat.le_trans (below_size (by repeat (first | (with_reducible first | exact HB.out | apply below_alloc | apply pw_below_drewN | apply below_drew1) | exact HB.out))) hk_)), (Kd.fresh' (Kd.N_lt (by (with_reducible repeat (first | apply Kd.N_alloc | apply Kd.N_drewN | apply Kd.N_drew)); exact HO118.out)) k_ hk_)⟩)) (below_size (by repeat (first | (with_reducible first | exact HB.out | apply below_alloc | apply pw_below_drewN | apply below_drew1) | exact HB.out)))); have n44_ := Aside0.mk (below_step (by repeat (first | (with_reducible first | exact HB.out | apply below_alloc | apply pw_below_drewN | apply below_drew1) | exact HB.out)) hb); clear HO_0; clear HO118; clear HO123; clear HO127; clear HO131; clear HB; have HO_0 := n0_; have HO118 := n10_; have HO123 := n14_; have HO127 := n18_; have HO131 := n22_; have HO141 := n25_; have HB := n44_; clear n0_ n10_ n14_ n18_ n22_ n25_ n44_; (try clear hb); (try clear hb2); (try clear hk); (try clear hi); (try clear ho0); (try clear HO134); (try clear HO137))
                                  try go_wp2_with (go_at_call 12; (with_reducible refine (gaugelaw1_mul.calls _ _ t125 _ _ t121 t142 _ ?side1 ?side2 ?side3 ?side4 A19.out).mono ?_); (case side1 => repeat (first | exact (Kd.V_reads' HO127.out).2.2 | (with_reducible refine Kd.C_alloc ?_ _) | (with_reducible refine Kd.C_drewN ?_ _) | (with_reducible refine Kd.C_drew ?_))); (case side2 => exact (Kd.V_reads' HO127.out).2.1); (case side3 => repeat (first | exact (Kd.V_reads' HO123.out).2.2 | (with_reducible refine Kd.C_alloc ?_ _) | (with_reducible refine Kd.C_drewN ?_ _) | (with_reducible refine Kd.C_drew ?_))); (case side4 => exact (Kd.V_reads' HO123.out).2.1); rintro e w70 ⟨v143, rfl, ho0, hb⟩; have n0_ := Aside0.mk (Kd.V_below (by (with_reducible repeat (first | apply Kd.V_alloc | apply Kd.V_drewN | apply Kd.V_drew)); exact HO_0.out) hb); have n10_ := Aside0.mk (Kd.N_below (by (with_reducible repeat (first | apply Kd.N_alloc | apply Kd.N_drewN | apply Kd.N_drew)); exact HO118.out) hb); have n14_ := Aside0.mk (Kd.V_below (by (with_reducible repeat (first | apply Kd.V_alloc | apply Kd.V_drewN | apply Kd.V_drew)); exact HO123.out) hb); have n18_ := Aside0.mk (Kd.V_below (by (with_reducible repeat (first | apply Kd.V_alloc | apply Kd.V_drewN | apply Kd.V_drew)); exact HO127.out) hb); have n22_ := Aside0.mk (Kd.V_below (by (with_reducible repeat (first | apply Kd.V_alloc | apply Kd.V_drewN | apply Kd.V_drew)); exact HO131.out) hb); have n25_ := Aside0.mk (Kd.V_below (by (with_reducible repeat (first | apply Kd.V_alloc | apply Kd.V_drewN | apply Kd.V_drew)); exact HO141.out) hb); have n26_ := Aside0.mk (Kd.V_lower (Kd.V_mono (ok' := fun k_ => (P0_ k_ ∨ w.heap.size ≤ k_) ∧ some k_ ≠ (.slice Ao59 y116.length co59 : Value).ownBlock) ho0 (fun k_ hk_ => ⟨(.inr (Nat.le_trans (below_size (by repeat (first | (with_reducible first | exact HB.out | apply below_alloc | apply pw_below_drewN | apply below_drew1) | exact HB.out))) hk_)), (Kd.fresh' (Kd.N_lt (by (with_reducible repeat (first | apply Kd.N_alloc | apply Kd.N_drewN | apply Kd.N_drew)); exact HO118.out)) k_ hk_)⟩)) (below_size (by repeat (first | (with_reducible first | exact HB.out | apply below_alloc | apply pw_below_drewN | apply below_drew1) | exact HB.out)))); have n45_ := Aside0.mk (below_step (by repeat (first | (with_reducible first | exact HB.out | apply below_alloc | apply pw_below_drewN | apply below_drew1) | exact HB.out)) hb); clear HO_0; clear HO118; clear HO123; clear HO127; clear HO131; clear HO141; clear HB; have HO_0 := n0_; have HO118 := n10_; have HO123 := n14_; have HO127 := n18_; have HO131 := n22_; have HO141 := n25_; have HO144 := n26_; have HB := n45_; clear n0_ n10_ n14_ n18_ n22_ n25_ n26_ n45_; (try clear hb); (try clear hb2); (try clear hk); (try clear hi); (try clear ho0); obtain ⟨Ao71, co71, eo71⟩ := Kd.V_slice HO141.out; subst eo71; obtain ⟨Ao72, co72, eo72⟩ := Kd.V_slice HO144.out; subst eo72)
                                  try go_wp2_with (go_at_call 10; (with_reducible refine (gaugeref0_EqNat.calls _ _ t139 _ _ t142 true _ ?side1 ?side2 ?side3 ?side4 A20.out).mono ?_); (case side1 => repeat (first | exact (Kd.V_reads' HO141.out).2.2 | (with_reducible refine Kd.C_alloc ?_ _) | (with_reducible refine Kd.C_drewN ?_ _) | (with_reducible refine Kd.C_drew ?_))); (case side2 => exact (Kd.V_reads' HO141.out).2.1); (case side3 => repeat (first | exact (Kd.V_reads' HO144.out).2.2 | (with_reducible refine Kd.C_alloc ?_ _) | (with_reducible refine Kd.C_drewN ?_ _) | (with_reducible refine Kd.C_drew ?_))); (case side4 => exact (Kd.V_reads' HO144.out).2.1); rintro e w' ⟨rfl, ⟨nd, rfl⟩⟩)
                                  try go_wp2_with (go_at_call 11; (with_reducible refine (gaugelaw1_add.calls _ _ t121 _ _ t125 t146 _ ?side1 ?side2 ?side3 ?side4 A22.out).mono ?_); (case side1 => repeat (first | exact (Kd.V_reads' HO123.out).2.2 | (with_reducible refine Kd.C_alloc ?_ _) | (with_reducible refine Kd.C_drewN ?_ _) | (with_reducible refine Kd.C_drew ?_))); (case side2 => exact (Kd.V_reads' HO123.out).2.1); (case side3 => repeat (first | exact (Kd.V_reads' HO127.out).2.2 | (with_reducible refine Kd.C_alloc ?_ _) | (with_reducible refine Kd.C_drewN ?_ _) | (with_reducible refine Kd.C_drew ?_))); (case side4 => exact (Kd.V_reads' HO127.out).2.1); rintro e w73 ⟨v147, rfl, ho0, hb⟩; have n0_ := Aside0.mk (Kd.V_below (by (with_reducible repeat (first | apply Kd.V_alloc | apply Kd.V_drewN | apply Kd.V_drew)); exact HO_0.out) hb); have n10_ := Aside0.mk (Kd.N_below (by (with_reducible repeat (first | apply Kd.N_alloc | apply Kd.N_drewN | apply Kd.N_drew)); exact HO118.out) hb); have n14_ := Aside0.mk (Kd.V_below (by (with_reducible repeat (first | apply Kd.V_alloc | apply Kd.V_drewN | apply Kd.V_drew)); exact HO123.out) hb); have n18_ := Aside0.mk (Kd.V_below (by (with_reducible repeat (first | apply Kd.V_alloc | apply Kd.V_drewN | apply Kd.V_drew)); exact HO127.out) hb); have n22_ := Aside0.mk (Kd.V_below (by (with_reducible repeat (first | apply Kd.V_alloc | apply Kd.V_drewN | apply Kd.V_drew)); exact HO131.out) hb); have n27_ := Aside0.mk (Kd.V_lower (Kd.V_mono (ok' := fun k_ => (P0_ k_ ∨ w.heap.size ≤ k_) ∧ some k_ ≠ (.slice Ao59 y116.length co59 : Value).ownBlock) ho0 (fun k_ hk_ => ⟨(.inr (Nat.le_trans (below_size (by repeat (first | (with_reducible first | exact HB.out | apply below_alloc | apply pw_below_drewN | apply below_drew1) | exact HB.out))) hk_)), (Kd.fresh' (Kd.N_lt (by (with_reducible repeat (first | apply Kd.N_alloc | apply Kd.N_drewN | apply Kd.N_drew)); exact HO118.out)) k_ hk_)⟩)) (below_size (by repeat (first | (with_reducible first | exact HB.out | apply below_alloc | apply pw_below_drewN | apply below_drew1) | exact HB.out)))); have n46_ := Aside0.mk (below_step (by repeat (first | (with_reducible first | exact HB.out | apply below_alloc | apply pw_below_drewN | apply below_drew1) | exact HB.out)) hb); clear HO_0; clear HO118; clear HO123; clear HO127; clear HO131; clear HB; have HO_0 := n0_; have HO118 := n10_; have HO123 := n14_; have HO127 := n18_; have HO131 := n22_; have HO148 := n27_; have HB := n46_; clear n0_ n10_ n14_ n18_ n22_ n27_ n46_; (try clear hb); (try clear hb2); (try clear hk); (try clear hi); (try clear ho0); obtain ⟨Ao74, co74, eo74⟩ := Kd.V_slice HO148.out; subst eo74; obtain ⟨Ao75, co75, eo75⟩ := Kd.V_slice HO131.out; subst eo75; (try clear HO141); (try clear HO144))
                                  try go_wp2_with (go_at_call 11; (with_reducible refine (gaugelaw1_add.calls _ _ t146 _ _ t129 t149 _ ?side1 ?side2 ?side3 ?side4 A23.out).mono ?_); (case side1 => repeat (first | exact (Kd.V_reads' HO148.out).2.2 | (with_reducible refine Kd.C_alloc ?_ _) | (with_reducible refine Kd.C_drewN ?_ _) | (with_reducible refine Kd.C_drew ?_))); (case side2 => exact (Kd.V_reads' HO148.out).2.1); (case side3 => repeat (first | exact (Kd.V_reads' HO131.out).2.2 | (with_reducible refine Kd.C_alloc ?_ _) | (with_reducible refine Kd.C_drewN ?_ _) | (with_reducible refine Kd.C_drew ?_))); (case side4 => exact (Kd.V_reads' HO131.out).2.1); rintro e w76 ⟨v150, rfl, ho0, hb⟩; have n0_ := Aside0.mk (Kd.V_below (by (with_reducible repeat (first | apply Kd.V_alloc | apply Kd.V_drewN | apply Kd.V_drew)); exact HO_0.out) hb); have n10_ := Aside0.mk (Kd.N_below (by (with_reducible repeat (first | apply Kd.N_alloc | apply Kd.N_drewN | apply Kd.N_drew)); exact HO118.out) hb); have n14_ := Aside0.mk (Kd.V_below (by (with_reducible repeat (first | apply Kd.V_alloc | apply Kd.V_drewN | apply Kd.V_drew)); exact HO123.out) hb); have n18_ := Aside0.mk (Kd.V_below (by (with_reducible repeat (first | apply Kd.V_alloc | apply Kd.V_drewN | apply Kd.V_drew)); exact HO127.out) hb); have n22_ := Aside0.mk (Kd.V_below (by (with_reducible repeat (first | apply Kd.V_alloc | apply Kd.V_drewN | apply Kd.V_drew)); exact HO131.out) hb); have n27_ := Aside0.mk (Kd.V_below (by (with_reducible repeat (first | apply Kd.V_alloc | apply Kd.V_drewN | apply Kd.V_drew)); exact HO148.out) hb); have n28_ := Aside0.mk (Kd.V_lower (Kd.V_mono (ok' := fun k_ => (P0_ k_ ∨ w.heap.size ≤ k_) ∧ some k_ ≠ (.slice Ao59 y116.length co59 : Value).ownBlock) ho0 (fun k_ hk_ => ⟨(.inr (Nat.le_trans (below_size (by repeat (first | (with_reducible first | exact HB.out | apply below_alloc | apply pw_below_drewN | apply below_drew1) | exact HB.out))) hk_)), (Kd.fresh' (Kd.N_lt (by (with_reducible repeat (first | apply Kd.N_alloc | apply Kd.N_drewN | apply Kd.N_drew)); exact HO118.out)) k_ hk_)⟩)) (below_size (by repeat (first | (with_reducible first | exact HB.out | apply below_alloc | apply pw_below_drewN | apply below_drew1) | exact HB.out)))); have n47_ := Aside0.mk (below_step (by repeat (first | (with_reducible first | exact HB.out | apply below_alloc | apply pw_below_drewN | apply below_drew1) | exact HB.out)) hb); clear HO_0; clear HO118; clear HO123; clear HO127; clear HO131; clear HO148; clear HB; have HO_0 := n0_; have HO118 := n10_; have HO123 := n14_; have HO127 := n18_; have HO131 := n22_; have HO148 := n27_; have HO151 := n28_; have HB := n47_; clear n0_ n10_ n14_ n18_ n22_ n27_ n28_ n47_; (try clear hb); (try clear hb2); (try clear hk); (try clear hi); (try clear ho0))
                                  try go_wp2_with (go_at_call 11; (with_reducible refine (gaugelaw1_add.calls _ _ t125 _ _ t129 t152 _ ?side1 ?side2 ?side3 ?side4 A24.out).mono ?_); (case side1 => repeat (first | exact (Kd.V_reads' HO127.out).2.2 | (with_reducible refine Kd.C_alloc ?_ _) | (with_reducible refine Kd.C_drewN ?_ _) | (with_reducible refine Kd.C_drew ?_))); (case side2 => exact (Kd.V_reads' HO127.out).2.1); (case side3 => repeat (first | exact (Kd.V_reads' HO131.out).2.2 | (with_reducible refine Kd.C_alloc ?_ _) | (with_reducible refine Kd.C_drewN ?_ _) | (with_reducible refine Kd.C_drew ?_))); (case side4 => exact (Kd.V_reads' HO131.out).2.1); rintro e w77 ⟨v153, rfl, ho0, hb⟩; have n0_ := Aside0.mk (Kd.V_below (by (with_reducible repeat (first | apply Kd.V_alloc | apply Kd.V_drewN | apply Kd.V_drew)); exact HO_0.out) hb); have n10_ := Aside0.mk (Kd.N_below (by (with_reducible repeat (first | apply Kd.N_alloc | apply Kd.N_drewN | apply Kd.N_drew)); exact HO118.out) hb); have n14_ := Aside0.mk (Kd.V_below (by (with_reducible repeat (first | apply Kd.V_alloc | apply Kd.V_drewN | apply Kd.V_drew)); exact HO123.out) hb); have n18_ := Aside0.mk (Kd.V_below (by (with_reducible repeat (first | apply Kd.V_alloc | apply Kd.V_drewN | apply Kd.V_drew)); exact HO127.out) hb); have n22_ := Aside0.mk (Kd.V_below (by (with_reducible repeat (first | apply Kd.V_alloc | apply Kd.V_drewN | apply Kd.V_drew)); exact HO131.out) hb); have n28_ := Aside0.mk (Kd.V_below (by (with_reducible repeat (first | apply Kd.V_alloc | apply Kd.V_drewN | apply Kd.V_drew)); exact HO151.out) hb); have n29_ := Aside0.mk (Kd.V_lower (Kd.V_mono (ok' := fun k_ => (P0_ k_ ∨ w.heap.size ≤ k_) ∧ some k_ ≠ (.slice Ao59 y116.length co59 : Value).ownBlock) ho0 (fun k_ hk_ => ⟨(.inr (Nat.le_trans (below_size (by repeat (first | (with_reducible first | exact HB.out | apply below_alloc | apply pw_below_drewN | apply below_drew1) | exact HB.out))) hk_)), (Kd.fresh' (Kd.N_lt (by (with_reducible repeat (first | apply Kd.N_alloc | apply Kd.N_drewN | apply Kd.N_drew)); exact HO118.out)) k_ hk_)⟩)) (below_size (by repeat (first | (with_reducible first | exact HB.out | apply below_alloc | apply pw_below_drewN | apply below_drew1) | exact HB.out)))); have n48_ := Aside0.mk (below_step (by repeat (first | (with_reducible first | exact HB.out | apply below_alloc | apply pw_below_drewN | apply below_drew1) | exact HB.out)) hb); clear HO_0; clear HO118; clear HO123; clear HO127; clear HO131; clear HO151; clear HB; have HO_0 := n0_; have HO118 := n10_; have HO123 := n14_; have HO127 := n18_; have HO131 := n22_; have HO151 := n28_; have HO154 := n29_; have HB := n48_; clear n0_ n10_ n14_ n18_ n22_ n28_ n29_ n48_; (try clear hb); (try clear hb2); (try clear hk); (try clear hi); (try clear ho0); obtain ⟨Ao78, co78, eo78⟩ := Kd.V_slice HO154.out; subst eo78; (try clear HO148))
                                  try go_wp2_with (go_at_call 11; (with_reducible refine (gaugelaw1_add.calls _ _ t121 _ _ t152 t155 _ ?side1 ?side2 ?side3 ?side4 A25.out).mono ?_); (case side1 => repeat (first | exact (Kd.V_reads' HO123.out).2.2 | (with_reducible refine Kd.C_alloc ?_ _) | (with_reducible refine Kd.C_drewN ?_ _) | (with_reducible refine Kd.C_drew ?_))); (case side2 => exact (Kd.V_reads' HO123.out).2.1); (case side3 => repeat (first | exact (Kd.V_reads' HO154.out).2.2 | (with_reducible refine Kd.C_alloc ?_ _) | (with_reducible refine Kd.C_drewN ?_ _) | (with_reducible refine Kd.C_drew ?_))); (case side4 => exact (Kd.V_reads' HO154.out).2.1); rintro e w79 ⟨v156, rfl, ho0, hb⟩; have n0_ := Aside0.mk (Kd.V_below (by (with_reducible repeat (first | apply Kd.V_alloc | apply Kd.V_drewN | apply Kd.V_drew)); exact HO_0.out) hb); have n10_ := Aside0.mk (Kd.N_below (by (with_reducible repeat (first | apply Kd.N_alloc | apply Kd.N_drewN | apply Kd.N_drew)); exact HO118.out) hb); have n14_ := Aside0.mk (Kd.V_below (by (with_reducible repeat (first | apply Kd.V_alloc | apply Kd.V_drewN | apply Kd.V_drew)); exact HO123.out) hb); have n18_ := Aside0.mk (Kd.V_below (by (with_reducible repeat (first | apply Kd.V_alloc | apply Kd.V_drewN | apply Kd.V_drew)); exact HO127.out) hb); have n22_ := Aside0.mk (Kd.V_below (by (with_reducible repeat (first | apply Kd.V_alloc | apply Kd.V_drewN | apply Kd.V_drew)); exact HO131.out) hb); have n28_ := Aside0.mk (Kd.V_below (by (with_reducible repeat (first | apply Kd.V_alloc | apply Kd.V_drewN | apply Kd.V_drew)); exact HO151.out) hb); have n29_ := Aside0.mk (Kd.V_below (by (with_reducible repeat (first | apply Kd.V_alloc | apply Kd.V_drewN | apply Kd.V_drew)); exact HO154.out) hb); have n30_ := Aside0.mk (Kd.V_lower (Kd.V_mono (ok' := fun k_ => (P0_ k_ ∨ w.heap.size ≤ k_) ∧ some k_ ≠ (.slice Ao59 y116.length co59 : Value).ownBlock) ho0 (fun k_ hk_ => ⟨(.inr (Nat.le_trans (below_size (by repeat (first | (with_reducible first | exact HB.out | apply below_alloc | apply pw_below_drewN | apply below_drew1) | exact HB.out))) hk_)), (Kd.fresh' (Kd.N_lt (by (with_reducible repeat (first | apply Kd.N_alloc | apply Kd.N_drewN | apply Kd.N_drew)); exact HO118.out)) k_ hk_)⟩)) (below_size (by repeat (first | (with_reducible first | exact HB.out | apply below_alloc | apply pw_below_drewN | apply below_drew1) | exact HB.out)))); have n49_ := Aside0.mk (below_step (by repeat (first | (with_reducible first | exact HB.out | apply below_alloc | apply pw_below_drewN | apply below_drew1) | exact HB.out)) hb); clear HO_0; clear HO118; clear HO123; clear HO127; clear HO131; clear HO151; clear HO154; clear HB; have HO_0 := n0_; have HO118 := n10_; have HO123 := n14_; have HO127 := n18_; have HO131 := n22_; have HO151 := n28_; have HO154 := n29_; have HO157 := n30_; have HB := n49_; clear n0_ n10_ n14_ n18_ n22_ n28_ n29_ n30_ n49_; (try clear hb); (try clear hb2); (try clear hk); (try clear hi); (try clear ho0); obtain ⟨Ao80, co80, eo80⟩ := Kd.V_slice HO151.out; subst eo80; obtain ⟨Ao81, co81, eo81⟩ := Kd.V_slice HO157.out; subst eo81)
                                  try go_wp2_with (go_at_call 10; (with_reducible refine (gaugeref0_EqNat.calls _ _ t149 _ _ t155 true _ ?side1 ?side2 ?side3 ?side4 A26.out).mono ?_); (case side1 => repeat (first | exact (Kd.V_reads' HO151.out).2.2 | (with_reducible refine Kd.C_alloc ?_ _) | (with_reducible refine Kd.C_drewN ?_ _) | (with_reducible refine Kd.C_drew ?_))); (case side2 => exact (Kd.V_reads' HO151.out).2.1); (case side3 => repeat (first | exact (Kd.V_reads' HO157.out).2.2 | (with_reducible refine Kd.C_alloc ?_ _) | (with_reducible refine Kd.C_drewN ?_ _) | (with_reducible refine Kd.C_drew ?_))); (case side4 => exact (Kd.V_reads' HO157.out).2.1); rintro e w' ⟨rfl, ⟨nd, rfl⟩⟩)
                                  try go_wp2_with (go_at_call 12; (with_reducible refine (gaugelaw1_mul.calls _ _ t121 _ _ t125 t159 _ ?side1 ?side2 ?side3 ?side4 A28.out).mono ?_); (case side1 => repeat (first | exact (Kd.V_reads' HO123.out).2.2 | (with_reducible refine Kd.C_alloc ?_ _) | (with_reducible refine Kd.C_drewN ?_ _) | (with_reducible refine Kd.C_drew ?_))); (case side2 => exact (Kd.V_reads' HO123.out).2.1); (case side3 => repeat (first | exact (Kd.V_reads' HO127.out).2.2 | (with_reducible refine Kd.C_alloc ?_ _) | (with_reducible refine Kd.C_drewN ?_ _) | (with_reducible refine Kd.C_drew ?_))); (case side4 => exact (Kd.V_reads' HO127.out).2.1); rintro e w82 ⟨v160, rfl, ho0, hb⟩; have n0_ := Aside0.mk (Kd.V_below (by (with_reducible repeat (first | apply Kd.V_alloc | apply Kd.V_drewN | apply Kd.V_drew)); exact HO_0.out) hb); have n10_ := Aside0.mk (Kd.N_below (by (with_reducible repeat (first | apply Kd.N_alloc | apply Kd.N_drewN | apply Kd.N_drew)); exact HO118.out) hb); have n14_ := Aside0.mk (Kd.V_below (by (with_reducible repeat (first | apply Kd.V_alloc | apply Kd.V_drewN | apply Kd.V_drew)); exact HO123.out) hb); have n18_ := Aside0.mk (Kd.V_below (by (with_reducible repeat (first | apply Kd.V_alloc | apply Kd.V_drewN | apply Kd.V_drew)); exact HO127.out) hb); have n22_ := Aside0.mk (Kd.V_below (by (with_reducible repeat (first | apply Kd.V_alloc | apply Kd.V_drewN | apply Kd.V_drew)); exact HO131.out) hb); have n31_ := Aside0.mk (Kd.V_lower (Kd.V_mono (ok' := fun k_ => (P0_ k_ ∨ w.heap.size ≤ k_) ∧ some k_ ≠ (.slice Ao59 y116.length co59 : Value).ownBlock) ho0 (fun k_ hk_ => ⟨(.inr (Nat.le_trans (below_size (by repeat (first | (with_reducible first | exact HB.out | apply below_alloc | apply pw_below_drewN | apply below_drew1) | exact HB.out))) hk_)), (Kd.fresh' (Kd.N_lt (by (with_reducible repeat (first | apply Kd.N_alloc | apply Kd.N_drewN | apply Kd.N_drew)); exact HO118.out)) k_ hk_)⟩)) (below_size (by repeat (first | (with_reducible first | exact HB.out | apply below_alloc | apply pw_below_drewN | apply below_drew1) | exact HB.out)))); have n50_ := Aside0.mk (below_step (by repeat (first | (with_reducible first | exact HB.out | apply below_alloc | apply pw_below_drewN | apply below_drew1) | exact HB.out)) hb); clear HO_0; clear HO118; clear HO123; clear HO127; clear HO131; clear HB; have HO_0 := n0_; have HO118 := n10_; have HO123 := n14_; have HO127 := n18_; have HO131 := n22_; have HO161 := n31_; have HB := n50_; clear n0_ n10_ n14_ n18_ n22_ n31_ n50_; (try clear hb); (try clear hb2); (try clear hk); (try clear hi); (try clear ho0); obtain ⟨Ao83, co83, eo83⟩ := Kd.V_slice HO161.out; subst eo83; (try clear HO151); (try clear HO154); (try clear HO157))
                                  try go_wp2_with (go_at_call 12; (with_reducible refine (gaugelaw1_mul.calls _ _ t159 _ _ t129 t162 _ ?side1 ?side2 ?side3 ?side4 A29.out).mono ?_); (case side1 => repeat (first | exact (Kd.V_reads' HO161.out).2.2 | (with_reducible refine Kd.C_alloc ?_ _) | (with_reducible refine Kd.C_drewN ?_ _) | (with_reducible refine Kd.C_drew ?_))); (case side2 => exact (Kd.V_reads' HO161.out).2.1); (case side3 => repeat (first | exact (Kd.V_reads' HO131.out).2.2 | (with_reducible refine Kd.C_alloc ?_ _) | (with_reducible refine Kd.C_drewN ?_ _) | (with_reducible refine Kd.C_drew ?_))); (case side4 => exact (Kd.V_reads' HO131.out).2.1); rintro e w84 ⟨v163, rfl, ho0, hb⟩; have n0_ := Aside0.mk (Kd.V_below (by (with_reducible repeat (first | apply Kd.V_alloc | apply Kd.V_drewN | apply Kd.V_drew)); exact HO_0.out) hb); have n10_ := Aside0.mk (Kd.N_below (by (with_reducible repeat (first | apply Kd.N_alloc | apply Kd.N_drewN | apply Kd.N_drew)); exact HO118.out) hb); have n14_ := Aside0.mk (Kd.V_below (by (with_reducible repeat (first | apply Kd.V_alloc | apply Kd.V_drewN | apply Kd.V_drew)); exact HO123.out) hb); have n18_ := Aside0.mk (Kd.V_below (by (with_reducible repeat (first | apply Kd.V_alloc | apply Kd.V_drewN | apply Kd.V_drew)); exact HO127.out) hb); have n22_ := Aside0.mk (Kd.V_below (by (with_reducible repeat (first | apply Kd.V_alloc | apply Kd.V_drewN | apply Kd.V_drew)); exact HO131.out) hb); have n31_ := Aside0.mk (Kd.V_below (by (with_reducible repeat (first | apply Kd.V_alloc | apply Kd.V_drewN | apply Kd.V_drew)); exact HO161.out) hb); have n32_ := Aside0.mk (Kd.V_lower (Kd.V_mono (ok' := fun k_ => (P0_ k_ ∨ w.heap.size ≤ k_) ∧ some k_ ≠ (.slice Ao59 y116.length co59 : Value).ownBlock) ho0 (fun k_ hk_ => ⟨(.inr (Nat.le_trans (below_size (by repeat (first | (with_reducible first | exact HB.out | apply below_alloc | apply pw_below_drewN | apply below_drew1) | exact HB.out))) hk_)), (Kd.fresh' (Kd.N_lt (by (with_reducible repeat (first | apply Kd.N_alloc | apply Kd.N_drewN | apply Kd.N_drew)); exact HO118.out)) k_ hk_)⟩)) (below_size (by repeat (first | (with_reducible first | exact HB.out | apply below_alloc | apply pw_below_drewN | apply below_drew1) | exact HB.out)))); have n51_ := Aside0.mk (below_step (by repeat (first | (with_reducible first | exact HB.out | apply below_alloc | apply pw_below_drewN | apply below_drew1) | exact HB.out)) hb); clear HO_0; clear HO118; clear HO123; clear HO127; clear HO131; clear HO161; clear HB; have HO_0 := n0_; have HO118 := n10_; have HO123 := n14_; have HO127 := n18_; have HO131 := n22_; have HO161 := n31_; have HO164 := n32_; have HB := n51_; clear n0_ n10_ n14_ n18_ n22_ n31_ n32_ n51_; (try clear hb); (try clear hb2); (try clear hk); (try clear hi); (try clear ho0))
                                  try go_wp2_with (go_at_call 12; (with_reducible refine (gaugelaw1_mul.calls _ _ t125 _ _ t129 t165 _ ?side1 ?side2 ?side3 ?side4 A30.out).mono ?_); (case side1 => repeat (first | exact (Kd.V_reads' HO127.out).2.2 | (with_reducible refine Kd.C_alloc ?_ _) | (with_reducible refine Kd.C_drewN ?_ _) | (with_reducible refine Kd.C_drew ?_))); (case side2 => exact (Kd.V_reads' HO127.out).2.1); (case side3 => repeat (first | exact (Kd.V_reads' HO131.out).2.2 | (with_reducible refine Kd.C_alloc ?_ _) | (with_reducible refine Kd.C_drewN ?_ _) | (with_reducible refine Kd.C_drew ?_))); (case side4 => exact (Kd.V_reads' HO131.out).2.1); rintro e w85 ⟨v166, rfl, ho0, hb⟩; have n0_ := Aside0.mk (Kd.V_below (by (with_reducible repeat (first | apply Kd.V_alloc | apply Kd.V_drewN | apply Kd.V_drew)); exact HO_0.out) hb); have n10_ := Aside0.mk (Kd.N_below (by (with_reducible repeat (first | apply Kd.N_alloc | apply Kd.N_drewN | apply Kd.N_drew)); exact HO118.out) hb); have n14_ := Aside0.mk (Kd.V_below (by (with_reducible repeat (first | apply Kd.V_alloc | apply Kd.V_drewN | apply Kd.V_drew)); exact HO123.out) hb); have n18_ := Aside0.mk (Kd.V_below (by (with_reducible repeat (first | apply Kd.V_alloc | apply Kd.V_drewN | apply Kd.V_drew)); exact HO127.out) hb); have n22_ := Aside0.mk (Kd.V_below (by (with_reducible repeat (first | apply Kd.V_alloc | apply Kd.V_drewN | apply Kd.V_drew)); exact HO131.out) hb); have n32_ := Aside0.mk (Kd.V_below (by (with_reducible repeat (first | apply Kd.V_alloc | apply Kd.V_drewN | apply Kd.V_drew)); exact HO164.out) hb); have n33_ := Aside0.mk (Kd.V_lower (Kd.V_mono (ok' := fun k_ => (P0_ k_ ∨ w.heap.size ≤ k_) ∧ some k_ ≠ (.slice Ao59 y116.length co59 : Value).ownBlock) ho0 (fun k_ hk_ => ⟨(.inr (Nat.le_trans (below_size (by repeat (first | (with_reducible first | exact HB.out | apply below_alloc | apply pw_below_drewN | apply below_drew1) | exact HB.out))) hk_)), (Kd.fresh' (Kd.N_lt (by (with_reducible repeat (first | apply Kd.N_alloc | apply Kd.N_drewN | apply Kd.N_drew)); exact HO118.out)) k_ hk_)⟩)) (below_size (by repeat (first | (with_reducible first | exact HB.out | apply below_alloc | apply pw_below_drewN | apply below_drew1) | exact HB.out)))); have n52_ := Aside0.mk (below_step (by repeat (first | (with_reducible first | exact HB.out | apply below_alloc | apply pw_below_drewN | apply below_drew1) | exact HB.out)) hb); clear HO_0; clear HO118; clear HO123; clear HO127; clear HO131; clear HO164; clear HB; have HO_0 := n0_; have HO118 := n10_; have HO123 := n14_; have HO127 := n18_; have HO131 := n22_; have HO164 := n32_; have HO167 := n33_; have HB := n52_; clear n0_ n10_ n14_ n18_ n22_ n32_ n33_ n52_; (try clear hb); (try clear hb2); (try clear hk); (try clear hi); (try clear ho0); obtain ⟨Ao86, co86, eo86⟩ := Kd.V_slice HO167.out; subst eo86; (try clear HO161))
                                  try go_wp2_with (go_at_call 12; (with_reducible refine (gaugelaw1_mul.calls _ _ t121 _ _ t165 t168 _ ?side1 ?side2 ?side3 ?side4 A31.out).mono ?_); (case side1 => repeat (first | exact (Kd.V_reads' HO123.out).2.2 | (with_reducible refine Kd.C_alloc ?_ _) | (with_reducible refine Kd.C_drewN ?_ _) | (with_reducible refine Kd.C_drew ?_))); (case side2 => exact (Kd.V_reads' HO123.out).2.1); (case side3 => repeat (first | exact (Kd.V_reads' HO167.out).2.2 | (with_reducible refine Kd.C_alloc ?_ _) | (with_reducible refine Kd.C_drewN ?_ _) | (with_reducible refine Kd.C_drew ?_))); (case side4 => exact (Kd.V_reads' HO167.out).2.1); rintro e w87 ⟨v169, rfl, ho0, hb⟩; have n0_ := Aside0.mk (Kd.V_below (by (with_reducible repeat (first | apply Kd.V_alloc | apply Kd.V_drewN | apply Kd.V_drew)); exact HO_0.out) hb); have n10_ := Aside0.mk (Kd.N_below (by (with_reducible repeat (first | apply Kd.N_alloc | apply Kd.N_drewN | apply Kd.N_drew)); exact HO118.out) hb); have n14_ := Aside0.mk (Kd.V_below (by (with_reducible repeat (first | apply Kd.V_alloc | apply Kd.V_drewN | apply Kd.V_drew)); exact HO123.out) hb); have n18_ := Aside0.mk (Kd.V_below (by (with_reducible repeat (first | apply Kd.V_alloc | apply Kd.V_drewN | apply Kd.V_drew)); exact HO127.out) hb); have n22_ := Aside0.mk (Kd.V_below (by (with_reducible repeat (first | apply Kd.V_alloc | apply Kd.V_drewN | apply Kd.V_drew)); exact HO131.out) hb); have n32_ := Aside0.mk (Kd.V_below (by (with_reducible repeat (first | apply Kd.V_alloc | apply Kd.V_drewN | apply Kd.V_drew)); exact HO164.out) hb); have n33_ := Aside0.mk (Kd.V_below (by (with_reducible repeat (first | apply Kd.V_alloc | apply Kd.V_drewN | apply Kd.V_drew)); exact HO167.out) hb); have n34_ := Aside0.mk (Kd.V_lower (Kd.V_mono (ok' := fun k_ => (P0_ k_ ∨ w.heap.size ≤ k_) ∧ some k_ ≠ (.slice Ao59 y116.length co59 : Value).ownBlock) ho0 (fun k_ hk_ => ⟨(.inr (Nat.le_trans (below_size (by repeat (first | (with_reducible first | exact HB.out | apply below_alloc | apply pw_below_drewN | apply below_drew1) | exact HB.out))) hk_)), (Kd.fresh' (Kd.N_lt (by (with_reducible repeat (first | apply Kd.N_alloc | apply Kd.N_drewN | apply Kd.N_drew)); exact HO118.out)) k_ hk_)⟩)) (below_size (by repeat (first | (with_reducible first | exact HB.out | apply below_alloc | apply pw_below_drewN | apply below_drew1) | exact HB.out)))); have n53_ := Aside0.mk (below_step (by repeat (first | (with_reducible first | exact HB.out | apply below_alloc | apply pw_below_drewN | apply below_drew1) | exact HB.out)) hb); clear HO_0; clear HO118; clear HO123; clear HO127; clear HO131; clear HO164; clear HO167; clear HB; have HO_0 := n0_; have HO118 := n10_; have HO123 := n14_; have HO127 := n18_; have HO131 := n22_; have HO164 := n32_; have HO167 := n33_; have HO170 := n34_; have HB := n53_; clear n0_ n10_ n14_ n18_ n22_ n32_ n33_ n34_ n53_; (try clear hb); (try clear hb2); (try clear hk); (try clear hi); (try clear ho0); obtain ⟨Ao88, co88, eo88⟩ := Kd.V_slice HO164.out; subst eo88; obtain ⟨Ao89, co89, eo89⟩ := Kd.V_slice HO170.out; subst eo89)
                                  try go_wp2_with (go_at_call 10; (with_reducible refine (gaugeref0_EqNat.calls _ _ t162 _ _ t168 true _ ?side1 ?side2 ?side3 ?side4 A32.out).mono ?_); (case side1 => repeat (first | exact (Kd.V_reads' HO164.out).2.2 | (with_reducible refine Kd.C_alloc ?_ _) | (with_reducible refine Kd.C_drewN ?_ _) | (with_reducible refine Kd.C_drew ?_))); (case side2 => exact (Kd.V_reads' HO164.out).2.1); (case side3 => repeat (first | exact (Kd.V_reads' HO170.out).2.2 | (with_reducible refine Kd.C_alloc ?_ _) | (with_reducible refine Kd.C_drewN ?_ _) | (with_reducible refine Kd.C_drew ?_))); (case side4 => exact (Kd.V_reads' HO170.out).2.1); rintro e w' ⟨rfl, ⟨nd, rfl⟩⟩)
                                  try go_wp2_with (go_at_call 11; (with_reducible refine (gaugelaw1_add.calls _ _ t125 _ _ t129 t172 _ ?side1 ?side2 ?side3 ?side4 A34.out).mono ?_); (case side1 => repeat (first | exact (Kd.V_reads' HO127.out).2.2 | (with_reducible refine Kd.C_alloc ?_ _) | (with_reducible refine Kd.C_drewN ?_ _) | (with_reducible refine Kd.C_drew ?_))); (case side2 => exact (Kd.V_reads' HO127.out).2.1); (case side3 => repeat (first | exact (Kd.V_reads' HO131.out).2.2 | (with_reducible refine Kd.C_alloc ?_ _) | (with_reducible refine Kd.C_drewN ?_ _) | (with_reducible refine Kd.C_drew ?_))); (case side4 => exact (Kd.V_reads' HO131.out).2.1); rintro e w90 ⟨v173, rfl, ho0, hb⟩; have n0_ := Aside0.mk (Kd.V_below (by (with_reducible repeat (first | apply Kd.V_alloc | apply Kd.V_drewN | apply Kd.V_drew)); exact HO_0.out) hb); have n10_ := Aside0.mk (Kd.N_below (by (with_reducible repeat (first | apply Kd.N_alloc | apply Kd.N_drewN | apply Kd.N_drew)); exact HO118.out) hb); have n14_ := Aside0.mk (Kd.V_below (by (with_reducible repeat (first | apply Kd.V_alloc | apply Kd.V_drewN | apply Kd.V_drew)); exact HO123.out) hb); have n18_ := Aside0.mk (Kd.V_below (by (with_reducible repeat (first | apply Kd.V_alloc | apply Kd.V_drewN | apply Kd.V_drew)); exact HO127.out) hb); have n22_ := Aside0.mk (Kd.V_below (by (with_reducible repeat (first | apply Kd.V_alloc | apply Kd.V_drewN | apply Kd.V_drew)); exact HO131.out) hb); have n35_ := Aside0.mk (Kd.V_lower (Kd.V_mono (ok' := fun k_ => (P0_ k_ ∨ w.heap.size ≤ k_) ∧ some k_ ≠ (.slice Ao59 y116.length co59 : Value).ownBlock) ho0 (fun k_ hk_ => ⟨(.inr (Nat.le_trans (below_size (by repeat (first | (with_reducible first | exact HB.out | apply below_alloc | apply pw_below_drewN | apply below_drew1) | exact HB.out))) hk_)), (Kd.fresh' (Kd.N_lt (by (with_reducible repeat (first | apply Kd.N_alloc | apply Kd.N_drewN | apply Kd.N_drew)); exact HO118.out)) k_ hk_)⟩)) (below_size (by repeat (first | (with_reducible first | exact HB.out | apply below_alloc | apply pw_below_drewN | apply below_drew1) | exact HB.out)))); have n54_ := Aside0.mk (below_step (by repeat (first | (with_reducible first | exact HB.out | apply below_alloc | apply pw_below_drewN | apply below_drew1) | exact HB.out)) hb); clear HO_0; clear HO118; clear HO123; clear HO127; clear HO131; clear HB; have HO_0 := n0_; have HO118 := n10_; have HO123 := n14_; have HO127 := n18_; have HO131 := n22_; have HO174 := n35_; have HB := n54_; clear n0_ n10_ n14_ n18_ n22_ n35_ n54_; (try clear hb); (try clear hb2); (try clear hk); (try clear hi); (try clear ho0); obtain ⟨Ao91, co91, eo91⟩ := Kd.V_slice HO174.out; subst eo91; (try clear HO164); (try clear HO167); (try clear HO170))
                                  try go_wp2_with (go_at_call 12; (with_reducible refine (gaugelaw1_mul.calls _ _ t121 _ _ t172 t175 _ ?side1 ?side2 ?side3 ?side4 A35.out).mono ?_); (case side1 => repeat (first | exact (Kd.V_reads' HO123.out).2.2 | (with_reducible refine Kd.C_alloc ?_ _) | (with_reducible refine Kd.C_drewN ?_ _) | (with_reducible refine Kd.C_drew ?_))); (case side2 => exact (Kd.V_reads' HO123.out).2.1); (case side3 => repeat (first | exact (Kd.V_reads' HO174.out).2.2 | (with_reducible refine Kd.C_alloc ?_ _) | (with_reducible refine Kd.C_drewN ?_ _) | (with_reducible refine Kd.C_drew ?_))); (case side4 => exact (Kd.V_reads' HO174.out).2.1); rintro e w92 ⟨v176, rfl, ho0, hb⟩; have n0_ := Aside0.mk (Kd.V_below (by (with_reducible repeat (first | apply Kd.V_alloc | apply Kd.V_drewN | apply Kd.V_drew)); exact HO_0.out) hb); have n10_ := Aside0.mk (Kd.N_below (by (with_reducible repeat (first | apply Kd.N_alloc | apply Kd.N_drewN | apply Kd.N_drew)); exact HO118.out) hb); have n14_ := Aside0.mk (Kd.V_below (by (with_reducible repeat (first | apply Kd.V_alloc | apply Kd.V_drewN | apply Kd.V_drew)); exact HO123.out) hb); have n18_ := Aside0.mk (Kd.V_below (by (with_reducible repeat (first | apply Kd.V_alloc | apply Kd.V_drewN | apply Kd.V_drew)); exact HO127.out) hb); have n22_ := Aside0.mk (Kd.V_below (by (with_reducible repeat (first | apply Kd.V_alloc | apply Kd.V_drewN | apply Kd.V_drew)); exact HO131.out) hb); have n35_ := Aside0.mk (Kd.V_below (by (with_reducible repeat (first | apply Kd.V_alloc | apply Kd.V_drewN | apply Kd.V_drew)); exact HO174.out) hb); have n36_ := Aside0.mk (Kd.V_lower (Kd.V_mono (ok' := fun k_ => (P0_ k_ ∨ w.heap.size ≤ k_) ∧ some k_ ≠ (.slice Ao59 y116.length co59 : Value).ownBlock) ho0 (fun k_ hk_ => ⟨(.inr (Nat.le_trans (below_size (by repeat (first | (with_reducible first | exact HB.out | apply below_alloc | apply pw_below_drewN | apply below_drew1) | exact HB.out))) hk_)), (Kd.fresh' (Kd.N_lt (by (with_reducible repeat (first | apply Kd.N_alloc | apply Kd.N_drewN | apply Kd.N_drew)); exact HO118.out)) k_ hk_)⟩)) (below_size (by repeat (first | (with_reducible first | exact HB.out | apply below_alloc | apply pw_below_drewN | apply below_drew1) | exact HB.out)))); have n55_ := Aside0.mk (below_step (by repeat (first | (with_reducible first | exact HB.out | apply below_alloc | apply pw_below_drewN | apply below_drew1) | exact HB.out)) hb); clear HO_0; clear HO118; clear HO123; clear HO127; clear HO131; clear HO174; clear HB; have HO_0 := n0_; have HO118 := n10_; have HO123 := n14_; have HO127 := n18_; have HO131 := n22_; have HO174 := n35_; have HO177 := n36_; have HB := n55_; clear n0_ n10_ n14_ n18_ n22_ n35_ n36_ n55_; (try clear hb); (try clear hb2); (try clear hk); (try clear hi); (try clear ho0))
                                  try go_wp2_with (go_at_call 12; (with_reducible refine (gaugelaw1_mul.calls _ _ t121 _ _ t125 t178 _ ?side1 ?side2 ?side3 ?side4 A36.out).mono ?_); (case side1 => repeat (first | exact (Kd.V_reads' HO123.out).2.2 | (with_reducible refine Kd.C_alloc ?_ _) | (with_reducible refine Kd.C_drewN ?_ _) | (with_reducible refine Kd.C_drew ?_))); (case side2 => exact (Kd.V_reads' HO123.out).2.1); (case side3 => repeat (first | exact (Kd.V_reads' HO127.out).2.2 | (with_reducible refine Kd.C_alloc ?_ _) | (with_reducible refine Kd.C_drewN ?_ _) | (with_reducible refine Kd.C_drew ?_))); (case side4 => exact (Kd.V_reads' HO127.out).2.1); rintro e w93 ⟨v179, rfl, ho0, hb⟩; have n0_ := Aside0.mk (Kd.V_below (by (with_reducible repeat (first | apply Kd.V_alloc | apply Kd.V_drewN | apply Kd.V_drew)); exact HO_0.out) hb); have n10_ := Aside0.mk (Kd.N_below (by (with_reducible repeat (first | apply Kd.N_alloc | apply Kd.N_drewN | apply Kd.N_drew)); exact HO118.out) hb); have n14_ := Aside0.mk (Kd.V_below (by (with_reducible repeat (first | apply Kd.V_alloc | apply Kd.V_drewN | apply Kd.V_drew)); exact HO123.out) hb); have n18_ := Aside0.mk (Kd.V_below (by (with_reducible repeat (first | apply Kd.V_alloc | apply Kd.V_drewN | apply Kd.V_drew)); exact HO127.out) hb); have n22_ := Aside0.mk (Kd.V_below (by (with_reducible repeat (first | apply Kd.V_alloc | apply Kd.V_drewN | apply Kd.V_drew)); exact HO131.out) hb); have n36_ := Aside0.mk (Kd.V_below (by (with_reducible repeat (first | apply Kd.V_alloc | apply Kd.V_drewN | apply Kd.V_drew)); exact HO177.out) hb); have n37_ := Aside0.mk (Kd.V_lower (Kd.V_mono (ok' := fun k_ => (P0_ k_ ∨ w.heap.size ≤ k_) ∧ some k_ ≠ (.slice Ao59 y116.length co59 : Value).ownBlock) ho0 (fun k_ hk_ => ⟨(.inr (Nat.le_trans (below_size (by repeat (first | (with_reducible first | exact HB.out | apply below_alloc | apply pw_below_drewN | apply below_drew1) | exact HB.out))) hk_)), (Kd.fresh' (Kd.N_lt (by (with_reducible repeat (first | apply Kd.N_alloc | apply Kd.N_drewN | apply Kd.N_drew)); exact HO118.out)) k_ hk_)⟩)) (below_size (by repeat (first | (with_reducible first | exact HB.out | apply below_alloc | apply pw_below_drewN | apply below_drew1) | exact HB.out)))); have n56_ := Aside0.mk (below_step (by repeat (first | (with_reducible first | exact HB.out | apply below_alloc | apply pw_below_drewN | apply below_drew1) | exact HB.out)) hb); clear HO_0; clear HO118; clear HO123; clear HO127; clear HO131; clear HO177; clear HB; have HO_0 := n0_; have HO118 := n10_; have HO123 := n14_; have HO127 := n18_; have HO131 := n22_; have HO177 := n36_; have HO180 := n37_; have HB := n56_; clear n0_ n10_ n14_ n18_ n22_ n36_ n37_ n56_; (try clear hb); (try clear hb2); (try clear hk); (try clear hi); (try clear ho0); (try clear HO174))
                                  try go_wp2_with (go_at_call 12; (with_reducible refine (gaugelaw1_mul.calls _ _ t121 _ _ t129 t181 _ ?side1 ?side2 ?side3 ?side4 A37.out).mono ?_); (case side1 => repeat (first | exact (Kd.V_reads' HO123.out).2.2 | (with_reducible refine Kd.C_alloc ?_ _) | (with_reducible refine Kd.C_drewN ?_ _) | (with_reducible refine Kd.C_drew ?_))); (case side2 => exact (Kd.V_reads' HO123.out).2.1); (case side3 => repeat (first | exact (Kd.V_reads' HO131.out).2.2 | (with_reducible refine Kd.C_alloc ?_ _) | (with_reducible refine Kd.C_drewN ?_ _) | (with_reducible refine Kd.C_drew ?_))); (case side4 => exact (Kd.V_reads' HO131.out).2.1); rintro e w94 ⟨v182, rfl, ho0, hb⟩; have n0_ := Aside0.mk (Kd.V_below (by (with_reducible repeat (first | apply Kd.V_alloc | apply Kd.V_drewN | apply Kd.V_drew)); exact HO_0.out) hb); have n10_ := Aside0.mk (Kd.N_below (by (with_reducible repeat (first | apply Kd.N_alloc | apply Kd.N_drewN | apply Kd.N_drew)); exact HO118.out) hb); have n14_ := Aside0.mk (Kd.V_below (by (with_reducible repeat (first | apply Kd.V_alloc | apply Kd.V_drewN | apply Kd.V_drew)); exact HO123.out) hb); have n18_ := Aside0.mk (Kd.V_below (by (with_reducible repeat (first | apply Kd.V_alloc | apply Kd.V_drewN | apply Kd.V_drew)); exact HO127.out) hb); have n22_ := Aside0.mk (Kd.V_below (by (with_reducible repeat (first | apply Kd.V_alloc | apply Kd.V_drewN | apply Kd.V_drew)); exact HO131.out) hb); have n36_ := Aside0.mk (Kd.V_below (by (with_reducible repeat (first | apply Kd.V_alloc | apply Kd.V_drewN | apply Kd.V_drew)); exact HO177.out) hb); have n37_ := Aside0.mk (Kd.V_below (by (with_reducible repeat (first | apply Kd.V_alloc | apply Kd.V_drewN | apply Kd.V_drew)); exact HO180.out) hb); have n38_ := Aside0.mk (Kd.V_lower (Kd.V_mono (ok' := fun k_ => (P0_ k_ ∨ w.heap.size ≤ k_) ∧ some k_ ≠ (.slice Ao59 y116.length co59 : Value).ownBlock) ho0 (fun k_ hk_ => ⟨(.inr (Nat.le_trans (below_size (by repeat (first | (with_reducible first | exact HB.out | apply below_alloc | apply pw_below_drewN | apply below_drew1) | exact HB.out))) hk_)), (Kd.fresh' (Kd.N_lt (by (with_reducible repeat (first | apply Kd.N_alloc | apply Kd.N_drewN | apply Kd.N_drew)); exact HO118.out)) k_ hk_)⟩)) (below_size (by repeat (first | (with_reducible first | exact HB.out | apply below_alloc | apply pw_below_drewN | apply below_drew1) | exact HB.out)))); have n57_ := Aside0.mk (below_step (by repeat (first | (with_reducible first | exact HB.out | apply below_alloc | apply pw_below_drewN | apply below_drew1) | exact HB.out)) hb); clear HO_0; clear HO118; clear HO123; clear HO127; clear HO131; clear HO177; clear HO180; clear HB; have HO_0 := n0_; have HO118 := n10_; have HO123 := n14_; have HO127 := n18_; have HO131 := n22_; have HO177 := n36_; have HO180 := n37_; have HO183 := n38_; have HB := n57_; clear n0_ n10_ n14_ n18_ n22_ n36_ n37_ n38_ n57_; (try clear hb); (try clear hb2); (try clear hk); (try clear hi); (try clear ho0); obtain ⟨Ao95, co95, eo95⟩ := Kd.V_slice HO180.out; subst eo95; obtain ⟨Ao96, co96, eo96⟩ := Kd.V_slice HO183.out; subst eo96)
                                  try go_wp2_with (go_at_call 11; (with_reducible refine (gaugelaw1_add.calls _ _ t178 _ _ t181 t184 _ ?side1 ?side2 ?side3 ?side4 A38.out).mono ?_); (case side1 => repeat (first | exact (Kd.V_reads' HO180.out).2.2 | (with_reducible refine Kd.C_alloc ?_ _) | (with_reducible refine Kd.C_drewN ?_ _) | (with_reducible refine Kd.C_drew ?_))); (case side2 => exact (Kd.V_reads' HO180.out).2.1); (case side3 => repeat (first | exact (Kd.V_reads' HO183.out).2.2 | (with_reducible refine Kd.C_alloc ?_ _) | (with_reducible refine Kd.C_drewN ?_ _) | (with_reducible refine Kd.C_drew ?_))); (case side4 => exact (Kd.V_reads' HO183.out).2.1); rintro e w97 ⟨v185, rfl, ho0, hb⟩; have n0_ := Aside0.mk (Kd.V_below (by (with_reducible repeat (first | apply Kd.V_alloc | apply Kd.V_drewN | apply Kd.V_drew)); exact HO_0.out) hb); have n10_ := Aside0.mk (Kd.N_below (by (with_reducible repeat (first | apply Kd.N_alloc | apply Kd.N_drewN | apply Kd.N_drew)); exact HO118.out) hb); have n14_ := Aside0.mk (Kd.V_below (by (with_reducible repeat (first | apply Kd.V_alloc | apply Kd.V_drewN | apply Kd.V_drew)); exact HO123.out) hb); have n18_ := Aside0.mk (Kd.V_below (by (with_reducible repeat (first | apply Kd.V_alloc | apply Kd.V_drewN | apply Kd.V_drew)); exact HO127.out) hb); have n36_ := Aside0.mk (Kd.V_below (by (with_reducible repeat (first | apply Kd.V_alloc | apply Kd.V_drewN | apply Kd.V_drew)); exact HO177.out) hb); have n37_ := Aside0.mk (Kd.V_below (by (with_reducible repeat (first | apply Kd.V_alloc | apply Kd.V_drewN | apply Kd.V_drew)); exact HO180.out) hb); have n38_ := Aside0.mk (Kd.V_below (by (with_reducible repeat (first | apply Kd.V_alloc | apply Kd.V_drewN | apply Kd.V_drew)); exact HO183.out) hb); have n39_ := Aside0.mk (Kd.V_lower (Kd.V_mono (ok' := fun k_ => (P0_ k_ ∨ w.heap.size ≤ k_) ∧ some k_ ≠ (.slice Ao59 y116.length co59 : Value).ownBlock) ho0 (fun k_ hk_ => ⟨(.inr (Nat.le_trans (below_size (by repeat (first | (with_reducible first | exact HB.out | apply below_alloc | apply pw_below_drewN | apply below_drew1) | exact HB.out))) hk_)), (Kd.fresh' (Kd.N_lt (by (with_reducible repeat (first | apply Kd.N_alloc | apply Kd.N_drewN | apply Kd.N_drew)); exact HO118.out)) k_ hk_)⟩)) (below_size (by repeat (first | (with_reducible first | exact HB.out | apply below_alloc | apply pw_below_drewN | apply below_drew1) | exact HB.out)))); have n58_ := Aside0.mk (below_step (by repeat (first | (with_reducible first | exact HB.out | apply below_alloc | apply pw_below_drewN | apply below_drew1) | exact HB.out)) hb); clear HO_0; clear HO118; clear HO123; clear HO127; clear HO177; clear HO180; clear HO183; clear HB; have HO_0 := n0_; have HO118 := n10_; have HO123 := n14_; have HO127 := n18_; have HO177 := n36_; have HO180 := n37_; have HO183 := n38_; have HO186 := n39_; have HB := n58_; clear n0_ n10_ n14_ n18_ n36_ n37_ n38_ n39_ n58_; (try clear hb); (try clear hb2); (try clear hk); (try clear hi); (try clear ho0); obtain ⟨Ao98, co98, eo98⟩ := Kd.V_slice HO177.out; subst eo98; obtain ⟨Ao99, co99, eo99⟩ := Kd.V_slice HO186.out; subst eo99; (try clear HO131))
                                  try go_wp2_with (go_at_call 10; (with_reducible refine (gaugeref0_EqNat.calls _ _ t175 _ _ t184 true _ ?side1 ?side2 ?side3 ?side4 A39.out).mono ?_); (case side1 => repeat (first | exact (Kd.V_reads' HO177.out).2.2 | (with_reducible refine Kd.C_alloc ?_ _) | (with_reducible refine Kd.C_drewN ?_ _) | (with_reducible refine Kd.C_drew ?_))); (case side2 => exact (Kd.V_reads' HO177.out).2.1); (case side3 => repeat (first | exact (Kd.V_reads' HO186.out).2.2 | (with_reducible refine Kd.C_alloc ?_ _) | (with_reducible refine Kd.C_drewN ?_ _) | (with_reducible refine Kd.C_drew ?_))); (case side4 => exact (Kd.V_reads' HO186.out).2.1); rintro e w' ⟨rfl, ⟨nd, rfl⟩⟩)
                                  try go_wp2_with (go_at_call 11; (with_reducible refine (gaugelaw1_add.calls _ _ t121 _ _ t125 t188 _ ?side1 ?side2 ?side3 ?side4 A41.out).mono ?_); (case side1 => repeat (first | exact (Kd.V_reads' HO123.out).2.2 | (with_reducible refine Kd.C_alloc ?_ _) | (with_reducible refine Kd.C_drewN ?_ _) | (with_reducible refine Kd.C_drew ?_))); (case side2 => exact (Kd.V_reads' HO123.out).2.1); (case side3 => repeat (first | exact (Kd.V_reads' HO127.out).2.2 | (with_reducible refine Kd.C_alloc ?_ _) | (with_reducible refine Kd.C_drewN ?_ _) | (with_reducible refine Kd.C_drew ?_))); (case side4 => exact (Kd.V_reads' HO127.out).2.1); rintro e w100 ⟨v189, rfl, ho0, hb⟩; have n0_ := Aside0.mk (Kd.V_below (by (with_reducible repeat (first | apply Kd.V_alloc | apply Kd.V_drewN | apply Kd.V_drew)); exact HO_0.out) hb); have n10_ := Aside0.mk (Kd.N_below (by (with_reducible repeat (first | apply Kd.N_alloc | apply Kd.N_drewN | apply Kd.N_drew)); exact HO118.out) hb); have n14_ := Aside0.mk (Kd.V_below (by (with_reducible repeat (first | apply Kd.V_alloc | apply Kd.V_drewN | apply Kd.V_drew)); exact HO123.out) hb); have n18_ := Aside0.mk (Kd.V_below (by (with_reducible repeat (first | apply Kd.V_alloc | apply Kd.V_drewN | apply Kd.V_drew)); exact HO127.out) hb); have n40_ := Aside0.mk (Kd.V_lower (Kd.V_mono (ok' := fun k_ => (P0_ k_ ∨ w.heap.size ≤ k_) ∧ some k_ ≠ (.slice Ao59 y116.length co59 : Value).ownBlock) ho0 (fun k_ hk_ => ⟨(.inr (Nat.le_trans (below_size (by repeat (first | (with_reducible first | exact HB.out | apply below_alloc | apply pw_below_drewN | apply below_drew1) | exact HB.out))) hk_)), (Kd.fresh' (Kd.N_lt (by (with_reducible repeat (first | apply Kd.N_alloc | apply Kd.N_drewN | apply Kd.N_drew)); exact HO118.out)) k_ hk_)⟩)) (below_size (by repeat (first | (with_reducible first | exact HB.out | apply below_alloc | apply pw_below_drewN | apply below_drew1) | exact HB.out)))); have n59_ := Aside0.mk (below_step (by repeat (first | (with_reducible first | exact HB.out | apply below_alloc | apply pw_below_drewN | apply below_drew1) | exact HB.out)) hb); clear HO_0; clear HO118; clear HO123; clear HO127; clear HB; have HO_0 := n0_; have HO118 := n10_; have HO123 := n14_; have HO127 := n18_; have HO190 := n40_; have HB := n59_; clear n0_ n10_ n14_ n18_ n40_ n59_; (try clear hb); (try clear hb2); (try clear hk); (try clear hi); (try clear ho0); obtain ⟨Ao101, co101, eo101⟩ := Kd.V_slice HO190.out; subst eo101; (try clear HO177); (try clear HO180); (try clear HO183); (try clear HO186))
                                  try go_wp2_with (go_at_call 13; (with_reducible refine (nat_Sub.calls _ _ t188 _ _ t125 t191 t194 _ ?side1 ?side2 ?side3 ?side4 A42.out).mono ?_); (case side1 => repeat (first | exact (Kd.V_reads' HO190.out).2.2 | (with_reducible refine Kd.C_alloc ?_ _) | (with_reducible refine Kd.C_drewN ?_ _) | (with_reducible refine Kd.C_drew ?_))); (case side2 => exact (Kd.V_reads' HO190.out).2.1); (case side3 => repeat (first | exact (Kd.V_reads' HO127.out).2.2 | (with_reducible refine Kd.C_alloc ?_ _) | (with_reducible refine Kd.C_drewN ?_ _) | (with_reducible refine Kd.C_drew ?_))); (case side4 => exact (Kd.V_reads' HO127.out).2.1); rintro e w102 ⟨v192, rfl, ho0, hb⟩; have n0_ := Aside0.mk (Kd.V_below (by (with_reducible repeat (first | apply Kd.V_alloc | apply Kd.V_drewN | apply Kd.V_drew)); exact HO_0.out) hb); have n10_ := Aside0.mk (Kd.N_below (by (with_reducible repeat (first | apply Kd.N_alloc | apply Kd.N_drewN | apply Kd.N_drew)); exact HO118.out) hb); have n14_ := Aside0.mk (Kd.V_below (by (with_reducible repeat (first | apply Kd.V_alloc | apply Kd.V_drewN | apply Kd.V_drew)); exact HO123.out) hb); have n18_ := Aside0.mk (Kd.V_below (by (with_reducible repeat (first | apply Kd.V_alloc | apply Kd.V_drewN | apply Kd.V_drew)); exact HO127.out) hb); have n40_ := Aside0.mk (Kd.V_below (by (with_reducible repeat (first | apply Kd.V_alloc | apply Kd.V_drewN | apply Kd.V_drew)); exact HO190.out) hb); have n41_ := Aside0.mk (Kd.V_lower (Kd.V_mono (ok' := fun k_ => (P0_ k_ ∨ w.heap.size ≤ k_) ∧ some k_ ≠ (.slice Ao59 y116.length co59 : Value).ownBlock) ho0 (fun k_ hk_ => ⟨(.inr (Nat.le_trans (below_size (by repeat (first | (with_reducible first | exact HB.out | apply below_alloc | apply pw_below_drewN | apply below_drew1) | exact HB.out))) hk_)), (Kd.fresh' (Kd.N_lt (by (with_reducible repeat (first | apply Kd.N_alloc | apply Kd.N_drewN | apply Kd.N_drew)); exact HO118.out)) k_ hk_)⟩)) (below_size (by repeat (first | (with_reducible first | exact HB.out | apply below_alloc | apply pw_below_drewN | apply below_drew1) | exact HB.out)))); have n60_ := Aside0.mk (below_step (by repeat (first | (with_reducible first | exact HB.out | apply below_alloc | apply pw_below_drewN | apply below_drew1) | exact HB.out)) hb); clear HO_0; clear HO118; clear HO123; clear HO127; clear HO190; clear HB; have HO_0 := n0_; have HO118 := n10_; have HO123 := n14_; have HO127 := n18_; have HO190 := n40_; have HO193 := n41_; have HB := n60_; clear n0_ n10_ n14_ n18_ n40_ n41_ n60_; (try clear hb); (try clear hb2); (try clear hk); (try clear hi); (try clear ho0))
                                  try go_wp2_with (go_at_call 14; (with_reducible refine (gaugelaw1_num.calls t194 t195 _ A43.out).mono ?_); rintro e w' ⟨rfl, ⟨nd, rfl⟩⟩; obtain ⟨Ao103, co103, eo103⟩ := Kd.V_slice HO193.out; subst eo103)
                                  try go_wp2_with (go_at_call 10; (with_reducible refine (gaugeref0_EqNat.calls _ _ t191 _ _ t121 true _ ?side1 ?side2 ?side3 ?side4 A45.out).mono ?_); (case side1 => repeat (first | exact (Kd.V_reads' HO193.out).2.2 | (with_reducible refine Kd.C_alloc ?_ _) | (with_reducible refine Kd.C_drewN ?_ _) | (with_reducible refine Kd.C_drew ?_))); (case side2 => exact (Kd.V_reads' HO193.out).2.1); (case side3 => repeat (first | exact (Kd.V_reads' HO123.out).2.2 | (with_reducible refine Kd.C_alloc ?_ _) | (with_reducible refine Kd.C_drewN ?_ _) | (with_reducible refine Kd.C_drew ?_))); (case side4 => exact (Kd.V_reads' HO123.out).2.1); rintro e w' ⟨rfl, ⟨nd, rfl⟩⟩)
                                  try go_wp2_with (go_at_call 11; (with_reducible refine (gaugelaw1_add.calls _ _ t121 _ _ t125 t197 _ ?side1 ?side2 ?side3 ?side4 A47.out).mono ?_); (case side1 => repeat (first | exact (Kd.V_reads' HO123.out).2.2 | (with_reducible refine Kd.C_alloc ?_ _) | (with_reducible refine Kd.C_drewN ?_ _) | (with_reducible refine Kd.C_drew ?_))); (case side2 => exact (Kd.V_reads' HO123.out).2.1); (case side3 => repeat (first | exact (Kd.V_reads' HO127.out).2.2 | (with_reducible refine Kd.C_alloc ?_ _) | (with_reducible refine Kd.C_drewN ?_ _) | (with_reducible refine Kd.C_drew ?_))); (case side4 => exact (Kd.V_reads' HO127.out).2.1); rintro e w104 ⟨v198, rfl, ho0, hb⟩; have n0_ := Aside0.mk (Kd.V_below (by (with_reducible repeat (first | apply Kd.V_alloc | apply Kd.V_drewN | apply Kd.V_drew)); exact HO_0.out) hb); have n10_ := Aside0.mk (Kd.N_below (by (with_reducible repeat (first | apply Kd.N_alloc | apply Kd.N_drewN | apply Kd.N_drew)); exact HO118.out) hb); have n14_ := Aside0.mk (Kd.V_below (by (with_reducible repeat (first | apply Kd.V_alloc | apply Kd.V_drewN | apply Kd.V_drew)); exact HO123.out) hb); have n18_ := Aside0.mk (Kd.V_below (by (with_reducible repeat (first | apply Kd.V_alloc | apply Kd.V_drewN | apply Kd.V_drew)); exact HO127.out) hb); have n42_ := Aside0.mk (Kd.V_lower (Kd.V_mono (ok' := fun k_ => (P0_ k_ ∨ w.heap.size ≤ k_) ∧ some k_ ≠ (.slice Ao59 y116.length co59 : Value).ownBlock) ho0 (fun k_ hk_ => ⟨(.inr (Nat.le_trans (below_size (by repeat (first | (with_reducible first | exact HB.out | apply below_alloc | apply pw_below_drewN | apply below_drew1) | exact HB.out))) hk_)), (Kd.fresh' (Kd.N_lt (by (with_reducible repeat (first | apply Kd.N_alloc | apply Kd.N_drewN | apply Kd.N_drew)); exact HO118.out)) k_ hk_)⟩)) (below_size (by repeat (first | (with_reducible first | exact HB.out | apply below_alloc | apply pw_below_drewN | apply below_drew1) | exact HB.out)))); have n61_ := Aside0.mk (below_step (by repeat (first | (with_reducible first | exact HB.out | apply below_alloc | apply pw_below_drewN | apply below_drew1) | exact HB.out)) hb); clear HO_0; clear HO118; clear HO123; clear HO127; clear HB; have HO_0 := n0_; have HO118 := n10_; have HO123 := n14_; have HO127 := n18_; have HO199 := n42_; have HB := n61_; clear n0_ n10_ n14_ n18_ n42_ n61_; (try clear hb); (try clear hb2); (try clear hk); (try clear hi); (try clear ho0); obtain ⟨Ao105, co105, eo105⟩ := Kd.V_slice HO199.out; subst eo105; (try clear HO190); (try clear HO193))
                                  try go_wp2_with (go_at_call 15; (with_reducible refine (nat_Cmp.calls _ _ t197 _ _ t121 t200 _ ?side1 ?side2 ?side3 ?side4 A48.out).mono ?_); (case side1 => repeat (first | exact (Kd.V_reads' HO199.out).2.2 | (with_reducible refine Kd.C_alloc ?_ _) | (with_reducible refine Kd.C_drewN ?_ _) | (with_reducible refine Kd.C_drew ?_))); (case side2 => exact (Kd.V_reads' HO199.out).2.1); (case side3 => repeat (first | exact (Kd.V_reads' HO123.out).2.2 | (with_reducible refine Kd.C_alloc ?_ _) | (with_reducible refine Kd.C_drewN ?_ _) | (with_reducible refine Kd.C_drew ?_))); (case side4 => exact (Kd.V_reads' HO123.out).2.1); rintro e w' ⟨rfl, ⟨nd, rfl⟩⟩)
                                  try go_wp2_with (go_at_call 16; (with_reducible refine (nat_From.calls 1 t201 _ A50.out).mono ?_); rintro e w106 ⟨v202, rfl, ho0, hb⟩; have n0_ := Aside0.mk (Kd.V_below (by (with_reducible repeat (first | apply Kd.V_alloc | apply Kd.V_drewN | apply Kd.V_drew)); exact HO_0.out) hb); have n10_ := Aside0.mk (Kd.N_below (by (with_reducible repeat (first | apply Kd.N_alloc | apply Kd.N_drewN | apply Kd.N_drew)); exact HO118.out) hb); have n14_ := Aside0.mk (Kd.V_below (by (with_reducible repeat (first | apply Kd.V_alloc | apply Kd.V_drewN | apply Kd.V_drew)); exact HO123.out) hb); have n43_ := Aside0.mk (Kd.V_lower (Kd.V_mono (ok' := fun k_ => (P0_ k_ ∨ w.heap.size ≤ k_) ∧ some k_ ≠ (.slice Ao59 y116.length co59 : Value).ownBlock) ho0 (fun k_ hk_ => ⟨(.inr (Nat.le_trans (below_size (by repeat (first | (with_reducible first | exact HB.out | apply below_alloc | apply pw_below_drewN | apply below_drew1) | exact HB.out))) hk_)), (Kd.fresh' (Kd.N_lt (by (with_reducible repeat (first | apply Kd.N_alloc | apply Kd.N_drewN | apply Kd.N_drew)); exact HO118.out)) k_ hk_)⟩)) (below_size (by repeat (first | (with_reducible first | exact HB.out | apply below_alloc | apply pw_below_drewN | apply below_drew1) | exact HB.out)))); have n62_ := Aside0.mk (below_step (by repeat (first | (with_reducible first | exact HB.out | apply below_alloc | apply pw_below_drewN | apply below_drew1) | exact HB.out)) hb); clear HO_0; clear HO118; clear HO123; clear HB; have HO_0 := n0_; have HO118 := n10_; have HO123 := n14_; have HO203 := n43_; have HB := n62_; clear n0_ n10_ n14_ n43_ n62_; (try clear hb); (try clear hb2); (try clear hk); (try clear hi); (try clear ho0); obtain ⟨Ao107, co107, eo107⟩ := Kd.V_slice HO203.out; subst eo107; (try clear HO127); (try clear HO199))
                                  try go_wp2_with (go_at_call 12; (with_reducible refine (gaugelaw1_mul.calls _ _ t121 _ _ t201 t204 _ ?side1 ?side2 ?side3 ?side4 A51.out).mono ?_); (case side1 => repeat (first | exact (Kd.V_reads' HO123.out).2.2 | (with_reducible refine Kd.C_alloc ?_ _) | (with_reducible refine Kd.C_drewN ?_ _) | (with_reducible refine Kd.C_drew ?_))); (case side2 => exact (Kd.V_reads' HO123.out).2.1); (case side3 => repeat (first | exact (Kd.V_reads' HO203.out).2.2 | (with_reducible refine Kd.C_alloc ?_ _) | (with_reducible refine Kd.C_drewN ?_ _) | (with_reducible refine Kd.C_drew ?_))); (case side4 => exact (Kd.V_reads' HO203.out).2.1); rintro e w108 ⟨v205, rfl, ho0, hb⟩; have n0_ := Aside0.mk (Kd.V_below (by (with_reducible repeat (first | apply Kd.V_alloc | apply Kd.V_drewN | apply Kd.V_drew)); exact HO_0.out) hb); have n10_ := Aside0.mk (Kd.N_below (by (with_reducible repeat (first | apply Kd.N_alloc | apply Kd.N_drewN | apply Kd.N_drew)); exact HO118.out) hb); have n14_ := Aside0.mk (Kd.V_below (by (with_reducible repeat (first | apply Kd.V_alloc | apply Kd.V_drewN | apply Kd.V_drew)); exact HO123.out) hb); have n43_ := Aside0.mk (Kd.V_below (by (with_reducible repeat (first | apply Kd.V_alloc | apply Kd.V_drewN | apply Kd.V_drew)); exact HO203.out) hb); have n44_ := Aside0.mk (Kd.V_lower (Kd.V_mono (ok' := fun k_ => (P0_ k_ ∨ w.heap.size ≤ k_) ∧ some k_ ≠ (.slice Ao59 y116.length co59 : Value).ownBlock) ho0 (fun k_ hk_ => ⟨(.inr (Nat.le_trans (below_size (by repeat (first | (with_reducible first | exact HB.out | apply below_alloc | apply pw_below_drewN | apply below_drew1) | exact HB.out))) hk_)), (Kd.fresh' (Kd.N_lt (by (with_reducible repeat (first | apply Kd.N_alloc | apply Kd.N_drewN | apply Kd.N_drew)); exact HO118.out)) k_ hk_)⟩)) (below_size (by repeat (first | (with_reducible first | exact HB.out | apply below_alloc | apply pw_below_drewN | apply below_drew1) | exact HB.out)))); have n63_ := Aside0.mk (below_step (by repeat (first | (with_reducible first | exact HB.out | apply below_alloc | apply pw_below_drewN | apply below_drew1) | exact HB.out)) hb); clear HO_0; clear HO118; clear HO123; clear HO203; clear HB; have HO_0 := n0_; have HO118 := n10_; have HO123 := n14_; have HO203 := n43_; have HO206 := n44_; have HB := n63_; clear n0_ n10_ n14_ n43_ n44_ n63_; (try clear hb); (try clear hb2); (try clear hk); (try clear hi); (try clear ho0); obtain ⟨Ao109, co109, eo109⟩ := Kd.V_slice HO206.out; subst eo109)
                                  try go_wp2_with (go_at_call 10; (with_reducible refine (gaugeref0_EqNat.calls _ _ t204 _ _ t121 true _ ?side1 ?side2 ?side3 ?side4 A52.out).mono ?_); (case side1 => repeat (first | exact (Kd.V_reads' HO206.out).2.2 | (with_reducible refine Kd.C_alloc ?_ _) | (with_reducible refine Kd.C_drewN ?_ _) | (with_reducible refine Kd.C_drew ?_))); (case side2 => exact (Kd.V_reads' HO206.out).2.1); (case side3 => repeat (first | exact (Kd.V_reads' HO123.out).2.2 | (with_reducible refine Kd.C_alloc ?_ _) | (with_reducible refine Kd.C_drewN ?_ _) | (with_reducible refine Kd.C_drew ?_))); (case side4 => exact (Kd.V_reads' HO123.out).2.1); rintro e w' ⟨rfl, ⟨nd, rfl⟩⟩)
                                  try go_wp2_with (go_at_call 12; (refine (gaugelaw1_mul.calls _ _ t121 _ _ ([] : List Int) t208 _ ?side1 ?side2 ?side3 ?side4 A54.out).mono ?_); (case side1 => repeat (first | exact (Kd.V_reads' HO123.out).2.2 | (with_reducible refine Kd.C_alloc ?_ _) | (with_reducible refine Kd.C_drewN ?_ _) | (with_reducible refine Kd.C_drew ?_))); (case side2 => exact (Kd.V_reads' HO123.out).2.1); (case side3 => exact Kd.C_nil _ _); (case side4 => exact Nat.le_refl _); rintro e w110 ⟨v209, rfl, ho0, hb⟩; have n0_ := Aside0.mk (Kd.V_below (by (with_reducible repeat (first | apply Kd.V_alloc | apply Kd.V_drewN | apply Kd.V_drew)); exact HO_0.out) hb); have n14_ := Aside0.mk (Kd.V_below (by (with_reducible repeat (first | apply Kd.V_alloc | apply Kd.V_drewN | apply Kd.V_drew)); exact HO123.out) hb); have n45_ := Aside0.mk (Kd.V_lower (Kd.V_mono (ok' := fun k_ => (P0_ k_ ∨ w.heap.size ≤ k_) ∧ some k_ ≠ (.slice Ao59 y116.length co59 : Value).ownBlock) ho0 (fun k_ hk_ => ⟨(.inr (Nat.le_trans (below_size (by repeat (first | (with_reducible first | exact HB.out | apply below_alloc | apply pw_below_drewN | apply below_drew1) | exact HB.out))) hk_)), (Kd.fresh' (Kd.N_lt (by (with_reducible repeat (first | apply Kd.N_alloc | apply Kd.N_drewN | apply Kd.N_drew)); exact HO118.out)) k_ hk_)⟩)) (below_size (by repeat (first | (with_reducible first | exact HB.out | apply below_alloc | apply pw_below_drewN | apply below_drew1) | exact HB.out)))); have n64_ := Aside0.mk (below_step (by repeat (first | (with_reducible first | exact HB.out | apply below_alloc | apply pw_below_drewN | apply below_drew1) | exact HB.out)) hb); clear HO_0; clear HO123; clear HB; have HO_0 := n0_; have HO123 := n14_; have HO210 := n45_; have HB := n64_; clear n0_ n14_ n45_ n64_; (try clear hb); (try clear hb2); (try clear hk); (try clear hi); (try clear ho0); obtain ⟨Ao111, co111, eo111⟩ := Kd.V_slice HO210.out; subst eo111; (try clear HO118); (try clear HO203); (try clear HO206))
                                  go_roundg k1
                                  case measure => have := HK1.out; omega
                                  case rel => exact ⟨(wrap64 (x3_1 + 1)), (by first | rfl | (simp; done) | (simp [*]; done)), H', ⟨by have := HK1.out; omega⟩, ⟨by (with_reducible repeat (first | apply Kd.V_alloc | apply Kd.V_drewN | apply Kd.V_drew)); exact Kd.V_mono HO_0.out (fun _ hk => hk.1)⟩, ⟨by repeat (first | (with_reducible first | exact HB.out | apply below_alloc | apply pw_below_drewN | apply below_drew1) | exact HB.out)⟩⟩
                              · replace c53 := Bool.eq_false_iff.mpr c53
                                subst c53
                                have H1 : (none) = some r := by rw [if_neg (show ¬ (false = true) by decide)] at H; exact H
                                clear H
                                have H := H1
                                clear H1
                                exact absurd H (by simp)
                          · replace c46 := Bool.eq_false_iff.mpr c46
                            subst c46
                            have H1 : (none) = some r := by rw [if_neg (show ¬ (false = true) by decide)] at H; exact H
                            clear H
                            have H := H1
                            clear H1
                            exact absurd H (by simp)
                        · rw [if_neg c44] at H
                          exact absurd H (by simp)
                      · replace c40 := Bool.eq_false_iff.mpr c40
                        subst c40
                        have H1 : (none) = some r := by rw [if_neg (show ¬ (false = true) by decide)] at H; exact H
                        clear H
                        have H := H1
                        clear H1
                        exact absurd H (by simp)
                    · replace c33 := Bool.eq_false_iff.mpr c33
                      subst c33
                      have H1 : (none) = some r := by rw [if_neg (show ¬ (false = true) by decide)] at H; exact H
                      clear H
                      have H := H1
                      clear H1
                      exact absurd H (by simp)
                  · replace c27 := Bool.eq_false_iff.mpr c27
                    subst c27
                    have H1 : (none) = some r := by rw [if_neg (show ¬ (false = true) by decide)] at H; exact H
                    clear H
                    have H := H1
                    clear H1
                    exact absurd H (by simp)
                · replace c21 := Bool.eq_false_iff.mpr c21
                  subst c21
                  have H1 : (none) = some r := by rw [if_neg (show ¬ (false = true) by decide)] at H; exact H
                  clear H
                  have H := H1
                  clear H1
                  exact absurd H (by simp)
              · replace c17 := Bool.eq_false_iff.mpr c17
                subst c17
                have H1 : (none) = some r := by rw [if_neg (show ¬ (false = true) by decide)] at H; exact H
                clear H
                have H := H1
                clear H1
                exact absurd H (by simp)
          · rw [if_neg c4] at H
            exact absurd H (by simp)
        · rw [if_neg c3] at H
          have c3b0 : decide (x3_1 < 60) = false := decide_eq_false c3
          clear c3
          replace H := Option.bind_eq_some_iff.mp H
          obtain ⟨t211, A1120, H⟩ := H
          replace H : (some t211) = some r := H
          have A112 := Aside0.mk A1120
          clear A1120
          obtain rfl := Option.some.inj H
          go_wp2_with (first | ((with_reducible refine gate_callee (f := 17) rfl ?_); refine goesL_ (some 155) rfl rfl Try.func17 (by kernel_rfl) rfl #[] rfl (by (try simp only [List.map_toArray, List.map_cons, List.map_nil]); first | done | rfl | (simp only [List.length_drop, List.length_take]; rfl)) ?_; (with_reducible refine (gaugelaw1_wakes.calls  t211 _ A112.out).mono ?_); rintro e w113 ⟨rfl, hb⟩; refine ⟨_, rfl, ?_⟩; have n0_ := Aside0.mk (Kd.V_below (by (with_reducible repeat (first | apply Kd.V_alloc | apply Kd.V_drewN | apply Kd.V_drew)); exact HO_0.out) hb); have n1_ := Aside0.mk (below_step (by repeat (first | (with_reducible first | exact HB.out | apply below_alloc | apply pw_below_drewN | apply below_drew1) | exact HB.out)) hb); clear HO_0; clear HB; have HO_0 := n0_; have HB := n1_; clear n0_ n1_; (try clear hb); (try clear hb2); (try clear hk); (try clear hi)))
          go_ret
          exact ⟨by first | rfl | (simp [errW_none, errW_some] <;> rfl) | (simp [*, errW_none, errW_some] <;> rfl), by repeat (first | (with_reducible first | exact HB.out | apply below_alloc | apply pw_below_drewN | apply below_drew1) | exact HB.out)⟩
      · rw [if_neg c2] at H
        have c2b0 : decide (x3_1 < (l0.length : Int)) = false := decide_eq_false c2
        clear c2
        replace H := Option.bind_eq_some_iff.mp H
        obtain ⟨t212, A1140, H⟩ := H
        replace H : (some t212) = some r := H
        have A114 := Aside0.mk A1140
        clear A1140
        obtain rfl := Option.some.inj H
        go_wp2_with (first | ((with_reducible refine gate_callee (f := 17) rfl ?_); refine goesL_ (some 155) rfl rfl Try.func17 (by kernel_rfl) rfl #[] rfl (by (try simp only [List.map_toArray, List.map_cons, List.map_nil]); first | done | rfl | (simp only [List.length_drop, List.length_take]; rfl)) ?_; (with_reducible refine (gaugelaw1_wakes.calls  t212 _ A114.out).mono ?_); rintro e w115 ⟨rfl, hb⟩; refine ⟨_, rfl, ?_⟩; have n0_ := Aside0.mk (Kd.V_below (by (with_reducible repeat (first | apply Kd.V_alloc | apply Kd.V_drewN | apply Kd.V_drew)); exact HO_0.out) hb); have n1_ := Aside0.mk (below_step (by repeat (first | (with_reducible first | exact HB.out | apply below_alloc | apply pw_below_drewN | apply below_drew1) | exact HB.out)) hb); clear HO_0; clear HB; have HO_0 := n0_; have HB := n1_; clear n0_ n1_; (try clear hb); (try clear hb2); (try clear hk); (try clear hi)))
        go_ret
        exact ⟨by first | rfl | (simp [errW_none, errW_some] <;> rfl) | (simp [*, errW_none, errW_some] <;> rfl), by repeat (first | (with_reducible first | exact HB.out | apply below_alloc | apply pw_below_drewN | apply below_drew1) | exact HB.out)⟩

end Go.Proofs.Ytigedaepbilokaa.PLaw
