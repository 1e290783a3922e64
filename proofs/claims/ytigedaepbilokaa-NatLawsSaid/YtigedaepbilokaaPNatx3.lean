-- Written for this claim by a program of ours (a changed copy of the kit's print): Lean checks it.
import Derived.Test.YtigedaepbilokaaPNatx0
import Derived.Test.YtigedaepbilokaaPNatx1
import Derived.Test.YtigedaepbilokaaPNatx2
namespace Go.Proofs.Ytigedaepbilokaa.PNat
open Go.RowKit Go.Proofs.YtigedaepbilokaaL.PrintWords Go.Proofs.YtigedaepbilokaaL.PrintLast Go.Proofs.YtigedaepbilokaaL.PrintMore
attribute [local go_sem] max2_int min2_int max_two min_two max_three min_three max_four min_four   -- for this text's walks alone
set_option linter.unusedVariables false
set_option linter.unusedSimpArgs false

/-! ### nat_Add: function 27 -/
def nat_Add.f (k : Nat) (l0 : List Int) (l1 : List Int) : Option (List Int × Int) := (nat_good.f l0).bind fun t159 => (if t159 = true then ((nat_good.f l1).bind fun t160 => (if t160 = true then ((nat_add.f k l0 l1).bind fun t161 => (some (t161, 0))) else (some (([] : List Int), 10)))) else (some (([] : List Int), 10)))
theorem nat_Add.mono : ∀ a0 a1 k, LeO (nat_Add.f k a0 a1) (nat_Add.f (k + 1) a0 a1) := by
  intro a0 a1 k
  unfold nat_Add.f
  repeat' first
      | (with_reducible exact nat_add.mono _ _ _)
      | (with_reducible exact LeO.refl _)
      | (with_reducible exact LeO.none _)
      | (with_reducible refine LeO.ite ?_ ?_)
      | (with_reducible refine LeO.bind ?_ (fun _ => ?_))
      | exact nat_add.mono _ _ _
      | exact LeO.none _
      | refine LeO.ite ?_ ?_
      | refine LeO.bind ?_ (fun _ => ?_)
set_option maxHeartbeats 8000000 in
set_option maxRecDepth 100000 in
theorem nat_Add.calls (k : Nat) (A0 : Option Addr) (c0 : Nat) (l0 : List Int) (A1 : Option Addr) (c1 : Nat) (l1 : List Int) (r1 : List Int) (r2 : Int) (w : World) (hr0 : Kd.C (Kd.int .u64) w A0 l0.length l0) (hc0 : l0.length ≤ c0) (hr1 : Kd.C (Kd.int .u64) w A1 l1.length l1) (hc1 : l1.length ≤ c1) (h : nat_Add.f k l0 l1 = some (r1, r2)) :
    Calls Try.prog 27 #[.slice A0 l0.length c0, .slice A1 l1.length c1] w fun e w' => ∃ v0_ : Value, e = .returned (.tuple #[v0_, .int .i64 r2]) ∧ Kd.R (Kd.int .u64) 37 w' w.heap.size (fun _ => True) v0_ r1 ∧ Below w.heap.size w w' := by
  have HR0 := Aside0.mk hr0
  have HC0 := Aside0.mk hc0
  clear hr0 hc0
  have HR1 := Aside0.mk hr1
  have HC1 := Aside0.mk hc1
  clear hr1 hc1
  have HB := Aside0.mk (Below.refl w.heap.size w)
  have H : ((nat_good.f l0).bind fun t159 => (if t159 = true then ((nat_good.f l1).bind fun t160 => (if t160 = true then ((nat_add.f k l0 l1).bind fun t161 => (some (t161, 0))) else (some (([] : List Int), 10)))) else (some (([] : List Int), 10)))) = some (r1, r2) := h
  clear h
  replace H := Option.bind_eq_some_iff.mp H
  obtain ⟨t159, A30, H⟩ := H
  replace H : (if t159 = true then ((nat_good.f l1).bind fun t160 => (if t160 = true then ((nat_add.f k l0 l1).bind fun t161 => (some (t161, 0))) else (some (([] : List Int), 10)))) else (some (([] : List Int), 10))) = some (r1, r2) := H
  have A3 := Aside0.mk A30
  clear A30
  by_cases c4 : t159 = true
  · subst c4
    have H1 : ((nat_good.f l1).bind fun t160 => (if t160 = true then ((nat_add.f k l0 l1).bind fun t161 => (some (t161, 0))) else (some (([] : List Int), 10)))) = some (r1, r2) := by rw [if_pos rfl] at H; exact H
    clear H
    have H := H1
    clear H1
    replace H := Option.bind_eq_some_iff.mp H
    obtain ⟨t160, A50, H⟩ := H
    replace H : (if t160 = true then ((nat_add.f k l0 l1).bind fun t161 => (some (t161, 0))) else (some (([] : List Int), 10))) = some (r1, r2) := H
    have A5 := Aside0.mk A50
    clear A50
    by_cases c6 : t160 = true
    · subst c6
      have H1 : ((nat_add.f k l0 l1).bind fun t161 => (some (t161, 0))) = some (r1, r2) := by rw [if_pos rfl] at H; exact H
      clear H
      have H := H1
      clear H1
      replace H := Option.bind_eq_some_iff.mp H
      obtain ⟨t161, A70, H⟩ := H
      replace H : (some (t161, 0)) = some (r1, r2) := H
      have A7 := Aside0.mk A70
      clear A70
      simp only [Option.some.injEq, Prod.mk.injEq] at H
      obtain ⟨rfl, rfl⟩ := H
      go_enter Try.func27, Try.ntmps27
      go_wp2_with (first | ((with_reducible refine gate_callee (f := 29) rfl ?_); refine goesL_ (some 7) rfl rfl Try.func29 (by kernel_rfl) rfl #[.slice A0 l0.length c0] rfl (by (try simp only [List.map_toArray, List.map_cons, List.map_nil]); first | done | rfl | (simp only [List.length_drop, List.length_take]; rfl)) ?_; (with_reducible refine (nat_good.calls _ _ l0 true _ ?side1 ?side2 A3.out).mono ?_); (case side1 => repeat (first | exact HR0.out | (with_reducible refine Kd.C_alloc ?_ _) | (with_reducible refine Kd.C_drewN ?_ _) | (with_reducible refine Kd.C_drew ?_))); (case side2 => exact HC0.out); rintro e w' ⟨rfl, ⟨nd, rfl⟩⟩; refine ⟨_, rfl, ?_⟩) | (go_at_call 29; (with_reducible refine (nat_good.calls _ _ l1 true _ ?side1 ?side2 A5.out).mono ?_); (case side1 => repeat (first | exact HR1.out | (with_reducible refine Kd.C_alloc ?_ _) | (with_reducible refine Kd.C_drewN ?_ _) | (with_reducible refine Kd.C_drew ?_))); (case side2 => exact HC1.out); rintro e w' ⟨rfl, ⟨nd, rfl⟩⟩) | ((with_reducible refine gate_callee (f := 53) rfl ?_); refine goesL_ (some 16) rfl rfl Try.func53 (by kernel_rfl) rfl #[.slice A0 l0.length c0, .slice A1 l1.length c1] rfl (by (try simp only [List.map_toArray, List.map_cons, List.map_nil]); first | done | rfl | (simp only [List.length_drop, List.length_take]; rfl)) ?_; (with_reducible refine (nat_add.calls k _ _ l0 _ _ l1 t161 _ ?side1 ?side2 ?side3 ?side4 A7.out).mono ?_); (case side1 => repeat (first | exact HR0.out | (with_reducible refine Kd.C_alloc ?_ _) | (with_reducible refine Kd.C_drewN ?_ _) | (with_reducible refine Kd.C_drew ?_))); (case side2 => exact HC0.out); (case side3 => repeat (first | exact HR1.out | (with_reducible refine Kd.C_alloc ?_ _) | (with_reducible refine Kd.C_drewN ?_ _) | (with_reducible refine Kd.C_drew ?_))); (case side4 => exact HC1.out); rintro e w8 ⟨v162, rfl, ho0, hb⟩; refine ⟨_, rfl, ?_⟩; have n0_ := Aside0.mk (Kd.R_lower ho0 (below_size (by repeat (first | (with_reducible first | exact HB.out | apply below_alloc | apply pw_below_drewN | apply below_drew1) | exact HB.out)))); have n1_ := Aside0.mk (below_step (by repeat (first | (with_reducible first | exact HB.out | apply below_alloc | apply pw_below_drewN | apply below_drew1) | exact HB.out)) hb); clear HB; have HO163 := n0_; have HB := n1_; clear n0_ n1_; (try clear hb); (try clear hb2); (try clear hk); (try clear hi); (try clear ho0)))
      go_ret2
      exact ⟨_, by first | rfl | (simp [errW_none, errW_some] <;> rfl) | (simp [*, errW_none, errW_some] <;> rfl), by (with_reducible repeat (first | apply Kd.R_alloc | apply Kd.R_drewN | apply Kd.R_drew)); exact HO163.out, by repeat (first | (with_reducible first | exact HB.out | apply below_alloc | apply pw_below_drewN | apply below_drew1) | exact HB.out)⟩
    · replace c6 := Bool.eq_false_iff.mpr c6
      subst c6
      have H1 : (some (([] : List Int), 10)) = some (r1, r2) := by rw [if_neg (show ¬ (false = true) by decide)] at H; exact H
      clear H
      have H := H1
      clear H1
      simp only [Option.some.injEq, Prod.mk.injEq] at H
      obtain ⟨rfl, rfl⟩ := H
      go_enter Try.func27, Try.ntmps27
      go_wp2_with (first | ((with_reducible refine gate_callee (f := 29) rfl ?_); refine goesL_ (some 7) rfl rfl Try.func29 (by kernel_rfl) rfl #[.slice A0 l0.length c0] rfl (by (try simp only [List.map_toArray, List.map_cons, List.map_nil]); first | done | rfl | (simp only [List.length_drop, List.length_take]; rfl)) ?_; (with_reducible refine (nat_good.calls _ _ l0 true _ ?side1 ?side2 A3.out).mono ?_); (case side1 => repeat (first | exact HR0.out | (with_reducible refine Kd.C_alloc ?_ _) | (with_reducible refine Kd.C_drewN ?_ _) | (with_reducible refine Kd.C_drew ?_))); (case side2 => exact HC0.out); rintro e w' ⟨rfl, ⟨nd, rfl⟩⟩; refine ⟨_, rfl, ?_⟩) | (go_at_call 29; (with_reducible refine (nat_good.calls _ _ l1 false _ ?side1 ?side2 A5.out).mono ?_); (case side1 => repeat (first | exact HR1.out | (with_reducible refine Kd.C_alloc ?_ _) | (with_reducible refine Kd.C_drewN ?_ _) | (with_reducible refine Kd.C_drew ?_))); (case side2 => exact HC1.out); rintro e w' ⟨rfl, ⟨nd, rfl⟩⟩))
      go_ret2
      exact ⟨_, by first | rfl | (simp [errW_none, errW_some] <;> rfl) | (simp [*, errW_none, errW_some] <;> rfl), by first | exact Kd.R_nil _ _ _ _ _ | exact Kd.N_nil _ _ _ _ _ | exact Kd.V_nil _ _ _ _ _ | exact Kd.Q_nil _ _ _ _ _ | exact Kd.S_nil _ _ _ _ _, by repeat (first | (with_reducible first | exact HB.out | apply below_alloc | apply pw_below_drewN | apply below_drew1) | exact HB.out)⟩
  · replace c4 := Bool.eq_false_iff.mpr c4
    subst c4
    have H1 : (some (([] : List Int), 10)) = some (r1, r2) := by rw [if_neg (show ¬ (false = true) by decide)] at H; exact H
    clear H
    have H := H1
    clear H1
    simp only [Option.some.injEq, Prod.mk.injEq] at H
    obtain ⟨rfl, rfl⟩ := H
    go_enter Try.func27, Try.ntmps27
    go_wp2_with (first | ((with_reducible refine gate_callee (f := 29) rfl ?_); refine goesL_ (some 7) rfl rfl Try.func29 (by kernel_rfl) rfl #[.slice A0 l0.length c0] rfl (by (try simp only [List.map_toArray, List.map_cons, List.map_nil]); first | done | rfl | (simp only [List.length_drop, List.length_take]; rfl)) ?_; (with_reducible refine (nat_good.calls _ _ l0 false _ ?side1 ?side2 A3.out).mono ?_); (case side1 => repeat (first | exact HR0.out | (with_reducible refine Kd.C_alloc ?_ _) | (with_reducible refine Kd.C_drewN ?_ _) | (with_reducible refine Kd.C_drew ?_))); (case side2 => exact HC0.out); rintro e w' ⟨rfl, ⟨nd, rfl⟩⟩; refine ⟨_, rfl, ?_⟩))
    go_ret2
    exact ⟨_, by first | rfl | (simp [errW_none, errW_some] <;> rfl) | (simp [*, errW_none, errW_some] <;> rfl), by first | exact Kd.R_nil _ _ _ _ _ | exact Kd.N_nil _ _ _ _ _ | exact Kd.V_nil _ _ _ _ _ | exact Kd.Q_nil _ _ _ _ _ | exact Kd.S_nil _ _ _ _ _, by repeat (first | (with_reducible first | exact HB.out | apply below_alloc | apply pw_below_drewN | apply below_drew1) | exact HB.out)⟩

/-! ### gaugelaw1_add: function 11 -/
def gaugelaw1_add.f (k : Nat) (l0 : List Int) (l1 : List Int) : Option (List Int) := (nat_Add.f k l0 l1).bind fun bt164 => (some bt164.1)
theorem gaugelaw1_add.mono : ∀ a0 a1 k, LeO (gaugelaw1_add.f k a0 a1) (gaugelaw1_add.f (k + 1) a0 a1) := by
  intro a0 a1 k
  unfold gaugelaw1_add.f
  repeat' first
      | (with_reducible exact nat_Add.mono _ _ _)
      | (with_reducible exact LeO.refl _)
      | (with_reducible exact LeO.none _)
      | (with_reducible refine LeO.ite ?_ ?_)
      | (with_reducible refine LeO.bind ?_ (fun _ => ?_))
      | exact nat_Add.mono _ _ _
      | exact LeO.none _
      | refine LeO.ite ?_ ?_
      | refine LeO.bind ?_ (fun _ => ?_)
set_option maxHeartbeats 8000000 in
set_option maxRecDepth 100000 in
theorem gaugelaw1_add.calls (k : Nat) (A0 : Option Addr) (c0 : Nat) (l0 : List Int) (A1 : Option Addr) (c1 : Nat) (l1 : List Int) (r : List Int) (w : World) (hr0 : Kd.C (Kd.int .u64) w A0 l0.length l0) (hc0 : l0.length ≤ c0) (hr1 : Kd.C (Kd.int .u64) w A1 l1.length l1) (hc1 : l1.length ≤ c1) (h : gaugelaw1_add.f k l0 l1 = some r) :
    Calls Try.prog 11 #[.slice A0 l0.length c0, .slice A1 l1.length c1] w fun e w' => ∃ v0_ : Value, e = .returned (v0_) ∧ Kd.R (Kd.int .u64) 37 w' w.heap.size (fun _ => True) v0_ r ∧ Below w.heap.size w w' := by
  have HR0 := Aside0.mk hr0
  have HC0 := Aside0.mk hc0
  clear hr0 hc0
  have HR1 := Aside0.mk hr1
  have HC1 := Aside0.mk hc1
  clear hr1 hc1
  have HB := Aside0.mk (Below.refl w.heap.size w)
  have H : ((nat_Add.f k l0 l1).bind fun bt164 => (some bt164.1)) = some r := h
  clear h
  replace H := Option.bind_eq_some_iff.mp H
  obtain ⟨⟨t164, t165⟩, A30, H⟩ := H
  replace H : (some t164) = some r := H
  have A3 := Aside0.mk A30
  clear A30
  obtain rfl := Option.some.inj H
  go_enter Try.func11, Try.ntmps11
  go_wp2_with (first | ((with_reducible refine gate_callee (f := 27) rfl ?_); refine goesL_ (some 10) rfl rfl Try.func27 (by kernel_rfl) rfl #[.slice A0 l0.length c0, .slice A1 l1.length c1] rfl (by (try simp only [List.map_toArray, List.map_cons, List.map_nil]); first | done | rfl | (simp only [List.length_drop, List.length_take]; rfl)) ?_; (with_reducible refine (nat_Add.calls k _ _ l0 _ _ l1 t164 t165 _ ?side1 ?side2 ?side3 ?side4 A3.out).mono ?_); (case side1 => repeat (first | exact HR0.out | (with_reducible refine Kd.C_alloc ?_ _) | (with_reducible refine Kd.C_drewN ?_ _) | (with_reducible refine Kd.C_drew ?_))); (case side2 => exact HC0.out); (case side3 => repeat (first | exact HR1.out | (with_reducible refine Kd.C_alloc ?_ _) | (with_reducible refine Kd.C_drewN ?_ _) | (with_reducible refine Kd.C_drew ?_))); (case side4 => exact HC1.out); rintro e w4 ⟨v166, rfl, ho0, hb⟩; refine ⟨_, rfl, ?_⟩; have n0_ := Aside0.mk (Kd.R_lower ho0 (below_size (by repeat (first | (with_reducible first | exact HB.out | apply below_alloc | apply pw_below_drewN | apply below_drew1) | exact HB.out)))); have n1_ := Aside0.mk (below_step (by repeat (first | (with_reducible first | exact HB.out | apply below_alloc | apply pw_below_drewN | apply below_drew1) | exact HB.out)) hb); clear HB; have HO167 := n0_; have HB := n1_; clear n0_ n1_; (try clear hb); (try clear hb2); (try clear hk); (try clear hi); (try clear ho0)))
  go_ret
  exact ⟨_, by first | rfl | (simp [errW_none, errW_some] <;> rfl) | (simp [*, errW_none, errW_some] <;> rfl), by (with_reducible repeat (first | apply Kd.R_alloc | apply Kd.R_drewN | apply Kd.R_drew)); exact HO167.out, by repeat (first | (with_reducible first | exact HB.out | apply below_alloc | apply pw_below_drewN | apply below_drew1) | exact HB.out)⟩

/-! ### bits_Mul64: function 66 -/
/-- By hand: the full product, its upper and lower word. -/
def bits_Mul64.f (a0 : Int) (a1 : Int) : Option (Int × Int) := if (0 ≤ a0 ∧ a0 < 18446744073709551616) ∧ 0 ≤ a1 ∧ a1 < 18446744073709551616 then some (a0 * a1 / 18446744073709551616, a0 * a1 % 18446744073709551616) else none
theorem bits_Mul64.maskN (a : Nat) (ha : a < 18446744073709551616) : bits .and .u64 (a : Int) 4294967295 = ((a % 4294967296 : Nat) : Int) := by
  have h := bits_and_u64_nat a 4294967295 ha (by omega)
  have e : a &&& 4294967295 = a % 4294967296 := Nat.and_two_pow_sub_one_eq_mod a 32
  rw [e] at h
  exact h
theorem bits_Mul64.divN (a : Nat) : (a : Int) / 4294967296 = ((a / 4294967296 : Nat) : Int) := by omega
theorem bits_Mul64.mulN (a b : Nat) : (a : Int) * (b : Int) = ((a * b : Nat) : Int) := (Int.natCast_mul a b).symm
theorem bits_Mul64.addN (a b : Nat) : (a : Int) + (b : Int) = ((a + b : Nat) : Int) := (Int.natCast_add a b).symm
theorem bits_Mul64.wrapN (a : Nat) (ha : a < 18446744073709551616) : IntKind.u64.wrap (a : Int) = (a : Int) := by rw [IntKind.wrap_u64]; omega
theorem bits_Mul64.wrapM (a : Nat) : IntKind.u64.wrap (a : Int) = ((a % 18446744073709551616 : Nat) : Int) := by rw [IntKind.wrap_u64]; omega
set_option maxHeartbeats 1000000 in
theorem bits_Mul64.callsW (a0 : Int) (a1 : Int) (r1 : Int) (r2 : Int) (w : World) (h : bits_Mul64.f a0 a1 = some (r1, r2)) :
    Calls Try.prog 66 #[.int .u64 a0, .int .u64 a1] w fun e w' => e = .returned (.tuple #[.int .u64 r1, .int .u64 r2]) ∧ w = w' := by
  unfold bits_Mul64.f at h
  split at h
  · rename_i hc
    obtain ⟨⟨x0, x1⟩, y0, y1⟩ := hc
    obtain ⟨x, rfl⟩ := Int.eq_ofNat_of_zero_le x0
    obtain ⟨y, rfl⟩ := Int.eq_ofNat_of_zero_le y0
    have hx : x < 18446744073709551616 := by omega
    have hy : y < 18446744073709551616 := by omega
    clear x0 x1 y0 y1
    have e1 := congrArg Prod.fst (Option.some.inj h)
    have e2 := congrArg Prod.snd (Option.some.inj h)
    clear h
    simp only [bits_Mul64.mulN] at e1 e2
    obtain ⟨bd, bt, bw, hhi⟩ := Lib.mul64_hi x y hx hy
    have ba := Lib.half_mul_le (a := x / 4294967296) (b := y / 4294967296) (by omega) (by omega)
    have bb := Lib.half_mul_le (a := x / 4294967296) (b := y % 4294967296) (by omega) (by omega)
    have bc := Lib.half_mul_le (a := x % 4294967296) (b := y / 4294967296) (by omega) (by omega)
    have ba' : x / 4294967296 * (y / 4294967296) < 18446744073709551616 := by omega
    have bb' : x / 4294967296 * (y % 4294967296) < 18446744073709551616 := by omega
    have bc' : x % 4294967296 * (y / 4294967296) < 18446744073709551616 := by omega
    have bh1 : x / 4294967296 * (y / 4294967296) + (x / 4294967296 * (y % 4294967296) + x % 4294967296 * (y % 4294967296) / 4294967296) / 4294967296 < 18446744073709551616 := by omega
    have bh : x / 4294967296 * (y / 4294967296) + (x / 4294967296 * (y % 4294967296) + x % 4294967296 * (y % 4294967296) / 4294967296) / 4294967296 + ((x / 4294967296 * (y % 4294967296) + x % 4294967296 * (y % 4294967296) / 4294967296) % 4294967296 + x % 4294967296 * (y / 4294967296)) / 4294967296 < 18446744073709551616 := by
      rw [hhi]
      exact Nat.div_lt_of_lt_mul (Nat.lt_of_lt_of_le (Nat.mul_lt_mul'' hx hy) (Nat.le_refl _))
    have E1 := Lib.hid e1
    have E2 := Lib.hid e2
    have H := Lib.hid hhi
    clear e1 e2 hhi
    go_enter Try.func66, Try.ntmps66
    go_wp2
    simp only [bits_Mul64.maskN x hx, bits_Mul64.maskN y hy, bits_Mul64.divN, bits_Mul64.mulN, bits_Mul64.addN, bits_Mul64.wrapN _ bd, bits_Mul64.wrapN _ bb', bits_Mul64.wrapN _ bt, bits_Mul64.maskN _ bt, bits_Mul64.wrapN _ bc', bits_Mul64.wrapN _ bw, bits_Mul64.wrapN _ ba', bits_Mul64.wrapN _ bh1, bits_Mul64.wrapN _ bh, bits_Mul64.wrapM]
    rw [H.out]
    go_ret2
    exact ⟨by rw [← E1.out, ← E2.out]; simp, rfl⟩
  · cases h
theorem bits_Mul64.calls (a0 : Int) (a1 : Int) (r1 : Int) (r2 : Int) (w : World) (h : bits_Mul64.f a0 a1 = some (r1, r2)) :
    Calls Try.prog 66 #[.int .u64 a0, .int .u64 a1] w fun e w' => e = .returned (.tuple #[.int .u64 r1, .int .u64 r2]) ∧ Drawn0 w w' := by
  refine (bits_Mul64.callsW a0 a1 r1 r2 w h).mono ?_
  rintro e w' ⟨rfl, rfl⟩
  exact ⟨rfl, Drawn0.refl _⟩

/-! ### bits_Add64: function 67 -/
/-- By hand: the model stands in for it: the law of its call. -/
theorem bits_Add64.run (x y c : Int) (hx : 0 ≤ x) (hy : 0 ≤ y) (hc0 : 0 ≤ c) (hc : c ≤ 1) (w : World) : (callFunc 67 #[.int .u64 x, .int .u64 y, .int .u64 c]).run Try.prog w =
    .ok (.value (.tuple #[.int .u64 ((x + y + c) % 18446744073709551616), .int .u64 ((x + y + c) / 18446744073709551616)])) w := by
  rw [run_callFunc_extern Try.func67 (by kernel_rfl) (by kernel_rfl) (by kernel_rfl) (e := add64Entry) (by kernel_rfl), run_add64 x y c hx hy hc0 hc]
  rfl
theorem bits_Add64.run0 (x y : Int) (hx : 0 ≤ x) (hy : 0 ≤ y) (w : World) : (callFunc 67 #[.int .u64 x, .int .u64 y, .int .u64 0]).run Try.prog w =
    .ok (.value (.tuple #[.int .u64 ((x + y) % 18446744073709551616), .int .u64 ((x + y) / 18446744073709551616)])) w := by
  simpa using bits_Add64.run x y 0 hx hy (Int.le_refl 0) (by decide) w

/-! ### nat_mul: function 54 -/
/-! By hand: the product, row by row (each row of what is made is a cut of it). -/
def nat_mul.row (x : Int) : Int → List Int → List Int → List Int
  | _, [], _ => []
  | carry, _ :: cs, [] => carry :: cs
  | carry, c :: cs, y :: ys => ((c + x * y + carry) % 18446744073709551616) :: nat_mul.row x ((c + x * y + carry) / 18446744073709551616) cs ys
def nat_mul.out (ys : List Int) : Nat → List Int → List Int → List Int
  | _, [], c => c
  | i, x :: xs, c => nat_mul.out ys (i + 1) xs (c.take i ++ nat_mul.row x 0 (c.drop i) ys)

theorem nat_mul.step {i k : Nat} {c l1 : List Int} {x y cv cy v cy' : Int} (hc : i + k < c.length) (hk : k < l1.length) (ec : c.getD (i + k) 0 = cv) (ey : l1.getD k 0 = y) (hv : v = (cv + x * y + cy) % 18446744073709551616) (hcy : cy' = (cv + x * y + cy) / 18446744073709551616) :
    (c.set (i + k) v).take (i + (k + 1)) ++ nat_mul.row x cy' ((c.set (i + k) v).drop (i + (k + 1))) (l1.drop (k + 1)) = c.take (i + k) ++ nat_mul.row x cy (c.drop (i + k)) (l1.drop k) := by
  have e1 : c.drop (i + k) = cv :: c.drop (i + k + 1) := by
    rw [List.drop_eq_getElem_cons hc, ← ec]
    simp [List.getD_eq_getElem?_getD, hc]
  have e2 : l1.drop k = y :: l1.drop (k + 1) := by
    rw [List.drop_eq_getElem_cons hk, ← ey]
    simp [List.getD_eq_getElem?_getD, hk]
  rw [e1, e2]
  simp only [nat_mul.row]
  rw [← hv, ← hcy]
  have e3 : (c.set (i + k) v).drop (i + (k + 1)) = c.drop (i + k + 1) := by
    rw [← Nat.add_assoc, List.drop_set_of_lt (by omega)]
  have e4 : (c.set (i + k) v).take (i + (k + 1)) = c.take (i + k) ++ [v] := by
    rw [← Nat.add_assoc, List.take_succ_eq_append_getElem (by simpa using hc)]
    simp [List.take_set_of_le]
  rw [e3, e4, List.append_assoc, List.singleton_append]
theorem nat_mul.next {i : Nat} {c c' l0 l1 : List Int} {x cy : Int} (hc : i + l1.length < c'.length) (hi : i < l0.length) (ex : l0.getD i 0 = x) (h : c'.take (i + l1.length) ++ nat_mul.row x cy (c'.drop (i + l1.length)) (l1.drop l1.length) = c.take i ++ nat_mul.row x 0 (c.drop i) l1) :
    nat_mul.out l1 (i + 1) (l0.drop (i + 1)) (c'.set (i + l1.length) cy) = nat_mul.out l1 i (l0.drop i) c := by
  have e1 : c'.drop (i + l1.length) = c'[i + l1.length] :: c'.drop (i + l1.length + 1) := List.drop_eq_getElem_cons hc
  have e2 : l0.drop i = x :: l0.drop (i + 1) := by
    rw [List.drop_eq_getElem_cons hi, ← ex]
    simp [List.getD_eq_getElem?_getD, hi]
  rw [e1, List.drop_length] at h
  simp only [nat_mul.row] at h
  rw [e2]
  simp only [nat_mul.out]
  rw [← h, List.set_eq_take_append_cons_drop, if_pos hc]
theorem nat_mul.digit (x y c cy : Int) (hx : 0 ≤ x ∧ x < 18446744073709551616) (hy : 0 ≤ y ∧ y < 18446744073709551616) (hc : 0 ≤ c ∧ c < 18446744073709551616) (hcy : 0 ≤ cy ∧ cy < 18446744073709551616) :
    ∃ hi lo s1 o1 v o2 : Int, bits_Mul64.f x y = some (hi, lo) ∧
      (∀ w : World, (callFunc 67 #[.int .u64 lo, .int .u64 cy, .int .u64 0]).run Try.prog w = .ok (.value (.tuple #[.int .u64 s1, .int .u64 o1])) w) ∧
      (∀ w : World, (callFunc 67 #[.int .u64 c, .int .u64 s1, .int .u64 0]).run Try.prog w = .ok (.value (.tuple #[.int .u64 v, .int .u64 o2])) w) ∧
      IntKind.u64.wrap (hi + o1) = hi + o1 ∧ IntKind.u64.wrap (hi + o1 + o2) = hi + o1 + o2 ∧
      v = (c + x * y + cy) % 18446744073709551616 ∧ hi + o1 + o2 = (c + x * y + cy) / 18446744073709551616 ∧ 0 ≤ v ∧ v < 18446744073709551616 ∧ 0 ≤ hi + o1 + o2 ∧ hi + o1 + o2 < 18446744073709551616 := by
  have hp : x * y ≤ 18446744073709551615 * 18446744073709551615 := Int.mul_le_mul (by omega) (by omega) hy.1 (by decide)
  have hp0 : 0 ≤ x * y := Int.mul_nonneg hx.1 hy.1
  refine ⟨x * y / 18446744073709551616, x * y % 18446744073709551616, (x * y % 18446744073709551616 + cy) % 18446744073709551616, (x * y % 18446744073709551616 + cy) / 18446744073709551616, (c + (x * y % 18446744073709551616 + cy) % 18446744073709551616) % 18446744073709551616, (c + (x * y % 18446744073709551616 + cy) % 18446744073709551616) / 18446744073709551616, ?_, ?_, ?_, ?_, ?_, ?_, ?_, ?_, ?_, ?_, ?_⟩
  · unfold bits_Mul64.f
    rw [if_pos ⟨hx, hy.1, hy.2⟩]
  · exact fun w => bits_Add64.run0 _ _ (by omega) hcy.1 w
  · exact fun w => bits_Add64.run0 _ _ hc.1 (by omega) w
  · rw [IntKind.wrap_u64]; omega
  · rw [IntKind.wrap_u64]; omega
  all_goals omega

set_option maxHeartbeats 8000000 in
set_option maxRecDepth 100000 in
theorem nat_mul.callsX (k : Nat) (A0 : Option Addr) (c0 : Nat) (l0 : List Int) (A1 : Option Addr) (c1 : Nat) (l1 : List Int) (r : List Int) (w : World) (hr0 : Kd.C (Kd.int .u64) w A0 l0.length l0) (hc0 : l0.length ≤ c0) (hr1 : Kd.C (Kd.int .u64) w A1 l1.length l1) (hc1 : l1.length ≤ c1)
    (hw0 : Words l0) (hw1 : Words l1) (hlen : l0.length + l1.length < 1099511627776) (h : nat_trim.f k (nat_mul.out l1 0 l0 (List.replicate (l0.length + l1.length) 0)) = some r) :
    Calls Try.prog 54 #[.slice A0 l0.length c0, .slice A1 l1.length c1] w fun e w' => ∃ v0_ : Value, e = .returned (v0_) ∧ Kd.R (Kd.int .u64) 37 w' w.heap.size (fun _ => True) v0_ r ∧ Below w.heap.size w w' := by
  have HR0 := Aside0.mk hr0
  have HC0 := Aside0.mk hc0
  clear hr0 hc0
  have HR1 := Aside0.mk hr1
  have HC1 := Aside0.mk hc1
  clear hr1 hc1
  have HB := Aside0.mk (Below.refl w.heap.size w)
  have HW0 := Aside0.mk hw0
  have HW1 := Aside0.mk hw1
  clear hw0 hw1
  have H := Aside0.mk h
  clear h
  have hl0 : (l0.length : Int) + l1.length < 1099511627776 := by omega
  go_enter Try.func54, Try.ntmps54
  go_wp2_with (first | ((with_reducible refine gate_dst (N := 20) rfl ?_); refine Kd.R_make (Kd.int .u64) _ 37 rfl (N := 20) rfl 25 _ _ rfl ((l0.length : Int) + l1.length) rfl rfl Try.underlying25 (.int .u64 0) 8 info37 rfl (by decide) (by omega) 0 (ok := fun _ => True) (okp := fun _ => True) rfl (fun _ hk => hk) trivial (by omega) (by omega) (Below.refl _ _) (Nat.le_refl _) ?_; intro v20 w1 ho hb hg_ hnew_; clear hg_ hnew_))
  have hz : ((l0.length : Int) + (l1.length : Int)).toNat = l0.length + l1.length := by omega
  rw [hz] at ho
  obtain ⟨Ac, cc, rfl⟩ := Kd.R_slice ho
  rw [List.length_replicate] at ho ⊢
  have HO := Aside0.mk ho
  clear ho HB hz
  have HB := Aside0.mk hb
  clear hb
  go_loopg [23] l0.length (fun kq v23 w' => ∃ (i : Nat) (c : List Int), v23 = .int .i64 (i : Int) ∧ Aside0 (i ≤ l0.length ∧ kq = l0.length - i) ∧ Aside0 (c.length = l0.length + l1.length ∧ Words c) ∧ Aside0 (nat_mul.out l1 i (l0.drop i) c = nat_mul.out l1 0 l0 (List.replicate (l0.length + l1.length) 0)) ∧ Aside0 (Kd.R (Kd.int .u64) 37 w' w.heap.size (fun _ => True) (.slice Ac (l0.length + l1.length) cc) c) ∧ Aside0 (Below w.heap.size w w'))
  case atStart => exact ⟨0, List.replicate (l0.length + l1.length) 0, rfl, ⟨Nat.zero_le _, by omega⟩, ⟨by simp, fun x hx => by rw [List.eq_of_mem_replicate hx]; omega⟩, ⟨rfl⟩, HO, HB⟩
  case round =>
    obtain ⟨i, c, rfl, ⟨hi, hk⟩, ⟨hcl, hcw⟩, HQ, HO, HB⟩ := hrel
    by_cases hlt : i < l0.length
    · obtain ⟨ko, rfl⟩ : ∃ m, gk = m + 1 := ⟨gk - 1, by omega⟩
      have d1 : decide ((i : Int) < (l0.length : Int)) = true := decide_eq_true (by omega)
      have d2 : decide (i < l0.length) = true := decide_eq_true hlt
      obtain ⟨ad0, e0, hx0⟩ := Kd.at_int (Kd.C_below HR0.out HB.out) (i : Int) (by omega) (by omega)
      subst e0
      rw [Int.toNat_natCast] at hx0
      obtain ⟨g, cap, eg, gb, gl, cells, gh⟩ := Kd.R_form HO.out (by omega)
      rw [hcl] at eg
      cases eg
      have hcap : l0.length + l1.length ≤ cc := by have := (Kd.R_reads' HO.out).2.1; omega
      have hcut : ∀ W : World, (Instr.slice 25 (.slice (some ⟨g, 0, none⟩) (l0.length + l1.length) cc) (some (.int .i64 (i : Int))) (some (.int .i64 ((i : Int) + (l1.length : Int) + 1))) (some (.int .i64 ((i : Int) + (l1.length : Int) + 1)))).run Try.prog W = .ok (.slice (some ⟨g, i, none⟩) (l1.length + 1) (l1.length + 1)) W := by
        intro W
        obtain ⟨i0, hi0, _, hsz, _⟩ := info_parts info37
        have h := cut_mid3 (P := Try.prog) 25 37 Try.underlying25 hi0 hsz g (l0.length + l1.length) cc i (i + l1.length + 1) (i : Int) ((i : Int) + (l1.length : Int) + 1) rfl (by omega) (by omega) (by omega) W
        rw [show i + l1.length + 1 - i = l1.length + 1 by omega] at h
        exact h
      have HW := Aside0.mk hcw
      have HI := Aside0.mk hi
      have HK := Aside0.mk hk
      have HCL := Aside0.mk hcl
      have GB := Aside0.mk gb
      clear hcw hi hk hcl gb gl gh
      obtain ⟨x, hxe⟩ : ∃ x, rd l0 (i : Int) = x := ⟨_, rfl⟩
      rw [hxe] at hx0
      have HXE := Aside0.mk hxe
      clear hxe
      go_wp2
      go_loopg [9, 43] l1.length (fun kq v9 v43 w' => ∃ (k : Nat) (c' : List Int) (cy : Int), v9 = .int .u64 cy ∧ v43 = .int .i64 (k : Int) ∧ Aside0 (k ≤ l1.length ∧ kq = l1.length - k) ∧ Aside0 (c'.length = l0.length + l1.length ∧ Words c' ∧ 0 ≤ cy ∧ cy < 18446744073709551616) ∧ Aside0 (c'.take (i + k) ++ nat_mul.row x cy (c'.drop (i + k)) (l1.drop k) = c.take i ++ nat_mul.row x 0 (c.drop i) l1) ∧ Aside0 (Kd.R (Kd.int .u64) 37 w' w.heap.size (fun _ => True) (.slice (some ⟨g, 0, none⟩) (l0.length + l1.length) cc) c') ∧ Aside0 (Below w.heap.size w w'))
      case atStart => exact ⟨0, c, 0, rfl, rfl, ⟨Nat.zero_le _, by omega⟩, ⟨HCL.out, HW.out, by omega, by omega⟩, ⟨rfl⟩, HO, HB⟩
      case round =>
        clear HO HB hx0 hcut
        obtain ⟨k, c', cy, rfl, rfl, ⟨hk, hkq⟩, ⟨hcl', hcw', hy0, hy1⟩, HQ', HO, HB⟩ := hrel
        by_cases hltk : k < l1.length
        · have d3 : decide ((k : Int) < (l1.length : Int)) = true := decide_eq_true (by omega)
          have d4 : decide (k < l1.length) = true := decide_eq_true hltk
          obtain ⟨ad1, e1, hx1⟩ := Kd.at_int (Kd.C_below HR1.out HB.out) (k : Int) (by omega) (by omega)
          subst e1
          rw [Int.toNat_natCast] at hx1
          obtain ⟨y, hye⟩ : ∃ y, rd l1 (k : Int) = y := ⟨_, rfl⟩
          rw [hye] at hx1
          have hx2 := Kd.R_celln 0 HO.out ((i + k : Nat) : Int) (by omega) (by omega)
          obtain ⟨hx2, hf2⟩ := hx2
          rw [Int.toNat_natCast] at hx2 hf2
          obtain ⟨cv, hcv⟩ : ∃ cv, rdOf 0 c' ((i + k : Nat) : Int) = cv := ⟨_, rfl⟩
          rw [hcv] at hx2
          have hxr : 0 ≤ x ∧ x < 18446744073709551616 := by rw [← HXE.out]; exact Words.rd HW0.out _ (by omega) (by omega)
          have hyr : 0 ≤ y ∧ y < 18446744073709551616 := by rw [← hye]; exact Words.rd HW1.out _ (by omega) (by omega)
          have hcr : 0 ≤ cv ∧ cv < 18446744073709551616 := by rw [← hcv]; exact Words.rd hcw' _ (by omega) (by omega)
          obtain ⟨h1, lo, s1, o1, v, o2, A66, a1, a2, e1, e2, hv, hcy, hv0, hv1, hc0, hc1⟩ := nat_mul.digit x y cv cy hxr hyr hcr ⟨hy0, hy1⟩
          have HP := Kd.R_putg HO.out ((i + k : Nat) : Int) v
          rw [Int.toNat_natCast] at HP
          have P1 := Aside0.mk HP
          have P2 := Aside0.mk A66
          have P3 := Aside0.mk (show hye = hye from rfl)
          have Q1 := Aside0.mk (⟨hk, hkq, hcl', hcw', hy0, hy1⟩ : k ≤ l1.length ∧ _ = _ ∧ c'.length = _ ∧ Words c' ∧ 0 ≤ cy ∧ cy < 18446744073709551616)
          have Q2 := Aside0.mk (⟨hxr, hyr, hcr, hv, hcy, hv0, hv1, hc0, hc1⟩ : (0 ≤ x ∧ x < 18446744073709551616) ∧ (0 ≤ y ∧ y < 18446744073709551616) ∧ (0 ≤ cv ∧ cv < 18446744073709551616) ∧ _ ∧ _ ∧ 0 ≤ v ∧ v < 18446744073709551616 ∧ 0 ≤ h1 + o1 + o2 ∧ h1 + o1 + o2 < 18446744073709551616)
          have Q3 := Aside0.mk hye
          have Q4 := Aside0.mk hcv
          clear HP A66 P3 hk hkq hcl' hcw' hy0 hy1 hxr hyr hcr hv hcy hv0 hv1 hc0 hc1 hye hcv
          go_wp2_with (first | (go_at_call 66; refine (bits_Mul64.callsW x y h1 lo _ P2.out).mono ?_; rintro e w' ⟨rfl, rfl⟩))
          obtain ⟨hk, hkq, hcl', hcw', hy0, hy1⟩ := Q1.out
          obtain ⟨k1, rfl⟩ : ∃ m, gk = m + 1 := ⟨gk - 1, by omega⟩
          go_roundg k1
          case measure => omega
          case rel =>
            obtain ⟨hxr, hyr, hcr, hv, hcy, hv0, hv1, hc0, hc1⟩ := Q2.out
            refine ⟨k + 1, c'.set (i + k) v, h1 + o1 + o2, rfl, by simp, ⟨by omega, by omega⟩, ⟨by rw [List.length_set]; exact hcl', Words.set hcw' _ _ ⟨hv0, hv1⟩, hc0, hc1⟩, ⟨?_⟩, ⟨P1.out.1⟩, ⟨below_set HB.out GB.out⟩⟩
            rw [← HQ'.out]
            exact nat_mul.step (by omega) hltk (by rw [← Q4.out]; rfl) (by rw [← Q3.out]; rfl) hv hcy
        · have d3 : decide ((k : Int) < (l1.length : Int)) = false := decide_eq_false (by omega)
          have d4 : decide (k < l1.length) = false := decide_eq_false hltk
          obtain rfl : k = l1.length := by omega
          obtain ⟨hx2, hf2⟩ := Kd.R_celln 0 HO.out ((i + l1.length : Nat) : Int) (by omega) (by omega)
          rw [Int.toNat_natCast] at hx2 hf2
          have HP := Kd.R_putg HO.out ((i + l1.length : Nat) : Int) cy
          rw [Int.toNat_natCast] at HP
          have P1 := Aside0.mk HP
          have Q1 := Aside0.mk (⟨hcl', hcw', hy0, hy1⟩ : c'.length = _ ∧ Words c' ∧ 0 ≤ cy ∧ cy < 18446744073709551616)
          clear HP hk hkq hcl' hcw' hy0 hy1
          go_wp2
          go_roundg ko
          case measure => omega
          case rel =>
            obtain ⟨hcl', hcw', hy0, hy1⟩ := Q1.out
            have hI := HI.out
            have hK := HK.out
            refine ⟨i + 1, c'.set (i + l1.length) cy, by simp, ⟨by omega, by omega⟩, ⟨by rw [List.length_set]; exact hcl', Words.set hcw' _ _ ⟨hy0, hy1⟩⟩, ⟨?_⟩, ⟨P1.out.1⟩, ⟨below_set HB.out GB.out⟩⟩
            rw [← HQ.out]
            exact nat_mul.next (by omega) hlt (by rw [← HXE.out]; rfl) HQ'.out
    · have d1 : decide ((i : Int) < (l0.length : Int)) = false := decide_eq_false (by omega)
      have d2 : decide (i < l0.length) = false := decide_eq_false hlt
      obtain rfl : i = l0.length := by omega
      have HQ2 := Aside0.mk (show nat_trim.f k c = some r by rw [← H.out, ← HQ.out, List.drop_length]; rfl)
      clear hi hk
      rw [← hcl] at HO
      have HCL := Aside0.mk hcl
      go_wp2_with (first | (go_at_call 55; rw [← HCL.out]; refine (nat_trim.calls k (fun k_ => some k_ = (.slice Ac c.length cc : Value).ownBlock) (.slice Ac c.length cc) c r w _ HB.out (Kd.R_tight rfl HO.out) HQ2.out).mono ?_; rintro e w' ⟨v, rfl, ho, hb, hkp⟩))
      go_ret
      exact ⟨_, rfl, Kd.R_mono ho (fun _ _ => trivial), hb⟩

/-- The product's limbs. -/
def nat_mul.f (k : Nat) (l0 : List Int) (l1 : List Int) : Option (List Int) := if Words l0 ∧ Words l1 ∧ l0.length + l1.length < 1099511627776 then nat_trim.f k (nat_mul.out l1 0 l0 (List.replicate (l0.length + l1.length) 0)) else none
theorem nat_mul.mono : ∀ a0 a1 k, LeO (nat_mul.f k a0 a1) (nat_mul.f (k + 1) a0 a1) := by
  intro a0 a1 k
  unfold nat_mul.f
  exact LeO.ite (nat_trim.mono _ _) (LeO.none _)
theorem nat_mul.calls (k : Nat) (A0 : Option Addr) (c0 : Nat) (l0 : List Int) (A1 : Option Addr) (c1 : Nat) (l1 : List Int) (r : List Int) (w : World) (hr0 : Kd.C (Kd.int .u64) w A0 l0.length l0) (hc0 : l0.length ≤ c0) (hr1 : Kd.C (Kd.int .u64) w A1 l1.length l1) (hc1 : l1.length ≤ c1) (h : nat_mul.f k l0 l1 = some r) :
    Calls Try.prog 54 #[.slice A0 l0.length c0, .slice A1 l1.length c1] w fun e w' => ∃ v0_ : Value, e = .returned (v0_) ∧ Kd.R (Kd.int .u64) 37 w' w.heap.size (fun _ => True) v0_ r ∧ Below w.heap.size w w' := by
  unfold nat_mul.f at h
  split at h
  · rename_i hc
    exact nat_mul.callsX k A0 c0 l0 A1 c1 l1 r w hr0 hc0 hr1 hc1 hc.1 hc.2.1 hc.2.2 h
  · cases h

/-! ### nat_Mul: function 28 -/
def nat_Mul.f (k : Nat) (l0 : List Int) (l1 : List Int) : Option (List Int × Int) := (nat_good.f l0).bind fun t168 => (if t168 = true then ((nat_good.f l1).bind fun t169 => (if t169 = true then ((nat_mul.f k l0 l1).bind fun t170 => (some (t170, 0))) else (some (([] : List Int), 10)))) else (some (([] : List Int), 10)))
theorem nat_Mul.mono : ∀ a0 a1 k, LeO (nat_Mul.f k a0 a1) (nat_Mul.f (k + 1) a0 a1) := by
  intro a0 a1 k
  unfold nat_Mul.f
  repeat' first
      | (with_reducible exact nat_mul.mono _ _ _)
      | (with_reducible exact LeO.refl _)
      | (with_reducible exact LeO.none _)
      | (with_reducible refine LeO.ite ?_ ?_)
      | (with_reducible refine LeO.bind ?_ (fun _ => ?_))
      | exact nat_mul.mono _ _ _
      | exact LeO.none _
      | refine LeO.ite ?_ ?_
      | refine LeO.bind ?_ (fun _ => ?_)
set_option maxHeartbeats 8000000 in
set_option maxRecDepth 100000 in
theorem nat_Mul.calls (k : Nat) (A0 : Option Addr) (c0 : Nat) (l0 : List Int) (A1 : Option Addr) (c1 : Nat) (l1 : List Int) (r1 : List Int) (r2 : Int) (w : World) (hr0 : Kd.C (Kd.int .u64) w A0 l0.length l0) (hc0 : l0.length ≤ c0) (hr1 : Kd.C (Kd.int .u64) w A1 l1.length l1) (hc1 : l1.length ≤ c1) (h : nat_Mul.f k l0 l1 = some (r1, r2)) :
    Calls Try.prog 28 #[.slice A0 l0.length c0, .slice A1 l1.length c1] w fun e w' => ∃ v0_ : Value, e = .returned (.tuple #[v0_, .int .i64 r2]) ∧ Kd.R (Kd.int .u64) 37 w' w.heap.size (fun _ => True) v0_ r1 ∧ Below w.heap.size w w' := by
  have HR0 := Aside0.mk hr0
  have HC0 := Aside0.mk hc0
  clear hr0 hc0
  have HR1 := Aside0.mk hr1
  have HC1 := Aside0.mk hc1
  clear hr1 hc1
  have HB := Aside0.mk (Below.refl w.heap.size w)
  have H : ((nat_good.f l0).bind fun t168 => (if t168 = true then ((nat_good.f l1).bind fun t169 => (if t169 = true then ((nat_mul.f k l0 l1).bind fun t170 => (some (t170, 0))) else (some (([] : List Int), 10)))) else (some (([] : List Int), 10)))) = some (r1, r2) := h
  clear h
  replace H := Option.bind_eq_some_iff.mp H
  obtain ⟨t168, A30, H⟩ := H
  replace H : (if t168 = true then ((nat_good.f l1).bind fun t169 => (if t169 = true then ((nat_mul.f k l0 l1).bind fun t170 => (some (t170, 0))) else (some (([] : List Int), 10)))) else (some (([] : List Int), 10))) = some (r1, r2) := H
  have A3 := Aside0.mk A30
  clear A30
  by_cases c4 : t168 = true
  · subst c4
    have H1 : ((nat_good.f l1).bind fun t169 => (if t169 = true then ((nat_mul.f k l0 l1).bind fun t170 => (some (t170, 0))) else (some (([] : List Int), 10)))) = some (r1, r2) := by rw [if_pos rfl] at H; exact H
    clear H
    have H := H1
    clear H1
    replace H := Option.bind_eq_some_iff.mp H
    obtain ⟨t169, A50, H⟩ := H
    replace H : (if t169 = true then ((nat_mul.f k l0 l1).bind fun t170 => (some (t170, 0))) else (some (([] : List Int), 10))) = some (r1, r2) := H
    have A5 := Aside0.mk A50
    clear A50
    by_cases c6 : t169 = true
    · subst c6
      have H1 : ((nat_mul.f k l0 l1).bind fun t170 => (some (t170, 0))) = some (r1, r2) := by rw [if_pos rfl] at H; exact H
      clear H
      have H := H1
      clear H1
      replace H := Option.bind_eq_some_iff.mp H
      obtain ⟨t170, A70, H⟩ := H
      replace H : (some (t170, 0)) = some (r1, r2) := H
      have A7 := Aside0.mk A70
      clear A70
      simp only [Option.some.injEq, Prod.mk.injEq] at H
      obtain ⟨rfl, rfl⟩ := H
      go_enter Try.func28, Try.ntmps28
      go_wp2_with (first | ((with_reducible refine gate_callee (f := 29) rfl ?_); refine goesL_ (some 7) rfl rfl Try.func29 (by kernel_rfl) rfl #[.slice A0 l0.length c0] rfl (by (try simp only [List.map_toArray, List.map_cons, List.map_nil]); first | done | rfl | (simp only [List.length_drop, List.length_take]; rfl)) ?_; (with_reducible refine (nat_good.calls _ _ l0 true _ ?side1 ?side2 A3.out).mono ?_); (case side1 => repeat (first | exact HR0.out | (with_reducible refine Kd.C_alloc ?_ _) | (with_reducible refine Kd.C_drewN ?_ _) | (with_reducible refine Kd.C_drew ?_))); (case side2 => exact HC0.out); rintro e w' ⟨rfl, ⟨nd, rfl⟩⟩; refine ⟨_, rfl, ?_⟩) | (go_at_call 29; (with_reducible refine (nat_good.calls _ _ l1 true _ ?side1 ?side2 A5.out).mono ?_); (case side1 => repeat (first | exact HR1.out | (with_reducible refine Kd.C_alloc ?_ _) | (with_reducible refine Kd.C_drewN ?_ _) | (with_reducible refine Kd.C_drew ?_))); (case side2 => exact HC1.out); rintro e w' ⟨rfl, ⟨nd, rfl⟩⟩) | ((with_reducible refine gate_callee (f := 54) rfl ?_); refine goesL_ (some 16) rfl rfl Try.func54 (by kernel_rfl) rfl #[.slice A0 l0.length c0, .slice A1 l1.length c1] rfl (by (try simp only [List.map_toArray, List.map_cons, List.map_nil]); first | done | rfl | (simp only [List.length_drop, List.length_take]; rfl)) ?_; (with_reducible refine (nat_mul.calls k _ _ l0 _ _ l1 t170 _ ?side1 ?side2 ?side3 ?side4 A7.out).mono ?_); (case side1 => repeat (first | exact HR0.out | (with_reducible refine Kd.C_alloc ?_ _) | (with_reducible refine Kd.C_drewN ?_ _) | (with_reducible refine Kd.C_drew ?_))); (case side2 => exact HC0.out); (case side3 => repeat (first | exact HR1.out | (with_reducible refine Kd.C_alloc ?_ _) | (with_reducible refine Kd.C_drewN ?_ _) | (with_reducible refine Kd.C_drew ?_))); (case side4 => exact HC1.out); rintro e w8 ⟨v171, rfl, ho0, hb⟩; refine ⟨_, rfl, ?_⟩; have n0_ := Aside0.mk (Kd.R_lower ho0 (below_size (by repeat (first | (with_reducible first | exact HB.out | apply below_alloc | apply pw_below_drewN | apply below_drew1) | exact HB.out)))); have n1_ := Aside0.mk (below_step (by repeat (first | (with_reducible first | exact HB.out | apply below_alloc | apply pw_below_drewN | apply below_drew1) | exact HB.out)) hb); clear HB; have HO172 := n0_; have HB := n1_; clear n0_ n1_; (try clear hb); (try clear hb2); (try clear hk); (try clear hi); (try clear ho0)))
      go_ret2
      exact ⟨_, by first | rfl | (simp [errW_none, errW_some] <;> rfl) | (simp [*, errW_none, errW_some] <;> rfl), by (with_reducible repeat (first | apply Kd.R_alloc | apply Kd.R_drewN | apply Kd.R_drew)); exact HO172.out, by repeat (first | (with_reducible first | exact HB.out | apply below_alloc | apply pw_below_drewN | apply below_drew1) | exact HB.out)⟩
    · replace c6 := Bool.eq_false_iff.mpr c6
      subst c6
      have H1 : (some (([] : List Int), 10)) = some (r1, r2) := by rw [if_neg (show ¬ (false = true) by decide)] at H; exact H
      clear H
      have H := H1
      clear H1
      simp only [Option.some.injEq, Prod.mk.injEq] at H
      obtain ⟨rfl, rfl⟩ := H
      go_enter Try.func28, Try.ntmps28
      go_wp2_with (first | ((with_reducible refine gate_callee (f := 29) rfl ?_); refine goesL_ (some 7) rfl rfl Try.func29 (by kernel_rfl) rfl #[.slice A0 l0.length c0] rfl (by (try simp only [List.map_toArray, List.map_cons, List.map_nil]); first | done | rfl | (simp only [List.length_drop, List.length_take]; rfl)) ?_; (with_reducible refine (nat_good.calls _ _ l0 true _ ?side1 ?side2 A3.out).mono ?_); (case side1 => repeat (first | exact HR0.out | (with_reducible refine Kd.C_alloc ?_ _) | (with_reducible refine Kd.C_drewN ?_ _) | (with_reducible refine Kd.C_drew ?_))); (case side2 => exact HC0.out); rintro e w' ⟨rfl, ⟨nd, rfl⟩⟩; refine ⟨_, rfl, ?_⟩) | (go_at_call 29; (with_reducible refine (nat_good.calls _ _ l1 false _ ?side1 ?side2 A5.out).mono ?_); (case side1 => repeat (first | exact HR1.out | (with_reducible refine Kd.C_alloc ?_ _) | (with_reducible refine Kd.C_drewN ?_ _) | (with_reducible refine Kd.C_drew ?_))); (case side2 => exact HC1.out); rintro e w' ⟨rfl, ⟨nd, rfl⟩⟩))
      go_ret2
      exact ⟨_, by first | rfl | (simp [errW_none, errW_some] <;> rfl) | (simp [*, errW_none, errW_some] <;> rfl), by first | exact Kd.R_nil _ _ _ _ _ | exact Kd.N_nil _ _ _ _ _ | exact Kd.V_nil _ _ _ _ _ | exact Kd.Q_nil _ _ _ _ _ | exact Kd.S_nil _ _ _ _ _, by repeat (first | (with_reducible first | exact HB.out | apply below_alloc | apply pw_below_drewN | apply below_drew1) | exact HB.out)⟩
  · replace c4 := Bool.eq_false_iff.mpr c4
    subst c4
    have H1 : (some (([] : List Int), 10)) = some (r1, r2) := by rw [if_neg (show ¬ (false = true) by decide)] at H; exact H
    clear H
    have H := H1
    clear H1
    simp only [Option.some.injEq, Prod.mk.injEq] at H
    obtain ⟨rfl, rfl⟩ := H
    go_enter Try.func28, Try.ntmps28
    go_wp2_with (first | ((with_reducible refine gate_callee (f := 29) rfl ?_); refine goesL_ (some 7) rfl rfl Try.func29 (by kernel_rfl) rfl #[.slice A0 l0.length c0] rfl (by (try simp only [List.map_toArray, List.map_cons, List.map_nil]); first | done | rfl | (simp only [List.length_drop, List.length_take]; rfl)) ?_; (with_reducible refine (nat_good.calls _ _ l0 false _ ?side1 ?side2 A3.out).mono ?_); (case side1 => repeat (first | exact HR0.out | (with_reducible refine Kd.C_alloc ?_ _) | (with_reducible refine Kd.C_drewN ?_ _) | (with_reducible refine Kd.C_drew ?_))); (case side2 => exact HC0.out); rintro e w' ⟨rfl, ⟨nd, rfl⟩⟩; refine ⟨_, rfl, ?_⟩))
    go_ret2
    exact ⟨_, by first | rfl | (simp [errW_none, errW_some] <;> rfl) | (simp [*, errW_none, errW_some] <;> rfl), by first | exact Kd.R_nil _ _ _ _ _ | exact Kd.N_nil _ _ _ _ _ | exact Kd.V_nil _ _ _ _ _ | exact Kd.Q_nil _ _ _ _ _ | exact Kd.S_nil _ _ _ _ _, by repeat (first | (with_reducible first | exact HB.out | apply below_alloc | apply pw_below_drewN | apply below_drew1) | exact HB.out)⟩

/-! ### gaugelaw1_mul: function 12 -/
def gaugelaw1_mul.f (k : Nat) (l0 : List Int) (l1 : List Int) : Option (List Int) := (nat_Mul.f k l0 l1).bind fun bt173 => (some bt173.1)
theorem gaugelaw1_mul.mono : ∀ a0 a1 k, LeO (gaugelaw1_mul.f k a0 a1) (gaugelaw1_mul.f (k + 1) a0 a1) := by
  intro a0 a1 k
  unfold gaugelaw1_mul.f
  repeat' first
      | (with_reducible exact nat_Mul.mono _ _ _)
      | (with_reducible exact LeO.refl _)
      | (with_reducible exact LeO.none _)
      | (with_reducible refine LeO.ite ?_ ?_)
      | (with_reducible refine LeO.bind ?_ (fun _ => ?_))
      | exact nat_Mul.mono _ _ _
      | exact LeO.none _
      | refine LeO.ite ?_ ?_
      | refine LeO.bind ?_ (fun _ => ?_)
set_option maxHeartbeats 8000000 in
set_option maxRecDepth 100000 in
theorem gaugelaw1_mul.calls (k : Nat) (A0 : Option Addr) (c0 : Nat) (l0 : List Int) (A1 : Option Addr) (c1 : Nat) (l1 : List Int) (r : List Int) (w : World) (hr0 : Kd.C (Kd.int .u64) w A0 l0.length l0) (hc0 : l0.length ≤ c0) (hr1 : Kd.C (Kd.int .u64) w A1 l1.length l1) (hc1 : l1.length ≤ c1) (h : gaugelaw1_mul.f k l0 l1 = some r) :
    Calls Try.prog 12 #[.slice A0 l0.length c0, .slice A1 l1.length c1] w fun e w' => ∃ v0_ : Value, e = .returned (v0_) ∧ Kd.R (Kd.int .u64) 37 w' w.heap.size (fun _ => True) v0_ r ∧ Below w.heap.size w w' := by
  have HR0 := Aside0.mk hr0
  have HC0 := Aside0.mk hc0
  clear hr0 hc0
  have HR1 := Aside0.mk hr1
  have HC1 := Aside0.mk hc1
  clear hr1 hc1
  have HB := Aside0.mk (Below.refl w.heap.size w)
  have H : ((nat_Mul.f k l0 l1).bind fun bt173 => (some bt173.1)) = some r := h
  clear h
  replace H := Option.bind_eq_some_iff.mp H
  obtain ⟨⟨t173, t174⟩, A30, H⟩ := H
  replace H : (some t173) = some r := H
  have A3 := Aside0.mk A30
  clear A30
  obtain rfl := Option.some.inj H
  go_enter Try.func12, Try.ntmps12
  go_wp2_with (first | ((with_reducible refine gate_callee (f := 28) rfl ?_); refine goesL_ (some 10) rfl rfl Try.func28 (by kernel_rfl) rfl #[.slice A0 l0.length c0, .slice A1 l1.length c1] rfl (by (try simp only [List.map_toArray, List.map_cons, List.map_nil]); first | done | rfl | (simp only [List.length_drop, List.length_take]; rfl)) ?_; (with_reducible refine (nat_Mul.calls k _ _ l0 _ _ l1 t173 t174 _ ?side1 ?side2 ?side3 ?side4 A3.out).mono ?_); (case side1 => repeat (first | exact HR0.out | (with_reducible refine Kd.C_alloc ?_ _) | (with_reducible refine Kd.C_drewN ?_ _) | (with_reducible refine Kd.C_drew ?_))); (case side2 => exact HC0.out); (case side3 => repeat (first | exact HR1.out | (with_reducible refine Kd.C_alloc ?_ _) | (with_reducible refine Kd.C_drewN ?_ _) | (with_reducible refine Kd.C_drew ?_))); (case side4 => exact HC1.out); rintro e w4 ⟨v175, rfl, ho0, hb⟩; refine ⟨_, rfl, ?_⟩; have n0_ := Aside0.mk (Kd.R_lower ho0 (below_size (by repeat (first | (with_reducible first | exact HB.out | apply below_alloc | apply pw_below_drewN | apply below_drew1) | exact HB.out)))); have n1_ := Aside0.mk (below_step (by repeat (first | (with_reducible first | exact HB.out | apply below_alloc | apply pw_below_drewN | apply below_drew1) | exact HB.out)) hb); clear HB; have HO176 := n0_; have HB := n1_; clear n0_ n1_; (try clear hb); (try clear hb2); (try clear hk); (try clear hi); (try clear ho0)))
  go_ret
  exact ⟨_, by first | rfl | (simp [errW_none, errW_some] <;> rfl) | (simp [*, errW_none, errW_some] <;> rfl), by (with_reducible repeat (first | apply Kd.R_alloc | apply Kd.R_drewN | apply Kd.R_drew)); exact HO176.out, by repeat (first | (with_reducible first | exact HB.out | apply below_alloc | apply pw_below_drewN | apply below_drew1) | exact HB.out)⟩

/-! ### nat_cmp: function 30 -/
def nat_cmp.l0 : Nat → List Int → List Int → Int → Option (Int)
  | 0, _, _, _ => none
  | k + 1, x0, x1, x5 => if x5 ≥ 0 then (if 0 ≤ x5 then (if x5 < (x0.length : Int) then (if x5 < (x1.length : Int) then (if (rd x0 x5) < (rd x1 x5) then (some (-1)) else (if (rd x0 x5) > (rd x1 x5) then (some 1) else (nat_cmp.l0 k x0 x1 (wrap64 (x5 - 1))))) else (none)) else (none)) else (none)) else (some 0)
def nat_cmp.f (k : Nat) (l0 : List Int) (l1 : List Int) : Option (Int) := if (l0.length : Int) = (l1.length : Int) then (nat_cmp.l0 k l0 l1 (wrap64 ((l0.length : Int) - 1))) else (if (l0.length : Int) < (l1.length : Int) then (some (-1)) else (some 1))
theorem nat_cmp.mono_l : ∀ k, (∀ y0 y1 y2, LeO (nat_cmp.l0 k y0 y1 y2) (nat_cmp.l0 (k + 1) y0 y1 y2))
  | 0 => fun _ _ _ r h => by simp [nat_cmp.l0] at h
  | k + 1 => by
    have ih0 := nat_cmp.mono_l k
    · intro y0 y1 y2
      unfold nat_cmp.l0
      repeat' first
      | (with_reducible exact ih0 _ _ _)
      | (with_reducible exact LeO.refl _)
      | (with_reducible exact LeO.none _)
      | (with_reducible refine LeO.ite ?_ ?_)
      | (with_reducible refine LeO.bind ?_ (fun _ => ?_))
      | exact ih0 _ _ _
      | exact LeO.none _
      | refine LeO.ite ?_ ?_
      | refine LeO.bind ?_ (fun _ => ?_)
theorem nat_cmp.mono : ∀ a0 a1 k, LeO (nat_cmp.f k a0 a1) (nat_cmp.f (k + 1) a0 a1) := by
  intro a0 a1 k
  have ih0 := nat_cmp.mono_l k
  unfold nat_cmp.f
  repeat' first
      | (with_reducible exact ih0 _ _ _)
      | (with_reducible exact LeO.refl _)
      | (with_reducible exact LeO.none _)
      | (with_reducible refine LeO.ite ?_ ?_)
      | (with_reducible refine LeO.bind ?_ (fun _ => ?_))
      | exact ih0 _ _ _
      | exact LeO.none _
      | refine LeO.ite ?_ ?_
      | refine LeO.bind ?_ (fun _ => ?_)
set_option maxHeartbeats 8000000 in
set_option maxRecDepth 100000 in
theorem nat_cmp.calls (k : Nat) (A0 : Option Addr) (c0 : Nat) (l0 : List Int) (A1 : Option Addr) (c1 : Nat) (l1 : List Int) (r : Int) (w : World) (hr0 : Kd.C (Kd.int .u64) w A0 l0.length l0) (hc0 : l0.length ≤ c0) (hr1 : Kd.C (Kd.int .u64) w A1 l1.length l1) (hc1 : l1.length ≤ c1) (h : nat_cmp.f k l0 l1 = some r) :
    Calls Try.prog 30 #[.slice A0 l0.length c0, .slice A1 l1.length c1] w fun e w' => e = .returned (.int .i64 r) ∧ Drawn0 w w' := by
  have HR0 := Aside0.mk hr0
  have HC0 := Aside0.mk hc0
  clear hr0 hc0
  have HR1 := Aside0.mk hr1
  have HC1 := Aside0.mk hc1
  clear hr1 hc1
  have H : (if (l0.length : Int) = (l1.length : Int) then (nat_cmp.l0 k l0 l1 (wrap64 ((l0.length : Int) - 1))) else (if (l0.length : Int) < (l1.length : Int) then (some (-1)) else (some 1))) = some r := h
  clear h
  by_cases c3 : (l0.length : Int) = (l1.length : Int)
  · rw [if_pos c3] at H
    have c3b0 : ((l0.length : Int) == (l1.length : Int)) = true := beq_iff_eq.mpr c3
    have c3b1 : ((l0.length : Int) != (l1.length : Int)) = false := bne_eq_false_iff_eq.mpr c3
    have c3b2 : (l0.length == l1.length) = true := by first | simpa using c3 | (simp at c3 ⊢; omega)
    clear c3
    have H' := Aside0.mk H
    clear H
    go_enter Try.func30, Try.ntmps30
    go_wp2
    repeat (go_quiet (fail); try go_wp2)
    go_loopg [5] k (fun kq v5 w' => ∃ (x5_1 : Int), v5 = .int .i64 x5_1 ∧ Aside0 (nat_cmp.l0 kq l0 l1 x5_1 = some r) ∧ Aside0 (kq ≤ k) ∧ Drawn0 w w')
    case atStart => exact ⟨(wrap64 ((l0.length : Int) - 1)), (by first | rfl | (simp; done) | (simp [*]; done)), H', ⟨Nat.le_refl _⟩, by repeat (first | exact Drawn0.refl _ | apply Drawn0.step)⟩
    case round =>
      clear H'
      try clear c1
      try clear p2
      try clear c3
      try clear c3b0
      try clear c3b1
      try clear c3b2
      obtain ⟨x5_1, rfl, HA, HK1, ⟨m1, rfl⟩⟩ := hrel
      cases gk with
      | zero => exact absurd HA.out (by simp [nat_cmp.l0])
      | succ k1 =>
        have H := HA.out
        clear HA
        simp only [nat_cmp.l0] at H
        by_cases c4 : x5_1 ≥ 0
        · rw [if_pos c4] at H
          have c4b0 : decide (0 ≤ x5_1) = true := decide_eq_true c4
          clear c4
          by_cases c5 : 0 ≤ x5_1
          · rw [if_pos c5] at H
            have c5b0 : decide (0 ≤ x5_1) = true := decide_eq_true c5
            clear c5
            by_cases c6 : x5_1 < (l0.length : Int)
            · rw [if_pos c6] at H
              have c6b0 : decide (x5_1 < (l0.length : Int)) = true := decide_eq_true c6
              clear c6
              by_cases c7 : x5_1 < (l1.length : Int)
              · rw [if_pos c7] at H
                have c7b0 : decide (x5_1 < (l1.length : Int)) = true := decide_eq_true c7
                clear c7
                by_cases c8 : (rd l0 x5_1) < (rd l1 x5_1)
                · rw [if_pos c8] at H
                  have c8b0 : decide ((rd l0 x5_1) < (rd l1 x5_1)) = true := decide_eq_true c8
                  clear c8
                  obtain rfl := Option.some.inj H
                  have p177 : 0 ≤ (x5_1 : Int) := of_decide_eq_true (by first | (with_reducible assumption) | assumption)
                  have q177 : x5_1 < (l0.length : Int) := of_decide_eq_true (by first | (with_reducible assumption) | assumption)
                  obtain ⟨ad177, e177, hx177_0⟩ := Kd.at_int HR0.out x5_1 p177 q177
                  cases e177
                  replace p177 := eq_true p177
                  replace q177 := eq_true q177
                  have p178 : 0 ≤ (x5_1 : Int) := of_decide_eq_true (by first | (with_reducible assumption) | assumption)
                  have q178 : x5_1 < (l1.length : Int) := of_decide_eq_true (by first | (with_reducible assumption) | assumption)
                  obtain ⟨ad178, e178, hx178_0⟩ := Kd.at_int HR1.out x5_1 p178 q178
                  cases e178
                  replace p178 := eq_true p178
                  replace q178 := eq_true q178
                  go_wp2
                  repeat (go_quiet (fail); try go_wp2)
                  go_ret
                  exact ⟨by first | rfl | (simp; done) | (simp [*]; done), by repeat (first | exact Drawn0.refl _ | apply Drawn0.step)⟩
                · rw [if_neg c8] at H
                  have c8b0 : decide ((rd l0 x5_1) < (rd l1 x5_1)) = false := decide_eq_false c8
                  clear c8
                  by_cases c9 : (rd l0 x5_1) > (rd l1 x5_1)
                  · rw [if_pos c9] at H
                    have c9b0 : decide ((rd l1 x5_1) < (rd l0 x5_1)) = true := decide_eq_true c9
                    clear c9
                    obtain rfl := Option.some.inj H
                    have p177 : 0 ≤ (x5_1 : Int) := of_decide_eq_true (by first | (with_reducible assumption) | assumption)
                    have q177 : x5_1 < (l0.length : Int) := of_decide_eq_true (by first | (with_reducible assumption) | assumption)
                    obtain ⟨ad177, e177, hx177_0⟩ := Kd.at_int HR0.out x5_1 p177 q177
                    cases e177
                    replace p177 := eq_true p177
                    replace q177 := eq_true q177
                    have p178 : 0 ≤ (x5_1 : Int) := of_decide_eq_true (by first | (with_reducible assumption) | assumption)
                    have q178 : x5_1 < (l1.length : Int) := of_decide_eq_true (by first | (with_reducible assumption) | assumption)
                    obtain ⟨ad178, e178, hx178_0⟩ := Kd.at_int HR1.out x5_1 p178 q178
                    cases e178
                    replace p178 := eq_true p178
                    replace q178 := eq_true q178
                    have p179 : 0 ≤ (x5_1 : Int) := of_decide_eq_true (by first | (with_reducible assumption) | assumption)
                    have q179 : x5_1 < (l0.length : Int) := of_decide_eq_true (by first | (with_reducible assumption) | assumption)
                    obtain ⟨ad179, e179, hx179_0⟩ := Kd.at_int HR0.out x5_1 p179 q179
                    obtain rfl : ad177 = ad179 := (by injection e179)
                    replace p179 := eq_true p179
                    replace q179 := eq_true q179
                    have p180 : 0 ≤ (x5_1 : Int) := of_decide_eq_true (by first | (with_reducible assumption) | assumption)
                    have q180 : x5_1 < (l1.length : Int) := of_decide_eq_true (by first | (with_reducible assumption) | assumption)
                    obtain ⟨ad180, e180, hx180_0⟩ := Kd.at_int HR1.out x5_1 p180 q180
                    obtain rfl : ad178 = ad180 := (by injection e180)
                    replace p180 := eq_true p180
                    replace q180 := eq_true q180
                    go_wp2
                    repeat (go_quiet (fail); try go_wp2)
                    go_ret
                    exact ⟨by first | rfl | (simp; done) | (simp [*]; done), by repeat (first | exact Drawn0.refl _ | apply Drawn0.step)⟩
                  · rw [if_neg c9] at H
                    have c9b0 : decide ((rd l1 x5_1) < (rd l0 x5_1)) = false := decide_eq_false c9
                    clear c9
                    have H' := Aside0.mk H
                    clear H
                    have p177 : 0 ≤ (x5_1 : Int) := of_decide_eq_true (by first | (with_reducible assumption) | assumption)
                    have q177 : x5_1 < (l0.length : Int) := of_decide_eq_true (by first | (with_reducible assumption) | assumption)
                    obtain ⟨ad177, e177, hx177_0⟩ := Kd.at_int HR0.out x5_1 p177 q177
                    cases e177
                    replace p177 := eq_true p177
                    replace q177 := eq_true q177
                    have p178 : 0 ≤ (x5_1 : Int) := of_decide_eq_true (by first | (with_reducible assumption) | assumption)
                    have q178 : x5_1 < (l1.length : Int) := of_decide_eq_true (by first | (with_reducible assumption) | assumption)
                    obtain ⟨ad178, e178, hx178_0⟩ := Kd.at_int HR1.out x5_1 p178 q178
                    cases e178
                    replace p178 := eq_true p178
                    replace q178 := eq_true q178
                    have p179 : 0 ≤ (x5_1 : Int) := of_decide_eq_true (by first | (with_reducible assumption) | assumption)
                    have q179 : x5_1 < (l0.length : Int) := of_decide_eq_true (by first | (with_reducible assumption) | assumption)
                    obtain ⟨ad179, e179, hx179_0⟩ := Kd.at_int HR0.out x5_1 p179 q179
                    obtain rfl : ad177 = ad179 := (by injection e179)
                    replace p179 := eq_true p179
                    replace q179 := eq_true q179
                    have p180 : 0 ≤ (x5_1 : Int) := of_decide_eq_true (by first | (with_reducible assumption) | assumption)
                    have q180 : x5_1 < (l1.length : Int) := of_decide_eq_true (by first | (with_reducible assumption) | assumption)
                    obtain ⟨ad180, e180, hx180_0⟩ := Kd.at_int HR1.out x5_1 p180 q180
                    obtain rfl : ad178 = ad180 := (by injection e180)
                    replace p180 := eq_true p180
                    replace q180 := eq_true q180
                    go_wp2
                    repeat (go_quiet (fail); try go_wp2)
                    go_roundg k1
                    case measure => have := HK1.out; omega
                    case rel => exact ⟨(wrap64 (x5_1 - 1)), (by first | rfl | (simp; done) | (simp [*]; done)), H', ⟨by have := HK1.out; omega⟩, by repeat (first | exact Drawn0.refl _ | apply Drawn0.step)⟩
              · rw [if_neg c7] at H
                exact absurd H (by simp)
            · rw [if_neg c6] at H
              exact absurd H (by simp)
          · rw [if_neg c5] at H
            exact absurd H (by simp)
        · rw [if_neg c4] at H
          have c4b0 : decide (0 ≤ x5_1) = false := decide_eq_false c4
          clear c4
          obtain rfl := Option.some.inj H
          go_wp2
          repeat (go_quiet (fail); try go_wp2)
          go_ret
          exact ⟨by first | rfl | (simp; done) | (simp [*]; done), by repeat (first | exact Drawn0.refl _ | apply Drawn0.step)⟩
  · rw [if_neg c3] at H
    have c3b0 : ((l0.length : Int) == (l1.length : Int)) = false := beq_eq_false_iff_ne.mpr c3
    have c3b1 : ((l0.length : Int) != (l1.length : Int)) = true := bne_iff_ne.mpr c3
    have c3b2 : (l0.length == l1.length) = false := by first | simpa using c3 | (simp at c3 ⊢; omega)
    by_cases c10 : (l0.length : Int) < (l1.length : Int)
    · rw [if_pos c10] at H
      have c10b0 : decide ((l0.length : Int) < (l1.length : Int)) = true := decide_eq_true c10
      have c10b1 : decide (l0.length < l1.length) = true := decide_eq_true (Int.ofNat_lt.mp c10)
      clear c10
      obtain rfl := Option.some.inj H
      go_enter Try.func30, Try.ntmps30
      go_wp2
      repeat (go_quiet (fail); try go_wp2)
      go_ret
      exact ⟨by first | rfl | (simp; done) | (simp [*]; done), by repeat (first | exact Drawn0.refl _ | apply Drawn0.step)⟩
    · rw [if_neg c10] at H
      have c10b0 : decide ((l0.length : Int) < (l1.length : Int)) = false := decide_eq_false c10
      have c10b1 : decide (l0.length < l1.length) = false := decide_eq_false (fun h => c10 (Int.ofNat_lt.mpr h))
      clear c10
      obtain rfl := Option.some.inj H
      go_enter Try.func30, Try.ntmps30
      go_wp2
      repeat (go_quiet (fail); try go_wp2)
      go_ret
      exact ⟨by first | rfl | (simp; done) | (simp [*]; done), by repeat (first | exact Drawn0.refl _ | apply Drawn0.step)⟩

/-! ### api_Nat_uint64: function 33 -/
/-- By hand: a new row with the same elements. -/
def api_Nat_uint64.f (l0 : List Int) : Option (List Int) := if l0.length < 1099511627776 then some l0 else none
set_option maxHeartbeats 8000000 in
set_option maxRecDepth 100000 in
theorem api_Nat_uint64.calls (A0 : Option Addr) (c0 : Nat) (l0 : List Int) (r : List Int) (w : World) (hr0 : Kd.C (Kd.int .u64) w A0 l0.length l0) (hc0 : l0.length ≤ c0) (h : api_Nat_uint64.f l0 = some r) :
    Calls Try.prog 33 #[.slice A0 l0.length c0] w fun e w' => ∃ v0_ : Value, e = .returned (v0_) ∧ Kd.R (Kd.int .u64) 37 w' w.heap.size (fun _ => True) v0_ r ∧ Below w.heap.size w w' := by
  unfold api_Nat_uint64.f at h
  split at h
  · rename_i hlen
    obtain rfl := Option.some.inj h
    clear h
    have HR0 := Aside0.mk hr0
    have HC0 := Aside0.mk hc0
    clear hr0 hc0
    have HB := Aside0.mk (Below.refl w.heap.size w)
    have hq : ∀ (w : World) (a : Option Addr) (n c n' c' : Nat), (binOp .eql 25 (.slice a n c) (.slice none n' c')).run Try.prog w = .ok (.bool a.isNone) w := fun w a n c n' c' => Lib.run_eql_slice_nil w _ _ a n c n' c' Try.underlying25
    cases A0 with
    | none =>
      have hn : l0 = [] := by
        rcases Nat.eq_zero_or_pos l0.length with h0 | h0
        · exact List.eq_nil_of_length_eq_zero h0
        · obtain ⟨ad, e, _⟩ := Kd.at_int HR0.out 0 (by omega) (by omega)
          cases e
      subst hn
      go_enter Try.func33, Try.ntmps33
      go_wp2
      go_ret
      exact ⟨_, rfl, Kd.R_nil _ _ _ _ _, HB.out⟩
    | some ad =>
      go_enter Try.func33, Try.ntmps33
      go_wp2_with (first | ((with_reducible refine gate_dst (N := 5) rfl ?_); refine Kd.R_lit (Kd.int .u64) _ 37 ?hg (N := 5) ?hd (xs := ([] : List Int)) (inner := []) (ok := fun _ => True) (okp := fun _ => True) ?hr ?hp (fun _ hk => hk) trivial (Below.refl _ _) (Nat.le_refl _) (by simp) ?_; (case hd => rfl); (case hg => rfl); (case hr => first | (go_simp; done) | (go_simp; rfl)); (case hp => exact Reps.none _ _); intro v1 w5 ho6 hb hg_ hnew_; clear hg_ hnew_; have n0_ := Aside0.mk (Kd.R_lower ho6 (below_size HB.out)); have n1_ := Aside0.mk (below_step HB.out hb); clear HB; have HO1 := n0_; have HB := n1_; clear n0_ n1_; clear hb ho6) | ((with_reducible refine gate_builtin (b := .append) (xs := #[.tmp 5, .tmp 6]) rfl ?_); at_builtin; refine Kd.R_append_rows (Kd.int .u64) (w0 := w) w.heap.size rfl (.tmp 5) (.tmp 6) 25 37 (.int .u64 0) 8 rfl Try.underlying25 info37 rfl (by decide) (by omega) v1 ([] : List Int) l0 _ _ _ (fun _ => True) (fun _ => False) rfl rfl ?aO ?aR (fun _ _ h => h) (fun _ h => h.elim) ?aF ?aB ?aS ?aL ?_; (case aR => exact Kd.C_below HR0.out HB.out); (case aB => exact HB.out); (case aF => exact (fun _ _ => trivial)); (case aO => exact HO1.out); (case aS => exact (below_size HB.out)); (case aL => simp; omega); intro v328 w3 ho hb hg hat; have n0_ := Aside0.mk (hb); have n1_ := Aside0.mk (ho); clear HB; have HB := n0_; have HO2 := n1_; clear n0_ n1_; clear ho hb hg hat))
      go_ret
      exact ⟨_, rfl, HO2.out, HB.out⟩
  · cases h

end Go.Proofs.Ytigedaepbilokaa.PNat
