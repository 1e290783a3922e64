import Derived.Test.YtigedaepbilokaaN3
/-! The contracts of the numbers' calls, by the numbers that limbs say: for the laws. -/
namespace Go.Proofs.Ytigedaepbilokaa.PLaw
open Go.RowKit Go.Proofs.YtigedaepbilokaaL.PrintWords Go.Proofs.YtigedaepbilokaaL.PrintLast Go.Proofs.YtigedaepbilokaaL.PrintMore
open Go.Proofs.Ytigedaepbilokaa.Plain
set_option linter.unusedVariables false

/-- Limbs that are a number's, not too many. -/
def Num (l : List Int) : Prop := l = limbs (val l) ∧ l.length < 549755813888
instance (l : List Int) : Decidable (Num l) := inferInstanceAs (Decidable (_ ∧ _))
theorem Num_limbs {n : Nat} (h : (limbs n).length < 549755813888) : Num (limbs n) := ⟨by rw [val_limbs], h⟩
theorem toV {α : Type} {d : Kd α} {e : Nat} {w w' : World} {v : Value} {xs : List α} (h : d.R e w' w.heap.size (fun _ => True) v xs) : Kd.V d e w' w.heap.size (fun k_ => w.heap.size ≤ k_) v xs :=
  Kd.R_V (Kd.R_mono (Kd.R_bound h) (fun k hk => hk.2.1))
/-- A row that is only read, behind a call. -/
theorem vb {α : Type} {d : Kd α} {e base : Nat} {ok : Nat → Prop} {W W1 w1 : World} {v : Value} {xs : List α} (h : Aside0 (Kd.V d e W base ok v xs)) (hb : Below W1.heap.size W1 w1) (hq : W1.heap = W.heap := by rfl) : Aside0 (Kd.V d e w1 base ok v xs) :=
  ⟨Kd.V_step h.out (fun k _ hk => by rw [← hq]; exact hb.block k (by rw [hq]; exact hk))⟩

def gaugelaw1_add.f (l0 : List Int) (l1 : List Int) : Option (List Int) := if Num l0 ∧ Num l1 then some (limbs (val l0 + val l1)) else none
theorem gaugelaw1_add.calls (A0 : Option Addr) (c0 : Nat) (l0 : List Int) (A1 : Option Addr) (c1 : Nat) (l1 : List Int) (r : List Int) (w : World) (hr0 : Kd.C (Kd.int .u64) w A0 l0.length l0) (hc0 : l0.length ≤ c0) (hr1 : Kd.C (Kd.int .u64) w A1 l1.length l1) (hc1 : l1.length ≤ c1) (h : gaugelaw1_add.f l0 l1 = some r) :
    Calls Try.prog 11 #[.slice A0 l0.length c0, .slice A1 l1.length c1] w fun e w' => ∃ v0_ : Value, e = .returned (v0_) ∧ Kd.V (Kd.int .u64) 37 w' w.heap.size (fun k_ => (w.heap.size ≤ k_)) v0_ r ∧ Below w.heap.size w w' := by
  unfold gaugelaw1_add.f at h
  split at h
  · rename_i hc
    obtain rfl := Option.some.inj h
    obtain ⟨⟨h0, hl0⟩, h1, hl1⟩ := hc
    obtain ⟨k, hk⟩ := PNat.law_add_f (m := val l0) (n := val l1) (by rw [← h0]; omega) (by rw [← h1]; omega)
    rw [← h0, ← h1] at hk
    refine (PNat.gaugelaw1_add.calls k A0 c0 l0 A1 c1 l1 _ w hr0 hc0 hr1 hc1 hk).mono ?_
    rintro e w' ⟨v, rfl, hR, hB⟩
    exact ⟨v, rfl, toV hR, hB⟩
  · cases h
def gaugelaw1_mul.f (l0 : List Int) (l1 : List Int) : Option (List Int) := if Num l0 ∧ Num l1 then some (limbs (val l0 * val l1)) else none
theorem gaugelaw1_mul.calls (A0 : Option Addr) (c0 : Nat) (l0 : List Int) (A1 : Option Addr) (c1 : Nat) (l1 : List Int) (r : List Int) (w : World) (hr0 : Kd.C (Kd.int .u64) w A0 l0.length l0) (hc0 : l0.length ≤ c0) (hr1 : Kd.C (Kd.int .u64) w A1 l1.length l1) (hc1 : l1.length ≤ c1) (h : gaugelaw1_mul.f l0 l1 = some r) :
    Calls Try.prog 12 #[.slice A0 l0.length c0, .slice A1 l1.length c1] w fun e w' => ∃ v0_ : Value, e = .returned (v0_) ∧ Kd.V (Kd.int .u64) 37 w' w.heap.size (fun k_ => (w.heap.size ≤ k_)) v0_ r ∧ Below w.heap.size w w' := by
  unfold gaugelaw1_mul.f at h
  split at h
  · rename_i hc
    obtain rfl := Option.some.inj h
    obtain ⟨⟨h0, hl0⟩, h1, hl1⟩ := hc
    obtain ⟨k, hk⟩ := PNat.law_mul_f (m := val l0) (n := val l1) (by rw [← h0, ← h1]; omega)
    rw [← h0, ← h1] at hk
    refine (PNat.gaugelaw1_mul.calls k A0 c0 l0 A1 c1 l1 _ w hr0 hc0 hr1 hc1 hk).mono ?_
    rintro e w' ⟨v, rfl, hR, hB⟩
    exact ⟨v, rfl, toV hR, hB⟩
  · cases h
def nat_Sub.f (l0 : List Int) (l1 : List Int) : Option (List Int × Int) := if Num l0 ∧ Num l1 then some (if val l0 < val l1 then ([], 11) else (limbs (val l0 - val l1), 0)) else none
theorem nat_Sub.calls (A0 : Option Addr) (c0 : Nat) (l0 : List Int) (A1 : Option Addr) (c1 : Nat) (l1 : List Int) (r1 : List Int) (r2 : Int) (w : World) (hr0 : Kd.C (Kd.int .u64) w A0 l0.length l0) (hc0 : l0.length ≤ c0) (hr1 : Kd.C (Kd.int .u64) w A1 l1.length l1) (hc1 : l1.length ≤ c1) (h : nat_Sub.f l0 l1 = some (r1, r2)) :
    Calls Try.prog 13 #[.slice A0 l0.length c0, .slice A1 l1.length c1] w fun e w' => ∃ v0_ : Value, e = .returned (.tuple #[v0_, .int .i64 r2]) ∧ Kd.V (Kd.int .u64) 37 w' w.heap.size (fun k_ => (w.heap.size ≤ k_)) v0_ r1 ∧ Below w.heap.size w w' := by
  unfold nat_Sub.f at h
  split at h
  · rename_i hc
    obtain ⟨⟨h0, hl0⟩, h1, hl1⟩ := hc
    obtain ⟨k, hk⟩ := PNat.Sub_f (m := val l0) (n := val l1) (by rw [← h0]; omega) (by rw [← h1]; omega)
    rw [← h0, ← h1, h] at hk
    refine (PNat.nat_Sub.calls k A0 c0 l0 A1 c1 l1 r1 r2 w hr0 hc0 hr1 hc1 hk).mono ?_
    rintro e w' ⟨v, rfl, hR, hB⟩
    exact ⟨v, rfl, toV hR, hB⟩
  · cases h
def nat_Cmp.f (l0 : List Int) (l1 : List Int) : Option (Int) := if Num l0 ∧ Num l1 then some (PNat.c3 (val l0) (val l1)) else none
theorem nat_Cmp.calls (A0 : Option Addr) (c0 : Nat) (l0 : List Int) (A1 : Option Addr) (c1 : Nat) (l1 : List Int) (r : Int) (w : World) (hr0 : Kd.C (Kd.int .u64) w A0 l0.length l0) (hc0 : l0.length ≤ c0) (hr1 : Kd.C (Kd.int .u64) w A1 l1.length l1) (hc1 : l1.length ≤ c1) (h : nat_Cmp.f l0 l1 = some r) :
    Calls Try.prog 15 #[.slice A0 l0.length c0, .slice A1 l1.length c1] w fun e w' => e = .returned (.int .i64 r) ∧ Drawn0 w w' := by
  unfold nat_Cmp.f at h
  split at h
  · rename_i hc
    obtain ⟨⟨h0, hl0⟩, h1, hl1⟩ := hc
    obtain ⟨k, hk⟩ := PNat.Cmp_f (m := val l0) (n := val l1) (by rw [← h0]; omega) (by rw [← h1]; omega)
    rw [← h0, ← h1, h] at hk
    exact PNat.nat_Cmp.calls k A0 c0 l0 A1 c1 l1 r w hr0 hc0 hr1 hc1 hk
  · cases h
def nat_From.f (a0 : Int) : Option (List Int) := if 0 ≤ a0 ∧ a0 < 18446744073709551616 then some (limbs a0.toNat) else none
theorem nat_From.calls (a0 : Int) (r : List Int) (w : World) (h : nat_From.f a0 = some r) :
    Calls Try.prog 16 #[.int .u64 a0] w fun e w' => ∃ v0_ : Value, e = .returned (v0_) ∧ Kd.V (Kd.int .u64) 37 w' w.heap.size (fun k_ => (w.heap.size ≤ k_)) v0_ r ∧ Below w.heap.size w w' := by
  unfold nat_From.f at h
  split at h
  · rename_i hc
    obtain ⟨n, rfl⟩ := Int.eq_ofNat_of_zero_le hc.1
    have hk := PNat.From_f (n := n) (by omega)
    rw [Int.toNat_natCast] at h
    rw [h] at hk
    refine (PNat.nat_From.calls (n : Int) r w hk).mono ?_
    rintro e w' ⟨v, rfl, hR, hB⟩
    exact ⟨v, rfl, toV hR, hB⟩
  · cases h
def gaugeref0_EqNat.f (l0 : List Int) (l1 : List Int) : Option (Bool) := if l0.length < 1099511627776 then some (decide (l0 = l1)) else none
theorem gaugeref0_EqNat.calls (A0 : Option Addr) (c0 : Nat) (l0 : List Int) (A1 : Option Addr) (c1 : Nat) (l1 : List Int) (r : Bool) (w : World) (hr0 : Kd.C (Kd.int .u64) w A0 l0.length l0) (hc0 : l0.length ≤ c0) (hr1 : Kd.C (Kd.int .u64) w A1 l1.length l1) (hc1 : l1.length ≤ c1) (h : gaugeref0_EqNat.f l0 l1 = some r) :
    Calls Try.prog 10 #[.slice A0 l0.length c0, .slice A1 l1.length c1] w fun e w' => e = .returned (.bool r) ∧ Drawn0 w w' := by
  unfold gaugeref0_EqNat.f at h
  split at h
  · rename_i hc
    obtain ⟨k, hk⟩ := PNat.EqNat_f (a := l0) (b := l1) hc
    rw [h] at hk
    exact PNat.gaugeref0_EqNat.calls k A0 c0 l0 A1 c1 l1 r w hr0 hc0 hr1 hc1 hk
  · cases h
def gaugelaw1_num.f (a0 : Int) : Option (Int) := some a0
theorem gaugelaw1_num.calls (a0 : Int) (r : Int) (w : World) (h : gaugelaw1_num.f a0 = some r) :
    Calls Try.prog 14 #[.int .i64 a0] w fun e w' => e = .returned (.int .i64 r) ∧ Drawn0 w w' := PNat.gaugelaw1_num.calls a0 r w h
def gaugelaw1_wakes.f : Option (Bool) := some true
theorem gaugelaw1_wakes.calls (r : Bool) (w : World) (h : gaugelaw1_wakes.f = some r) :
    Calls Try.prog 17 #[] w fun e w' => e = .returned (.bool r) ∧ Below w.heap.size w w' := by
  have e1 : limbs 1 = [1] := by rw [limbs_pos (by decide), show 1 / 18446744073709551616 = 0 from rfl, limbs_zero]; rfl
  have e2 : limbs 18446744073709551615 = [18446744073709551615] := by rw [limbs_pos (by decide), show 18446744073709551615 / 18446744073709551616 = 0 from rfl, limbs_zero]; rfl
  have e3 : limbs 18446744073709551616 = [0, 1] := by rw [limbs_pos (by decide), show 18446744073709551616 / 18446744073709551616 = 1 from rfl, e1]; rfl
  obtain ⟨k1, h1⟩ := PNat.Add_f (m := 1) (n := 18446744073709551615) (by rw [e1]; decide) (by rw [e2]; decide)
  obtain ⟨k2, h2⟩ := PNat.EqNat_f (a := [0, 1]) (b := [0, 1]) (by decide)
  rw [e1, e2, show 1 + 18446744073709551615 = 18446744073709551616 from rfl, e3] at h1
  obtain ⟨k, h3, h4⟩ := together (fun k => PNat.nat_Add.mono [1] [18446744073709551615] k) (fun k => PNat.gaugeref0_EqNat.mono [0, 1] [0, 1] k) ⟨k1, h1⟩ ⟨k2, h2⟩
  refine PNat.gaugelaw1_wakes.calls k r w ?_
  unfold PNat.gaugelaw1_wakes.f
  rw [h3]
  simp only [Option.bind_some, PNat.gaugelaw1_num.f, if_true]
  rw [h4]
  exact h
end Go.Proofs.Ytigedaepbilokaa.PLaw
