import Derived.Test.YtigedaepbilokaaNatH
namespace Go.Ab.Nn
theorem dig_lt {v1 v0 u d : Nat} (hd : d < 4294967296) (hu : u < v1 * 4294967296 + v0) : (u * 4294967296 + d) / (v1 * 4294967296 + v0) < 4294967296 := by
  refine (Nat.div_lt_iff_lt_mul (by omega)).2 ?_
  have : (u + 1) * 4294967296 ≤ (v1 * 4294967296 + v0) * 4294967296 := Nat.mul_le_mul_right _ hu
  omega
theorem dig_test {v1 v0 u d q rh : Nat} (hq : q * v1 + rh = u) (hY : 0 < v1 * 4294967296 + v0) : (q * v0 > 4294967296 * rh + d) ↔ (u * 4294967296 + d) / (v1 * 4294967296 + v0) < q := by
  rw [Nat.div_lt_iff_lt_mul hY]
  have e : q * (v1 * 4294967296 + v0) = q * v1 * 4294967296 + q * v0 := by rw [Nat.mul_add, Nat.mul_assoc]
  rw [e]
  generalize q * v1 = a at *
  generalize q * v0 = b at *
  omega
theorem dig_out {v1 v0 u d q rh : Nat} (hq : q * v1 + rh = u) (hY : 0 < v1 * 4294967296 + v0) (h0 : v0 < 4294967296) (hr : 4294967296 ≤ rh) (hqb : q ≤ 4294967296) : q ≤ (u * 4294967296 + d) / (v1 * 4294967296 + v0) := by
  have h := (dig_test (d := d) hq hY)
  have : q * v0 ≤ 4294967296 * rh := Nat.le_trans (Nat.mul_le_mul hqb (Nat.le_of_lt h0)) (Nat.mul_le_mul_left _ hr)
  omega
theorem dig_start {v1 v0 u d : Nat} (h1 : 2147483648 ≤ v1) (h0 : v0 < 4294967296) (hd : d < 4294967296) (hu : u < v1 * 4294967296 + v0) :
    (u * 4294967296 + d) / (v1 * 4294967296 + v0) ≤ u / v1 ∧ u / v1 ≤ 4294967297 := by
  have hv : 0 < v1 := by omega
  constructor
  · refine (Nat.le_div_iff_mul_le hv).2 ?_
    have h2 := Nat.div_mul_le_self (u * 4294967296 + d) (v1 * 4294967296 + v0)
    rw [Nat.mul_add, ← Nat.mul_assoc] at h2
    generalize (u * 4294967296 + d) / (v1 * 4294967296 + v0) = Q at *
    generalize Q * v1 = a at *
    generalize Q * v0 = b at *
    omega
  · have : u / v1 < 4294967298 := (Nat.div_lt_iff_lt_mul hv).2 (by omega)
    omega
end Go.Ab.Nn
namespace Go.Proofs.Ytigedaepbilokaa.Nat
open Go Go.Ab Go.Ab.Nn
set_option linter.unusedVariables false
set_option maxRecDepth 8000
variable {gl : Nat → Option (List AV)} {σ : Own}

theorem wsub' {x y : Nat} (h : y ≤ x) (h2 : x - y < 18446744073709551616) : IntKind.u64.wrap (((x % 18446744073709551616 : Nat) : Int) - ((y % 18446744073709551616 : Nat) : Int)) = (x - y : Nat) := by rw [wu]; omega
theorem wsub0 {x y : Nat} (h : y ≤ x) (h2 : x < 18446744073709551616) : IntKind.u64.wrap ((x : Int) - (y : Int)) = (x - y : Nat) := by rw [wu]; omega
theorem waddm (x y : Nat) : IntKind.u64.wrap (((x % 18446744073709551616 : Nat) : Int) + (y : Int)) = ((x + y) % 18446744073709551616 : Nat) := by rw [wu]; omega
theorem wshrv (x : Nat) {k : Nat} (h : k ≤ 64) : (x : Int).fdiv (2 ^ (min ((k : Nat) : Int).toNat IntKind.u64.bits)) = (x / 2 ^ k : Nat) := by
  rw [Int.toNat_natCast, show min k IntKind.u64.bits = k from Nat.min_eq_left h]; exact wshr x k
theorem wshlv (x : Nat) {k : Nat} (h : k ≤ 64) : IntKind.u64.wrap ((x : Int) * 2 ^ (min ((k : Nat) : Int).toNat IntKind.u64.bits)) = (x * 2 ^ k % 18446744073709551616 : Nat) := by
  rw [Int.toNat_natCast, show min k IntKind.u64.bits = k from Nat.min_eq_left h, show ((2 : Int) ^ k) = ((2 ^ k : Nat) : Int) by simp]; exact wmul _ _
theorem wquo {x y : Nat} (h : x < 18446744073709551616) : IntKind.u64.wrap ((x : Int).tdiv y) = (x / y : Nat) := by
  have : x / y ≤ x := Nat.div_le_self _ _
  rw [show Int.tdiv (x : Int) (y : Int) = ((x / y : Nat) : Int) from (Int.ofNat_tdiv _ _).symm, wu]; generalize x / y = z at *; omega
theorem wrem (x y : Nat) : (x : Int).tmod y = (x % y : Nat) := (Int.ofNat_tmod _ _).symm
theorem wor {a b s : Nat} (hs : s ≤ 64) (ha : a * 2 ^ s < 18446744073709551616) (hb : b < 2 ^ s) : IntKind.u64.wrap ((BitVec.ofInt IntKind.u64.bits ((a * 2 ^ s : Nat) : Int) ||| BitVec.ofInt IntKind.u64.bits (b : Int)).toNat) = (a * 2 ^ s + b : Nat) := by
  have hp : 2 ^ s ≤ 2 ^ 64 := Nat.pow_le_pow_right (by decide) (by omega)
  have hps : 2 ^ s * 2 ^ (64 - s) = 18446744073709551616 := by rw [← Nat.pow_add, show s + (64 - s) = 64 by omega]
  have hlt : a * 2 ^ s + b < 18446744073709551616 := by
    have h1 : a < 2 ^ (64 - s) := by
      rw [← hps, Nat.mul_comm] at ha
      exact Nat.lt_of_mul_lt_mul_left ha
    have h2 := Nat.mul_le_mul_right (2 ^ s) (show a + 1 ≤ 2 ^ (64 - s) from h1)
    rw [Nat.add_mul, Nat.one_mul, Nat.mul_comm (2 ^ (64 - s)), hps] at h2
    omega
  have e : (BitVec.ofInt IntKind.u64.bits ((a * 2 ^ s : Nat) : Int) ||| BitVec.ofInt IntKind.u64.bits (b : Int)).toNat = a * 2 ^ s + b := by
    show (BitVec.ofInt 64 ((a * 2 ^ s : Nat) : Int) ||| BitVec.ofInt 64 (b : Int)).toNat = _
    rw [BitVec.toNat_or, BitVec.ofInt_natCast, BitVec.ofInt_natCast, BitVec.toNat_ofNat, BitVec.toNat_ofNat, Nat.mod_eq_of_lt (by omega), Nat.mod_eq_of_lt (a := b) (by omega), Nat.mul_comm, Nat.two_pow_add_eq_or_of_lt hb]
  rw [e, wu]; omega

theorem Div64_j2 {Y s q1 U e Q0 R : Nat} (hs : s ≤ 64) (hm2 : Q0 * Y + R = U * 4294967296 + e) (hq1 : q1 < 4294967296) (hq0 : Q0 < 4294967296) (hR : R < Y) (hY : Y < 18446744073709551616) (X : AV → Own → Prop)
    (h : X (.tup [u (q1 * 4294967296 + Q0), u (R / 2 ^ s)]) σ) : vc (cx P gl) S_math_bits_Div64_j2 (retQ (Says gl) [6, 7] X) [(2, u Y), (8, u s), (14, u e), (15, u q1), (17, u U), (18, u Q0)] σ := by
  refine ⟨_, wmul q1 4294967296, (q1 * 4294967296 + Q0 : Nat), by rw [waddm, Nat.mod_eq_of_lt (by omega)], _, wmul U 4294967296, _, waddm _ _, _, wmul Q0 Y, (R : Nat), ?_, by omega, _, wshrv R hs, Ret.here h⟩
  rw [wsub' (by omega) (by omega)]
  congr 1
  omega
theorem Div64_j1 {Y s v1 v0 U d e Q : Nat} (hs : s ≤ 64) (hYv : Y = v1 * 4294967296 + v0) (hv1 : v1 < 4294967296) (hv2 : 2147483648 ≤ v1) (h0 : v0 < 4294967296) (hd : d < 4294967296) (he : e < 4294967296) (hu : U < Y) (hQ1 : Q = (U * 4294967296 + d) / Y) (X : AV → Own → Prop)
    (h : X (.tup [u ((U * 18446744073709551616 + (d * 4294967296 + e)) / Y), u ((U * 18446744073709551616 + (d * 4294967296 + e)) % Y / 2 ^ s)]) σ) :
    vc (cx P gl) S_math_bits_Div64_j1 (retQ (Says gl) [6, 7] X) [(2, u Y), (8, u s), (9, u v1), (10, u v0), (11, u U), (13, u d), (14, u e), (15, u Q)] σ := by
  have hY : 0 < Y := by omega
  have hq1 := dig_lt hd (hYv ▸ hu)
  rw [← hYv, ← hQ1] at hq1
  have hm1 := Nat.div_add_mod (U * 4294967296 + d) Y
  have hl1 := Nat.mod_lt (U * 4294967296 + d) hY
  obtain ⟨U1, hU1⟩ : ∃ U1, U1 = (U * 4294967296 + d) % Y := ⟨_, rfl⟩
  rw [← hQ1, ← hU1] at hm1
  rw [← hU1] at hl1
  rw [Nat.mul_comm] at hm1
  have hUy : U1 < v1 * 4294967296 + v0 := hYv ▸ hl1
  obtain ⟨s1, s2⟩ := dig_start hv2 h0 he hUy
  have hq0 := dig_lt he hUy
  have hmod : U1 % v1 < v1 := Nat.mod_lt _ (by omega)
  have hdm := Nat.div_add_mod U1 v1
  rw [Nat.mul_comm] at hdm
  have hwd : U1 / v1 * v1 ≤ U1 := Nat.div_mul_le_self _ _
  have hm2 := Nat.div_add_mod (U1 * 4294967296 + e) Y
  have hl2 := Nat.mod_lt (U1 * 4294967296 + e) hY
  have hT := fun q rh (hq : q * v1 + rh = U1) => dig_test (d := e) hq (show 0 < v1 * 4294967296 + v0 by omega)
  have hO := fun q rh (hq : q * v1 + rh = U1) => dig_out (d := e) hq (show 0 < v1 * 4294967296 + v0 by omega) h0
  rw [← hYv] at s1 hq0 hT hO
  obtain ⟨Q', hQ'⟩ : ∃ Q', Q' = (U1 * 4294967296 + e) / Y := ⟨_, rfl⟩
  obtain ⟨R, hR⟩ : ∃ R, R = (U1 * 4294967296 + e) % Y := ⟨_, rfl⟩
  rw [← hQ', ← hR] at hm2
  rw [← hQ'] at hq0 s1 hT hO
  rw [← hR] at hl2
  have eq : U * 18446744073709551616 + (d * 4294967296 + e) = Y * (Q * 4294967296 + Q') + R := by
    rw [Nat.mul_add, ← Nat.mul_assoc]
    rw [Nat.mul_comm] at hm1
    clear hwd hdm hmod hQ1 hU1
    generalize Y * Q = a at *
    generalize Y * Q' = b at *
    omega
  rw [eq, Nat.mul_add_div hY, Nat.div_eq_of_lt hl2, Nat.add_zero, Nat.mul_add_mod, Nat.mod_eq_of_lt hl2] at h
  rw [Nat.mul_comm] at hm2
  have fin := Div64_j2 (gl := gl) (σ := σ) hs hm2 hq1 hq0 hl2 (by omega) X h
  have eU : IntKind.u64.wrap (((((U * 4294967296 + d) % 18446744073709551616 : Nat) : Int)) - ((Q * Y % 18446744073709551616 : Nat) : Int)) = (U1 : Nat) := by
    rw [wsub' (by omega) (by omega)]; congr 1; omega
  refine ⟨_, wmul U 4294967296, _, waddm _ _, _, wmul Q Y, U1, eU, by omega, _, wquo (by omega), _, wmul' (by omega), (U1 % v1 : Nat), by rw [wsub0 hwd (by omega)]; congr 1; omega, ?_⟩
  refine ⟨fun m env σ' => ∃ q rh : Nat, q = Q' + m ∧ q ≤ 4294967297 ∧ q * v1 + rh = U1 ∧ rh < 4294967296 ∧ σ' = σ ∧ env = [(2, u Y), (8, u s), (9, u v1), (10, u v0), (14, u e), (15, u Q), (16, u rh), (17, u U1), (18, u q)], Wk.here ⟨U1 / v1 - Q', U1 / v1, U1 % v1, by omega, s2, hdm, by omega, rfl, rfl⟩, ?_⟩
  rintro m env σ' ⟨q, rh, hqm, hqb, hq, hr, rfl, rfl⟩
  have hgo : Q' < q → (q - 1) * v1 + (rh + v1) = U1 := fun h => by
    rw [← hq, Nat.sub_mul, Nat.one_mul]
    have : 1 * v1 ≤ q * v1 := Nat.mul_le_mul_right _ (by omega)
    omega
  refine ⟨fun h1 => ?_, fun h1 => ?_⟩
  · have h1 : q < 4294967296 := by have := of_decide_eq_false h1; omega
    have hw : q * v0 < 18446744073709551616 := by
      have := Nat.mul_le_mul (show q ≤ 4294967295 by omega) (show v0 ≤ 4294967295 by omega)
      omega
    refine ⟨_, wmul' hw, (4294967296 * rh : Nat), by rw [wu]; omega, (4294967296 * rh + e : Nat), by rw [wu]; omega, ?_⟩
    refine ⟨fun h2 => ?_, fun h2 => ?_⟩
    · have hgt : Q' < q := (hT q rh hq).1 (by have := of_decide_eq_true h2; omega)
      have hq2 := hgo hgt
      refine ⟨(q - 1 : Nat), by rw [wu]; omega, (rh + v1 : Nat), by rw [wu]; omega, ?_⟩
      refine ⟨fun h3 => ?_, fun h3 => ?_⟩
      · have h3 : rh + v1 ≥ 4294967296 := by have := of_decide_eq_true h3; omega
        have ho := hO _ _ hq2 h3 (by omega)
        rw [show q - 1 = Q' by omega]
        exact Wk.here fin
      · have h3 : ¬ rh + v1 ≥ 4294967296 := by have := of_decide_eq_false h3; omega
        exact Wk.here ⟨q - 1 - Q', by omega, q - 1, rh + v1, by omega, by omega, hq2, by omega, rfl, rfl⟩
    · have hle : ¬ q * v0 > 4294967296 * rh + e := by have := of_decide_eq_false h2; omega
      have hnot : ¬ Q' < q := fun h => hle ((hT q rh hq).2 h)
      obtain rfl : q = Q' := by omega
      exact Wk.here fin
  · have h1 : 4294967296 ≤ q := by have := of_decide_eq_true h1; omega
    have hgt : Q' < q := by omega
    have hq2 := hgo hgt
    refine ⟨fun _ => ?_, (fun h => by cases h)⟩
    refine ⟨(q - 1 : Nat), by rw [wu]; omega, (rh + v1 : Nat), by rw [wu]; omega, ?_⟩
    refine ⟨fun h3 => ?_, fun h3 => ?_⟩
    · have h3 : rh + v1 ≥ 4294967296 := by have := of_decide_eq_true h3; omega
      have ho := hO _ _ hq2 h3 (by omega)
      rw [show q - 1 = Q' by omega]
      exact Wk.here fin
    · have h3 : ¬ rh + v1 ≥ 4294967296 := by have := of_decide_eq_false h3; omega
      exact Wk.here ⟨q - 1 - Q', by omega, q - 1, rh + v1, by omega, by omega, hq2, by omega, rfl, rfl⟩
theorem LZ_spec (x : Nat) (hx : x < 18446744073709551616) : ACalls P gl F_math_bits_LeadingZeros64 [u x] σ (fun v σ' => v = .w (.int .i64 (64 - bl x : Nat)) ∧ σ' = σ) := by
  refine C_math_bits_LeadingZeros64.calls hm ?_
  refine CallVC.here (Len64_spec x hx) ?_
  rintro v σ' ⟨rfl, rfl⟩
  have hb : bl x ≤ 64 := bl_le.2 hx
  exact ⟨(64 - bl x : Nat), by rw [wi] <;> omega, Ret.here ⟨rfl, rfl⟩⟩

theorem Div64_spec (hi lo y : Nat) (hy : y < 18446744073709551616) (hlo : lo < 18446744073709551616) (h : hi < y) : ACalls P gl F_math_bits_Div64 [u hi, u lo, u y] σ
    (fun v σ' => v = .tup [u ((hi * 18446744073709551616 + lo) / y), u ((hi * 18446744073709551616 + lo) % y)] ∧ σ' = σ) := by
  refine C_math_bits_Div64.calls hm ?_
  refine ⟨fun h1 => ?_, fun _ => ⟨fun h1 => ?_, fun _ => ⟨fun h1 => ?_, fun h1 => ?_⟩⟩⟩
  · exfalso
    have : y = 0 := by simpa using h1
    omega
  · exfalso
    have := of_decide_eq_true h1
    omega
  · obtain rfl : hi = 0 := by simpa using h1
    refine ⟨by omega, _, wquo hlo, by omega, _, wrem lo y, Ret.here ⟨?_, rfl⟩⟩
    rw [Nat.zero_mul, Nat.zero_add]; rfl
  · have hi0 : hi ≠ 0 := by simpa using h1
    have hb := bl_le (n := y) (k := 64) |>.2 hy
    have hb1 : y < 2 ^ bl y := bl_le.1 (Nat.le_refl _)
    have hb2 : 2 ^ (bl y - 1) ≤ y := bl_lt.1 (by have := bl_lt (n := y) (k := 0) |>.2 (by rw [Nat.pow_zero]; omega); omega)
    have hb3 : 0 < bl y := bl_lt (n := y) (k := 0) |>.2 (by rw [Nat.pow_zero]; omega)
    refine CallVC.here (LZ_spec y hy) ?_
    rintro v σ' ⟨rfl, rfl⟩
    obtain ⟨s, hs⟩ : ∃ s, s = 64 - bl y := ⟨_, rfl⟩
    rw [← hs]
    have hs64 : s < 64 := by omega
    have hps : 2 ^ s * 2 ^ (64 - s) = 18446744073709551616 := by rw [← Nat.pow_add, show s + (64 - s) = 64 by omega]
    have hp0 : 0 < 2 ^ s := Nat.pow_pos (by decide)
    have hp1 : 0 < 2 ^ (64 - s) := Nat.pow_pos (by decide)
    have hYlt : y * 2 ^ s < 18446744073709551616 := by
      rw [← hps, Nat.mul_comm (2 ^ s)]
      refine Nat.mul_lt_mul_of_pos_right ?_ hp0
      rwa [show 64 - s = bl y by omega]
    have hYge : 9223372036854775808 ≤ y * 2 ^ s := by
      have := Nat.mul_le_mul_right (2 ^ s) hb2
      rw [← Nat.pow_add, show bl y - 1 + s = 63 by omega] at this
      exact this
    have hhi : hi * 2 ^ s + 2 ^ s ≤ y * 2 ^ s := by
      have := Nat.mul_le_mul_right (2 ^ s) h
      rwa [Nat.succ_mul] at this
    have hlow : lo / 2 ^ (64 - s) < 2 ^ s := (Nat.div_lt_iff_lt_mul hp1).2 (by rw [hps]; exact hlo)
    have hH : hi * 2 ^ s < 18446744073709551616 := by omega
    have eY := wshlv y (k := s) (by omega)
    have eH := wshlv hi (k := s) (by omega)
    have eL := wshlv lo (k := s) (by omega)
    rw [Nat.mod_eq_of_lt hYlt] at eY
    rw [Nat.mod_eq_of_lt hH] at eH
    have eR := wshrv lo (k := 64 - s) (by omega)
    have eO := wor (a := hi) (b := lo / 2 ^ (64 - s)) (by omega) hH hlow
    -- the whole, moved up
    have hU : (hi * 2 ^ s + lo / 2 ^ (64 - s)) * 18446744073709551616 + lo * 2 ^ s % 18446744073709551616 = (hi * 18446744073709551616 + lo) * 2 ^ s := by
      have h1 : lo * 2 ^ s / 18446744073709551616 = lo / 2 ^ (64 - s) := by rw [← hps, Nat.mul_comm (2 ^ s), Nat.mul_div_mul_right _ _ hp0]
      have h2 := Nat.div_add_mod (lo * 2 ^ s) 18446744073709551616
      rw [h1] at h2
      rw [Nat.add_mul, Nat.add_mul, Nat.mul_right_comm hi]
      omega
    generalize hu : hi * 2 ^ s + lo / 2 ^ (64 - s) = U at *
    generalize hl : lo * 2 ^ s % 18446744073709551616 = ll at *
    have hll : ll < 18446744073709551616 := by rw [← hl]; exact Nat.mod_lt _ (by decide)
    have huY : U < y * 2 ^ s := by omega
    have hfin1 : (U * 18446744073709551616 + ll) / (y * 2 ^ s) = (hi * 18446744073709551616 + lo) / y := by rw [hU, Nat.mul_div_mul_right _ _ hp0]
    have hfin2 : (U * 18446744073709551616 + ll) % (y * 2 ^ s) / 2 ^ s = (hi * 18446744073709551616 + lo) % y := by rw [hU, Nat.mul_mod_mul_right, Nat.mul_div_cancel _ hp0]
    generalize hYd : y * 2 ^ s = Y at *
    have hYv : Y = Y / 4294967296 * 4294967296 + Y % 4294967296 := by rw [Nat.mul_comm]; exact (Nat.div_add_mod Y 4294967296).symm
    have hll2 : ll / 4294967296 * 4294967296 + ll % 4294967296 = ll := by rw [Nat.mul_comm]; exact Nat.div_add_mod ll 4294967296
    obtain ⟨v1, hv1⟩ : ∃ v1, v1 = Y / 4294967296 := ⟨_, rfl⟩
    obtain ⟨v0, hv0⟩ : ∃ v0, v0 = Y % 4294967296 := ⟨_, rfl⟩
    obtain ⟨d, hd⟩ : ∃ d, d = ll / 4294967296 := ⟨_, rfl⟩
    obtain ⟨e, he⟩ : ∃ e, e = ll % 4294967296 := ⟨_, rfl⟩
    have hdl : d < 4294967296 := by omega
    have hv0l : v0 < 4294967296 := by omega
    rw [← hv1, ← hv0] at hYv
    rw [← hd, ← he] at hll2
    rw [← hll2] at hfin1 hfin2
    have hUv : U < v1 * 4294967296 + v0 := by omega
    obtain ⟨s1, s2⟩ := dig_start (v1 := v1) (v0 := v0) (u := U) (d := d) (by omega) hv0l hdl hUv
    have hdm := Nat.div_add_mod U v1
    rw [Nat.mul_comm] at hdm
    have hml : U % v1 < v1 := Nat.mod_lt _ (by omega)
    have hwd : U / v1 * v1 ≤ U := Nat.div_mul_le_self _ _
    have hT := fun q rh (hq : q * v1 + rh = U) => dig_test (d := d) hq (show 0 < v1 * 4294967296 + v0 by omega)
    have hO := fun q rh (hq : q * v1 + rh = U) => dig_out (d := d) hq (show 0 < v1 * 4294967296 + v0 by omega) hv0l
    rw [← hYv] at s1 hT hO
    have hQl := dig_lt hdl hUv
    rw [← hYv] at hQl
    obtain ⟨Q, hQ⟩ : ∃ Q, Q = (U * 4294967296 + d) / Y := ⟨_, rfl⟩
    rw [← hQ] at s1 hT hO hQl
    have J := Div64_j1 (gl := gl) (σ := σ') (s := s) (by omega) hYv (by omega) (by omega) hv0l hdl (by omega) (by omega : U < Y) hQ
      (fun v σ'' => v = .tup [u ((hi * 18446744073709551616 + lo) / y), u ((hi * 18446744073709551616 + lo) % y)] ∧ σ'' = σ') (e := e) ⟨by rw [hfin1, hfin2], rfl⟩
    have e64 : IntKind.u64.wrap (64 - (s : Int)) = (64 - s : Nat) := by rw [wu]; omega
    have es : IntKind.u64.wrap ((s : Nat) : Int) = (s : Nat) := by rw [wu]; omega
    refine ⟨s, es, by omega, Y, eY, by decide, v1, by rw [hv1]; exact wshr Y 32, v0, by rw [hv0]; exact wmask (by omega) 32 (by omega), by omega, _, eH, _, e64, by omega, _, eR, _, eO, by omega, _, eL, by decide, d, by rw [hd]; exact wshr ll 32, e, by rw [he]; exact wmask hll 32 (by omega), by omega, _, wquo (by omega), _, wmul' (by omega), (U % v1 : Nat), by rw [wsub0 hwd (by omega)]; congr 1; omega, ?_⟩
    refine ⟨fun m env σ'' => ∃ q rh : Nat, q = Q + m ∧ q ≤ 4294967297 ∧ q * v1 + rh = U ∧ rh < 4294967296 ∧ σ'' = σ' ∧ env = [(2, u Y), (8, u s), (9, u v1), (10, u v0), (11, u U), (13, u d), (14, u e), (15, u q), (16, u rh)], Wk.here ⟨U / v1 - Q, U / v1, U % v1, by omega, s2, hdm, by omega, rfl, rfl⟩, ?_⟩
    rintro m env σ'' ⟨q, rh, hqm, hqb, hq, hr, rfl, rfl⟩
    have hgo : Q < q → (q - 1) * v1 + (rh + v1) = U := fun h => by
      rw [← hq, Nat.sub_mul, Nat.one_mul]
      have : 1 * v1 ≤ q * v1 := Nat.mul_le_mul_right _ (by omega)
      omega
    refine ⟨fun h1 => ?_, fun h1 => ?_⟩
    · have h1 : q < 4294967296 := by have := of_decide_eq_false h1; omega
      have hw : q * v0 < 18446744073709551616 := by
        have := Nat.mul_le_mul (show q ≤ 4294967295 by omega) (show v0 ≤ 4294967295 by omega)
        omega
      refine ⟨_, wmul' hw, (4294967296 * rh : Nat), by rw [wu]; omega, (4294967296 * rh + d : Nat), by rw [wu]; omega, ?_⟩
      refine ⟨fun h2 => ?_, fun h2 => ?_⟩
      · have hgt : Q < q := (hT q rh hq).1 (by have := of_decide_eq_true h2; omega)
        have hq2 := hgo hgt
        refine ⟨(q - 1 : Nat), by rw [wu]; omega, (rh + v1 : Nat), by rw [wu]; omega, ?_⟩
        refine ⟨fun h3 => ?_, fun h3 => ?_⟩
        · have h3 : rh + v1 ≥ 4294967296 := by have := of_decide_eq_true h3; omega
          have ho := hO _ _ hq2 h3 (by omega)
          rw [show q - 1 = Q by omega]
          exact Wk.here J
        · have h3 : ¬ rh + v1 ≥ 4294967296 := by have := of_decide_eq_false h3; omega
          exact Wk.here ⟨q - 1 - Q, by omega, q - 1, rh + v1, by omega, by omega, hq2, by omega, rfl, rfl⟩
      · have hle : ¬ q * v0 > 4294967296 * rh + d := by have := of_decide_eq_false h2; omega
        have hnot : ¬ Q < q := fun h => hle ((hT q rh hq).2 h)
        obtain rfl : q = Q := by omega
        exact Wk.here J
    · have h1 : 4294967296 ≤ q := by have := of_decide_eq_true h1; omega
      have hgt : Q < q := by omega
      have hq2 := hgo hgt
      refine ⟨fun _ => ?_, (fun h => by cases h)⟩
      refine ⟨(q - 1 : Nat), by rw [wu]; omega, (rh + v1 : Nat), by rw [wu]; omega, ?_⟩
      refine ⟨fun h3 => ?_, fun h3 => ?_⟩
      · have h3 : rh + v1 ≥ 4294967296 := by have := of_decide_eq_true h3; omega
        have ho := hO _ _ hq2 h3 (by omega)
        rw [show q - 1 = Q by omega]
        exact Wk.here J
      · have h3 : ¬ rh + v1 ≥ 4294967296 := by have := of_decide_eq_false h3; omega
        exact Wk.here ⟨q - 1 - Q, by omega, q - 1, rh + v1, by omega, by omega, hq2, by omega, rfl, rfl⟩
end Go.Proofs.Ytigedaepbilokaa.Nat
