import Derived.Test.YtigedaepbilokaaNatK
namespace Go.Ab.Nn
theorem two_split {s : Nat} (hs : s ≤ 64) : 2 ^ s * 2 ^ (64 - s) = 18446744073709551616 := by rw [← Nat.pow_add, show s + (64 - s) = 64 by omega]
theorem shl_mod (x : Nat) {s : Nat} (hs : s ≤ 64) : x * 2 ^ s % 18446744073709551616 = x % 2 ^ (64 - s) * 2 ^ s := by
  rw [← two_split hs, Nat.mul_comm (2 ^ s), Nat.mul_mod_mul_right]
theorem shl_parts (x : Nat) {s : Nat} (hs : s ≤ 64) : x % 2 ^ (64 - s) * 2 ^ s + 18446744073709551616 * (x / 2 ^ (64 - s)) = x * 2 ^ s := by
  have h := Nat.div_add_mod x (2 ^ (64 - s))
  have h2 := congrArg (· * 2 ^ s) h
  simp only [Nat.add_mul] at h2
  rw [← two_split hs, ← h2, Nat.mul_comm (2 ^ s) (2 ^ (64 - s)), Nat.mul_assoc, Nat.mul_comm (2 ^ s), ← Nat.mul_assoc]
  omega
theorem st_len {L : List AV} {n : Nat} {v : AV} (h : n + 1 ≤ L.length) : (L.take n ++ [v] ++ L.drop (n + 1)).length = L.length := by simp; omega
theorem left_step {V0 V1 V2 P L t h B Pq Pi : Nat} (e : P = Pq * Pi) (h1 : V1 + P * t = V0 + P * (L + t)) (h2 : V2 + P * B * 0 = V1 + P * B * h) : V2 = V0 + Pq * (Pi * (L + B * h)) := by
  rw [← Nat.mul_assoc, ← e, Nat.mul_add, ← Nat.mul_assoc]
  rw [Nat.mul_add] at h1
  omega
theorem getD_set_self {l : List Nat} {k : Nat} (h : k < l.length) (v : Nat) : (l.set k v).getD k 0 = v := by
  rw [List.getD_eq_getElem?_getD, List.getElem?_set_self h]; rfl
end Go.Ab.Nn
namespace Go.Ab
theorem stu0 {σ : Own} {b cap i z : Nat} {l : List Nat} (h : i < l.length) : upd (upd σ b ⟨l.map u, cap⟩) b ⟨(l.map u).take (0 + i * 1) ++ [u z] ++ (l.map u).drop (0 + i * 1 + 1), cap⟩ = upd σ b ⟨(l.set i z).map u, cap⟩ := by
  rw [upd_upd, set1 _ h]
end Go.Ab
namespace Go.Proofs.Ytigedaepbilokaa.Nat
open Go Go.Ab Go.Ab.Nn
set_option linter.unusedVariables false
set_option maxRecDepth 8000
variable {gl : Nat → Option (List AV)} {σ : Own}

theorem wor' {a b s : Nat} (hs : s ≤ 64) (ha : a * 2 ^ s < 18446744073709551616) (hb : b < 2 ^ s) : IntKind.u64.wrap ((BitVec.ofInt IntKind.u64.bits (b : Int) ||| BitVec.ofInt IntKind.u64.bits ((a * 2 ^ s : Nat) : Int)).toNat) = (a * 2 ^ s + b : Nat) := by
  rw [BitVec.or_comm]; exact wor hs ha hb
theorem wquoi (x : Nat) {y : Nat} (h : x < 9223372036854775808) : IntKind.i64.wrap ((x : Int).tdiv y) = (x / y : Nat) := by
  have : x / y ≤ x := Nat.div_le_self _ _
  rw [show Int.tdiv (x : Int) (y : Int) = ((x / y : Nat) : Int) from (Int.ofNat_tdiv _ _).symm]
  generalize x / y = z at *
  rw [wi] <;> omega

theorem left_spec (a : List Nat) (k : Nat) (wa : W a) (hl : a.length + k / 64 < 1099511627775) (hk : k < 9223372036854775808) : ACalls P gl F_nat_left [nat a, .w (.int .i64 k)] σ (Owns σ (limbs (val a * 2 ^ k))) := by
  refine C_nat_left.calls hm ?_
  refine ⟨fun h => ?_, fun h => ?_⟩
  · have h : a = [] := by simpa using h
    subst h
    exact Ret.here (.inl ⟨by simp [val, limbs_zero], rfl, rfl⟩)
  have ha0 : a.length ≠ 0 := by
    intro e; rw [e] at h; simp at h
  obtain ⟨q, hq⟩ : ∃ q, q = k / 64 := ⟨_, rfl⟩
  obtain ⟨r, hr⟩ : ∃ r, r = k % 64 := ⟨_, rfl⟩
  have hr64 : r < 64 := by omega
  have eq : IntKind.i64.wrap ((k : Int).tdiv 64) = (q : Nat) := by rw [hq]; exact wquoi k (y := 64) hk
  have er : (k : Int).tmod 64 = (r : Nat) := by rw [hr]; exact wrem k 64
  have hkqr : 2 ^ k = 18446744073709551616 ^ q * 2 ^ r := by
    rw [show 18446744073709551616 = 2 ^ 64 from rfl, ← Nat.pow_mul, ← Nat.pow_add, show 64 * q + r = k by omega]
  rw [← hq] at hl
  have hp1 : 0 < 2 ^ (64 - r) := Nat.pow_pos (by decide)
  refine ⟨by decide, q, eq, (a.length + q : Nat), by rw [wi] <;> omega, (a.length + q + 1 : Nat), by rw [wi] <;> omega, a.length + q + 1, a.length + q + 1, rfl, rfl, by omega, by omega, by omega, fun g hg => ?_⟩
  refine ⟨fun m env σ' => ∃ i z, m = a.length - i ∧ i ≤ a.length ∧ z.length = a.length + q + 1 ∧ W z ∧ val z = 18446744073709551616 ^ q * (val (a.take i) * 2 ^ r) ∧ (∀ j, i + q < j → z.getD j 0 = 0) ∧ z.getD (i + q) 0 < 2 ^ r ∧ σ' = upd σ g ⟨z.map u, a.length + q + 1⟩ ∧
    env = [(1, .w (.int .i64 k)), (5, .w (.slice (some ⟨g, 0, none⟩) (a.length + q + 1) (a.length + q + 1))), (18, nat a), (19, .w (.int .i64 a.length)), (20, .w (.int .i64 i))], Wk.here ⟨a.length, 0, List.replicate (a.length + q + 1) 0, rfl, by omega, by simp, W_replicate _, by simp [val, val_replicate], fun j _ => by simp [List.getD_eq_getElem?_getD, List.getElem?_replicate]; split <;> rfl, by
      have : (List.replicate (a.length + q + 1) 0).getD (0 + q) 0 = 0 := by simp [List.getD_eq_getElem?_getD, List.getElem?_replicate]; split <;> rfl
      rw [this]; exact Nat.pow_pos (by decide), by rw [← mk_u], rfl⟩, ?_⟩
  rintro m env σ' ⟨i, z, rfl, hi, hz, hw, hv, h0, ht, rfl, rfl⟩
  refine ⟨fun h => ?_, fun h => ?_⟩
  · have h : i < a.length := by have := of_decide_eq_true h; omega
    have hx := getD_lt wa i
    have hsh := shl_mod (a.getD i 0) (s := r) (by omega)
    have hpt := shl_parts (a.getD i 0) (s := r) (by omega)
    obtain ⟨x, hxe⟩ : ∃ x, x = a.getD i 0 := ⟨_, rfl⟩
    obtain ⟨lo, hlo⟩ : ∃ lo, lo = x % 2 ^ (64 - r) := ⟨_, rfl⟩
    obtain ⟨hi', hhi⟩ : ∃ hi', hi' = x / 2 ^ (64 - r) := ⟨_, rfl⟩
    obtain ⟨t, hte⟩ : ∃ t, t = z.getD (i + q) 0 := ⟨_, rfl⟩
    rw [← hxe, ← hlo] at hsh hpt
    rw [← hhi] at hpt
    rw [← hxe] at hx
    rw [← hte] at ht
    have hlolt : lo * 2 ^ r < 18446744073709551616 := by rw [← hsh]; exact Nat.mod_lt _ (by decide)
    have hhilt : hi' < 2 ^ r := by rw [hhi]; exact (Nat.div_lt_iff_lt_mul hp1).2 (by rw [two_split (by omega)]; exact hx)
    have hr2 : 2 ^ r ≤ 9223372036854775808 := Nat.pow_le_pow_right (n := 2) (by decide) (show r ≤ 63 by omega)
    have hor := wor' (by omega) hlolt ht
    have hsum : lo * 2 ^ r + t < 18446744073709551616 := by
      have h1 : lo < 2 ^ (64 - r) := by rw [hlo]; exact Nat.mod_lt _ hp1
      have h2 := Nat.mul_le_mul_right (2 ^ r) (show lo + 1 ≤ 2 ^ (64 - r) from h1)
      rw [Nat.add_mul, Nat.one_mul, Nat.mul_comm (2 ^ (64 - r)), two_split (by omega)] at h2
      omega
    have e64 : IntKind.i64.wrap (64 - (r : Int)) = (64 - r : Nat) := by rw [wi] <;> omega
    have hb : ∀ j, j < a.length + q + 1 → 0 + j * 1 + 1 ≤ (z.map u).length := fun j hj => by rw [List.length_map]; omega
    have e35 : IntKind.u64.wrap (((a.getD i 0 : Nat) : Int) * 2 ^ (min ((r : Nat) : Int).toNat IntKind.u64.bits)) = (lo * 2 ^ r : Nat) := by rw [← hxe, wshlv x (k := r) (by omega), hsh]
    have e48 : ((a.getD i 0 : Nat) : Int).fdiv (2 ^ (min ((64 - r : Nat) : Int).toNat IntKind.u64.bits)) = (hi' : Nat) := by rw [← hxe, wshrv x (k := 64 - r) (by omega), hhi]
    rw [hte] at hor
    refine ⟨i, rfl, h, _, hd1 0 h, by decide, q, eq, (i + q : Nat), by rw [wi] <;> omega, i + q, rfl, by show i + q < a.length + q + 1; omega, _, upd_same _ _ _, _, hd0 0 (by omega), by decide, r, er, by omega, (lo * 2 ^ r : Nat), e35, (lo * 2 ^ r + z.getD (i + q) 0 : Nat), hor, i + q, rfl, by show i + q < a.length + q + 1; omega, _, upd_same _ _ _, hb _ (by omega), _, stu0 (by omega), ?_⟩
    refine ⟨by decide, q, eq, (i + q : Nat), by rw [wi] <;> omega, (i + q + 1 : Nat), by rw [wi] <;> omega, by decide, r, er, (64 - r : Nat), e64, by omega, hi', e48, i + q + 1, rfl, by show i + q + 1 < a.length + q + 1; omega, _, upd_same _ _ _, by rw [List.length_map, List.length_set, hz]; omega, _, stu0 (by rw [List.length_set]; omega), (i + 1 : Nat), by rw [wi] <;> omega,
      Wk.here ⟨a.length - (i + 1), by omega, i + 1, (z.set (i + q) (lo * 2 ^ r + z.getD (i + q) 0)).set (i + q + 1) hi', rfl, by omega, by rw [List.length_set, List.length_set]; exact hz, W_set (W_set hw _ _ (by rw [← hte]; exact hsum)) _ _ (by omega), ?_, ?_, ?_, rfl, rfl⟩⟩
    · have v1 := val_set (l := z) (k := i + q) (by omega) (lo * 2 ^ r + z.getD (i + q) 0)
      have v2 := val_set (l := z.set (i + q) (lo * 2 ^ r + z.getD (i + q) 0)) (k := i + q + 1) (by rw [List.length_set]; omega) hi'
      rw [getD_set_other (by omega), h0 (i + q + 1) (by omega)] at v2
      rw [val_take_succ, ← hxe, Nat.add_mul, Nat.mul_assoc, ← hpt, Nat.mul_add, ← hv]
      rw [Nat.pow_succ] at v2
      exact left_step (by rw [Nat.pow_add, Nat.mul_comm]) v1 v2
    · intro j hj
      rw [getD_set_other (by omega), getD_set_other (by omega)]; exact h0 j (by omega)
    · rw [show i + 1 + q = i + q + 1 by omega, getD_set_self (by rw [List.length_set]; omega)]; exact hhilt
  · have h : ¬ i < a.length := by have := of_decide_eq_false h; omega
    obtain rfl : i = a.length := by omega
    rw [List.take_length] at hv
    have ht' := trim_own (gl := gl) (σ := upd σ g ⟨z.map u, a.length + q + 1⟩) (b := g) (l := z) (c := a.length + q + 1) (upd_same _ _ _) rfl (by omega) (by omega) hw
    rw [hz] at ht'
    refine CallVC.here ht' ?_
    rintro v σ' ⟨rfl, rfl⟩
    refine Ret.here ?_
    have := owns_strip' (σ := σ) (b := g) (n := a.length + q + 1) hg hw (by omega)
    have e : strip z = limbs (val a * 2 ^ k) := by
      unfold strip; rw [hv, hkqr, Nat.mul_left_comm]
    rw [e] at this ⊢
    exact this
end Go.Proofs.Ytigedaepbilokaa.Nat
