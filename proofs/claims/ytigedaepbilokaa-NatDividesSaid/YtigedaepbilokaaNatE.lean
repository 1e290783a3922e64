import Derived.Test.YtigedaepbilokaaNatD
import Derived.Lib.Mul64
namespace Go.Proofs.Ytigedaepbilokaa.Nat
open Go Go.Ab Go.Ab.Nn
set_option linter.unusedVariables false
set_option maxRecDepth 8000
variable {gl : Nat → Option (List AV)} {σ : Own}

theorem tup2 {I : Nat → Prop} {w : World} (a b : Value) : VR I w (.tup [.w a, .w b]) (.tuple #[a, b]) := .mk_tup (.cons (.w _) (.cons (.w _) .nil))

theorem Add64_spec (x y c : Nat) (hc : c ≤ 1) : ACalls P gl F_math_bits_Add64 [u x, u y, u c] σ (fun v σ' => v = .tup [u ((x + y + c) % 18446744073709551616), u ((x + y + c) / 18446744073709551616)] ∧ σ' = σ) := by
  refine ACalls.ext (vs := [.int .u64 x, .int .u64 y, .int .u64 c]) (cv := .tuple #[.int .u64 ((x + y + c) % 18446744073709551616 : Nat), .int .u64 ((x + y + c) / 18446744073709551616 : Nat)]) (fun w => ?_) (fun I w => tup2 _ _)
  show (callFunc 67 #[.int .u64 x, .int .u64 y, .int .u64 c]).run P w = _
  rw [run_callFunc_extern Go.Proofs.Try.func67 (by kernel_rfl) (by kernel_rfl) (by kernel_rfl) (e := add64Entry) (by kernel_rfl), run_add64 x y c (by omega) (by omega) (by omega) (by omega)]
  simp only [Result.andThen]
  congr 5 <;> omega

/-- the model's own entry -/
noncomputable def subE : Array Value → Sem Value := (Extern.MathBitsCarry.rows.getD 1 ("", fun _ => pure default)).2
theorem run_subE {P : Program} (x y b : Nat) (hb : b ≤ 1) (w : World) :
    (subE #[.int .u64 x, .int .u64 y, .int .u64 b]).run P w = .ok (.tuple #[.int .u64 (((x + 18446744073709551616 - y - b) % 18446744073709551616 : Nat) : Int), .int .u64 ((if x < y + b then 1 else 0 : Nat) : Int)]) w := by
  have : b = 0 ∨ b = 1 := by omega
  rcases this with rfl | rfl <;> rfl
theorem Sub64_spec (x y b : Nat) (hb : b ≤ 1) : ACalls P gl F_math_bits_Sub64 [u x, u y, u b] σ (fun v σ' => v = .tup [u ((x + 18446744073709551616 - y - b) % 18446744073709551616), u (if x < y + b then 1 else 0)] ∧ σ' = σ) := by
  refine ACalls.ext (vs := [.int .u64 x, .int .u64 y, .int .u64 b]) (cv := .tuple #[.int .u64 ((x + 18446744073709551616 - y - b) % 18446744073709551616 : Nat), .int .u64 (if x < y + b then 1 else 0 : Nat)]) (fun w => ?_) (fun I w => tup2 _ _)
  show (callFunc 69 #[.int .u64 x, .int .u64 y, .int .u64 b]).run P w = _
  rw [run_callFunc_extern Go.Proofs.Try.func69 (by kernel_rfl) (by kernel_rfl) (by kernel_rfl) (e := subE) (by kernel_rfl), run_subE x y b hb]
  rfl

theorem wadd (x y : Nat) : IntKind.u64.wrap ((x : Int) + y) = ((x + y) % 18446744073709551616 : Nat) := by rw [wu]; omega
theorem wmul (x y : Nat) : IntKind.u64.wrap ((x : Int) * y) = (x * y % 18446744073709551616 : Nat) := by rw [wu, ← Int.natCast_mul]; omega
theorem wadd' {x y : Nat} (h : x + y < 18446744073709551616) : IntKind.u64.wrap ((x : Int) + y) = (x + y : Nat) := by rw [wu]; omega
theorem wmul' {x y : Nat} (h : x * y < 18446744073709551616) : IntKind.u64.wrap ((x : Int) * y) = (x * y : Nat) := by rw [wmul, Nat.mod_eq_of_lt h]
theorem wmask {x : Nat} (h : x < 18446744073709551616) (k : Nat) (hk : k ≤ 64) : IntKind.u64.wrap ((BitVec.ofInt IntKind.u64.bits (x : Int) &&& BitVec.ofInt IntKind.u64.bits ((2 ^ k - 1 : Nat) : Int)).toNat) = (x % 2 ^ k : Nat) := by
  have hk2 : 2 ^ k ≤ 2 ^ 64 := Nat.pow_le_pow_right (by decide) hk
  have e : (BitVec.ofInt IntKind.u64.bits (x : Int) &&& BitVec.ofInt IntKind.u64.bits ((2 ^ k - 1 : Nat) : Int)).toNat = x % 2 ^ k := by
    show (BitVec.ofInt 64 (x : Int) &&& BitVec.ofInt 64 ((2 ^ k - 1 : Nat) : Int)).toNat = _
    rw [BitVec.toNat_and, BitVec.ofInt_natCast, BitVec.ofInt_natCast, BitVec.toNat_ofNat, BitVec.toNat_ofNat, Nat.mod_eq_of_lt (by omega), Nat.mod_eq_of_lt (a := 2 ^ k - 1) (by have := Nat.two_pow_pos k; omega), Nat.and_two_pow_sub_one_eq_mod]
  rw [e, wu]
  have : x % 2 ^ k ≤ x := Nat.mod_le _ _
  omega
theorem wshr (x k : Nat) : (x : Int).fdiv (2 ^ k) = (x / 2 ^ k : Nat) := by
  rw [show ((2 : Int) ^ k) = ((2 ^ k : Nat) : Int) by simp, Int.fdiv_eq_ediv_of_nonneg _ (Int.natCast_nonneg _)]; rfl

theorem Mul64_spec (x y : Nat) (hx : x < 18446744073709551616) (hy : y < 18446744073709551616) : ACalls P gl F_math_bits_Mul64 [u x, u y] σ (fun v σ' => v = .tup [u (x * y / 18446744073709551616), u (x * y % 18446744073709551616)] ∧ σ' = σ) := by
  refine C_math_bits_Mul64.calls hm ?_
  obtain ⟨h1, h2, h3, h4⟩ := Go.Lib.mul64_hi x y hx hy
  have hb := Go.Lib.half_mul_le (a := x % 4294967296) (b := y / 4294967296) (by omega) (by omega)
  have ha := Go.Lib.half_mul_le (a := x / 4294967296) (b := y / 4294967296) (by omega) (by omega)
  have hc := Go.Lib.half_mul_le (a := x / 4294967296) (b := y % 4294967296) (by omega) (by omega)
  refine ⟨_, wmask hx 32 (by omega), by decide, _, wshr x 32, _, wmask hy 32 (by omega), by decide, _, wshr y 32, ?_⟩
  refine ⟨_, wmul' h1, _, wmul' (by show x / 4294967296 * (y % 4294967296) < _; omega), by decide, _, wshr _ 32, _, wadd' h2, ?_⟩
  refine ⟨_, wmask h2 32 (by omega), by decide, _, wshr _ 32, _, wmul' (by show x % 4294967296 * (y / 4294967296) < _; omega), _, wadd' h3, ?_⟩
  refine ⟨_, wmul' (by show x / 4294967296 * (y / 4294967296) < _; omega), _, wadd' (by show x / 4294967296 * (y / 4294967296) + (x / 4294967296 * (y % 4294967296) + x % 4294967296 * (y % 4294967296) / 4294967296) / 4294967296 < _; omega), by decide, _, wshr _ 32, _, wadd' (by
    show x / 4294967296 * (y / 4294967296) + (x / 4294967296 * (y % 4294967296) + x % 4294967296 * (y % 4294967296) / 4294967296) / 4294967296 + ((x / 4294967296 * (y % 4294967296) + x % 4294967296 * (y % 4294967296) / 4294967296) % 4294967296 + x % 4294967296 * (y / 4294967296)) / 4294967296 < _; omega), _, wmul x y, Ret.here ⟨?_, rfl⟩⟩
  rw [← h4]; rfl
end Go.Proofs.Ytigedaepbilokaa.Nat
