/- math/bits.Mul at small numbers. -/
import Derived.Test.YtigljfmbelaobaaBase
namespace Go.Proofs.Ytigljfmbelaobaa
open Go.RowKit

theorem u64_in {n : Int} (h0 : 0 ≤ n) (h1 : n < 18446744073709551616) : IntKind.u64.wrap n = n := by simp [IntKind.wrap, IntKind.bits, IntKind.signed]; omega
theorem and_low {x : Int} (h0 : 0 ≤ x) (h1 : x < 4294967296) : bits BinOp.and IntKind.u64 x 4294967295 = x := by
  have h := bits_mask .u64 64 (by decide) (fun n h0 h1 => by simp [IntKind.wrap, IntKind.bits, IntKind.signed]; omega) 32 (by decide) x h0 (by omega)
  have e : (2 : Int) ^ 32 - 1 = 4294967295 := by decide
  have e2 : (2 : Int) ^ 32 = 4294967296 := by decide
  rw [e, e2] at h
  rw [h]
  omega

set_option maxHeartbeats 1000000 in
theorem mul64_small (x y : Int) (w : World) (hx0 : 0 ≤ x) (hx : x < 2147483648) (hy0 : 0 ≤ y) (hy : y < 2147483648) :
    Calls Try.prog 51 #[.int .u64 x, .int .u64 y] w fun e w' => e = .returned (.tuple #[.int .u64 0, .int .u64 (x * y)]) ∧ w = w' := by
  have ex := and_low hx0 (by omega)
  have ey := and_low hy0 (by omega)
  have hp0 : 0 ≤ x * y := Int.mul_nonneg hx0 hy0
  have hp1 : x * y < 4611686018427387904 := by
    have h1 : x * y ≤ x * 2147483648 := Int.mul_le_mul_of_nonneg_left (by omega) hx0
    omega
  have e1 : x / 4294967296 = 0 := by omega
  have e2 : y / 4294967296 = 0 := by omega
  have e3 : IntKind.u64.wrap (x * y) = x * y := u64_in hp0 (by omega)
  have e4 : IntKind.u64.wrap (x * y / 4294967296) = x * y / 4294967296 := u64_in (by omega) (by omega)
  have e5 := and_low (x := x * y / 4294967296) (by omega) (by omega)
  have e6 : x * y / 4294967296 / 4294967296 = 0 := by omega
  have e7 : IntKind.u64.wrap 0 = 0 := u64_in (by omega) (by omega)
  go_enter Try.func51, Try.ntmps51
  go_wp2
  go_ret2
  exact ⟨rfl, rfl⟩

set_option maxHeartbeats 1000000 in
theorem mul_small (x y : Int) (w : World) (hx0 : 0 ≤ x) (hx : x < 2147483648) (hy0 : 0 ≤ y) (hy : y < 2147483648) :
    Calls Try.prog 39 #[.int .u64 x, .int .u64 y] w fun e w' => e = .returned (.tuple #[.int .u64 0, .int .u64 (x * y)]) ∧ w = w' := by
  go_enter Try.func39, Try.ntmps39
  go_wp2_with (go_at_call 51; refine (mul64_small x y _ hx0 hx hy0 hy).mono ?_; rintro e w' ⟨rfl, rfl⟩)
  go_ret2
  exact ⟨rfl, rfl⟩

end Go.Proofs.Ytigljfmbelaobaa
