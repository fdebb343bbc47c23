/- The document's layer 3: powers of 256, a number out of bytes, a row of its own. -/
import Derived.Test.YtigljfmbelaobaaBin
import Derived.Test.YtigljfmbelaobaaConcat
namespace Go.Proofs.Ytigljfmbelaobaa
open Go.RowKit

theorem power_any (n : Nat) (w : World) (hn : n ≤ 4) :
    Calls Try.prog 40 #[.int .i64 (n : Int)] w fun e w' => e = .returned (.int .i64 (pow8 n)) ∧ w = w' := by
  go_enter Try.func40, Try.ntmps40
  go_wp2
  go_loop [3, 4] (fun v i => ∃ k : Nat, k ≤ n ∧ i = .int .i64 (k : Int) ∧ v = .int .i64 (pow8 k)) (fun _ i => n - (intOf i).toNat)
  case atStart => exact ⟨0, Nat.zero_le _, rfl, rfl⟩
  case round =>
    obtain ⟨k, hk, rfl, rfl⟩ := hrel
    by_cases hlt : k < n
    · have h1 : pow8 (k + 1) = pow8 k * 256 := pow8_succ k
      have h2 : pow8 (k + 1) ≤ pow8 4 := pow8_mono (by omega)
      rw [pow8_4] at h2
      have h3 := pow8_pos k
      have hw : IntKind.i64.wrap (256 * pow8 k) = 256 * pow8 k := by rw [IntKind.wrap_i64]; omega
      have H1 := Lib.hid h1
      clear h1
      go_wp2
      go_roundw
      case rel => exact ⟨k + 1, by omega, by go_num, by rw [H1.out, Int.mul_comm]⟩
      case measure => simp [intOf]; omega
    · have hkn : k = n := by omega
      have HK := Lib.hid hkn
      clear hkn
      go_wp2
      go_ret
      rw [HK.out]
      exact ⟨rfl, rfl⟩

end Go.Proofs.Ytigljfmbelaobaa
