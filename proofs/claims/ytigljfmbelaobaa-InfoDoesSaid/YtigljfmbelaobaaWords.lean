/- Layer 12 (cover): words. -/
import Derived.Test.YtigljfmbelaobaaRepeat
import Derived.Test.YtigljfmbelaobaaBinGet
namespace Go.Proofs.Ytigljfmbelaobaa
open Go.RowKit

set_option maxHeartbeats 1000000 in
theorem words_any (s : ByteArray) (at_ : Int) (n : Nat) (w : World) (hs : s.size ≤ 140737488355328) (hn : n ≤ 400000) :
    Calls Try.prog 37 #[.string s, .int .i64 at_, .int .i64 (n : Int)] w (RetInts w (getS s.data.toList at_ (rep [2] n))) := by
  go_enter Try.func37, Try.ntmps37
  go_wp2_with fail
  refine (repeat_any _ 1 [2] n _ (ints_cell _ _ 2 (by unfold I64; omega)) (by simp) (by simp) hn).mono ?_
  rintro e w1 ⟨A', c', rfl, hi1, hb1⟩
  go_wp2_with fail
  refine (get_any s at_ A' c' (rep [2] n) w1 hi1 hs (by rw [rep_length]; simp; omega)).mono ?_
  rintro e w2 ⟨A2, c2, rfl, hi2, hb2, hz⟩
  go_wp2
  go_ret2
  refine ⟨A2, c2, rfl, hi2, ?_, hz⟩
  exact ((Below.refl _ _).alloc (Nat.le_refl _) _).trans ((hb1.trans (hb2.mono (hb1.size))).mono (by simp))

end Go.Proofs.Ytigljfmbelaobaa
