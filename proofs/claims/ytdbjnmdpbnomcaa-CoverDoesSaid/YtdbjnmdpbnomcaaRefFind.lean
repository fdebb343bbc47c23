/- The document's layer 12: a glyph's place. -/
import Derived.Test.YtdbjnmdpbnomcaaRefIs
namespace Go.Proofs.Ytdbjnmdpbnomcaa
open Go.RowKit

set_option maxHeartbeats 2000000 in
theorem refFind_any (A : Option Addr) (c : Nat) (l : List Int) (g : Int) (w : World) (h : Ints w A l) :
    Calls Try.prog 14 #[.slice A l.length c, .int .i64 g] w fun e w' => e = .returned (.tuple #[.int .i64 (findS l g).1, .bool (findS l g).2]) ∧ Below w.heap.size w w' := by
  have hlen := h.len
  have hi := refIs_any A c l w h
  go_enter Try.func14, Try.ntmps14
  cases hs : isS l
  · rw [hs] at hi
    have HS := Lib.hid hs
    clear hs
    go_wp2_with (go_at_call 18; refine hi.mono ?_; rintro e w1 ⟨rfl, hb1⟩)
    go_ret2
    rw [findS_no HS.out]
    exact ⟨rfl, hb1⟩
  · rw [hs] at hi
    have HS := Lib.hid hs
    clear hs
    go_wp2_with fail
    refine hi.mono ?_
    rintro e w1 ⟨rfl, hb1⟩
    have h1 := h.below hb1
    go_wp2
    go_loop [6] (fun i => ∃ k : Nat, k ≤ l.length ∧ i = .int .i64 (k : Int) ∧ ∀ j, j < k → nth l j ≠ g) (fun i => l.length - (intOf i).toNat)
    case atStart => exact ⟨0, Nat.zero_le _, rfl, fun j hj => by omega⟩
    case round =>
      obtain ⟨k, hk, rfl, hok⟩ := hrel
      have HOK := Lib.hid hok
      clear hok
      by_cases hlt : k < l.length
      · obtain ⟨b, off, rfl, gk⟩ := h1.cells k hlt
        by_cases he : nth l k = g
        · have hee : (nth l k == g) = true := by simpa using he
          have HE := Lib.hid he
          clear he
          go_wp2
          go_ret2
          rw [← HE.out, findS_at HS.out hlt]
          exact ⟨rfl, hb1⟩
        · have hee : (nth l k == g) = false := by simpa using he
          go_wp2
          go_roundw
          case rel => exact ⟨k + 1, by omega, by go_num, fun j hj => by
            by_cases hjk : j = k
            · subst hjk; exact he
            · exact HOK.out j (by omega)⟩
          case measure => simp [intOf]; omega
      · go_wp2
        go_ret2
        rw [findS_out (fun j hj => HOK.out j (by omega))]
        exact ⟨rfl, hb1⟩

end Go.Proofs.Ytdbjnmdpbnomcaa
