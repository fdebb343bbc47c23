/- The law CoverDoes: what its function comes to. -/
import Derived.Test.YtdbjnmdpbnomcaaFindsW
import Derived.Test.YtdbjnmdpbnomcaaRefGet
import Derived.Test.YtdbjnmdpbnomcaaRefPut
import Derived.Test.YtdbjnmdpbnomcaaRefFind
import Derived.Test.YtdbjnmdpbnomcaaRefOwn
namespace Go.Proofs.Ytdbjnmdpbnomcaa
open Go.RowKit

set_option maxRecDepth 100000 in
set_option maxHeartbeats 4000000 in
theorem does_any (s : ByteArray) (at_ : Int) (A : Option Addr) (c : Nat) (l : List Int) (g : Int) (w : World) (hs : s.size ≤ 140737488355328) (h : Ints w A l) (hc : A = none → c = 0) :
    Calls Try.prog 3 #[.string s, .int .i64 at_, .slice A l.length c, .int .i64 g] w fun e w' => e = .returned (.bool true) ∧ Below w.heap.size w w' := by
  have hlen := h.len
  have hsh := short_any A l.length c w hlen
  go_enter Try.func3, Try.ntmps3
  by_cases h6 : s.size > 600
  · have h6i : (600 : Int) < (s.size : Int) := by omega
    go_wp2
    go_ret
    exact ⟨rfl, Below.refl _ _⟩
  · have h6i : ¬ (600 : Int) < (s.size : Int) := by omega
    by_cases h5 : l.length ≤ 500
    · have hd : decide (l.length ≤ 500) = true := by simpa using h5
      rw [hd] at hsh
      clear hd
      go_wp2_with fail
      refine hsh.mono ?_
      rintro e w' ⟨rfl, rfl⟩
      go_wp2_with fail
      refine (ownRow_any A c l w h hc (by omega)).mono ?_
      rintro e w1 ⟨B, d, rfl, hi1, hb1, hz1⟩
      have h1 := h.below hb1
      go_wp2_with fail
      refine (coverGet_any s at_ w1 hs).mono ?_
      have hrg := fun W => refGet_any s at_ W hs
      generalize coverGetS s.data.toList at_ = r at *
      obtain ⟨rl, re⟩ := r
      rintro e w2 ⟨A2, c2, rfl, hi2, hb2, hz2⟩
      dsimp only at hi2 hz2 ⊢
      go_wp2_with fail
      refine (hrg w2).mono ?_
      rintro e w3 ⟨A3, c3, rfl, hi3, hb3, hz3⟩
      dsimp only at hi3 hz3 ⊢
      clear hrg
      have H3 : Below w1.heap.size w1 w3 := hb2.trans (hb3.mono hb2.size)
      have h3 := h1.below H3
      have o3 := hi1.below H3
      go_wp2_with fail
      refine (coverPut_any A c l w3 h3 hc (by omega)).mono ?_
      have hrp := fun W (hW : Ints W B l) => refPut_any B d l W hW (by omega)
      generalize coverPutS l = p at *
      obtain ⟨pl, pe⟩ := p
      rintro e w4 ⟨rfl, hb4⟩
      dsimp only
      have h4 := h3.below hb4
      have o4 := o3.below hb4
      go_wp2_with fail
      refine (hrp w4 o4).mono ?_
      rintro e w5 ⟨rfl, hb5⟩
      dsimp only
      clear hrp
      have h5' := h4.below hb5
      have o5 := o4.below hb5
      go_wp2_with fail
      refine (find_any A c l g w5 h5').mono ?_
      have hrf := refFind_any B d l g w5 o5
      generalize findS l g = f at *
      obtain ⟨fl, fe⟩ := f
      rintro e w6 ⟨rfl, rfl⟩
      dsimp only at hrf ⊢
      go_wp2_with fail
      refine hrf.mono ?_
      rintro e w6 ⟨rfl, hb6⟩
      clear hrf
      go_wp2_with fail
      refine (covered_any w6).mono ?_
      rintro e w7 ⟨rfl, hb7⟩
      have H7 : Below w5.heap.size w5 w7 := hb6.trans (hb7.mono hb6.size)
      have h7 := h5'.below H7
      have o7 := o5.below H7
      have H37 : Below w3.heap.size w3 w7 := (hb4.trans (hb5.mono hb4.size)).trans (H7.mono (Nat.le_trans hb4.size hb5.size))
      have hie := intsEq_any A2 A3 c2 c3 rl rl w7 ((hi2.below hb3).below H37) (hi3.below H37)
      simp only [decide_true] at hie
      go_wp2_with fail
      refine hie.mono ?_
      rintro e w8 ⟨rfl, hb8⟩
      go_wp2_with fail
      refine (is_any A c l w8 (h7.below hb8)).mono ?_
      rintro e w9 ⟨rfl, rfl⟩
      go_wp2_with fail
      refine (refIs_any B d l w8 (o7.below hb8)).mono ?_
      rintro e w9 ⟨rfl, hb9⟩
      have hie2 := intsEq_any A B c d l l w9 ((h7.below hb8).below hb9) ((o7.below hb8).below hb9)
      simp only [decide_true] at hie2
      go_wp2_with fail
      refine hie2.mono ?_
      rintro e w10 ⟨rfl, hb10⟩
      go_wp2
      go_ret
      have H17 : Below w1.heap.size w1 w7 := H3.trans (H37.mono H3.size)
      have H19 : Below w1.heap.size w1 w9 := (H17.trans (hb8.mono H17.size)).trans (hb9.mono (Nat.le_trans H17.size hb8.size))
      have H1t : Below w1.heap.size w1 w10 := H19.trans (hb10.mono H19.size)
      exact ⟨rfl, hb1.trans (H1t.mono hb1.size)⟩
    · have hd : decide (l.length ≤ 500) = false := by simpa using h5
      rw [hd] at hsh
      go_wp2_with (go_at_call 7; refine hsh.mono ?_; rintro e w' ⟨rfl, rfl⟩)
      go_ret
      exact ⟨rfl, Below.refl _ _⟩

end Go.Proofs.Ytdbjnmdpbnomcaa
