/- The law InfoDoes: what its function comes to. -/
import Derived.Test.YtigljfmbelaobaaValued
import Derived.Test.YtigljfmbelaobaaRef14B
import Derived.Test.YtigljfmbelaobaaSlsApp
namespace Go.Proofs.Ytigljfmbelaobaa
open Go.RowKit

set_option maxRecDepth 100000 in
set_option maxHeartbeats 4000000 in
theorem infoDoes_any (s : ByteArray) (at_ : Int) (A : Option Addr) (c : Nat) (l : List (Int × Int)) (g : Int) (w : World) (hs : s.size ≤ 140737488355328) (h : Prs w A l) (hc : A = none → c = 0) :
    Calls Try.prog 3 #[.string s, .int .i64 at_, .slice A l.length c, .int .i64 g] w fun e w' => e = .returned (.bool true) ∧ Below w.heap.size w w' := by
  have hlen := h.len
  go_enter Try.func3, Try.ntmps3
  by_cases h6 : s.size > 600
  · have h6i : (600 : Int) < (s.size : Int) := by omega
    go_wp2
    go_ret
    exact ⟨rfl, Below.refl _ _⟩
  · have h6i : ¬ (600 : Int) < (s.size : Int) := by omega
    by_cases h5 : l.length ≤ 300
    · have h5i : ¬ (300 : Int) < (l.length : Int) := by omega
      obtain ⟨i0, hi0, hz0, hz1, hz2⟩ := info_parts info_pair
      go_wp2_with (at_builtin; refine wpList_append_sls (R := PairR) rfl (.tmp 30) (.tmp 31) 22 rfl w.heap.size 35 i0 _ 16 Try.underlying22 hi0 hz0 hz1 hz2 rfl (by omega) _ [] rfl (OwnS.nil _ _ _ _ _) (fun _ _ _ _ _ h => h) (fun _ vs x hx => by rcases hx with ⟨rfl, _⟩; simp [Value.oneCell']) A c l rfl h hc (by unfold maxLen; simp; omega) (by simp; omega) (Nat.le_refl _) ?_)
      intro v' w1 hown hg _
      have hb1 : Below w.heap.size w w1 := (Below.refl _ _).grown hg (Nat.le_refl _) (fun k hk => by cases hk)
      obtain ⟨B, d, rfl, hi1, hz1'⟩ := hown.sls (by omega)
      have h1 := h.below pairR_keeps hb1
      clear hown hg
      go_wp2_with fail
      refine (infoGet_any s at_ w1 hs).mono ?_
      have hrg := fun W => refInfoGet_any s at_ W hs
      generalize infoGetS s.data.toList at_ = r at *
      obtain ⟨rl, re⟩ := r
      rintro e w2 ⟨A2, c2, rfl, hi2, hb2, hz2'⟩
      dsimp only at hi2 hz2' ⊢
      go_wp2_with fail
      refine (hrg w2).mono ?_
      rintro e w3 ⟨A3, c3, rfl, hi3, hb3, hz3'⟩
      dsimp only at hi3 hz3' ⊢
      clear hrg
      have H3 : Below w1.heap.size w1 w3 := hb2.trans (hb3.mono hb2.size)
      have h3 := h1.below pairR_keeps H3
      have o3 := hi1.below pairR_keeps H3
      go_wp2_with fail
      refine (infoPut_any A c l w3 h3 (by omega)).mono ?_
      have hrp := fun W (hW : Prs W B l) => refInfoPut_any B d l W hW (by omega)
      generalize infoPutS l = p at *
      obtain ⟨pl, pe⟩ := p
      rintro e w4 ⟨rfl, hb4⟩
      dsimp only
      have h4 := h3.below pairR_keeps hb4
      have o4 := o3.below pairR_keeps hb4
      go_wp2_with fail
      refine (hrp w4 o4).mono ?_
      rintro e w5 ⟨rfl, hb5⟩
      dsimp only
      clear hrp
      have h5' := h4.below pairR_keeps hb5
      have o5 := o4.below pairR_keeps hb5
      go_wp2_with fail
      refine (infoFind_any A c l g w5 h5' (by omega)).mono ?_
      have hrf := fun W (hW : Prs W B l) => refInfoFind_any B d l g W hW (by omega)
      generalize infoFindS l g = f at *
      obtain ⟨fl, fe⟩ := f
      rintro e w6 ⟨rfl, hb6⟩
      dsimp only
      have h6' := h5'.below pairR_keeps hb6
      have o6 := o5.below pairR_keeps hb6
      go_wp2_with fail
      refine (hrf w6 o6).mono ?_
      rintro e w7 ⟨rfl, hb7⟩
      dsimp only
      clear hrf
      go_wp2_with fail
      refine (valued_any w7).mono ?_
      rintro e w8 ⟨rfl, hb8⟩
      have H68 : Below w6.heap.size w6 w8 := hb7.trans (hb8.mono hb7.size)
      have h8 := h6'.below pairR_keeps H68
      have o8 := o6.below pairR_keeps H68
      have H36 : Below w3.heap.size w3 w6 := (hb4.trans (hb5.mono hb4.size)).trans (hb6.mono (Nat.le_trans hb4.size hb5.size))
      have H38 : Below w3.heap.size w3 w8 := H36.trans (H68.mono H36.size)
      have hie := pairsSame_any A2 A3 c2 c3 rl rl w8 ((hi2.below pairR_keeps hb3).below pairR_keeps H38) (hi3.below pairR_keeps H38)
      simp only [decide_true] at hie
      go_wp2_with fail
      refine hie.mono ?_
      rintro e w9 ⟨rfl, hb9⟩
      have h9 := h8.below pairR_keeps hb9
      have o9 := o8.below pairR_keeps hb9
      go_wp2_with fail
      refine (infoIs_any A c l w9 h9 (by omega)).mono ?_
      rintro e w10 ⟨rfl, hb10⟩
      have h10 := h9.below pairR_keeps hb10
      have o10 := o9.below pairR_keeps hb10
      go_wp2_with fail
      refine (refInfoIs_any B d l w10 o10 (by omega)).mono ?_
      rintro e w11 ⟨rfl, hb11⟩
      have h11 := h10.below pairR_keeps hb11
      have o11 := o10.below pairR_keeps hb11
      have hie2 := pairsSame_any A B c d l l w11 h11 o11
      simp only [decide_true] at hie2
      go_wp2_with fail
      refine hie2.mono ?_
      rintro e w12 ⟨rfl, hb12⟩
      go_wp2
      go_ret
      have H18 : Below w1.heap.size w1 w8 := H3.trans (H38.mono H3.size)
      have H19 : Below w1.heap.size w1 w9 := H18.trans (hb9.mono H18.size)
      have H110 : Below w1.heap.size w1 w10 := H19.trans (hb10.mono H19.size)
      have H111 : Below w1.heap.size w1 w11 := H110.trans (hb11.mono H110.size)
      have H112 : Below w1.heap.size w1 w12 := H111.trans (hb12.mono H111.size)
      exact ⟨rfl, hb1.trans (H112.mono hb1.size)⟩
    · have h5i : (300 : Int) < (l.length : Int) := by omega
      go_wp2
      go_ret
      exact ⟨rfl, Below.refl _ _⟩

end Go.Proofs.Ytigljfmbelaobaa
