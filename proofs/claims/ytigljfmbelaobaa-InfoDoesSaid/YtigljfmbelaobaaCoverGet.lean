/- Layer 12 (cover): Get. -/
import Derived.Test.YtigljfmbelaobaaWordsS
import Derived.Test.YtigljfmbelaobaaRanges
import Derived.Test.YtigljfmbelaobaaIs
import Derived.Test.YtigljfmbelaobaaMul
namespace Go.Proofs.Ytigljfmbelaobaa
open Go.RowKit

theorem rangesS_no (l : List Int) (q : Nat) (h : (rangesS l q).2 ≠ 0) : (rangesS l q).1 = [] := by
  unfold rangesS at *
  split at h
  · rfl
  · exact absurd rfl h

/-- What is read behind the head, and how it ends. -/
def bodyS (s : List UInt8) (at_ : Int) (f n : Int) : List Int × Int :=
  if f = 1 then wordsS s (at_ + 4) n.toNat else if f = 2 then (if (wordsS s (at_ + 4) (3 * n.toNat)).2 = 0 then rangesS (wordsS s (at_ + 4) (3 * n.toNat)).1 n.toNat else wordsS s (at_ + 4) (3 * n.toNat)) else ([], 5)
/-- Glyphs that are covered. -/
def coverGetS (s : List UInt8) (at_ : Int) : List Int × Int :=
  if (wordsS s at_ 2).2 ≠ 0 then ([], (wordsS s at_ 2).2) else
  if (bodyS s at_ (wordAt s at_.toNat) (wordAt s (at_.toNat + 2))).2 ≠ 0 then ([], (bodyS s at_ (wordAt s at_.toNat) (wordAt s (at_.toNat + 2))).2) else
  if isS (bodyS s at_ (wordAt s at_.toNat) (wordAt s (at_.toNat + 2))).1 = true then ((bodyS s at_ (wordAt s at_.toNat) (wordAt s (at_.toNat + 2))).1, 0) else ([], 5)

set_option maxHeartbeats 2000000 in
theorem coverGet_any (s : ByteArray) (at_ : Int) (w : World) (hs : s.size ≤ 140737488355328) :
    Calls Try.prog 17 #[.string s, .int .i64 at_] w (RetInts w (coverGetS s.data.toList at_)) := by
  have hsl : s.data.toList.length = s.size := by simp
  go_enter Try.func17, Try.ntmps17
  go_wp2_with fail
  refine (words_any' s at_ 2 w hs (by omega)).mono ?_
  rintro e w1 ⟨A1, c1, rfl, hi1, hb1, hz1⟩
  by_cases h2 : (wordsS s.data.toList at_ 2).2 = 0
  · obtain ⟨h0, h3, hw⟩ := wordsS_ok h2
    have hcg : coverGetS s.data.toList at_ = (if (bodyS s.data.toList at_ (wordAt s.data.toList at_.toNat) (wordAt s.data.toList (at_.toNat + 2))).2 ≠ 0 then ([], (bodyS s.data.toList at_ (wordAt s.data.toList at_.toNat) (wordAt s.data.toList (at_.toNat + 2))).2) else
      if isS (bodyS s.data.toList at_ (wordAt s.data.toList at_.toNat) (wordAt s.data.toList (at_.toNat + 2))).1 = true then ((bodyS s.data.toList at_ (wordAt s.data.toList at_.toNat) (wordAt s.data.toList (at_.toNat + 2))).1, 0) else ([], 5)) := by
      unfold coverGetS
      rw [if_neg (by rw [h2]; simp)]
    rw [hw] at hi1 ⊢
    clear h2 hw
    simp only [wordsAt_length]
    have g0 := hi1.cells 0 (by rw [wordsAt_length]; omega)
    have g1 := hi1.cells 1 (by rw [wordsAt_length]; omega)
    rw [wordsAt_nth _ _ _ _ (by omega)] at g0 g1
    simp only [Nat.mul_zero, Nat.add_zero, Nat.mul_one] at g0 g1
    obtain ⟨b, off, rfl, g0⟩ := g0
    obtain ⟨_, _, e, g1⟩ := g1
    cases e
    have r0 := wordAt_range s.data.toList at_.toNat
    have r1 := wordAt_range s.data.toList (at_.toNat + 2)
    generalize wordAt s.data.toList at_.toNat = f at *
    generalize hn : wordAt s.data.toList (at_.toNat + 2) = n at *
    clear hn
    obtain ⟨m, rfl⟩ : ∃ m : Nat, n = (m : Int) := ⟨n.toNat, by omega⟩
    have HCG := Lib.hid hcg
    clear hcg
    by_cases hf1 : f = 1
    · subst hf1
      go_wp2_with fail
      refine (words_any' s (at_ + 4) m w1 hs (by omega)).mono ?_
      rintro e w2 ⟨A2, c2, rfl, hi2, hb2, hz2⟩
      have HBO := Lib.hid (show bodyS s.data.toList at_ 1 (m : Int) = wordsS s.data.toList (at_ + 4) m by simp [bodyS])
      by_cases he : (wordsS s.data.toList (at_ + 4) m).2 = 0
      · rw [(wordsS_ok he).2.2] at hi2 hz2 ⊢
        have HB := Lib.hid (show bodyS s.data.toList at_ 1 (m : Int) = ((wordsAt s.data.toList (at_ + 4).toNat m), 0) by rw [HBO.out]; exact (wordsS_ok he).2.2)
        go_wp2_with fail
        refine (is_any A2 c2 (wordsAt s.data.toList (at_ + 4).toNat m) w2 hi2).mono ?_
        rintro e w9 ⟨rfl, rfl⟩
        cases his : isS (wordsAt s.data.toList (at_ + 4).toNat m)
        · have HIS := Lib.hid his
          go_wp2
          go_ret2
          rw [HCG.out, HB.out, if_neg (by simp), if_neg (by rw [HIS.out]; simp)]
          exact ⟨none, 0, rfl, Ints.nil _, hb1.trans (hb2.mono hb1.size), Cap.nil⟩
        · have HIS := Lib.hid his
          go_wp2
          go_ret2
          rw [HCG.out, HB.out, if_neg (by simp), if_pos HIS.out]
          exact ⟨A2, c2, rfl, hi2, hb1.trans (hb2.mono hb1.size), hz2⟩
      · have HA := Lib.hid (wordsS_no he)
        generalize wordsS s.data.toList (at_ + 4) m = r at *
        obtain ⟨rl, re⟩ := r
        dsimp only at *
        have hl : rl = [] := HA.out
        subst hl
        have HE := Lib.hid he
        go_wp2
        go_ret2
        rw [HCG.out, HBO.out, if_pos (by simpa using HE.out)]
        exact ⟨none, 0, rfl, Ints.nil _, hb1.trans (hb2.mono hb1.size), Cap.nil⟩
    · by_cases hf2 : f = 2
      · subst hf2
        go_wp2_with fail
        refine (words_any' s (at_ + 4) (3 * m) w1 hs (by omega)).mono ?_
        rintro e w2 ⟨A2, c2, rfl, hi2, hb2, hz2⟩
        have HBO := Lib.hid (show bodyS s.data.toList at_ 2 (m : Int) = if (wordsS s.data.toList (at_ + 4) (3 * m)).2 = 0 then rangesS (wordsS s.data.toList (at_ + 4) (3 * m)).1 m else wordsS s.data.toList (at_ + 4) (3 * m) by simp [bodyS])
        by_cases he : (wordsS s.data.toList (at_ + 4) (3 * m)).2 = 0
        · rw [(wordsS_ok he).2.2] at hi2 hz2 HBO ⊢
          have hr2 := wordsAt_range s.data.toList (at_ + 4).toNat (3 * m)
          have HL2 := Lib.hid (wordsAt_length s.data.toList (at_ + 4).toNat (3 * m))
          have HBO2 := Lib.hid (HBO.out.trans (if_pos rfl))
          clear HBO
          dsimp only at hi2 hz2 HBO2 ⊢
          have HZC := Lib.hid hz2
          generalize wordsAt s.data.toList (at_ + 4).toNat (3 * m) = ws at *
          go_wp2_with fail
          refine (ranges_any A2 c2 m ws w2 hi2 (by rw [HL2.out]; omega) (by omega) HZC.out.2 hr2).mono ?_
          rintro e w3 ⟨A3, c3, rfl, hi3, hb3, hz3⟩
          have HNO := Lib.hid (rangesS_no ws m)
          generalize rangesS ws m = rr at *
          obtain ⟨rs, re⟩ := rr
          dsimp only at *
          by_cases he3 : re = 0
          · subst he3
            have HB := Lib.hid (show bodyS s.data.toList at_ 2 (m : Int) = (rs, 0) by rw [HBO2.out])
            go_wp2_with fail
            refine (is_any A3 c3 rs w3 hi3).mono ?_
            rintro e w9 ⟨rfl, rfl⟩
            cases his : isS rs
            · have HIS := Lib.hid his
              go_wp2
              go_ret2
              rw [HCG.out, HB.out, if_neg (by simp), if_neg (by rw [HIS.out]; simp)]
              exact ⟨none, 0, rfl, Ints.nil _, (hb1.trans (hb2.mono hb1.size)).trans (hb3.mono (Nat.le_trans hb1.size hb2.size)), Cap.nil⟩
            · have HIS := Lib.hid his
              go_wp2
              go_ret2
              rw [HCG.out, HB.out, if_neg (by simp), if_pos HIS.out]
              exact ⟨A3, c3, rfl, hi3, (hb1.trans (hb2.mono hb1.size)).trans (hb3.mono (Nat.le_trans hb1.size hb2.size)), hz3⟩
          · have hl : rs = [] := HNO.out he3
            subst hl
            have HE := Lib.hid he3
            go_wp2
            go_ret2
            rw [HCG.out, HBO2.out, if_pos (by simpa using HE.out)]
            exact ⟨none, 0, rfl, Ints.nil _, (hb1.trans (hb2.mono hb1.size)).trans (hb3.mono (Nat.le_trans hb1.size hb2.size)), Cap.nil⟩
        · have HA := Lib.hid (wordsS_no he)
          have HBO2 := Lib.hid (HBO.out.trans (if_neg he))
          clear HBO
          generalize wordsS s.data.toList (at_ + 4) (3 * m) = r at *
          obtain ⟨rl, re⟩ := r
          dsimp only at *
          have hl : rl = [] := HA.out
          subst hl
          have HE := Lib.hid he
          go_wp2
          go_ret2
          rw [HCG.out, HBO2.out, if_pos (by simpa using HE.out)]
          exact ⟨none, 0, rfl, Ints.nil _, hb1.trans (hb2.mono hb1.size), Cap.nil⟩
      · have HF1 := Lib.hid hf1
        have HF2 := Lib.hid hf2
        have hfa : (f == 1) = false := by simpa using hf1
        have hfb : (f == 2) = false := by simpa using hf2
        go_wp2
        go_ret2
        rw [HCG.out]
        unfold bodyS
        rw [if_neg HF1.out, if_neg HF2.out, if_pos (by simp)]
        exact ⟨none, 0, rfl, Ints.nil _, hb1, Cap.nil⟩
  · have HA := Lib.hid (wordsS_no h2)
    have HCG := Lib.hid (show coverGetS s.data.toList at_ = ([], (wordsS s.data.toList at_ 2).2) by unfold coverGetS; rw [if_pos h2])
    generalize wordsS s.data.toList at_ 2 = r at *
    obtain ⟨rl, re⟩ := r
    dsimp only at *
    have hl : rl = [] := HA.out
    subst hl
    go_wp2
    go_ret2
    rw [HCG.out]
    exact ⟨none, 0, rfl, Ints.nil _, hb1, Cap.nil⟩

end Go.Proofs.Ytigljfmbelaobaa
