/- The law CoverOnly: what its function comes to. -/
import Derived.Test.YtdbjnmdpbnomcaaPlainOnly
import Derived.Test.YtdbjnmdpbnomcaaFindsW
namespace Go.Proofs.Ytdbjnmdpbnomcaa
open Go.RowKit

set_option maxHeartbeats 4000000 in
theorem only_any (s : ByteArray) (at_ : Int) (w : World) (hs : s.size ≤ 140737488355328) :
    Calls Try.prog 5 #[.string s, .int .i64 at_] w fun e w' => e = .returned (.bool true) ∧ Below w.heap.size w w' := by
  go_enter Try.func5, Try.ntmps5
  have hsl : s.data.toList.length = s.size := by simp
  by_cases h6 : s.size > 600
  · have h6i : (600 : Int) < (s.size : Int) := by omega
    go_wp2
    go_ret
    exact ⟨rfl, Below.refl _ _⟩
  · have h6i : ¬ (600 : Int) < (s.size : Int) := by omega
    have hg := coverGet_any s at_ w hs
    have hno := @coverGet_no s.data.toList at_
    have hon := @cover_only s.data.toList at_
    generalize coverGetS s.data.toList at_ = r at *
    obtain ⟨l, e⟩ := r
    by_cases he : e = 0
    · subst he
      obtain ⟨hS, h0, hroom⟩ := hon rfl
      rw [hsl] at hroom
      have hwl := wordBytes_length (coverRow l)
      have HS := Lib.hid hS
      by_cases h5 : l.length > 5000
      · have h5i : (5000 : Int) < (l.length : Int) := by omega
        clear hS hno hon hroom hwl
        go_wp2_with fail
        refine hg.mono ?_
        rintro e w1 ⟨A1, c1, rfl, hi1, hb1, hz1⟩
        dsimp only at hi1 hz1 ⊢
        go_wp2_with fail
        refine (covered_any w1).mono ?_
        rintro e w2 ⟨rfl, hb2⟩
        have his := is_any A1 c1 l w2 (hi1.below hb2)
        rw [HS.out] at his
        go_wp2_with fail
        refine his.mono ?_
        rintro e w3 ⟨rfl, rfl⟩
        go_wp2
        go_ret
        exact ⟨rfl, hb1.trans (hb2.mono hb1.size)⟩
      · have h5i : ¬ (5000 : Int) < (l.length : Int) := by omega
        have hcb := cover_back hS (by omega) [] []
        have hpt := coverPut_ok hS (by omega)
        simp only [List.nil_append, List.append_nil, List.length_nil] at hcb
        clear hS hno hon
        generalize wordBytes (coverRow l) = wb at *
        obtain ⟨ts, hts, htl, htn⟩ : ∃ ts : ByteArray, ts = ⟨wb.toArray⟩ ∧ ts.data.toList = wb ∧ ts.size = wb.length := ⟨_, rfl, by simp, by simp [ByteArray.size]⟩
        have hwb : (ts.size : Int) ≤ (s.size : Int) - at_ := by omega
        have hwbs : ts.size ≤ 1000 := by omega
        have HTS := Lib.hid hts
        have HTL := Lib.hid htl
        have HCB := Lib.hid hcb
        have HPT := Lib.hid hpt
        clear hts htl htn hwl hroom hcb hpt
        go_wp2_with fail
        refine hg.mono ?_
        rintro e w1 ⟨A1, c1, rfl, hi1, hb1, hz1⟩
        dsimp only at hi1 hz1 ⊢
        have hp := coverPut_any A1 c1 l w1 hi1 hz1.1 (by omega)
        rw [HPT.out] at hp
        have hp2 : Calls Try.prog 11 #[.slice A1 l.length c1] w1 fun e w' => e = .returned (.tuple #[.string ts, .int .i64 0]) ∧ Below w1.heap.size w1 w' := hp.mono (by
          rintro e w' ⟨he, hb⟩
          rw [HTS.out]
          exact ⟨he, hb⟩)
        clear hp
        go_wp2_with fail
        refine hp2.mono ?_
        rintro e w2 ⟨rfl, hb2⟩
        have hg2 := coverGet_any ts 0 w2 (by omega)
        rw [HTL.out] at hg2
        have HCB2 : coverGetS wb 0 = (l, 0) := HCB.out
        rw [HCB2] at hg2
        clear HCB2
        go_wp2_with fail
        refine hg2.mono ?_
        rintro e w3 ⟨A3, c3, rfl, hi3, hb3, hz3⟩
        dsimp only at hi3 hz3 ⊢
        go_wp2_with fail
        refine (covered_any w3).mono ?_
        rintro e w4 ⟨rfl, hb4⟩
        have hi1' := ((hi1.below hb2).below hb3).below hb4
        have his := is_any A1 c1 l w4 hi1'
        rw [HS.out] at his
        go_wp2_with fail
        refine his.mono ?_
        rintro e w5 ⟨rfl, rfl⟩
        have hie := intsEq_any A1 A3 c1 c3 l l w4 hi1' (hi3.below hb4)
        go_wp2_with fail
        refine hie.mono ?_
        rintro e w6 ⟨rfl, hb6⟩
        simp only [decide_true]
        go_wp2
        go_ret
        exact ⟨rfl, (((hb1.trans (hb2.mono hb1.size)).trans (hb3.mono (Nat.le_trans hb1.size hb2.size))).trans (hb4.mono (Nat.le_trans (Nat.le_trans hb1.size hb2.size) hb3.size))).trans (hb6.mono (Nat.le_trans (Nat.le_trans (Nat.le_trans hb1.size hb2.size) hb3.size) hb4.size))⟩
    · have HE := Lib.hid he
      have hl : l = [] := hno he
      subst hl
      clear hno hon
      go_wp2_with fail
      refine hg.mono ?_
      rintro e w1 ⟨A1, c1, rfl, hi1, hb1, hz1⟩
      dsimp only
      go_wp2_with fail
      refine (covered_any w1).mono ?_
      rintro e w2 ⟨rfl, hb2⟩
      go_wp2
      go_ret
      exact ⟨rfl, hb1.trans (hb2.mono hb1.size)⟩

end Go.Proofs.Ytdbjnmdpbnomcaa
