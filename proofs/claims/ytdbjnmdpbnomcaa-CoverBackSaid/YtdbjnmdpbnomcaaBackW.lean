/- The law CoverBack: what its function comes to. -/
import Derived.Test.YtdbjnmdpbnomcaaPlainPut
import Derived.Test.YtdbjnmdpbnomcaaFindsW
namespace Go.Proofs.Ytdbjnmdpbnomcaa
open Go.RowKit

theorem coverPut_no {l : List Int} (h : isS l = false) : coverPutS l = ([], 1) := by
  unfold coverPutS
  rw [if_neg (by rw [h]; simp)]

set_option maxHeartbeats 4000000 in
theorem back_any (A : Option Addr) (c : Nat) (l : List Int) (fs bs : ByteArray) (w : World) (h : Ints w A l) (hc : A = none → c = 0) (hf : fs.size ≤ 140737488355328) (hb : bs.size ≤ 140737488355328) :
    Calls Try.prog 4 #[.slice A l.length c, .string fs, .string bs] w fun e w' => e = .returned (.bool true) ∧ Below w.heap.size w w' := by
  have hlen := h.len
  have hsh := short_any A l.length c w hlen
  go_enter Try.func4, Try.ntmps4
  by_cases h5 : l.length ≤ 500
  · have hd : decide (l.length ≤ 500) = true := by simpa using h5
    rw [hd] at hsh
    by_cases h6 : fs.size + bs.size > 500
    · have h6i : (500 : Int) < (fs.size : Int) + (bs.size : Int) := by omega
      go_wp2_with (go_at_call 7; refine hsh.mono ?_; rintro e w' ⟨rfl, rfl⟩)
      go_ret
      exact ⟨rfl, Below.refl _ _⟩
    · have h6i : ¬ (500 : Int) < (fs.size : Int) + (bs.size : Int) := by omega
      have hpu := coverPut_any A c l w h hc (by omega)
      cases hs : isS l
      · rw [coverPut_no hs] at hpu
        have HS := Lib.hid hs
        clear hs hd
        go_wp2_with (first
          | (go_at_call 7; refine hsh.mono ?_; rintro e w' ⟨rfl, rfl⟩)
          | (go_at_call 11; refine hpu.mono ?_; rintro e w1 ⟨rfl, hb1⟩)
          | (go_at_call 15; refine (covered_any w1).mono ?_; rintro e w2 ⟨rfl, hb2⟩)
          | (go_at_call 17; have hi2 := is_any A c l w2 ((h.below hb1).below hb2); rw [HS.out] at hi2; refine hi2.mono ?_; rintro e w' ⟨rfl, rfl⟩))
        go_ret
        exact ⟨rfl, hb1.trans (hb2.mono hb1.size)⟩
      · rw [coverPut_ok hs (by omega)] at hpu
        have HS := Lib.hid hs
        have HCB := Lib.hid (cover_back hs (by omega) fs.data.toList bs.data.toList)
        have hwl := wordBytes_length (coverRow l)
        have hcr := coverRow_length l
        clear hs hd
        generalize wordBytes (coverRow l) = wb at *
        obtain ⟨ts, hts, htl, htn⟩ : ∃ ts : ByteArray, ts = ⟨wb.toArray⟩ ∧ ts.data.toList = wb ∧ ts.size = wb.length := ⟨_, rfl, by simp, by simp [ByteArray.size]⟩
        have hpt : Calls Try.prog 11 #[.slice A l.length c] w fun e w' => e = .returned (.tuple #[.string ts, .int .i64 0]) ∧ Below w.heap.size w w' := hpu.mono (by
          rintro e w' ⟨he, hb⟩
          rw [hts]
          exact ⟨he, hb⟩)
        clear hpu
        have hts4 : ts.size ≤ 4 + 2 * l.length := by omega
        have hts4i : (ts.size : Int) ≤ 4 + 2 * (l.length : Int) := by omega
        have hcat : (fs ++ ts ++ bs).data.toList = fs.data.toList ++ wb ++ bs.data.toList := by rw [← htl]; simp
        have hsz1 : (fs ++ ts).size ≤ 1504 := by rw [ByteArray.size_append]; omega
        have hsz2 : (fs ++ ts ++ bs).size ≤ 2004 := by rw [ByteArray.size_append]; omega
        have hfl : (fs.data.toList.length : Int) = (fs.size : Int) := by simp
        rw [hfl, ← hcat] at HCB
        have HTN := Lib.hid htn
        clear hwl hcr hts htl htn hcat hfl
        go_wp2_with (first
          | (go_at_call 7; refine hsh.mono ?_; rintro e w' ⟨rfl, rfl⟩)
          | (go_at_call 11; refine hpt.mono ?_; rintro e w1 ⟨rfl, hb1⟩))
        have hg := coverGet_any (fs ++ ts ++ bs) (fs.size : Int) w1 (by omega)
        rw [HCB.out] at hg
        refine hg.mono ?_
        rintro e w2 ⟨A2, c2, rfl, hi2, hb2, hz2⟩
        dsimp only at hi2 hz2 ⊢
        have hw2 := (h.below hb1).below hb2
        have hf2 := fun k (hk : k < l.length) => show Calls Try.prog 13 #[.slice A l.length c, .int .i64 (nth l k)] w2 fun e w' => e = .returned (.tuple #[.int .i64 (k : Int), .bool true]) ∧ w2 = w' by
          have := find_any A c l (nth l k) w2 hw2
          rwa [findS_at HS.out hk] at this
        go_wp2_with fail
        go_loop [11, 12, 13] (fun i _ _ => ∃ k : Nat, k ≤ l.length ∧ i = .int .i64 (k : Int)) (fun i _ _ => l.length - (intOf i).toNat)
        case atStart => exact ⟨0, Nat.zero_le _, rfl⟩
        case round =>
          obtain ⟨k, hk, rfl⟩ := hrel
          by_cases hlt : k < l.length
          · obtain ⟨b, off, rfl, gk⟩ := hw2.cells k hlt
            have hfk := hf2 k hlt
            go_wp2_with (go_at_call 13; refine hfk.mono ?_; rintro e w' ⟨rfl, rfl⟩)
            go_roundw
            case rel => exact ⟨k + 1, by omega, by go_num⟩
            case measure => simp [intOf]; omega
          · have hkn : k = l.length := by omega
            clear hkn
            go_wp2_with (first
              | (go_at_call 15; refine (covered_any w2).mono ?_; rintro e w3 ⟨rfl, hb3⟩)
              | (go_at_call 16; have hie := intsEq_any A A2 c c2 l l w3 (hw2.below hb3) (hi2.below hb3); simp only [decide_true] at hie; refine hie.mono ?_; rintro e w4 ⟨rfl, hb4⟩))
            go_ret
            exact ⟨rfl, ((hb1.trans (hb2.mono hb1.size)).trans (hb3.mono (Nat.le_trans hb1.size hb2.size))).trans (hb4.mono (Nat.le_trans (Nat.le_trans hb1.size hb2.size) hb3.size))⟩
  · have hd : decide (l.length ≤ 500) = false := by simpa using h5
    rw [hd] at hsh
    go_wp2_with (first
        | (go_at_call 7; refine hsh.mono ?_; rintro e w' ⟨rfl, rfl⟩))
    go_ret
    exact ⟨rfl, Below.refl _ _⟩

end Go.Proofs.Ytdbjnmdpbnomcaa
