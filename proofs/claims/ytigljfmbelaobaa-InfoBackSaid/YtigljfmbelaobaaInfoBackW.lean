/- The law InfoBack: what its function comes to. -/
import Derived.Test.YtigljfmbelaobaaValued
namespace Go.Proofs.Ytigljfmbelaobaa
open Go.RowKit

theorem infoPut_no {l : List (Int × Int)} (h : infoIs l = false) : infoPutS l = ([], 1) := by
  unfold infoPutS
  rw [if_neg (by rw [h]; simp)]
theorem infoPut_ok {l : List (Int × Int)} (h : infoIs l = true) (hl : l.length ≤ 16382) : infoPutS l = (infoBytes l, 0) := by
  unfold infoPutS
  rw [if_pos h, if_neg (by omega)]
theorem infoBytes_length (l : List (Int × Int)) : (infoBytes l).length ≤ 8 + 6 * l.length := by
  unfold infoBytes
  have := coverRow_length (fsts l)
  rw [fsts_length] at this
  rw [List.length_append, wordBytes_length, wordBytes_length, infoRow_length]
  omega

set_option maxRecDepth 100000 in
set_option maxHeartbeats 4000000 in
theorem infoBack_any (A : Option Addr) (c : Nat) (l : List (Int × Int)) (fs bs : ByteArray) (w : World) (h : Prs w A l) (hf : fs.size ≤ 140737488355328) (hb : bs.size ≤ 140737488355328) :
    Calls Try.prog 4 #[.slice A l.length c, .string fs, .string bs] w fun e w' => e = .returned (.bool true) ∧ Below w.heap.size w w' := by
  have hlen := h.len
  go_enter Try.func4, Try.ntmps4
  by_cases h5 : l.length > 300
  · have h5i : (300 : Int) < (l.length : Int) := by omega
    go_wp2
    go_ret
    exact ⟨rfl, Below.refl _ _⟩
  · have h5i : ¬ (300 : Int) < (l.length : Int) := by omega
    by_cases h6 : fs.size + bs.size > 300
    · have h6i : (300 : Int) < (fs.size : Int) + (bs.size : Int) := by omega
      go_wp2
      go_ret
      exact ⟨rfl, Below.refl _ _⟩
    · have h6i : ¬ (300 : Int) < (fs.size : Int) + (bs.size : Int) := by omega
      have hpu := infoPut_any A c l w h (by omega)
      cases hs : infoIs l
      · rw [infoPut_no hs] at hpu
        have HS := Lib.hid hs
        clear hs
        go_wp2_with fail
        refine hpu.mono ?_
        rintro e w1 ⟨rfl, hb1⟩
        go_wp2_with fail
        refine (valued_any w1).mono ?_
        rintro e w2 ⟨rfl, hb2⟩
        have hi2 := infoIs_any A c l w2 ((h.below pairR_keeps hb1).below pairR_keeps hb2) (by omega)
        rw [HS.out] at hi2
        go_wp2_with fail
        refine hi2.mono ?_
        rintro e w3 ⟨rfl, hb3⟩
        go_wp2
        go_ret
        exact ⟨rfl, (hb1.trans (hb2.mono hb1.size)).trans (hb3.mono (Nat.le_trans hb1.size hb2.size))⟩
      · rw [infoPut_ok hs (by omega)] at hpu
        have HS := Lib.hid hs
        have HCB := Lib.hid (info_back hs (by omega) fs.data.toList bs.data.toList)
        have HFA := Lib.hid (fun k (hk : k < l.length) => infoFind_at hs hk)
        have hwl := infoBytes_length l
        clear hs
        generalize infoBytes l = wb at *
        have hpt : Calls Try.prog 8 #[.slice A l.length c] w fun e w' => e = .returned (.tuple #[.string (txt wb), .int .i64 0]) ∧ Below w.heap.size w w' := hpu
        clear hpu
        have htn : (txt wb).size ≤ 2000 := by rw [txt_size]; omega
        have hcat : (fs ++ txt wb ++ bs).data.toList = fs.data.toList ++ wb ++ bs.data.toList := by simp [txt_list]
        have hsz2 : (fs ++ txt wb ++ bs).size ≤ 3000 := by rw [ByteArray.size_append, ByteArray.size_append]; omega
        have hfl : (fs.data.toList.length : Int) = (fs.size : Int) := by simp
        rw [hfl, ← hcat] at HCB
        clear hwl hcat hfl
        generalize txt wb = ts at *
        go_wp2_with fail
        refine hpt.mono ?_
        rintro e w1 ⟨rfl, hb1⟩
        go_wp2_with fail
        have hg := infoGet_any (fs ++ ts ++ bs) (fs.size : Int) w1 (by omega)
        rw [HCB.out] at hg
        refine hg.mono ?_
        rintro e w2 ⟨A2, c2, rfl, hi2, hb2, hz2⟩
        dsimp only at hi2 hz2 ⊢
        have hb02 := hb1.trans (hb2.mono hb1.size)
        clear hg hpt
        go_wp2_with fail
        go_loopw [11, 12, 13] (fun i _ _ wr => ∃ k : Nat, k ≤ l.length ∧ i = .int .i64 (k : Int) ∧ Below w2.heap.size w2 wr) (fun i _ _ _ => l.length - (intOf i).toNat)
        case atStart => exact ⟨0, Nat.zero_le _, rfl, Below.refl _ _⟩
        case round =>
          obtain ⟨k, hk, rfl, hbw⟩ := hrel
          have hbw0 := hb02.trans (hbw.mono hb02.size)
          by_cases hlt : k < l.length
          · obtain ⟨b, off, rfl, g0, g1, _, _⟩ := h.at_ k hlt
            have c0 := (hbw0.cell (p := ⟨b, off + k * 2, none⟩) (World.block_lt_of_cell? w _ g0)).trans g0
            have hfk := infoFind_any A2 c2 l l[k].1 wr (hi2.below pairR_keeps hbw) (by omega)
            rw [HFA.out k hlt] at hfk
            generalize l[k] = x at *
            obtain ⟨x0, x1⟩ := x
            dsimp only at *
            go_wp2_with fail
            refine hfk.mono ?_
            rintro e w3 ⟨rfl, hb3⟩
            have hb3' := hbw0.trans (hb3.mono hbw0.size)
            have c1 := (hb3'.cell (p := ⟨b, off + k * 2 + 1, none⟩) (World.block_lt_of_cell? w _ g1)).trans g1
            have hb4 := hbw.trans (hb3.mono hbw.size)
            clear g0 g1 hfk c0
            go_wp2
            go_roundw
            case rel => exact ⟨k + 1, by omega, by go_num, hb4⟩
            case measure => simp [intOf]; omega
          · have hkn : k = l.length := by omega
            clear hkn
            go_wp2_with fail
            refine (valued_any wr).mono ?_
            rintro e w3 ⟨rfl, hb3⟩
            have hb3' := hbw0.trans (hb3.mono hbw0.size)
            have hsm := pairsSame_any A A2 c c2 l l w3 (h.below pairR_keeps hb3') ((hi2.below pairR_keeps hbw).below pairR_keeps hb3)
            simp only [decide_true] at hsm
            go_wp2_with fail
            refine hsm.mono ?_
            rintro e w4 ⟨rfl, hb4⟩
            go_wp2
            go_ret
            exact ⟨rfl, hb3'.trans (hb4.mono hb3'.size)⟩

end Go.Proofs.Ytigljfmbelaobaa
