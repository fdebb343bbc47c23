/- The law InfoOnly: what its function comes to. -/
import Derived.Test.YtigljfmbelaobaaValued
namespace Go.Proofs.Ytigljfmbelaobaa
open Go.RowKit

set_option maxRecDepth 100000 in
set_option maxHeartbeats 4000000 in
theorem infoOnly_any (s : ByteArray) (at_ : Int) (w : World) (hs : s.size ≤ 140737488355328) :
    Calls Try.prog 5 #[.string s, .int .i64 at_] w fun e w' => e = .returned (.bool true) ∧ Below w.heap.size w w' := by
  have hsl : s.data.toList.length = s.size := by simp
  have hnp := neq_pair
  go_enter Try.func5, Try.ntmps5
  by_cases h6 : s.size > 600
  · have h6i : (600 : Int) < (s.size : Int) := by omega
    go_wp2
    go_ret
    exact ⟨rfl, Below.refl _ _⟩
  · have h6i : ¬ (600 : Int) < (s.size : Int) := by omega
    have hg := infoGet_any s at_ w hs
    have hno := @infoGet_no s.data.toList at_
    have hon := @info_only s.data.toList at_
    generalize infoGetS s.data.toList at_ = r at *
    obtain ⟨l, e⟩ := r
    by_cases he : e = 0
    · subst he
      obtain ⟨hIs, h0, hroom, hn, hcg, hval⟩ := hon rfl
      obtain ⟨m, rfl⟩ := Int.eq_ofNat_of_zero_le h0
      rw [Int.toNat_natCast] at hn hcg hval
      rw [hsl] at hroom
      obtain ⟨off, ho⟩ : ∃ off : Nat, wordAt s.data.toList m = (off : Int) := ⟨(wordAt s.data.toList m).toNat, by have := wordAt_range s.data.toList m; omega⟩
      have ho2 : off ≤ 65535 := by have := wordAt_range s.data.toList m; omega
      have hn1 := numsS_in (s := s.data.toList) (m := m) (ns := [2, 2]) (by rw [hsl]; simp; omega)
      have h2l : numsAt [2, 2] s.data.toList m = [(off : Int), (l.length : Int)] := by
        simp only [numsAt, numAt_pos, ho, hn]
      rw [h2l] at hn1
      rw [ho] at hcg
      have hm : m ≤ 600 := by omega
      have hll : l.length ≤ 600 := by omega
      have HIS := Lib.hid hIs
      have HN1 := Lib.hid hn1
      have HCG := Lib.hid hcg
      have HV1 := Lib.hid (fun i (hi : i < l.length) => show numsS s.data.toList ((m + 4 + 4 * i : Nat) : Int) [-2] = ([l[i].2], 0) by
        rw [numsS_in (by rw [hsl]; simp; omega)]
        simp only [numsAt, numAt_neg, hval i hi])
      have HFS := Lib.hid (fsts_length l)
      have HFN := Lib.hid (fun i (hi : i < l.length) => show nth (fsts l) i = l[i].1 by
        rw [nth_eq _ _ (by rw [fsts_length]; exact hi)]
        simp [fsts])
      clear hIs hn hcg hval ho hn1 h2l hno hon h0 hsl
      go_wp2_with fail
      refine hg.mono ?_
      rintro e w1 ⟨A1, c1, rfl, hi1, hb1, hc1⟩
      dsimp only at hi1 hc1 ⊢
      clear hg
      go_wp2_with fail
      have hg1 := nums_any s (m : Int) (some ⟨w1.heap.size, 0, none⟩) 2 [2, 2] (w1.alloc (.cells #[.int .i64 2, .int .i64 2] 3)) (ints_pair_at w1 3 2 2 (by unfold I64; omega) (by unfold I64; omega) _ rfl) hs (by simp) (by simp)
      rw [HN1.out] at hg1
      refine hg1.mono ?_
      rintro e w2 ⟨A2, c2, rfl, hi2, hb2, hc2⟩
      dsimp only at hi2 ⊢
      have hb2' : Below w1.heap.size w1 w2 := (by (repeat (first | exact Below.refl _ _ | assumption | (refine Below.alloc ?_ (by first | omega | (simp; done) | (simp; omega)) _) | (refine Below.setCell ?_ (by first | omega | (simp; done) | (simp; omega)) _) | (refine Below.drew ?_))) : Below w1.heap.size w1 _).trans (hb2.mono (by simp))
      have hi1b := hi1.below pairR_keeps hb2'
      obtain ⟨b2, o2, e2, k0⟩ := hi2.cells 0 (by simp)
      obtain ⟨_, _, e3, k1⟩ := hi2.cells 1 (by simp)
      cases e2
      cases e3
      simp only [Nat.add_zero] at k0
      have k0' : w2.cell? ⟨b2, o2, none⟩ = some (.int .i64 (off : Int)) := k0
      have k1' : w2.cell? ⟨b2, o2 + 1, none⟩ = some (.int .i64 (l.length : Int)) := k1
      clear hg1 hb2 k0 k1
      have his := infoIs_any A1 c1 l w2 hi1b (by omega)
      rw [HIS.out] at his
      go_wp2_with fail
      refine his.mono ?_
      rintro e w3 ⟨rfl, hb3⟩
      have k0'' := (hb3.cell (p := ⟨b2, o2, none⟩) (World.block_lt_of_cell? w2 _ k0')).trans k0'
      clear his
      have hcg1 := coverGet_any s ((m : Int) + (off : Int)) w3 hs
      rw [HCG.out] at hcg1
      go_wp2_with fail
      refine hcg1.mono ?_
      rintro e w4 ⟨A4, c4, rfl, hi4, hb4, hc4⟩
      dsimp only at hi4 hc4 ⊢
      rw [HFS.out]
      have hi1c := (hi1b.below pairR_keeps hb3).below pairR_keeps hb4
      have H4 : Below w.heap.size w w4 := ((hb1.trans (hb2'.mono hb1.size)).trans (hb3.mono (Nat.le_trans hb1.size hb2'.size))).trans (hb4.mono (Nat.le_trans (Nat.le_trans hb1.size hb2'.size) hb3.size))
      clear hcg1 k0' k1' k0'' hi1 hi1b hi2 hb1 hb2' hb3 hb4
      go_wp2_with fail
      go_loopw [11, 12, 13] (fun i _ _ wr => ∃ k : Nat, k ≤ l.length ∧ i = .int .i64 (k : Int) ∧ Below w4.heap.size w4 wr) (fun i _ _ _ => l.length - (intOf i).toNat)
      case atStart => exact ⟨0, Nat.zero_le _, rfl, Below.refl _ _⟩
      case round =>
        obtain ⟨k, hk, rfl, hbw⟩ := hrel
        have hsz := hbw.size
        by_cases hlt : k < l.length
        · obtain ⟨b, o, rfl, g0, g1, _, hx1⟩ := Prs.at_ hi1c k hlt
          obtain ⟨b4, o4, rfl, g4⟩ := hi4.cells k (by rw [HFS.out]; exact hlt)
          have HV := Lib.hid (HV1.out k hlt)
          rw [HFN.out k hlt] at g4
          generalize l[k] = x at *
          obtain ⟨x0, x1⟩ := x
          dsimp only at *
          go_wp2_with fail
          have hg5 := nums_any s ((m + 4 + 4 * k : Nat) : Int) (some ⟨wr.heap.size, 0, none⟩) 1 [-2] (wr.alloc (.cells #[.int .i64 (-2)] 3)) (ints_cell wr 3 (-2) (by unfold I64; omega)) hs (by simp) (by simp)
          rw [HV.out] at hg5
          rw [show ((m + 4 + 4 * k : Nat) : Int) = (m : Int) + 4 + 4 * (k : Int) by omega] at hg5
          refine hg5.mono ?_
          rintro e w5 ⟨A5, c5, rfl, hi5, hb5, hc5⟩
          dsimp only at hi5 ⊢
          have hb5' : Below w4.heap.size w4 w5 := hbw.trans (((by (repeat (first | exact Below.refl _ _ | assumption | (refine Below.alloc ?_ (by first | omega | (simp; done) | (simp; omega)) _) | (refine Below.setCell ?_ (by first | omega | (simp; done) | (simp; omega)) _) | (refine Below.drew ?_))) : Below wr.heap.size wr _).trans (hb5.mono (by simp))).mono hsz)
          obtain ⟨b5, o5, rfl, g5⟩ := hi5.cells 0 (by simp)
          have d0 := (hb5'.cell (p := ⟨b, o + k * 2, none⟩) (World.block_lt_of_cell? w4 _ g0)).trans g0
          have d1 := (hb5'.cell (p := ⟨b, o + k * 2 + 1, none⟩) (World.block_lt_of_cell? w4 _ g1)).trans g1
          have d4 := (hb5'.cell (p := ⟨b4, o4 + k, none⟩) (World.block_lt_of_cell? w4 _ g4)).trans g4
          have d5 : w5.cell? ⟨b5, o5, none⟩ = some (.int .i64 x1) := g5
          clear hg5 hi5 g5 g0 g1 g4
          go_wp2
          refine region_quiet (fun W => W.cell? ⟨b, o + k * 2, none⟩ = some (.int .i64 x0) ∧ W.cell? ⟨b, o + k * 2 + 1, none⟩ = some (.int .i64 x1) ∧ W.cell? ⟨b4, o4 + k, none⟩ = some (.int .i64 x0) ∧ W.cell? ⟨b5, o5, none⟩ = some (.int .i64 x1) ∧ Below w4.heap.size w4 W) (by kernel_rfl) (by kernel_rfl) ⟨d0, d1, d4, d5, hb5'.drew⟩ ?_
          repeat (first | (refine quiet_skip (by rfl) ?_) | (refine quiet_op (by rfl) ?_; apply Exists.intro; refine ⟨fun W hC => ?_, ?_⟩; (· (obtain ⟨hC0, hC1, hC2, hC3, hC4⟩ := hC; go_simp; try first | rfl | (rw [if_neg (by omega)]; first | done | rfl) | (rw [if_pos (by omega)]; first | done | rfl))))); (try simp only [put_lit, List.set])
          refine wpQuiet_nil ?_
          rintro w6 ⟨-, -, -, -, hb6⟩
          go_wp2
          go_roundw
          case rel => exact ⟨k + 1, by omega, by go_num, hb6⟩
          case measure => simp [intOf]; omega
        · have hkn : ¬ (k : Int) < (l.length : Int) := by omega
          go_wp2_with fail
          refine (valued_any wr).mono ?_
          rintro e w5 ⟨rfl, hb5⟩
          go_wp2
          go_ret
          have H5 := H4.trans (hbw.mono H4.size)
          exact ⟨rfl, H5.trans (hb5.mono H5.size)⟩
    · have HE := Lib.hid he
      have hl : l = [] := hno he
      have hne : (e != 0) = true := by rw [bne_iff_ne]; exact he
      subst hl
      clear hno hon he
      go_wp2_with fail
      refine hg.mono ?_
      rintro e w1 ⟨A1, c1, rfl, hi1, hb1, hc1⟩
      dsimp only
      go_wp2_with fail
      refine (valued_any w1).mono ?_
      rintro e w2 ⟨rfl, hb2⟩
      go_wp2
      go_ret
      exact ⟨rfl, hb1.trans (hb2.mono hb1.size)⟩

end Go.Proofs.Ytigljfmbelaobaa
