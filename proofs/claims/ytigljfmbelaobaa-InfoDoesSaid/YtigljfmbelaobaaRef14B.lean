/- The document's layer 14: Put, Get. -/
import Derived.Test.YtigljfmbelaobaaRef14A
import Derived.Test.YtigljfmbelaobaaRefGet
namespace Go.Proofs.Ytigljfmbelaobaa
open Go.RowKit

theorem one_word (s : ByteArray) (p q : Nat) (w : World) (hq : q = p + 2) (h : p + 2 ≤ s.size) :
    Calls Try.prog 19 #[.string (s.extract p q), .int .i64 2] w fun e w' => e = .returned (.int .i64 (wordAt s.data.toList p)) ∧ w = w' := by
  subst hq
  have hx : (s.extract p (p + 2)).size = 2 := by rw [ByteArray.size_extract]; omega
  have h1 := one_any (s.extract p (p + 2)) 2 w (by omega) (by omega)
  have hn : numOf 2 (s.extract p (p + 2)).data.toList = wordAt s.data.toList p := by
    unfold numOf wordAt
    rw [if_neg (by omega)]
    congr 1
    simp [List.extract_eq_take_drop]
  rwa [hn] at h1
theorem one_sword (s : ByteArray) (p q : Nat) (w : World) (hq : q = p + 2) (h : p + 2 ≤ s.size) :
    Calls Try.prog 19 #[.string (s.extract p q), .int .i64 (-2)] w fun e w' => e = .returned (.int .i64 (swordAt s.data.toList p)) ∧ w = w' := by
  subst hq
  have hx : (s.extract p (p + 2)).size = 2 := by rw [ByteArray.size_extract]; omega
  have h1 := one_any (s.extract p (p + 2)) (-2) w (by omega) (by omega)
  have hn : numOf (-2) (s.extract p (p + 2)).data.toList = swordAt s.data.toList p := by
    have hl : (s.data.toList.drop p).length = s.size - p := by rw [List.length_drop]; simp
    have := numOf_numAt (n := -2) rfl (s.data.toList.drop p) (by omega)
    rw [numAt_drop, numAt_neg, Nat.add_zero] at this
    rw [← this]
    congr 1
    simp [List.extract_eq_take_drop]
  rwa [hn] at h1

set_option maxRecDepth 100000 in
set_option maxHeartbeats 4000000 in
theorem refInfoPut_yes (A : Option Addr) (c : Nat) (l : List (Int × Int)) (w : World) (h : Prs w A l) (hl : l.length ≤ 16382) (his : infoIs l = true) :
    Calls Try.prog 9 #[.slice A l.length c] w fun e w' => e = .returned (.tuple #[.string (txt (infoBytes l)), .int .i64 0]) ∧ Below w.heap.size w w' := by
  have hi := refInfoIs_any A c l w h (by omega)
  rw [his] at hi
  have hfit := infoIs_fits his
  have HFI := Lib.hid (fun k (hk : k < l.length) => (fits2_iff _).1 (hfit l[k] (List.getElem_mem hk)))
  have HP2 := Lib.hid (coverPut_ok (infoIs_is his) (by rw [fsts_length]; omega))
  clear his hfit
  go_enter Try.func9, Try.ntmps9
  go_wp2_with fail
  refine hi.mono ?_
  rintro e w1 ⟨rfl, hb1⟩
  clear hi
  go_wp2_with fail
  refine (bytes_two _ w1 (by omega) (by omega)).mono ?_
  rintro e w2 ⟨rfl, hb2⟩
  go_wp2_with fail
  refine (bytes_two _ w2 (by omega) (by omega)).mono ?_
  rintro e w3 ⟨rfl, hb3⟩
  have hb03 : Below w.heap.size w w3 := (hb1.trans (hb2.mono hb1.size)).trans (hb3.mono (Nat.le_trans hb1.size hb2.size))
  clear hb1 hb2 hb3
  obtain ⟨h0, hh0⟩ : ∃ x, x = bytesOf (4 + 4 * (l.length : Int)) 2 := ⟨_, rfl⟩
  obtain ⟨h1, hh1⟩ : ∃ x, x = bytesOf (l.length : Int) 2 := ⟨_, rfl⟩
  rw [← hh0, ← hh1]
  have hz0 : (txt h0).size ≤ 2 := by rw [hh0, txt_size, bytesOf_length]; omega
  have hz1 : (txt h1).size ≤ 2 := by rw [hh1, txt_size, bytesOf_length]; omega
  have HH0 := Lib.hid hh0
  have HH1 := Lib.hid hh1
  clear hh0 hh1
  have hz2 : (⟨#[0, 0]⟩ : ByteArray).size = 2 := rfl
  have hz3 : (⟨#[0, 0]⟩ : ByteArray).size ≤ 2 := by omega
  clear hz2
  go_wp2_with fail
  go_loopw [4, 5] (fun o i wr => ∃ (k : Nat) (ob : List UInt8), k ≤ l.length ∧ i = .int .i64 (k : Int) ∧ o = .string (txt ob) ∧ Hid (ob = h0 ++ h1 ++ wordBytes (vals0 (l.take k))) ∧ Below w.heap.size w wr) (fun _ i _ => l.length - (intOf i).toNat)
  case atStart => exact ⟨0, h0 ++ h1, Nat.zero_le _, rfl, by rw [← txt_add], by unfold Hid; simp [vals0, wordBytes], hb03⟩
  case round =>
    obtain ⟨k, ob, hk, rfl, rfl, HOB, hbw⟩ := hrel
    have hsz := hbw.size
    have hob : (txt ob).size ≤ 200000 := by
      rw [txt_size, HOB.out, HH0.out, HH1.out]
      simp only [List.length_append, wordBytes_length, bytesOf_length, vals0_length, List.length_take]
      omega
    by_cases hlt : k < l.length
    · obtain ⟨b, off, rfl, g0, g1, _, _⟩ := h.at_ k hlt
      have c1 := (hbw.cell (p := ⟨b, off + k * 2 + 1, none⟩) (World.block_lt_of_cell? w _ g1)).trans g1
      obtain ⟨f1, f2⟩ := HFI.out k hlt
      have HV := Lib.hid (vals0_take l k hlt)
      generalize l[k] = x at *
      obtain ⟨x0, x1⟩ := x
      dsimp only at *
      have hx1 : (txt (bytesOf x1 2)).size ≤ 2 := by rw [txt_size, bytesOf_length]; omega
      clear g0 g1
      go_wp2_with fail
      refine (bytes_two x1 wr f1 (by omega)).mono ?_
      rintro e w4 ⟨rfl, hb4⟩
      have HB4 := Lib.hid (hbw.trans (hb4.mono hsz))
      clear c1 hb4
      go_wp2
      go_roundw
      case rel =>
        refine ⟨k + 1, ob ++ (bytesOf x1 2 ++ [0, 0]), by omega, by go_num, ?_, ?_, HB4.out⟩
        · rw [← txt_add, ← txt_add, ByteArray.append_assoc]
          rfl
        · unfold Hid
          rw [HV.out, HOB.out, wordBytes_append]
          simp only [wordBytes, List.flatMap_cons, List.flatMap_nil, List.append_nil]
          rw [show bytesOf 0 2 = [0, 0] from by decide +kernel]
          simp only [List.append_assoc]
      case measure => simp [intOf]; omega
    · have hkn : l.take k = l := List.take_of_length_le (by omega)
      rw [hkn] at HOB
      have hw := h.below pairR_keeps hbw
      have hz4 : (txt (wordBytes (coverRow (fsts l)))).size ≤ 100000 := by
        have := coverRow_length (fsts l)
        rw [fsts_length] at this
        rw [txt_size, wordBytes_length]
        omega
      clear hkn
      go_wp2_with fail
      refine (refGlyphs_any A c l wr hw (by omega)).mono ?_
      rintro e w4 ⟨A4, c4, rfl, hi4, hb4, hc4⟩
      go_wp2_with fail
      have hcp := refPut_any A4 c4 (fsts l) w4 hi4 (by rw [fsts_length]; omega)
      rw [HP2.out] at hcp
      have hcp2 : Calls Try.prog 25 #[.slice A4 (fsts l).length c4] w4 fun e w' => e = .returned (.tuple #[.string (txt (wordBytes (coverRow (fsts l)))), .int .i64 0]) ∧ Below w4.heap.size w4 w' := hcp
      clear hcp
      refine hcp2.mono ?_
      rintro e w5 ⟨rfl, hb5⟩
      go_wp2
      go_ret2
      refine ⟨?_, (hbw.trans (hb4.mono hsz)).trans (hb5.mono (Nat.le_trans hsz hb4.size))⟩
      have e1 : infoBytes l = ob ++ wordBytes (coverRow (fsts l)) := by
        unfold infoBytes infoRow
        rw [wordBytes_append, HOB.out, HH0.out, HH1.out]
        simp only [wordBytes, List.flatMap_cons, List.flatMap_nil, List.append_nil]
      rw [e1, ← txt_add]
      rfl

theorem refInfoPut_any (A : Option Addr) (c : Nat) (l : List (Int × Int)) (w : World) (h : Prs w A l) (hl : l.length ≤ 1000000) :
    Calls Try.prog 9 #[.slice A l.length c] w (RetText w (infoPutS l)) := by
  cases his : infoIs l
  · have hi := refInfoIs_any A c l w h hl
    rw [his] at hi
    have HF := Lib.hid (show infoPutS l = ([], 1) by unfold infoPutS; rw [if_neg (by rw [his]; simp)])
    clear his
    go_enter Try.func9, Try.ntmps9
    go_wp2_with (go_at_call 15; refine hi.mono ?_; rintro e w1 ⟨rfl, hb1⟩)
    go_ret2
    rw [HF.out]
    exact ⟨rfl, hb1⟩
  · by_cases h16 : 16382 < l.length
    · have hi := refInfoIs_any A c l w h hl
      rw [his] at hi
      have HF := Lib.hid (show infoPutS l = ([], 7) by unfold infoPutS; rw [if_pos his, if_pos h16])
      have h16i : (16382 : Int) < (l.length : Int) := by omega
      clear his
      go_enter Try.func9, Try.ntmps9
      go_wp2_with (go_at_call 15; refine hi.mono ?_; rintro e w1 ⟨rfl, hb1⟩)
      go_ret2
      rw [HF.out]
      exact ⟨rfl, hb1⟩
    · have HF : infoPutS l = (infoBytes l, 0) := by unfold infoPutS; rw [if_pos his, if_neg h16]
      rw [HF]
      exact refInfoPut_yes A c l w h (by omega) his

theorem refInfoGet_head (s : ByteArray) (m n off : Nat) (w : World) (hm : m + 4 ≤ s.size) (hn : wordAt s.data.toList (m + 2) = (n : Int)) (ho : wordAt s.data.toList m = (off : Int)) :
    (Calls Try.prog 19 #[.string (s.extract m (m + 2)), .int .i64 2] w fun e w' => e = .returned (.int .i64 (off : Int)) ∧ w = w') ∧
    (Calls Try.prog 19 #[.string (s.extract (m + 2) (m + 4)), .int .i64 2] w fun e w' => e = .returned (.int .i64 (n : Int)) ∧ w = w') := by
  have a := one_word s m (m + 2) w rfl (by omega)
  have b := one_word s (m + 2) (m + 4) w rfl (by omega)
  rw [ho] at a
  rw [hn] at b
  exact ⟨a, b⟩

set_option maxRecDepth 100000 in
set_option maxHeartbeats 4000000 in
theorem refInfoGet_yes (s : ByteArray) (m n off : Nat) (g : List Int) (w : World) (hs : s.size ≤ 140737488355328) (hm : m + 4 + 4 * n ≤ s.size) (hn : wordAt s.data.toList (m + 2) = (n : Int)) (ho : wordAt s.data.toList m = (off : Int))
    (hcg : coverGetS s.data.toList ((m : Int) + (off : Int)) = (g, 0)) (hgn : g.length = n) :
    Calls Try.prog 7 #[.string s, .int .i64 (m : Int)] w (RetPairs w (valsAt s.data.toList m g, 0)) := by
  have hn2 : n ≤ 65535 := by have := wordAt_range s.data.toList (m + 2); omega
  have ho2 : off ≤ 65535 := by have := wordAt_range s.data.toList m; omega
  have h2 : ¬ (s.size : Int) < (m : Int) := by omega
  have h3 : ¬ (s.size : Int) - (m : Int) < 4 := by omega
  have h4 : ¬ (s.size : Int) - (m : Int) < 4 + 4 * (n : Int) := by omega
  have hq1 : ((m : Int) + 2).toNat = m + 2 := by omega
  have hq2 : ((m : Int) + 4).toNat = m + 4 := by omega
  obtain ⟨hc1, hc2⟩ := refInfoGet_head s m n off w (by omega) hn ho
  have HCG := Lib.hid hcg
  have HGN := Lib.hid hgn
  clear hgn hcg hn ho
  have hgl1 : n ≤ g.length := by rw [HGN.out]; omega
  have hgl2 : g.length ≤ n := by rw [HGN.out]; omega
  have hgd : ((g.length : Int) != (n : Int)) = false := by rw [bne_eq_false_iff_eq, HGN.out]
  go_enter Try.func7, Try.ntmps7
  go_wp2_with fail
  refine hc1.mono ?_
  rintro e w' ⟨rfl, rfl⟩
  go_wp2_with fail
  refine hc2.mono ?_
  rintro e w' ⟨rfl, rfl⟩
  clear hc1 hc2
  go_wp2_with fail
  have hg3 := refGet_any s ((m : Int) + (off : Int)) w hs
  rw [HCG.out] at hg3
  refine hg3.mono ?_
  rintro e w4 ⟨A4, c4, rfl, hi4, hb04, hc4⟩
  dsimp only at hi4 ⊢
  clear hg3
  obtain ⟨i0, hi0, hz0, hz1, hz2⟩ := info_parts info_pair
  go_wp2_with fail
  go_loopw [10, 11, 12] (fun ll i _ wr => ∃ (k : Nat) (v : Value), v = ll ∧ k ≤ n ∧ i = .int .i64 (k : Int) ∧ OwnS PairR 2 wr w4.heap.size 35 v ((valsAt s.data.toList m g).take k) ∧ Below w4.heap.size w4 wr) (fun _ i _ _ => n - (intOf i).toNat)
  case atStart => exact ⟨0, _, rfl, Nat.zero_le _, rfl, OwnS.nil _ _ _ _ _, Below.refl _ _⟩
  case round =>
    obtain ⟨k, v, rfl, hk, rfl, hown, hbw⟩ := hrel
    have HB := Lib.hid hbw
    have hsz := hbw.size
    by_cases hlt : k < n
    · obtain ⟨b4, o4, rfl, g4⟩ := hi4.cells k (by omega)
      have d4 := (hbw.cell (p := ⟨b4, o4 + k, none⟩) (World.block_lt_of_cell? w4 _ g4)).trans g4
      have HSN := Lib.hid (show (valsAt s.data.toList m g).take (k + 1) = (valsAt s.data.toList m g).take k ++ [(nth g k, swordAt s.data.toList (m + 4 + 4 * k))] by
        rw [List.take_succ_eq_append_getElem (by rw [valsAt_length]; omega), valsAt_get])
      have HLN := Lib.hid (show ((valsAt s.data.toList m g).take k).length = k by rw [List.length_take, valsAt_length]; omega)
      have hwg := hi4.wf _ (nth_mem g k (by omega))
      have hws : I64 (swordAt s.data.toList (m + 4 + 4 * k)) := by have := swordAt_range s.data.toList (m + 4 + 4 * k); unfold I64; omega
      have hone := fun W => one_sword s (m + 4 + 4 * k) (m + 4 + 4 * k + 2) W rfl (by omega)
      generalize (valsAt s.data.toList m g).take k = acc at *
      generalize swordAt s.data.toList (m + 4 + 4 * k) = y at *
      generalize nth g k = x at *
      obtain ⟨vss, k1, k2, k3, k4⟩ := hown
      have HK := Lib.hid (⟨k1, k2, k3⟩ : _ ∧ _ ∧ _)
      have HO := Lib.hid k4
      have hal : acc.length ≤ 65535 := by rw [HLN.out]; omega
      have hkl : (k : Int) < (g.length : Int) := by omega
      have hw1 : IntKind.i64.wrap (4 * (k : Int)) = 4 * (k : Int) := by rw [IntKind.wrap_i64]; omega
      have hw3 : ((m : Int) + 4 + 4 * (k : Int)).toNat = m + 4 + 4 * k := by omega
      have hw4 : (0 : Int) ≤ (m : Int) + 4 + 4 * (k : Int) := by omega
      have hw5 : IntKind.i64.wrap ((m : Int) + 4 + 4 * (k : Int) + 2) = (m : Int) + 4 + 4 * (k : Int) + 2 := by rw [IntKind.wrap_i64]; omega
      have hw6 : ((m : Int) + 4 + 4 * (k : Int) + 2).toNat = m + 4 + 4 * k + 2 := by omega
      have hw7 : (m : Int) + 4 + 4 * (k : Int) + 2 ≤ (s.size : Int) := by omega
      have hw8 : (0 : Int) ≤ (m : Int) + 4 + 4 * (k : Int) + 2 := by omega
      have hw9 : (m : Int) + 4 + 4 * (k : Int) ≤ (m : Int) + 4 + 4 * (k : Int) + 2 := by omega
      have HONE := Lib.hid hone
      clear hbw k1 k2 k3 k4 hone
      go_wp2
      refine wp_region_any (by kernel_rfl) ?_
      change wpAny _ _ _ _ _ _ _ (World.drew _)
      refine wpAny_of_G (last := 14) (S := fun W => W.cell? ⟨b4, o4 + k, none⟩ = some (.int .i64 x)) _ _ _ _ ?_
      (first | (refine wpAnyG_skipE (i := 0) rfl (by kernel_rfl) (by kernel_rfl) (by kernel_rfl) (by kernel_rfl) (by kernel_rfl) (fun _ _ _ _ h => h) (by rfl) d4 ?_) | (refine wpAnyG_takeE (i := 0) rfl (by kernel_rfl) (by kernel_rfl) (by kernel_rfl) (by kernel_rfl) (by kernel_rfl) (fun _ _ _ _ h => h) (by rfl) d4 ?_; apply Exists.intro; refine ⟨fun W hC => ?_, ?_⟩; (· (skip; go_simp; try first | rfl | (rw [if_neg (by omega)]; first | done | rfl) | (rw [if_pos (by omega)]; first | done | rfl))))); (try simp only [put_lit, List.set])
      (first | (refine wpAnyG_skipE (i := 1) rfl (by kernel_rfl) (by kernel_rfl) (by kernel_rfl) (by kernel_rfl) (by kernel_rfl) (fun _ _ _ _ h => h) (by rfl) d4 ?_) | (refine wpAnyG_takeE (i := 1) rfl (by kernel_rfl) (by kernel_rfl) (by kernel_rfl) (by kernel_rfl) (by kernel_rfl) (fun _ _ _ _ h => h) (by rfl) d4 ?_; apply Exists.intro; refine ⟨fun W hC => ?_, ?_⟩; (· (skip; go_simp; try first | rfl | (rw [if_neg (by omega)]; first | done | rfl) | (rw [if_pos (by omega)]; first | done | rfl))))); (try simp only [put_lit, List.set])
      (first | (refine wpAnyG_skipE (i := 2) rfl (by kernel_rfl) (by kernel_rfl) (by kernel_rfl) (by kernel_rfl) (by kernel_rfl) (fun _ _ _ _ h => h) (by rfl) d4 ?_) | (refine wpAnyG_takeE (i := 2) rfl (by kernel_rfl) (by kernel_rfl) (by kernel_rfl) (by kernel_rfl) (by kernel_rfl) (fun _ _ _ _ h => h) (by rfl) d4 ?_; apply Exists.intro; refine ⟨fun W hC => ?_, ?_⟩; (· (skip; go_simp; try first | rfl | (rw [if_neg (by omega)]; first | done | rfl) | (rw [if_pos (by omega)]; first | done | rfl))))); (try simp only [put_lit, List.set])
      (first | (refine wpAnyG_skipE (i := 3) rfl (by kernel_rfl) (by kernel_rfl) (by kernel_rfl) (by kernel_rfl) (by kernel_rfl) (fun _ _ _ _ h => h) (by rfl) d4 ?_) | (refine wpAnyG_takeE (i := 3) rfl (by kernel_rfl) (by kernel_rfl) (by kernel_rfl) (by kernel_rfl) (by kernel_rfl) (fun _ _ _ _ h => h) (by rfl) d4 ?_; apply Exists.intro; refine ⟨fun W hC => ?_, ?_⟩; (· (skip; go_simp; try first | rfl | (rw [if_neg (by omega)]; first | done | rfl) | (rw [if_pos (by omega)]; first | done | rfl))))); (try simp only [put_lit, List.set])
      (first | (refine wpAnyG_skipE (i := 4) rfl (by kernel_rfl) (by kernel_rfl) (by kernel_rfl) (by kernel_rfl) (by kernel_rfl) (fun _ _ _ _ h => h) (by rfl) d4 ?_) | (refine wpAnyG_takeE (i := 4) rfl (by kernel_rfl) (by kernel_rfl) (by kernel_rfl) (by kernel_rfl) (by kernel_rfl) (fun _ _ _ _ h => h) (by rfl) d4 ?_; apply Exists.intro; refine ⟨fun W hC => ?_, ?_⟩; (· (skip; go_simp; try first | rfl | (rw [if_neg (by omega)]; first | done | rfl) | (rw [if_pos (by omega)]; first | done | rfl))))); (try simp only [put_lit, List.set])
      (first | (refine wpAnyG_skipE (i := 5) rfl (by kernel_rfl) (by kernel_rfl) (by kernel_rfl) (by kernel_rfl) (by kernel_rfl) (fun _ _ _ _ h => h) (by rfl) d4 ?_) | (refine wpAnyG_takeE (i := 5) rfl (by kernel_rfl) (by kernel_rfl) (by kernel_rfl) (by kernel_rfl) (by kernel_rfl) (fun _ _ _ _ h => h) (by rfl) d4 ?_; apply Exists.intro; refine ⟨fun W hC => ?_, ?_⟩; (· (skip; go_simp; try first | rfl | (rw [if_neg (by omega)]; first | done | rfl) | (rw [if_pos (by omega)]; first | done | rfl))))); (try simp only [put_lit, List.set])
      (first | (refine wpAnyG_skipE (i := 6) rfl (by kernel_rfl) (by kernel_rfl) (by kernel_rfl) (by kernel_rfl) (by kernel_rfl) (fun _ _ _ _ h => h) (by rfl) d4 ?_) | (refine wpAnyG_takeE (i := 6) rfl (by kernel_rfl) (by kernel_rfl) (by kernel_rfl) (by kernel_rfl) (by kernel_rfl) (fun _ _ _ _ h => h) (by rfl) d4 ?_; apply Exists.intro; refine ⟨fun W hC => ?_, ?_⟩; (· (skip; go_simp; try first | rfl | (rw [if_neg (by omega)]; first | done | rfl) | (rw [if_pos (by omega)]; first | done | rfl))))); (try simp only [put_lit, List.set])
      (first | (refine wpAnyG_skipE (i := 7) rfl (by kernel_rfl) (by kernel_rfl) (by kernel_rfl) (by kernel_rfl) (by kernel_rfl) (fun _ _ _ _ h => h) (by rfl) d4 ?_) | (refine wpAnyG_takeE (i := 7) rfl (by kernel_rfl) (by kernel_rfl) (by kernel_rfl) (by kernel_rfl) (by kernel_rfl) (fun _ _ _ _ h => h) (by rfl) d4 ?_; apply Exists.intro; refine ⟨fun W hC => ?_, ?_⟩; (· (skip; go_simp; try first | rfl | (rw [if_neg (by omega)]; first | done | rfl) | (rw [if_pos (by omega)]; first | done | rfl))))); (try simp only [put_lit, List.set])
      (first | (refine wpAnyG_skipE (i := 8) rfl (by kernel_rfl) (by kernel_rfl) (by kernel_rfl) (by kernel_rfl) (by kernel_rfl) (fun _ _ _ _ h => h) (by rfl) d4 ?_) | (refine wpAnyG_takeE (i := 8) rfl (by kernel_rfl) (by kernel_rfl) (by kernel_rfl) (by kernel_rfl) (by kernel_rfl) (fun _ _ _ _ h => h) (by rfl) d4 ?_; apply Exists.intro; refine ⟨fun W hC => ?_, ?_⟩; (· (skip; go_simp; try first | rfl | (rw [if_neg (by omega)]; first | done | rfl) | (rw [if_pos (by omega)]; first | done | rfl))))); (try simp only [put_lit, List.set])
      (first | (refine wpAnyG_skipE (i := 9) rfl (by kernel_rfl) (by kernel_rfl) (by kernel_rfl) (by kernel_rfl) (by kernel_rfl) (fun _ _ _ _ h => h) (by rfl) d4 ?_) | (refine wpAnyG_takeE (i := 9) rfl (by kernel_rfl) (by kernel_rfl) (by kernel_rfl) (by kernel_rfl) (by kernel_rfl) (fun _ _ _ _ h => h) (by rfl) d4 ?_; apply Exists.intro; refine ⟨fun W hC => ?_, ?_⟩; (· (skip; go_simp; try first | rfl | (rw [if_neg (by omega)]; first | done | rfl) | (rw [if_pos (by omega)]; first | done | rfl))))); (try simp only [put_lit, List.set])
      refine wpAnyG_step (i := 10) (by kernel_rfl) rfl (fun K hK => ?_)
      go_simp
      refine (HONE.out _).mono ?_
      rintro e W' ⟨rfl, rfl⟩
      refine hK _ _ (fun _ => d4) ?_
      (first | (refine wpAnyG_skipE (i := 11) rfl (by kernel_rfl) (by kernel_rfl) (by kernel_rfl) (by kernel_rfl) (by kernel_rfl) (fun _ _ _ _ h => h) (by rfl) d4 ?_) | (refine wpAnyG_takeE (i := 11) rfl (by kernel_rfl) (by kernel_rfl) (by kernel_rfl) (by kernel_rfl) (by kernel_rfl) (fun _ _ _ _ h => h) (by rfl) d4 ?_; apply Exists.intro; refine ⟨fun W hC => ?_, ?_⟩; (· (skip; go_simp; try first | rfl | (rw [if_neg (by omega)]; first | done | rfl) | (rw [if_pos (by omega)]; first | done | rfl))))); (try simp only [put_lit, List.set])
      refine wpAnyG_step (i := 12) (by kernel_rfl) rfl (fun K hK => ?_)
      go_simp
      have e4 := (((Below.refl _ _).alloc (Nat.le_refl _) (.cells #[.int .i64 x, .int .i64 y] 35)).cell (p := ⟨b4, o4 + k, none⟩) (World.block_lt_of_cell? wr _ d4)).trans d4
      refine hK _ _ (fun _ => e4) ?_
      refine wpAnyG_step (i := 13) (by kernel_rfl) rfl (fun K hK => ?_)
      refine step_append_lies _ rfl _ _ _ rfl w4.heap.size 35 i0 _ 2 16 Try.underlying22 hi0 hz0 hz1 hz2 rfl (by omega) v acc.length _ rfl (HO.out.drew.alloc _)
          ⟨wr.heap.size, 0, none⟩ 1 1 [.int .i64 x, .int .i64 y] rfl rfl (pairs_new _ _ (x, y) _ rfl) (by simp [Value.oneCell']) (by omega) (by unfold maxLen; omega) (by omega) (by simp; omega) _ rfl ?_
      intro g1 cap1 w2 hown2 hgrow hat2 hlt2
      go_simp
      have hb5 : Below w4.heap.size w4 w2 := ((HB.out.drew).alloc (by rw [drew_size]; exact hsz) _).grown hgrow (by simp; omega) (own_base HO.out)
      have f4 := (hb5.cell (p := ⟨b4, o4 + k, none⟩) (World.block_lt_of_cell? w4 _ g4)).trans g4
      refine hK _ _ (fun _ => f4) ?_
      refine wpAnyG_step (i := 14) (by kernel_rfl) rfl (fun K hK => ?_)
      go_simp
      refine hK _ _ (fun h => absurd rfl h) ?_
      refine wpAnyG_done (by kernel_rfl) ?_ _
      have HOW := Lib.hid (own_grown_elems (R := PairR) (l := acc) (x := (x, y)) (w' := w2) (vs := [.int .i64 x, .int .i64 y]) HK.out.1 HK.out.2.1 (fun j us z h1 h2 => HK.out.2.2 j us z h1 h2) rfl ⟨rfl, hwg, hws⟩ hown2)
      have HB5 := Lib.hid hb5
      clear hown2 hgrow hat2 hb5 f4 e4 d4
      rw [← HSN.out] at HOW
      go_wp2
      go_roundw
      case rel => exact ⟨k + 1, _, rfl, by omega, by go_num, HOW.out, HB5.out⟩
      case measure => simp [intOf]; omega
    · have hkn : k = n := by omega
      have hown := hown
      rw [List.take_of_length_le (by rw [valsAt_length]; omega)] at hown
      obtain ⟨A5, c5, rfl, hi5, hc5⟩ := hown.sls (by rw [valsAt_length]; omega)
      have HI5 := Lib.hid hi5
      have HC5 := Lib.hid hc5
      clear hkn hown hi5 hc5 hbw
      rw [valsAt_length]
      go_wp2
      go_ret2
      exact ⟨A5, c5, by rw [valsAt_length]; rfl, HI5.out, hb04.trans (HB.out.mono hb04.size), HC5.out⟩

set_option maxRecDepth 100000 in
set_option maxHeartbeats 4000000 in
theorem refInfoGet_any (s : ByteArray) (at_ : Int) (w : World) (hs : s.size ≤ 140737488355328) :
    Calls Try.prog 7 #[.string s, .int .i64 at_] w (RetPairs w (infoGetS s.data.toList at_)) := by
  have hsl : s.data.toList.length = s.size := by simp
  by_cases h0 : at_ < 0
  · have HF := Lib.hid (show infoGetS s.data.toList at_ = ([], 1) by unfold infoGetS; rw [if_pos h0])
    clear hsl
    go_enter Try.func7, Try.ntmps7
    go_wp2
    go_ret2
    rw [HF.out]
    exact ⟨none, 0, rfl, Sls.nil _ _ _ _, Below.refl _ _, Cap.nil⟩
  · by_cases h1 : at_ > s.size ∨ (s.size : Int) - at_ < 4
    · have HF := Lib.hid (show infoGetS s.data.toList at_ = ([], 4) by unfold infoGetS; rw [if_neg h0, if_pos (by rw [hsl]; exact h1)])
      clear hsl
      go_enter Try.func7, Try.ntmps7
      by_cases h2 : at_ > s.size
      · go_wp2
        go_ret2
        rw [HF.out]
        exact ⟨none, 0, rfl, Sls.nil _ _ _ _, Below.refl _ _, Cap.nil⟩
      · have h3 : (s.size : Int) - at_ < 4 := by omega
        go_wp2
        go_ret2
        rw [HF.out]
        exact ⟨none, 0, rfl, Sls.nil _ _ _ _, Below.refl _ _, Cap.nil⟩
    · obtain ⟨m, rfl⟩ : ∃ m : Nat, at_ = (m : Int) := ⟨at_.toNat, by omega⟩
      have hm : m + 4 ≤ s.size := by omega
      obtain ⟨n, hn⟩ : ∃ n : Nat, wordAt s.data.toList (m + 2) = (n : Int) := ⟨(wordAt s.data.toList (m + 2)).toNat, by have := wordAt_range s.data.toList (m + 2); omega⟩
      obtain ⟨off, ho⟩ : ∃ off : Nat, wordAt s.data.toList m = (off : Int) := ⟨(wordAt s.data.toList m).toNat, by have := wordAt_range s.data.toList m; omega⟩
      have hn2 : n ≤ 65535 := by have := wordAt_range s.data.toList (m + 2); omega
      have ho2 : off ≤ 65535 := by have := wordAt_range s.data.toList m; omega
      have hspec : infoGetS s.data.toList (m : Int) = if (s.size : Int) - (m : Int) < 4 + 4 * (n : Int) then ([], 4) else
          if (coverGetS s.data.toList ((m : Int) + (off : Int))).2 ≠ 0 then ([], (coverGetS s.data.toList ((m : Int) + (off : Int))).2) else
          if ((coverGetS s.data.toList ((m : Int) + (off : Int))).1.length : Int) ≠ (n : Int) then ([], 5) else
          (valsAt s.data.toList m (coverGetS s.data.toList ((m : Int) + (off : Int))).1, 0) := by
        unfold infoGetS
        rw [if_neg (by omega), if_neg (by rw [hsl]; omega), Int.toNat_natCast, hn, ho, hsl]
      have h2 : ¬ (s.size : Int) < (m : Int) := by omega
      have h3 : ¬ (s.size : Int) - (m : Int) < 4 := by omega
      have hq1 : ((m : Int) + 2).toNat = m + 2 := by omega
      have hq2 : ((m : Int) + 4).toNat = m + 4 := by omega
      obtain ⟨hc1, hc2⟩ := refInfoGet_head s m n off w hm hn ho
      by_cases hroom : (s.size : Int) - (m : Int) < 4 + 4 * (n : Int)
      · rw [if_pos hroom] at hspec
        have HF := Lib.hid hspec
        clear hspec hsl hn ho h1
        go_enter Try.func7, Try.ntmps7
        go_wp2_with fail
        refine hc1.mono ?_
        rintro e w' ⟨rfl, rfl⟩
        go_wp2_with fail
        refine hc2.mono ?_
        rintro e w' ⟨rfl, rfl⟩
        go_wp2
        go_ret2
        rw [HF.out]
        exact ⟨none, 0, rfl, Sls.nil _ _ _ _, Below.refl _ _, Cap.nil⟩
      · rw [if_neg hroom] at hspec
        by_cases hok : (coverGetS s.data.toList ((m : Int) + (off : Int))).2 = 0 ∧ (coverGetS s.data.toList ((m : Int) + (off : Int))).1.length = n
        · obtain ⟨g, hcg⟩ : ∃ g, coverGetS s.data.toList ((m : Int) + (off : Int)) = (g, 0) := ⟨_, Prod.ext rfl hok.1⟩
          rw [hcg] at hspec hok
          rw [if_neg (by simp), if_neg (fun h => h (congrArg Nat.cast hok.2))] at hspec
          rw [hspec]
          exact refInfoGet_yes s m n off g w hs (by omega) hn ho hcg hok.2
        · have hcg := fun W => refGet_any s ((m : Int) + (off : Int)) W hs
          generalize coverGetS s.data.toList ((m : Int) + (off : Int)) = cg at *
          obtain ⟨g, ge⟩ := cg
          dsimp only at *
          have HF := Lib.hid hspec
          have HOK := Lib.hid hok
          clear hspec hsl hn ho h1 hok
          go_enter Try.func7, Try.ntmps7
          go_wp2_with fail
          refine hc1.mono ?_
          rintro e w' ⟨rfl, rfl⟩
          go_wp2_with fail
          refine hc2.mono ?_
          rintro e w' ⟨rfl, rfl⟩
          go_wp2_with fail
          refine (hcg w).mono ?_
          rintro e w4 ⟨A4, c4, rfl, hi4, hb04, hc4⟩
          dsimp only at hi4 hc4 ⊢
          have hgl := hi4.len
          clear hcg hc1 hc2
          by_cases hge : ge = 0
          · have hln : ((g.length : Int) != (n : Int)) = true := by
              rw [bne_iff_ne]
              intro e
              exact HOK.out ⟨hge, by omega⟩
            subst hge
            have hF := HF.out
            rw [if_neg (by simp), if_pos (by rw [bne_iff_ne] at hln; exact hln)] at hF
            have HF2 := Lib.hid hF
            clear hF
            go_wp2
            go_ret2
            rw [HF2.out]
            exact ⟨none, 0, rfl, Sls.nil _ _ _ _, hb04, Cap.nil⟩
          · have hF := HF.out
            rw [if_pos hge] at hF
            have HF2 := Lib.hid hF
            have hne : (ge != 0) = true := by rw [bne_iff_ne]; exact hge
            clear hF hge
            go_wp2
            go_ret2
            rw [HF2.out]
            exact ⟨none, 0, rfl, Sls.nil _ _ _ _, hb04, Cap.nil⟩

end Go.Proofs.Ytigljfmbelaobaa
