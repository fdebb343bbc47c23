/- The document's layer 12: Get. -/
import Derived.Test.YtigljfmbelaobaaRefBytes
import Derived.Test.YtigljfmbelaobaaRefIs
import Derived.Test.YtigljfmbelaobaaPlainRef
namespace Go.Proofs.Ytigljfmbelaobaa
open Go.RowKit

/-- The word at a place that is told. -/
theorem word_val (t : ByteArray) (p x : Int) (w : World) (h0 : 0 ≤ p) (h1 : p + 2 ≤ (t.size : Int)) (hs : t.size ≤ 140737488355328) (hx : wordAt t.data.toList p.toNat = x) :
    Calls Try.prog 41 #[.string t, .int .i64 p] w fun e w' => e = .returned (.int .i64 x) ∧ w = w' := by
  obtain ⟨m, rfl⟩ := Int.eq_ofNat_of_zero_le h0
  have := word_any t m w (by omega) hs
  rw [Int.toNat_natCast] at hx
  rwa [hx] at this

/-- Behind the loop over what stands there. -/
theorem i64_word (s : List UInt8) (k : Nat) : I64 (wordAt s k) := by
  have := wordAt_range s k
  unfold I64
  omega
theorem wordsAt_wf (s : List UInt8) (k n : Nat) : ∀ x, x ∈ wordsAt s k n → I64 x := by
  intro x hx
  have := wordsAt_range s k n x hx
  unfold I64
  omega
theorem wordsAt_succ (s : List UInt8) (k n : Nat) : wordsAt s k (n + 1) = wordsAt s k n ++ [wordAt s (k + 2 * n)] := by simp [wordsAt, List.range_succ]
theorem upto_part (a b : Int) : upto a b = part a (b - a + 1).toNat := rfl
theorem part_length (a : Int) (j : Nat) : (part a j).length = j := by simp [part]
theorem part_mem {a : Int} {j : Nat} {x : Int} (h : x ∈ part a j) : a ≤ x ∧ x < a + (j : Int) := by
  simp only [part, List.mem_map, List.mem_range] at h
  obtain ⟨i, hi, rfl⟩ := h
  omega
theorem rngGo_step {l acc : List Int} {k : Nat} (h : rngGo l [] (List.range k) = some acc) : rngGo l [] (List.range (k + 1)) = rngGo l acc [k] := by
  rw [List.range_succ, rngGo_append, h]
  rfl
theorem rngGo_stop {l : List Int} {k n : Nat} (hk : k ≤ n) (h : rngGo l [] (List.range k) = none) : rngGo l [] (List.range n) = none := by
  rw [show List.range n = List.range k ++ (List.range (n - k)).map (k + ·) by rw [← List.range_add]; congr 1; omega, rngGo_append, h]
  rfl

set_option maxRecDepth 100000 in
set_option maxHeartbeats 4000000 in
theorem refGet_one (s t : ByteArray) (m n : Nat) (w : World) (hs : s.size ≤ 140737488355328) (hm : m + 4 ≤ s.size) (ht : s.extract m s.size = t) (htn : t.size = s.size - m)
    (hf : wordAt t.data.toList 0 = 1) (hn : wordAt t.data.toList 2 = (n : Int)) (hroom : 4 + 2 * n ≤ t.size) :
    Calls Try.prog 20 #[.string s, .int .i64 (m : Int)] w (RetInts w (listT (wordsAt t.data.toList 4 n))) := by
  have hn2 : n ≤ 65535 := by have := wordAt_range t.data.toList 2; omega
  have hts : t.size ≤ s.size := by omega
  have h2 : ¬ (s.size : Int) < (m : Int) := by omega
  have h3 : ¬ (s.size : Int) - (m : Int) < 4 := by omega
  have h4 : ¬ (t.size : Int) < 4 + 2 * (n : Int) := by omega
  have HT := Lib.hid ht
  have HF := Lib.hid hf
  have HN := Lib.hid hn
  have HTN := Lib.hid htn
  clear ht hf hn htn
  go_enter Try.func20, Try.ntmps20
  go_wp2_with fail
  rw [HT.out]
  refine (word_val t 0 1 w (by omega) (by omega) (by omega) HF.out).mono ?_
  rintro e w' ⟨rfl, rfl⟩
  go_wp2_with fail
  refine (word_val t 2 (n : Int) w (by omega) (by omega) (by omega) HN.out).mono ?_
  rintro e w' ⟨rfl, rfl⟩
  go_wp2_with fail
  go_loopw [9, 10, 11, 12] (fun vv i _ _ wr => ∃ (k : Nat) (v : Value), v = vv ∧ k ≤ n ∧ i = .int .i64 (k : Int) ∧ wr.ownsRow w.heap.size 3 1 v (wordsAt t.data.toList 4 k).length ((wordsAt t.data.toList 4 k).map (Value.int .i64)) ∧ Below w.heap.size w wr) (fun _ i _ _ _ => n - (intOf i).toNat)
  case atStart => exact ⟨0, _, rfl, Nat.zero_le _, rfl, World.ownsRow_nil _ _ _ _, Below.refl _ _⟩
  case round =>
    obtain ⟨k, v, rfl, hk, rfl, hown, hbw⟩ := hrel
    have HO := Lib.hid hown
    have HB := Lib.hid hbw
    have hsz := hbw.size
    clear hown hbw
    by_cases hlt : k < n
    · have hxx : wordAt t.data.toList (4 + 2 * k) = wordAt t.data.toList (4 + 2 * k) := rfl
      have hI := i64_word t.data.toList (4 + 2 * k)
      have HS := Lib.hid (wordsAt_succ t.data.toList 4 k)
      have hll := wordsAt_length t.data.toList 4 k
      have HL := Lib.hid hll
      clear hll
      generalize hx : wordAt t.data.toList (4 + 2 * k) = x at *
      generalize wordsAt t.data.toList 4 k = acc at *
      have HX := Lib.hid hx
      clear hx hxx
      go_wp2_with fail
      refine (word_val t _ x wr (by omega) (by omega) (by omega) ((congrArg (wordAt t.data.toList) (by omega)).trans HX.out)).mono ?_
      rintro e w' ⟨rfl, rfl⟩
      go_wp2_with (at_builtin; refine wpList_append_ints rfl (.tmp 59) (.tmp 63) rfl w.heap.size v acc rfl (HO.out.alloc _) (some ⟨wr.heap.size, 0, none⟩) 1 [x] rfl (ints_cell _ _ x hI) (fun h => by cases h) (by have := HL.out; simp only [List.length_cons, List.length_nil]; omega) (by simp; omega) ?_)
      intro v' w' hown hg _ _
      have hb' : Below w.heap.size w w' := (HB.out.alloc hsz _).grown hg (by simp; omega) (own_base HO.out)
      have hown : w'.ownsRow w.heap.size 3 1 v' (acc ++ [x]).length ((acc ++ [x]).map (Value.int .i64)) := by simpa using hown
      rw [← HS.out] at hown
      have HO' := Lib.hid hown
      have HB' := Lib.hid hb'
      clear hown hb' hg
      go_wp2
      go_roundw
      case rel => exact ⟨k + 1, _, rfl, by omega, by go_num, HO'.out, HB'.out⟩
      case measure => simp [intOf]; omega
    · have hkn : k = n := by omega
      have hown := HO.out
      rw [hkn] at hown
      obtain ⟨A, c, rfl, hi, hc⟩ := own_ints hown (wordsAt_wf _ _ _) (by rw [wordsAt_length]; omega)
      have hri := refIs_any A c (wordsAt t.data.toList 4 n) wr hi
      have HL := Lib.hid (show listT (wordsAt t.data.toList 4 n) = if isS (wordsAt t.data.toList 4 n) = true then (wordsAt t.data.toList 4 n, 0) else ([], 5) from rfl)
      have HC := Lib.hid hc
      clear hkn hown hc
      generalize wordsAt t.data.toList 4 n = l at *
      cases his : isS l
      · rw [his] at hri
        have HIS := Lib.hid his
        clear his
        go_wp2_with (go_at_call 33; refine hri.mono ?_; rintro e w2 ⟨rfl, hb2⟩)
        go_ret2
        rw [HL.out, if_neg (by rw [HIS.out]; simp)]
        exact ⟨none, 0, rfl, Ints.nil _, HB.out.trans (hb2.mono hsz), Cap.nil⟩
      · rw [his] at hri
        have HIS := Lib.hid his
        clear his
        go_wp2_with (go_at_call 33; refine hri.mono ?_; rintro e w2 ⟨rfl, hb2⟩)
        go_ret2
        rw [HL.out, if_pos HIS.out]
        exact ⟨A, c, rfl, hi.below hb2, HB.out.trans (hb2.mono hsz), HC.out⟩

set_option maxRecDepth 100000 in
set_option maxHeartbeats 8000000 in
theorem refGet_two (s t : ByteArray) (m n : Nat) (w : World) (hs : s.size ≤ 140737488355328) (hm : m + 4 ≤ s.size) (ht : s.extract m s.size = t) (htn : t.size = s.size - m)
    (hf : wordAt t.data.toList 0 = 2) (hn : wordAt t.data.toList 2 = (n : Int)) (hroom : 4 + 6 * n ≤ t.size) :
    Calls Try.prog 20 #[.string s, .int .i64 (m : Int)] w (RetInts w (runsT (wordsAt t.data.toList 4 (3 * n)) n)) := by
  have hn2 : n ≤ 65535 := by have := wordAt_range t.data.toList 2; omega
  have hts : t.size ≤ s.size := by omega
  have h2 : ¬ (s.size : Int) < (m : Int) := by omega
  have h3 : ¬ (s.size : Int) - (m : Int) < 4 := by omega
  have h4 : ¬ (t.size : Int) < 4 + 6 * (n : Int) := by omega
  have HT := Lib.hid ht
  have HF := Lib.hid hf
  have HN := Lib.hid hn
  have HTN := Lib.hid htn
  clear ht hf hn htn
  have HW := Lib.hid (fun j (hj : j < 3 * n) => wordsAt_nth t.data.toList 4 (3 * n) j hj)
  generalize wordsAt t.data.toList 4 (3 * n) = ws at *
  go_enter Try.func20, Try.ntmps20
  go_wp2_with fail
  rw [HT.out]
  refine (word_val t 0 2 w (by omega) (by omega) (by omega) HF.out).mono ?_
  rintro e w' ⟨rfl, rfl⟩
  go_wp2_with fail
  refine (word_val t 2 (n : Int) w (by omega) (by omega) (by omega) HN.out).mono ?_
  rintro e w' ⟨rfl, rfl⟩
  go_wp2_with fail
  go_loopw [9, 10, 11, 12] (fun vv i _ _ wr => ∃ (k : Nat) (v : Value) (acc : List Int), v = vv ∧ k ≤ n ∧ i = .int .i64 (k : Int) ∧ wr.ownsRow w.heap.size 3 1 v acc.length (acc.map (Value.int .i64)) ∧ Below w.heap.size w wr ∧ Hid (rngGo ws [] (List.range k) = some acc) ∧ acc.length ≤ 200000 ∧ Hid (∀ x, x ∈ acc → 0 ≤ x ∧ x ≤ 65535)) (fun _ i _ _ _ => n - (intOf i).toNat)
  case atStart => exact ⟨0, _, [], rfl, Nat.zero_le _, rfl, World.ownsRow_nil _ _ _ _, Below.refl _ _, by unfold Hid; rfl, by simp, by unfold Hid; simp⟩
  case round =>
    obtain ⟨k, v, acc, rfl, hk, rfl, hown, hbw, HSO, hal, HWF⟩ := hrel
    have HO := Lib.hid hown
    have HB := Lib.hid hbw
    have hsz := hbw.size
    clear hown hbw
    by_cases hlt : k < n
    · have HSt := Lib.hid (rngGo_step HSO.out)
      simp only [rngGo] at HSt
      have e0 := HW.out (k * 3) (by omega)
      have e1 := HW.out (k * 3 + 1) (by omega)
      have e2 := HW.out (k * 3 + 2) (by omega)
      have r0 := wordAt_range t.data.toList (4 + 2 * (k * 3))
      have r1 := wordAt_range t.data.toList (4 + 2 * (k * 3 + 1))
      have r2 := wordAt_range t.data.toList (4 + 2 * (k * 3 + 2))
      rw [e0, e1, e2] at HSt
      clear e0 e1 e2
      generalize hx0 : wordAt t.data.toList (4 + 2 * (k * 3)) = a0 at *
      generalize hx1 : wordAt t.data.toList (4 + 2 * (k * 3 + 1)) = a1 at *
      generalize hx2 : wordAt t.data.toList (4 + 2 * (k * 3 + 2)) = a2 at *
      have HX0 := Lib.hid hx0
      have HX1 := Lib.hid hx1
      have HX2 := Lib.hid hx2
      clear hx0 hx1 hx2
      obtain ⟨va, vc, rfl⟩ : ∃ va vc, v = .slice va acc.length vc := by
        rcases HO.out.2 with ⟨hv, hv0⟩ | ⟨g, cap, cur, hv, _⟩
        · exact ⟨none, 0, by rw [hv, hv0]⟩
        · exact ⟨_, _, hv⟩
      by_cases hlt1 : a1 < a0
      · have HE := Lib.hid (rngGo_stop (l := ws) (show k + 1 ≤ n by omega) (HSt.out.trans (if_pos (.inl hlt1))))
        go_wp2_with fail
        refine (word_val t _ a1 wr (by omega) (by omega) (by omega) ((congrArg (wordAt t.data.toList) (by omega)).trans HX1.out)).mono ?_
        rintro e w' ⟨rfl, rfl⟩
        go_wp2_with fail
        refine (word_val t _ a0 wr (by omega) (by omega) (by omega) ((congrArg (wordAt t.data.toList) (by omega)).trans HX0.out)).mono ?_
        rintro e w' ⟨rfl, rfl⟩
        go_wp2
        go_ret2
        unfold runsT
        rw [HE.out]
        exact ⟨none, 0, rfl, Ints.nil _, HB.out, Cap.nil⟩
      · by_cases hne : a2 = (acc.length : Int)
        · have hd : (a2 != (acc.length : Int)) = false := by rw [bne_eq_false_iff_eq]; exact hne
          have HNE := Lib.hid hne
          have HGO := Lib.hid (HSt.out.trans (if_neg (by rintro (h | h); exact hlt1 h; exact h hne)))
          have hal2 : acc.length ≤ 65535 := by omega
          clear hne
          obtain ⟨cnt, hcnt⟩ : ∃ cnt : Nat, (cnt : Int) = a1 - a0 + 1 := ⟨(a1 - a0 + 1).toNat, by omega⟩
          have HCnt := Lib.hid hcnt
          have hcb : cnt ≤ 65536 := by omega
          clear hcnt
          go_wp2_with fail
          refine (word_val t _ a1 wr (by omega) (by omega) (by omega) ((congrArg (wordAt t.data.toList) (by omega)).trans HX1.out)).mono ?_
          rintro e w' ⟨rfl, rfl⟩
          go_wp2_with fail
          refine (word_val t _ a0 wr (by omega) (by omega) (by omega) ((congrArg (wordAt t.data.toList) (by omega)).trans HX0.out)).mono ?_
          rintro e w' ⟨rfl, rfl⟩
          go_wp2_with fail
          refine (word_val t _ a2 wr (by omega) (by omega) (by omega) ((congrArg (wordAt t.data.toList) (by omega)).trans HX2.out)).mono ?_
          rintro e w' ⟨rfl, rfl⟩
          go_wp2_with fail
          refine (word_val t _ a0 wr (by omega) (by omega) (by omega) ((congrArg (wordAt t.data.toList) (by omega)).trans HX0.out)).mono ?_
          rintro e w' ⟨rfl, rfl⟩
          obtain ⟨wo, rfl⟩ : ∃ wo : World, wo = wr := ⟨_, rfl⟩
          go_wp2_with fail
          go_loopw [9, 12] (fun vv g wr => ∃ (j : Nat) (v : Value), v = vv ∧ j ≤ cnt ∧ g = .int .i64 (a0 + (j : Int)) ∧ wr.ownsRow w.heap.size 3 1 v (acc ++ part a0 j).length ((acc ++ part a0 j).map (Value.int .i64)) ∧ Below w.heap.size w wr) (fun _ g _ => (a1 + 1 - intOf g).toNat)
          case atStart => exact ⟨0, _, rfl, Nat.zero_le _, by simp, by simpa [part] using HO.out, HB.out⟩
          case round =>
            obtain ⟨j, v, rfl, hj, rfl, hown, hbw⟩ := hrel
            have HO2 := Lib.hid hown
            have HB2 := Lib.hid hbw
            have hsz2 := hbw.size
            clear hown hbw
            have hxi : I64 (a0 + (j : Int)) := by unfold I64; omega
            by_cases hjl : j < cnt
            · have hjle : a0 + (j : Int) ≤ a1 := by have := HCnt.out; omega
              have HPS := Lib.hid (show acc ++ part a0 (j + 1) = acc ++ part a0 j ++ [a0 + (j : Int)] by rw [part_succ, List.append_assoc])
              have HLN := Lib.hid (show (acc ++ part a0 j).length ≤ 131071 by rw [List.length_append, part_length]; omega)
              generalize acc ++ part a0 j = acj at *
              go_wp2_with fail
              refine (word_val t _ a1 wr (by omega) (by omega) (by omega) ((congrArg (wordAt t.data.toList) (by omega)).trans HX1.out)).mono ?_
              rintro e w' ⟨rfl, rfl⟩
              go_wp2_with (at_builtin; refine wpList_append_ints rfl (.tmp 93) (.tmp 95) rfl w.heap.size v acj rfl (HO2.out.alloc _) (some ⟨wr.heap.size, 0, none⟩) 1 [a0 + (j : Int)] rfl (ints_cell _ _ _ hxi) (fun h => by cases h) (by have := HLN.out; simp only [List.length_cons, List.length_nil]; omega) (by simp; omega) ?_)
              intro v' w' hown hg _ _
              have hb' : Below w.heap.size w w' := (HB2.out.alloc hsz2 _).grown hg (by simp; omega) (own_base HO2.out)
              have hown : w'.ownsRow w.heap.size 3 1 v' (acj ++ [a0 + (j : Int)]).length ((acj ++ [a0 + (j : Int)]).map (Value.int .i64)) := by simpa using hown
              rw [← HPS.out] at hown
              have HO' := Lib.hid hown
              have HB' := Lib.hid hb'
              clear hown hb' hg
              go_wp2
              go_roundw
              case rel => exact ⟨j + 1, _, rfl, by omega, by go_num, HO'.out, HB'.out⟩
              case measure => simp [intOf]; omega
            · have hjle : ¬ a0 + (j : Int) ≤ a1 := by have := HCnt.out; omega
              have HJ := Lib.hid (show j = cnt by omega)
              have HUP := Lib.hid (show acc ++ upto a0 a1 = acc ++ part a0 j by rw [upto_part, HJ.out]; congr 2; have := HCnt.out; omega)
              have HWF' := Lib.hid (show ∀ x, x ∈ acc ++ part a0 j → 0 ≤ x ∧ x ≤ 65535 by
                intro x hx
                rcases List.mem_append.1 hx with hx | hx
                · exact HWF.out x hx
                · have := part_mem hx
                  have := HCnt.out
                  omega)
              have HLN := Lib.hid (show (acc ++ part a0 j).length ≤ 131071 by rw [List.length_append, part_length]; omega)
              rw [HUP.out] at HGO
              go_wp2_with fail
              refine (word_val t _ a1 wr (by omega) (by omega) (by omega) ((congrArg (wordAt t.data.toList) (by omega)).trans HX1.out)).mono ?_
              rintro e w' ⟨rfl, rfl⟩
              go_wp2
              go_roundw
              case rel => exact ⟨k + 1, _, acc ++ part a0 j, rfl, by omega, by go_num, HO2.out, HB2.out, HGO, by have := HLN.out; omega, HWF'⟩
              case measure => simp [intOf]; omega
        · have hd : (a2 != (acc.length : Int)) = true := by rw [bne_iff_ne]; exact hne
          have HE := Lib.hid (rngGo_stop (l := ws) (show k + 1 ≤ n by omega) (HSt.out.trans (if_pos (.inr hne))))
          clear hne
          go_wp2_with fail
          refine (word_val t _ a1 wr (by omega) (by omega) (by omega) ((congrArg (wordAt t.data.toList) (by omega)).trans HX1.out)).mono ?_
          rintro e w' ⟨rfl, rfl⟩
          go_wp2_with fail
          refine (word_val t _ a0 wr (by omega) (by omega) (by omega) ((congrArg (wordAt t.data.toList) (by omega)).trans HX0.out)).mono ?_
          rintro e w' ⟨rfl, rfl⟩
          go_wp2_with fail
          refine (word_val t _ a2 wr (by omega) (by omega) (by omega) ((congrArg (wordAt t.data.toList) (by omega)).trans HX2.out)).mono ?_
          rintro e w' ⟨rfl, rfl⟩
          go_wp2
          go_ret2
          unfold runsT
          rw [HE.out]
          exact ⟨none, 0, rfl, Ints.nil _, HB.out, Cap.nil⟩
    · have hkn : k = n := by omega
      have hwf : ∀ x, x ∈ acc → I64 x := fun x hx => by have := HWF.out x hx; unfold I64; omega
      obtain ⟨A, c, rfl, hi, hc⟩ := own_ints HO.out hwf (by omega)
      have hri := refIs_any A c acc wr hi
      have HL := Lib.hid (show runsT ws n = if isS acc = true then (acc, 0) else ([], 5) by unfold runsT; rw [← hkn, HSO.out])
      have HC := Lib.hid hc
      clear hkn hc hwf
      cases his : isS acc
      · rw [his] at hri
        have HIS := Lib.hid his
        clear his
        go_wp2_with (go_at_call 33; refine hri.mono ?_; rintro e w2 ⟨rfl, hb2⟩)
        go_ret2
        rw [HL.out, if_neg (by rw [HIS.out]; simp)]
        exact ⟨none, 0, rfl, Ints.nil _, HB.out.trans (hb2.mono hsz), Cap.nil⟩
      · rw [his] at hri
        have HIS := Lib.hid his
        clear his
        go_wp2_with (go_at_call 33; refine hri.mono ?_; rintro e w2 ⟨rfl, hb2⟩)
        go_ret2
        rw [HL.out, if_pos HIS.out]
        exact ⟨A, c, rfl, hi.below hb2, HB.out.trans (hb2.mono hsz), HC.out⟩

set_option maxRecDepth 100000 in
set_option maxHeartbeats 4000000 in
theorem refGet_any (s : ByteArray) (at_ : Int) (w : World) (hs : s.size ≤ 140737488355328) :
    Calls Try.prog 20 #[.string s, .int .i64 at_] w (RetInts w (coverGetS s.data.toList at_)) := by
  have hsl : s.data.toList.length = s.size := by simp
  by_cases h0 : at_ < 0
  · have HS := Lib.hid (show coverGetS s.data.toList at_ = ([], 1) by
      unfold coverGetS wordsS
      rw [if_pos h0]
      rfl)
    go_enter Try.func20, Try.ntmps20
    go_wp2
    go_ret2
    rw [HS.out]
    exact ⟨none, 0, rfl, Ints.nil _, Below.refl _ _, Cap.nil⟩
  · by_cases h1 : at_ > s.size ∨ (s.size : Int) - at_ < 4
    · have HS := Lib.hid (show coverGetS s.data.toList at_ = ([], 4) by
        have hw : wordsS s.data.toList at_ 2 = ([], 4) := by
          unfold wordsS
          rw [if_neg h0, if_pos (by rw [hsl]; omega)]
        unfold coverGetS
        rw [hw]
        rfl)
      go_enter Try.func20, Try.ntmps20
      by_cases h2 : at_ > s.size
      · go_wp2
        go_ret2
        rw [HS.out]
        exact ⟨none, 0, rfl, Ints.nil _, Below.refl _ _, Cap.nil⟩
      · have h3 : (s.size : Int) - at_ < 4 := by omega
        go_wp2
        go_ret2
        rw [HS.out]
        exact ⟨none, 0, rfl, Ints.nil _, Below.refl _ _, Cap.nil⟩
    · obtain ⟨m, rfl⟩ : ∃ m : Nat, at_ = (m : Int) := ⟨at_.toNat, by omega⟩
      have hm : m + 4 ≤ s.size := by omega
      have h2 : ¬ (s.size : Int) < (m : Int) := by omega
      have h3 : ¬ (s.size : Int) - (m : Int) < 4 := by omega
      obtain ⟨t, ht⟩ : ∃ t, s.extract m s.size = t := ⟨_, rfl⟩
      have htn : t.size = s.size - m := by rw [← ht, ByteArray.size_extract]; omega
      have htl : t.data.toList = s.data.toList.drop m := by
        rw [← ht, ByteArray.data_extract]
        have hd : s.data.size = s.size := rfl
        simp only [Array.toList_extract, List.extract_eq_take_drop]
        rw [List.take_of_length_le (by rw [List.length_drop]; simp [hd])]
      have hts : t.size ≤ s.size := by omega
      have ht4 : 4 ≤ t.size := by omega
      have htl2 : (s.data.toList.drop m).length = t.size := by rw [← htl]; simp
      rw [coverGet_getT s.data.toList m (by rw [hsl]; exact hm), ← htl]
      rw [← htl] at htl2
      clear htl hsl h1
      have r2 := wordAt_range t.data.toList 2
      obtain ⟨n, hn⟩ : ∃ n : Nat, wordAt t.data.toList 2 = (n : Int) := ⟨(wordAt t.data.toList 2).toNat, by omega⟩
      rw [hn, Int.toNat_natCast]
      have hn2 : n ≤ 65535 := by omega
      obtain ⟨f, hf⟩ : ∃ f : Int, wordAt t.data.toList 0 = f := ⟨_, rfl⟩
      rw [hf]
      unfold getT
      rw [htl2]
      by_cases hf1 : f = 1
      · subst hf1
        rw [if_pos rfl]
        by_cases hr : t.size < 4 + 2 * n
        · rw [if_pos hr]
          have h4 : (t.size : Int) < 4 + 2 * (n : Int) := by omega
          have HT := Lib.hid ht
          have HF := Lib.hid hf
          have HN := Lib.hid hn
          clear ht hf hn htn htl2 hr
          go_enter Try.func20, Try.ntmps20
          go_wp2_with fail
          rw [HT.out]
          refine (word_val t 0 1 w (by omega) (by omega) (by omega) HF.out).mono ?_
          rintro e w' ⟨rfl, rfl⟩
          go_wp2_with fail
          refine (word_val t 2 (n : Int) w (by omega) (by omega) (by omega) HN.out).mono ?_
          rintro e w' ⟨rfl, rfl⟩
          go_wp2
          go_ret2
          exact ⟨none, 0, rfl, Ints.nil _, Below.refl _ _, Cap.nil⟩
        · rw [if_neg hr]
          exact refGet_one s t m n w hs hm ht htn hf hn (by omega)
      · rw [if_neg hf1]
        by_cases hf2 : f = 2
        · subst hf2
          rw [if_pos rfl]
          by_cases hr : t.size < 4 + 6 * n
          · rw [if_pos hr]
            have h4 : (t.size : Int) < 4 + 6 * (n : Int) := by omega
            have HT := Lib.hid ht
            have HF := Lib.hid hf
            have HN := Lib.hid hn
            clear ht hf hn htn htl2 hr
            go_enter Try.func20, Try.ntmps20
            go_wp2_with fail
            rw [HT.out]
            refine (word_val t 0 2 w (by omega) (by omega) (by omega) HF.out).mono ?_
            rintro e w' ⟨rfl, rfl⟩
            go_wp2_with fail
            refine (word_val t 2 (n : Int) w (by omega) (by omega) (by omega) HN.out).mono ?_
            rintro e w' ⟨rfl, rfl⟩
            go_wp2
            go_ret2
            exact ⟨none, 0, rfl, Ints.nil _, Below.refl _ _, Cap.nil⟩
          · rw [if_neg hr]
            exact refGet_two s t m n w hs hm ht htn hf hn (by omega)
        · rw [if_neg hf2]
          have hfa : (f == 2) = false := by simpa using hf2
          have hfb : (f != 1) = true := by simpa using hf1
          have hfc : (f != 2) = true := by simpa using hf2
          have HT := Lib.hid ht
          have HF := Lib.hid hf
          have HN := Lib.hid hn
          clear ht hf hn htn htl2 hf1 hf2
          go_enter Try.func20, Try.ntmps20
          go_wp2_with fail
          rw [HT.out]
          refine (word_val t 0 f w (by omega) (by omega) (by omega) HF.out).mono ?_
          rintro e w' ⟨rfl, rfl⟩
          go_wp2_with fail
          refine (word_val t 2 (n : Int) w (by omega) (by omega) (by omega) HN.out).mono ?_
          rintro e w' ⟨rfl, rfl⟩
          go_wp2
          go_ret2
          exact ⟨none, 0, rfl, Ints.nil _, Below.refl _ _, Cap.nil⟩

end Go.Proofs.Ytigljfmbelaobaa
