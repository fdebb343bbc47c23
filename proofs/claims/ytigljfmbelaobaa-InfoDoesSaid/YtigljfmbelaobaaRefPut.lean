/- The document's layer 12: Put. -/
import Derived.Test.YtigljfmbelaobaaRefBytes
import Derived.Test.YtigljfmbelaobaaRefIs
import Derived.Test.YtigljfmbelaobaaPlainPut
import Derived.Test.YtigljfmbelaobaaQuiet
import Derived.BigQuiet
namespace Go.Proofs.Ytigljfmbelaobaa
open Go.RowKit

/-- The text of some bytes. -/
def txt (l : List UInt8) : ByteArray := ⟨l.toArray⟩
theorem txt_list (l : List UInt8) : (txt l).data.toList = l := by simp [txt]
theorem txt_size (l : List UInt8) : (txt l).size = l.length := by simp [txt, ByteArray.size]
theorem txt_add (a b : List UInt8) : txt a ++ txt b = txt (a ++ b) := by
  apply ByteArray.ext
  simp [txt]
theorem bytesOf_length (v : Int) : ∀ n, (bytesOf v n).length = n
  | 0 => rfl
  | n + 1 => by simp [bytesOf, bytesOf_length v n]
theorem bytes_txt (v : Int) (n : Nat) (w : World) (hn : n ≤ 4) (h0 : 0 ≤ v) (h1 : v ≤ 8589934592) :
    Calls Try.prog 24 #[.int .i64 v, .int .i64 (n : Int)] w fun e w' => e = .returned (.string (txt (bytesOf v n))) ∧ Below w.heap.size w w' := bytes_pos v n w hn h0 h1
theorem wordBytes_snoc (l : List Int) (x : Int) : wordBytes (l ++ [x]) = wordBytes l ++ bytesOf x 2 := by simp [wordBytes]
theorem wordBytes_append (l m : List Int) : wordBytes (l ++ m) = wordBytes l ++ wordBytes m := by simp [wordBytes]
theorem take_nth (l : List Int) (k : Nat) (h : k < l.length) : l.take (k + 1) = l.take k ++ [nth l k] := by
  rw [List.take_succ_eq_append_getElem h, nth_eq l k h]

set_option maxRecDepth 100000 in
set_option maxHeartbeats 4000000 in
theorem refPut_yes (A : Option Addr) (c : Nat) (l : List Int) (w : World) (h : Ints w A l) (hl : l.length ≤ 60000) (hs : isS l = true) :
    Calls Try.prog 25 #[.slice A l.length c] w fun e w' => e = .returned (.tuple #[.string (txt (wordBytes (coverRow l))), .int .i64 0]) ∧ Below w.heap.size w w' := by
  have hri := refIs_any A c l w h
  rw [hs] at hri
  have hbd := isS_bd hs
  have HS := Lib.hid hs
  clear hs
  have HBD := Lib.hid hbd
  clear hbd
  go_enter Try.func25, Try.ntmps25
  go_wp2_with (go_at_call 33; refine hri.mono ?_; rintro e w1 ⟨rfl, hb1⟩)
  go_wp2_with fail
  refine (bytes_txt _ 2 w1 (by omega) (by omega) (by omega)).mono ?_
  rintro e w2 ⟨rfl, hb2⟩
  have hb02 : Below w.heap.size w w2 := hb1.trans (hb2.mono hb1.size)
  have hz : (txt (bytesOf (l.length : Int) 2)).size ≤ 2 := by rw [txt_size, bytesOf_length]; omega
  clear hb1 hb2 hri
  obtain ⟨h0, hh0⟩ : ∃ x, x = bytesOf (l.length : Int) 2 := ⟨_, rfl⟩
  rw [← hh0] at hz ⊢
  have HH0 := Lib.hid hh0
  clear hh0
  go_wp2_with fail
  go_loopw [4, 5, 6, 7, 8] (fun o r q f i wr => ∃ (k : Nat) (ob rb : List UInt8), k ≤ l.length ∧ i = .int .i64 (k : Int) ∧ o = .string (txt ob) ∧ r = .string (txt rb) ∧ q = .int .i64 ((spansTo l k).1.length : Int) ∧ f = .int .i64 ((spansTo l k).2 : Int) ∧
      Hid (ob = [0, 1] ++ h0 ++ wordBytes (l.take k)) ∧ Hid (rb = wordBytes (rowsOf l (spansTo l k).1)) ∧ Below w.heap.size w wr) (fun _ _ _ _ i _ => l.length - (intOf i).toNat)
  case atStart => exact ⟨0, [0, 1] ++ h0, [], Nat.zero_le _, rfl, by rw [← txt_add]; rfl, rfl, rfl, rfl, by unfold Hid; simp [wordBytes], rfl, hb02⟩
  case round =>
    obtain ⟨k, ob, rb, hk, rfl, rfl, rfl, rfl, rfl, HOB, HRB, hbw⟩ := hrel
    have hsz := hbw.size
    have hob : (txt ob).size ≤ 200000 := by
      rw [txt_size, HOB.out, HH0.out]
      simp only [List.length_append, List.length_cons, List.length_nil, wordBytes_length, bytesOf_length, List.length_take]
      omega
    have hql := spansTo_length l k
    have hrb : (txt rb).size ≤ 600000 := by
      rw [txt_size, HRB.out, wordBytes_length, rowsOf_length]
      omega
    have hfl := spansTo_le l k
    by_cases hlt : k < l.length
    · have hfl2 : (spansTo l k).2 < l.length := by omega
      have hbk := HBD.out _ (nth_mem l k hlt)
      have hbf := HBD.out _ (nth_mem l (spansTo l k).2 (by omega))
      have hx1 : (txt (bytesOf (nth l k) 2)).size ≤ 2 := by rw [txt_size, bytesOf_length]; omega
      have hx2 : (txt (bytesOf (nth l (spansTo l k).2) 2)).size ≤ 2 := by rw [txt_size, bytesOf_length]; omega
      have hx3 : (txt (bytesOf ((spansTo l k).2 : Int) 2)).size ≤ 2 := by rw [txt_size, bytesOf_length]; omega
      obtain ⟨b, off, rfl, gk0⟩ := h.cells k hlt
      obtain ⟨_, _, e, gf0⟩ := h.cells (spansTo l k).2 (by omega)
      cases e
      have gk := (hbw.cell (p := ⟨b, off + k, none⟩) (World.block_lt_of_cell? w _ gk0)).trans gk0
      have gf := (hbw.cell (p := ⟨b, off + (spansTo l k).2, none⟩) (World.block_lt_of_cell? w _ gf0)).trans gf0
      have HSP := Lib.hid (show spansTo l (k + 1) = if goesOn l k then ((spansTo l k).1, (spansTo l k).2) else ((spansTo l k).1 ++ [((spansTo l k).2, k)], k + 1) from rfl)
      generalize (spansTo l k).2 = f at *
      generalize (spansTo l k).1 = ps at *
      have HW := Lib.hid hbw
      clear hbw gk0 gf0
      go_wp2_with fail
      refine (bytes_txt _ 2 wr (by omega) (by omega) (by omega)).mono ?_
      rintro e w3 ⟨rfl, hb3⟩
      have gk' := (hb3.cell (p := ⟨b, off + k, none⟩) (World.block_lt_of_cell? wr _ gk)).trans gk
      have gf' := (hb3.cell (p := ⟨b, off + f, none⟩) (World.block_lt_of_cell? wr _ gf)).trans gf
      have HW3 := Lib.hid (HW.out.trans (hb3.mono hsz))
      have hsz3 := hb3.size
      clear hb3 gk gf
      by_cases hm : k + 1 < l.length
      · have hmi : (k : Int) + 1 < (l.length : Int) := by omega
        have hmd : decide ((k : Int) + 1 < (l.length : Int)) = true := by simpa using hmi
        have hk0 : (0 : Int) ≤ (k : Int) + 1 := by omega
        have hw1 : IntKind.i64.wrap ((k : Int) + 1) = (k : Int) + 1 := by rw [IntKind.wrap_i64]; omega
        have hw2 : IntKind.i64.wrap (nth l k + 1) = nth l k + 1 := by rw [IntKind.wrap_i64]; omega
        have hkn : ((k : Int) + 1).toNat = k + 1 := by omega
        obtain ⟨_, _, e, gk1⟩ := h.cells (k + 1) hm
        cases e
        have gk1' := (HW3.out.cell (p := ⟨b, off + (k + 1), none⟩) (World.block_lt_of_cell? w _ gk1)).trans gk1
        clear gk1
        by_cases he : nth l (k + 1) = nth l k + 1
        · have hee : (nth l (k + 1) == nth l k + 1) = true := by simpa using he
          have HST := Lib.hid (show spansTo l (k + 1) = (ps, f) by rw [HSP.out, if_pos ⟨hm, he⟩])
          clear he
          go_wp2_with fail
          go_quiet (fail)
          go_wp2_with fail
          go_roundw
          case rel =>
            refine ⟨k + 1, ob ++ bytesOf (nth l k) 2, rb, by omega, by go_num, by rw [← txt_add], rfl, by rw [HST.out], by rw [HST.out], ?_, ?_, HW3.out.trans ⟨rfl, rfl, rfl, Nat.le_refl _, fun _ _ => rfl⟩⟩
            · unfold Hid
              rw [HOB.out, take_nth l k hlt, wordBytes_snoc, List.append_assoc]
            · unfold Hid
              rw [HST.out, HRB.out]
          case measure => simp [intOf]; omega
        · have hee : (nth l (k + 1) == nth l k + 1) = false := by simpa using he
          have HE := Lib.hid he
          clear he
          go_wp2_with fail
          go_quiet (fail)
          have hst : spansTo l (k + 1) = (ps ++ [(f, k)], k + 1) := by
            rw [HSP.out, if_neg (fun h => HE.out h.2)]
          have HST := Lib.hid hst
          clear hst
          go_wp2_with fail
          refine region_quiet (fun W => Below w3.heap.size w3 W ∧ W.cell? ⟨b, off + f, none⟩ = some (.int .i64 (nth l f)) ∧ W.cell? ⟨b, off + k, none⟩ = some (.int .i64 (nth l k))) (by kernel_rfl) (by kernel_rfl) ⟨⟨rfl, rfl, rfl, Nat.le_refl _, fun _ _ => rfl⟩, gf', gk'⟩ ?_
          repeat (first | (refine quiet_skip (by rfl) ?_) | (refine quiet_op (by rfl) ?_; apply Exists.intro; refine ⟨fun W hC => ?_, ?_⟩; (· (obtain ⟨hC0, hC1, hC2⟩ := hC; go_simp; try first | rfl | (rw [if_neg (by omega)]; first | done | rfl) | (rw [if_pos (by omega)]; first | done | rfl))))); (try simp only [put_lit, List.set])
          refine quiet_call (by rfl) (fun W hC => by go_simp; first | exact ⟨rfl, rfl⟩ | rfl) ?_; apply Exists.intro; refine ⟨fun W hC => ?_, ?_⟩; (· (obtain ⟨hC0, hC1, hC2⟩ := hC; refine (bytes_txt _ 2 W (by omega) (by omega) (by omega)).mono ?_; rintro e W' ⟨rfl, hb⟩; exact ⟨rfl, hC0.trans (hb.mono hC0.size), (hb.cell (p := ⟨b, off + f, none⟩) (World.block_lt_of_cell? W _ hC1)).trans hC1, (hb.cell (p := ⟨b, off + k, none⟩) (World.block_lt_of_cell? W _ hC2)).trans hC2⟩)); (try simp only [put_lit, List.set])
          repeat (first | (refine quiet_skip (by rfl) ?_) | (refine quiet_op (by rfl) ?_; apply Exists.intro; refine ⟨fun W hC => ?_, ?_⟩; (· (obtain ⟨hC0, hC1, hC2⟩ := hC; go_simp; try first | rfl | (rw [if_neg (by omega)]; first | done | rfl) | (rw [if_pos (by omega)]; first | done | rfl))))); (try simp only [put_lit, List.set])
          refine quiet_call (by rfl) (fun W hC => by go_simp; first | exact ⟨rfl, rfl⟩ | rfl) ?_; apply Exists.intro; refine ⟨fun W hC => ?_, ?_⟩; (· (obtain ⟨hC0, hC1, hC2⟩ := hC; refine (bytes_txt _ 2 W (by omega) (by omega) (by omega)).mono ?_; rintro e W' ⟨rfl, hb⟩; exact ⟨rfl, hC0.trans (hb.mono hC0.size), (hb.cell (p := ⟨b, off + f, none⟩) (World.block_lt_of_cell? W _ hC1)).trans hC1, (hb.cell (p := ⟨b, off + k, none⟩) (World.block_lt_of_cell? W _ hC2)).trans hC2⟩)); (try simp only [put_lit, List.set])
          repeat (first | (refine quiet_skip (by rfl) ?_) | (refine quiet_op (by rfl) ?_; apply Exists.intro; refine ⟨fun W hC => ?_, ?_⟩; (· (obtain ⟨hC0, hC1, hC2⟩ := hC; go_simp; try first | rfl | (rw [if_neg (by omega)]; first | done | rfl) | (rw [if_pos (by omega)]; first | done | rfl))))); (try simp only [put_lit, List.set])
          refine quiet_call (by rfl) (fun W hC => by go_simp; first | exact ⟨rfl, rfl⟩ | rfl) ?_; apply Exists.intro; refine ⟨fun W hC => ?_, ?_⟩; (· (obtain ⟨hC0, hC1, hC2⟩ := hC; refine (bytes_txt _ 2 W (by omega) (by omega) (by omega)).mono ?_; rintro e W' ⟨rfl, hb⟩; exact ⟨rfl, hC0.trans (hb.mono hC0.size), (hb.cell (p := ⟨b, off + f, none⟩) (World.block_lt_of_cell? W _ hC1)).trans hC1, (hb.cell (p := ⟨b, off + k, none⟩) (World.block_lt_of_cell? W _ hC2)).trans hC2⟩)); (try simp only [put_lit, List.set])
          repeat (first | (refine quiet_skip (by rfl) ?_) | (refine quiet_op (by rfl) ?_; apply Exists.intro; refine ⟨fun W hC => ?_, ?_⟩; (· (obtain ⟨hC0, hC1, hC2⟩ := hC; go_simp; try first | rfl | (rw [if_neg (by omega)]; first | done | rfl) | (rw [if_pos (by omega)]; first | done | rfl))))); (try simp only [put_lit, List.set])
          refine wpQuiet_nil ?_
          rintro w4 ⟨hb4, -, -⟩
          have HB4 := Lib.hid (HW3.out.trans (hb4.mono (Nat.le_trans hsz hsz3)))
          clear hb4
          go_wp2_with fail
          go_roundw
          case rel =>
            refine ⟨k + 1, ob ++ bytesOf (nth l k) 2, rb ++ (bytesOf (nth l f) 2 ++ (bytesOf (nth l k) 2 ++ bytesOf (f : Int) 2)), by omega, by go_num, by rw [← txt_add], by rw [← txt_add, ← txt_add, ← txt_add]; simp [ByteArray.append_assoc], by rw [HST.out]; simp, by rw [HST.out]; simp, ?_, ?_, HB4.out⟩
            · unfold Hid
              rw [HOB.out, take_nth l k hlt, wordBytes_snoc, List.append_assoc]
            · unfold Hid
              rw [HST.out, HRB.out, rowsOf_snoc, wordBytes_append]
              simp [rowOf, wordBytes]
          case measure => simp [intOf]; omega
      · have hmi : ¬ (k : Int) + 1 < (l.length : Int) := by omega
        have hmd : decide ((k : Int) + 1 < (l.length : Int)) = false := by simpa using hmi
        go_wp2_with fail
        go_quiet (fail)
        have hst : spansTo l (k + 1) = (ps ++ [(f, k)], k + 1) := by
          rw [HSP.out, if_neg (fun h => hm h.1)]
        have HST := Lib.hid hst
        clear hst
        go_wp2_with fail
        refine region_quiet (fun W => Below w3.heap.size w3 W ∧ W.cell? ⟨b, off + f, none⟩ = some (.int .i64 (nth l f)) ∧ W.cell? ⟨b, off + k, none⟩ = some (.int .i64 (nth l k))) (by kernel_rfl) (by kernel_rfl) ⟨⟨rfl, rfl, rfl, Nat.le_refl _, fun _ _ => rfl⟩, gf', gk'⟩ ?_
        repeat (first | (refine quiet_skip (by rfl) ?_) | (refine quiet_op (by rfl) ?_; apply Exists.intro; refine ⟨fun W hC => ?_, ?_⟩; (· (obtain ⟨hC0, hC1, hC2⟩ := hC; go_simp; try first | rfl | (rw [if_neg (by omega)]; first | done | rfl) | (rw [if_pos (by omega)]; first | done | rfl))))); (try simp only [put_lit, List.set])
        refine quiet_call (by rfl) (fun W hC => by go_simp; first | exact ⟨rfl, rfl⟩ | rfl) ?_; apply Exists.intro; refine ⟨fun W hC => ?_, ?_⟩; (· (obtain ⟨hC0, hC1, hC2⟩ := hC; refine (bytes_txt _ 2 W (by omega) (by omega) (by omega)).mono ?_; rintro e W' ⟨rfl, hb⟩; exact ⟨rfl, hC0.trans (hb.mono hC0.size), (hb.cell (p := ⟨b, off + f, none⟩) (World.block_lt_of_cell? W _ hC1)).trans hC1, (hb.cell (p := ⟨b, off + k, none⟩) (World.block_lt_of_cell? W _ hC2)).trans hC2⟩)); (try simp only [put_lit, List.set])
        repeat (first | (refine quiet_skip (by rfl) ?_) | (refine quiet_op (by rfl) ?_; apply Exists.intro; refine ⟨fun W hC => ?_, ?_⟩; (· (obtain ⟨hC0, hC1, hC2⟩ := hC; go_simp; try first | rfl | (rw [if_neg (by omega)]; first | done | rfl) | (rw [if_pos (by omega)]; first | done | rfl))))); (try simp only [put_lit, List.set])
        refine quiet_call (by rfl) (fun W hC => by go_simp; first | exact ⟨rfl, rfl⟩ | rfl) ?_; apply Exists.intro; refine ⟨fun W hC => ?_, ?_⟩; (· (obtain ⟨hC0, hC1, hC2⟩ := hC; refine (bytes_txt _ 2 W (by omega) (by omega) (by omega)).mono ?_; rintro e W' ⟨rfl, hb⟩; exact ⟨rfl, hC0.trans (hb.mono hC0.size), (hb.cell (p := ⟨b, off + f, none⟩) (World.block_lt_of_cell? W _ hC1)).trans hC1, (hb.cell (p := ⟨b, off + k, none⟩) (World.block_lt_of_cell? W _ hC2)).trans hC2⟩)); (try simp only [put_lit, List.set])
        repeat (first | (refine quiet_skip (by rfl) ?_) | (refine quiet_op (by rfl) ?_; apply Exists.intro; refine ⟨fun W hC => ?_, ?_⟩; (· (obtain ⟨hC0, hC1, hC2⟩ := hC; go_simp; try first | rfl | (rw [if_neg (by omega)]; first | done | rfl) | (rw [if_pos (by omega)]; first | done | rfl))))); (try simp only [put_lit, List.set])
        refine quiet_call (by rfl) (fun W hC => by go_simp; first | exact ⟨rfl, rfl⟩ | rfl) ?_; apply Exists.intro; refine ⟨fun W hC => ?_, ?_⟩; (· (obtain ⟨hC0, hC1, hC2⟩ := hC; refine (bytes_txt _ 2 W (by omega) (by omega) (by omega)).mono ?_; rintro e W' ⟨rfl, hb⟩; exact ⟨rfl, hC0.trans (hb.mono hC0.size), (hb.cell (p := ⟨b, off + f, none⟩) (World.block_lt_of_cell? W _ hC1)).trans hC1, (hb.cell (p := ⟨b, off + k, none⟩) (World.block_lt_of_cell? W _ hC2)).trans hC2⟩)); (try simp only [put_lit, List.set])
        repeat (first | (refine quiet_skip (by rfl) ?_) | (refine quiet_op (by rfl) ?_; apply Exists.intro; refine ⟨fun W hC => ?_, ?_⟩; (· (obtain ⟨hC0, hC1, hC2⟩ := hC; go_simp; try first | rfl | (rw [if_neg (by omega)]; first | done | rfl) | (rw [if_pos (by omega)]; first | done | rfl))))); (try simp only [put_lit, List.set])
        refine wpQuiet_nil ?_
        rintro w4 ⟨hb4, -, -⟩
        have HB4 := Lib.hid (HW3.out.trans (hb4.mono (Nat.le_trans hsz hsz3)))
        clear hb4
        go_wp2_with fail
        go_roundw
        case rel =>
          refine ⟨k + 1, ob ++ bytesOf (nth l k) 2, rb ++ (bytesOf (nth l f) 2 ++ (bytesOf (nth l k) 2 ++ bytesOf (f : Int) 2)), by omega, by go_num, by rw [← txt_add], by rw [← txt_add, ← txt_add, ← txt_add]; simp [ByteArray.append_assoc], by rw [HST.out]; simp, by rw [HST.out]; simp, ?_, ?_, HB4.out⟩
          · unfold Hid
            rw [HOB.out, take_nth l k hlt, wordBytes_snoc, List.append_assoc]
          · unfold Hid
            rw [HST.out, HRB.out, rowsOf_snoc, wordBytes_append]
            simp [rowOf, wordBytes]
        case measure => simp [intOf]; omega
    · have hkn : k = l.length := by omega
      have HK := Lib.hid hkn
      clear hkn
      rw [HK.out] at HRB HOB
      have hfl := spans_full l
      rw [List.take_length] at HOB
      have hcr : wordBytes (coverRow l) = if 3 * (spansTo l l.length).1.length < l.length then [0, 2] ++ (bytesOf ((spansTo l l.length).1.length : Int) 2 ++ rb) else ob := by
        unfold coverRow
        rw [HRB.out, HOB.out, HH0.out]
        by_cases hq : 3 * (spansTo l l.length).1.length < l.length
        · rw [if_pos hq, if_neg (by omega), wordBytes_append]
          simp only [wordBytes, List.flatMap_cons, List.flatMap_nil, List.append_nil]
          rw [show bytesOf 2 2 = [0, 2] from by decide +kernel]
          simp
        · rw [if_neg hq, if_pos (by omega), wordBytes_append]
          simp only [wordBytes, List.flatMap_cons, List.flatMap_nil, List.append_nil]
          rw [show bytesOf 1 2 = [0, 1] from by decide +kernel]
      rw [HK.out]
      have HCR := Lib.hid hcr
      clear hcr hfl
      have hx4 : (txt (bytesOf ((spansTo l l.length).1.length : Int) 2)).size ≤ 2 := by rw [txt_size, bytesOf_length]; omega
      have hql := spansTo_length l l.length
      generalize (spansTo l l.length).1.length = q at *
      generalize (spansTo l l.length).2 = f at *
      by_cases hq : 3 * q < l.length
      · have hqi : 6 * (q : Int) < 2 * (l.length : Int) := by omega
        go_wp2_with fail
        refine (bytes_txt _ 2 wr (by omega) (by omega) (by omega)).mono ?_
        rintro e w3 ⟨rfl, hb3⟩
        go_wp2
        go_ret2
        refine ⟨?_, hbw.trans (hb3.mono hsz)⟩
        rw [HCR.out, if_pos hq, ← txt_add, ← txt_add]
        simp [ByteArray.append_assoc, txt]
      · have hqi : ¬ 6 * (q : Int) < 2 * (l.length : Int) := by omega
        go_wp2
        go_ret2
        refine ⟨?_, hbw⟩
        rw [HCR.out, if_neg hq]
        rfl

theorem refPut_any (A : Option Addr) (c : Nat) (l : List Int) (w : World) (h : Ints w A l) (hl : l.length ≤ 60000) :
    Calls Try.prog 25 #[.slice A l.length c] w (RetText w (coverPutS l)) := by
  cases hs : isS l
  · have hp : coverPutS l = ([], 1) := by unfold coverPutS; rw [if_neg (by rw [hs]; simp)]
    rw [hp]
    have hri := refIs_any A c l w h
    rw [hs] at hri
    clear hs hp
    go_enter Try.func25, Try.ntmps25
    go_wp2_with (go_at_call 33; refine hri.mono ?_; rintro e w1 ⟨rfl, hb1⟩)
    go_ret2
    exact ⟨rfl, hb1⟩
  · rw [coverPut_ok hs (by omega)]
    exact refPut_yes A c l w h hl hs

end Go.Proofs.Ytigljfmbelaobaa
