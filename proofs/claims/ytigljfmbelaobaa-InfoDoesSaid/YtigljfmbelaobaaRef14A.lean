/- The document's layer 14: does a value fit; glyphs, right pairs, a glyph's value; layer 3: bytes of a number below 0. -/
import Derived.Test.YtigljfmbelaobaaInfoPut
import Derived.Test.YtigljfmbelaobaaRefIs
import Derived.Test.YtigljfmbelaobaaRefBytes
import Derived.Test.YtigljfmbelaobaaPlainInfo
namespace Go.Proofs.Ytigljfmbelaobaa
open Go.RowKit

set_option maxHeartbeats 1000000 in
theorem fits03_any (v : Int) (w : World) : Calls Try.prog 32 #[.int .i64 v, .int .i64 (-2)] w fun e w' => e = .returned (.bool (fits2 v)) ∧ w = w' := by
  have hpw := power_any 2 w (by omega)
  rw [pow8_2] at hpw
  by_cases h1 : -32768 ≤ v
  · by_cases h2 : v < 32768
    · have HF := Lib.hid (show fits2 v = true from (fits2_iff v).2 ⟨h1, by omega⟩)
      go_enter Try.func32, Try.ntmps32
      go_wp2_with (first
        | (go_at_call 48; go_in)
        | (go_at_call 40; refine hpw.mono ?_; rintro e w' ⟨rfl, rfl⟩))
      go_ret
      rw [HF.out]
      exact ⟨rfl, rfl⟩
    · have HF := Lib.hid (show fits2 v = false by unfold fits2; rw [Bool.and_eq_false_iff]; right; rw [decide_eq_false_iff_not]; omega)
      have hd2 : decide (v < 32768) = false := by simpa using h2
      go_enter Try.func32, Try.ntmps32
      go_wp2_with (first
        | (go_at_call 48; go_in)
        | (go_at_call 40; refine hpw.mono ?_; rintro e w' ⟨rfl, rfl⟩))
      go_ret
      rw [HF.out]
      exact ⟨rfl, rfl⟩
  · have HF := Lib.hid (show fits2 v = false by unfold fits2; rw [Bool.and_eq_false_iff]; left; rw [decide_eq_false_iff_not]; omega)
    have hd : decide (-32768 ≤ v) = false := by simpa using h1
    go_enter Try.func32, Try.ntmps32
    go_wp2_with (first
      | (go_at_call 48; go_in)
      | (go_at_call 40; refine hpw.mono ?_; rintro e w' ⟨rfl, rfl⟩))
    go_ret
    rw [HF.out]
    exact ⟨rfl, rfl⟩

set_option maxRecDepth 100000 in
set_option maxHeartbeats 2000000 in
theorem refGlyphs_any (A : Option Addr) (c : Nat) (l : List (Int × Int)) (w : World) (h : Prs w A l) (hl : l.length ≤ 1000000) :
    Calls Try.prog 26 #[.slice A l.length c] w fun e w' => ∃ A' c', e = .returned (.slice A' (fsts l).length c') ∧ Ints w' A' (fsts l) ∧ Below w.heap.size w w' ∧ Cap A' (fsts l).length c' := by
  have hlen := h.len
  go_enter Try.func26, Try.ntmps26
  go_wp2
  go_loopw [3, 4] (fun vv i wr => ∃ (k : Nat) (v : Value), v = vv ∧ k ≤ l.length ∧ i = .int .i64 (k : Int) ∧ wr.ownsRow w.heap.size 3 1 v (fsts (l.take k)).length ((fsts (l.take k)).map (Value.int .i64)) ∧ Below w.heap.size w wr) (fun _ i _ => l.length - (intOf i).toNat)
  case atStart => exact ⟨0, _, rfl, Nat.zero_le _, rfl, World.ownsRow_nil _ _ _ _, Below.refl _ _⟩
  case round =>
    obtain ⟨k, v, rfl, hk, rfl, hown, hbw⟩ := hrel
    have HO := Lib.hid hown
    have HB := Lib.hid hbw
    have hsz := hbw.size
    clear hown hbw
    by_cases hlt : k < l.length
    · obtain ⟨b, off, rfl, g0, g1, hi0, _⟩ := h.at_ k hlt
      have c0 := (HB.out.cell (p := ⟨b, off + k * 2, none⟩) (World.block_lt_of_cell? w _ g0)).trans g0
      have HS := Lib.hid (fsts_take l k hlt)
      have HL := Lib.hid (show (fsts (l.take k)).length ≤ k by rw [fsts_length, List.length_take]; omega)
      generalize fsts (l.take k) = acc at *
      generalize l[k] = x at *
      obtain ⟨x0, x1⟩ := x
      dsimp only at *
      clear g0 g1
      go_wp2_with (at_builtin; refine wpList_append_ints rfl (.tmp 11) (.tmp 17) rfl w.heap.size v acc rfl (HO.out.alloc _) (some ⟨wr.heap.size, 0, none⟩) 1 [x0] rfl (ints_cell_at _ _ x0 hi0 _ rfl) (fun h => by cases h) (by have := HL.out; simp only [List.length_cons, List.length_nil]; omega) (by simp; omega) ?_)
      intro v' w' hown hg _ _
      have hb' : Below w.heap.size w w' := (HB.out.alloc hsz _).grown hg (by simp; omega) (own_base HO.out)
      have hown : w'.ownsRow w.heap.size 3 1 v' (acc ++ [x0]).length ((acc ++ [x0]).map (Value.int .i64)) := by simpa using hown
      rw [← HS.out] at hown
      have HO' := Lib.hid hown
      have HB' := Lib.hid hb'
      clear hown hb' hg
      go_wp2
      go_roundw
      case rel => exact ⟨k + 1, _, rfl, by omega, by go_num, HO'.out, HB'.out⟩
      case measure => simp [intOf]; omega
    · have hkn : l.take k = l := List.take_of_length_le (by omega)
      have hown := HO.out
      rw [hkn] at hown
      have hwf : ∀ x, x ∈ fsts l → I64 x := by
        intro x hx
        simp only [fsts, List.mem_map] at hx
        obtain ⟨y, hy, rfl⟩ := hx
        obtain ⟨j, hj, rfl⟩ := List.mem_iff_getElem.1 hy
        obtain ⟨_, _, _, _, _, hi, _⟩ := h.at_ j hj
        exact hi
      obtain ⟨A', c', rfl, hi, hc⟩ := own_ints hown hwf (by rw [fsts_length]; omega)
      have HC := Lib.hid hc
      have HI := Lib.hid hi
      clear hkn hown hc hi
      go_wp2
      go_ret
      exact ⟨A', c', rfl, HI.out, HB.out, HC.out⟩

set_option maxRecDepth 100000 in
set_option maxHeartbeats 2000000 in
theorem refInfoIs_any (A : Option Addr) (c : Nat) (l : List (Int × Int)) (w : World) (h : Prs w A l) (hl : l.length ≤ 1000000) :
    Calls Try.prog 15 #[.slice A l.length c] w fun e w' => e = .returned (.bool (infoIs l)) ∧ Below w.heap.size w w' := by
  have hgl := refGlyphs_any A c l w h hl
  go_enter Try.func15, Try.ntmps15
  go_wp2
  go_loop [3] (fun i => ∃ k : Nat, k ≤ l.length ∧ i = .int .i64 (k : Int) ∧ Hid (∀ j (hj : j < l.length), j < k → fits2 l[j].2 = true)) (fun i => l.length - (intOf i).toNat)
  case atStart => exact ⟨0, Nat.zero_le _, rfl, fun j hj hk => by omega⟩
  case round =>
    obtain ⟨k, hk, rfl, HN⟩ := hrel
    by_cases hlt : k < l.length
    · obtain ⟨b, off, rfl, g0, g1, _, _⟩ := h.at_ k hlt
      have hf := fits03_any l[k].2 w
      have HNO := Lib.hid (fun (hn : fits2 l[k].2 = false) => show infoIs l = false by
        unfold infoIs
        rw [Bool.and_eq_false_iff]
        right
        rw [List.all_eq_false]
        exact ⟨l[k], List.getElem_mem hlt, by simp [hn]⟩)
      have HYES := Lib.hid (fun (hn : fits2 l[k].2 = true) j (hj : j < l.length) (hjk : j < k + 1) => show fits2 l[j].2 = true by
        by_cases e : j = k
        · subst e; exact hn
        · exact HN.out j hj (by omega))
      generalize l[k] = x at *
      obtain ⟨x0, x1⟩ := x
      dsimp only at *
      clear hgl g0
      cases hq : fits2 x1
      · rw [hq] at hf
        have HX := Lib.hid (HNO.out hq)
        clear hq HNO HYES
        go_wp2_with (go_at_call 32; refine hf.mono ?_; rintro e w' ⟨rfl, rfl⟩)
        go_ret
        exact ⟨ret_bool HX.out.symm, Below.refl _ _⟩
      · rw [hq] at hf
        have HX := Lib.hid (HYES.out hq)
        clear hq HNO HYES
        go_wp2_with (go_at_call 32; refine hf.mono ?_; rintro e w' ⟨rfl, rfl⟩)
        go_roundw
        case rel => exact ⟨k + 1, by omega, by go_num, HX⟩
        case measure => simp [intOf]; omega
    · have HX := Lib.hid (show infoIs l = isS (fsts l) by
        unfold infoIs
        rw [show (l.all fun x => fits2 x.2) = true from List.all_eq_true.2 fun x hx => by
          obtain ⟨j, hj, rfl⟩ := List.mem_iff_getElem.1 hx
          exact HN.out j hj (by omega), Bool.and_true])
      clear HN
      go_wp2_with fail
      refine hgl.mono ?_
      rintro e w1 ⟨A1, c1, rfl, hi1, hb1, hc1⟩
      go_wp2_with fail
      refine (refIs_any A1 c1 (fsts l) w1 hi1).mono ?_
      rintro e w2 ⟨rfl, hb2⟩
      go_wp2
      go_ret
      exact ⟨ret_bool HX.out.symm, hb1.trans (hb2.mono hb1.size)⟩

theorem infoFind_no {l : List (Int × Int)} {g : Int} (h : infoIs l = false) : infoFindS l g = (0, false) := by
  unfold infoFindS
  rw [if_neg (fun e => by rw [h] at e; cases e.1)]
theorem infoFind_out {l : List (Int × Int)} {g : Int} (h : ∀ j (hj : j < l.length), l[j].1 ≠ g) : infoFindS l g = (0, false) := by
  unfold infoFindS
  rw [if_neg]
  rintro ⟨_, hm⟩
  simp only [fsts, List.mem_map] at hm
  obtain ⟨x, hx, rfl⟩ := hm
  obtain ⟨j, hj, rfl⟩ := List.mem_iff_getElem.1 hx
  exact h j hj rfl

set_option maxRecDepth 100000 in
set_option maxHeartbeats 2000000 in
theorem refInfoFind_any (A : Option Addr) (c : Nat) (l : List (Int × Int)) (g : Int) (w : World) (h : Prs w A l) (hl : l.length ≤ 1000000) :
    Calls Try.prog 11 #[.slice A l.length c, .int .i64 g] w fun e w' => e = .returned (.tuple #[.int .i64 (infoFindS l g).1, .bool (infoFindS l g).2]) ∧ Below w.heap.size w w' := by
  have hi := refInfoIs_any A c l w h hl
  go_enter Try.func11, Try.ntmps11
  cases hs : infoIs l
  · rw [hs] at hi
    have HF := Lib.hid (infoFind_no (g := g) hs)
    clear hs
    go_wp2_with (go_at_call 15; refine hi.mono ?_; rintro e w1 ⟨rfl, hb1⟩)
    go_ret2
    rw [HF.out]
    exact ⟨rfl, hb1⟩
  · rw [hs] at hi
    have HS := Lib.hid hs
    clear hs
    go_wp2_with fail
    refine hi.mono ?_
    rintro e w1 ⟨rfl, hb1⟩
    have h1 := h.below pairR_keeps hb1
    go_wp2
    go_loop [6] (fun i => ∃ k : Nat, k ≤ l.length ∧ i = .int .i64 (k : Int) ∧ Hid (∀ j (hj : j < l.length), j < k → l[j].1 ≠ g)) (fun i => l.length - (intOf i).toNat)
    case atStart => exact ⟨0, Nat.zero_le _, rfl, fun j hj hk => by omega⟩
    case round =>
      obtain ⟨k, hk, rfl, HN⟩ := hrel
      by_cases hlt : k < l.length
      · obtain ⟨b, off, rfl, g0, g1, _, _⟩ := Prs.at_ h1 k hlt
        have HFA := Lib.hid (infoFind_at HS.out hlt)
        have HYES := Lib.hid (fun (hn : l[k].1 ≠ g) j (hj : j < l.length) (hjk : j < k + 1) => show l[j].1 ≠ g by
          by_cases e : j = k
          · subst e; exact hn
          · exact HN.out j hj (by omega))
        generalize l[k] = x at *
        obtain ⟨x0, x1⟩ := x
        dsimp only at *
        by_cases he : x0 = g
        · subst he
          clear HYES
          go_wp2
          go_ret2
          rw [HFA.out]
          exact ⟨rfl, hb1⟩
        · have hee : (x0 == g) = false := by simpa using he
          have HX := Lib.hid (HYES.out he)
          clear HYES he
          go_wp2
          go_roundw
          case rel => exact ⟨k + 1, by omega, by go_num, HX⟩
          case measure => simp [intOf]; omega
      · have HX := Lib.hid (infoFind_out (l := l) (g := g) fun j hj => HN.out j hj (by omega))
        clear HN
        go_wp2
        go_ret2
        rw [HX.out]
        exact ⟨rfl, hb1⟩

set_option maxHeartbeats 1000000 in
theorem bytes_neg (v : Int) (w : World) (h0 : -32768 ≤ v) (h1 : v < 0) :
    Calls Try.prog 24 #[.int .i64 v, .int .i64 2] w fun e w' => e = .returned (.string (txt (bytesOf v 2))) ∧ Below w.heap.size w w' := by
  have hpw := power_any 2 w (by omega)
  rw [pow8_2] at hpw
  have HBA := Lib.hid (show bytesOf (v + 65536) 2 = bytesOf v 2 by have := bytesOf_add v 2 2 (Nat.le_refl _); rwa [pow8_2] at this)
  have hu0 : 0 ≤ v + 65536 := by omega
  have hu1 : v + 65536 ≤ 65535 := by omega
  go_enter Try.func24, Try.ntmps24
  go_wp2_with (go_at_call 40; refine hpw.mono ?_; rintro e w' ⟨rfl, rfl⟩)
  generalize v + 65536 = u at *
  go_loopw [0, 5, 6] (fun x s i wr => ∃ k : Nat, k ≤ 2 ∧ i = .int .i64 (k : Int) ∧ x = .int .i64 (u / pow8 k) ∧ s = .string ⟨(bytesOf u k).toArray⟩ ∧ Below w.heap.size w wr) (fun _ _ i _ => 2 - (intOf i).toNat)
  case atStart => exact ⟨0, Nat.zero_le _, rfl, by simp [pow8], rfl, Below.refl _ _⟩
  case round =>
    obtain ⟨k, hk, rfl, rfl, rfl, hbw⟩ := hrel
    have hp := pow8_pos k
    have hq0 : 0 ≤ u / pow8 k := Int.ediv_nonneg hu0 (by omega)
    have hq1 : u / pow8 k ≤ u := Int.ediv_le_self _ hu0
    by_cases hlt : k < 2
    · have hbv : u / pow8 k % 256 = ((byteOf u k).toNat : Int) := by
        rw [← byteOf_val]
        congr 2
        unfold pow8
        rw [Int.pow_mul]
        rfl
      have hcv : (convert 66 9 (.slice (some ⟨wr.heap.size, 0, none⟩) 1 1)).run Try.prog (wr.alloc (.cells #[.int .u8 (u / pow8 k % 256)] 5)) = .ok (.string ⟨#[byteOf u k]⟩) (wr.alloc (.cells #[.int .u8 (u / pow8 k % 256)] 5)) :=
        run_convert_bytes_back _ 66 9 5 ⟨wr.heap.size, 0, none⟩ 1 [byteOf u k] Try.underlying66 Try.underlying5 Try.underlying9 (fun j hj => by
          simp only [List.length_cons, List.length_nil] at hj
          have : j = 0 := by omega
          subst this
          have := (Box.new wr 5 (.int .u8 (u / pow8 k % 256))).cell
          rw [addr_add]
          rw [this, hbv]
          rfl)
      have hsz : (⟨(bytesOf u k).toArray⟩ : ByteArray).size = k := by
        have : ∀ m, (bytesOf u m).length = m := by intro m; induction m with | zero => rfl | succ m ih => simp [bytesOf, ih]
        simp [ByteArray.size, this]
      have hsz2 : (⟨(bytesOf u k).toArray⟩ : ByteArray).size ≤ 4 := by omega
      have hnx : u / pow8 k / 256 = u / pow8 (k + 1) := by
        rw [pow8_succ, ← Int.ediv_ediv_of_nonneg (by exact hp)]
      have hsz1 : (⟨#[byteOf u k]⟩ : ByteArray).size = 1 := rfl
      have HNX := Lib.hid hnx
      clear hbv hsz hnx
      go_wp2
      go_roundw
      case rel =>
        refine ⟨k + 1, by omega, by go_num, by rw [HNX.out], ?_, hbw.alloc hbw.size _⟩
        congr 1
      case measure => simp [intOf]; omega
    · have hkn : k = 2 := by omega
      have HK := Lib.hid hkn
      clear hkn
      go_wp2
      go_ret
      rw [HK.out, HBA.out]
      exact ⟨rfl, hbw⟩
/-- Bytes of a number of two bytes, with a sign or without. -/
theorem bytes_two (v : Int) (w : World) (h0 : -32768 ≤ v) (h1 : v ≤ 65535) :
    Calls Try.prog 24 #[.int .i64 v, .int .i64 2] w fun e w' => e = .returned (.string (txt (bytesOf v 2))) ∧ Below w.heap.size w w' := by
  rcases Int.lt_or_le v 0 with h | h
  · exact bytes_neg v w h0 h
  · exact bytes_txt v 2 w (by omega) h (by omega)

end Go.Proofs.Ytigljfmbelaobaa
