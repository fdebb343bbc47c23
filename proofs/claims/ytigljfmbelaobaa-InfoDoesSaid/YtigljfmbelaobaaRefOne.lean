/- The document's layer 3: a number out of bytes; layer 12: a word. -/
import Derived.Test.YtigljfmbelaobaaRef03
import Derived.Test.YtigljfmbelaobaaWordsS
namespace Go.Proofs.Ytigljfmbelaobaa
open Go.RowKit

set_option maxHeartbeats 1000000 in
theorem one_any (s : ByteArray) (size : Int) (w : World) (h1 : 1 ≤ s.size) (h4 : s.size ≤ 4) :
    Calls Try.prog 19 #[.string s, .int .i64 size] w fun e w' => e = .returned (.int .i64 (numOf size s.data.toList)) ∧ w = w' := by
  have hsl : s.data.toList.length = s.size := by simp
  have hpw := power_any s.size w h4
  go_enter Try.func19, Try.ntmps19
  go_wp2
  go_loop [5, 6] (fun v i => ∃ k : Nat, k ≤ s.size ∧ i = .int .i64 (k : Int) ∧ v = .int .i64 (be (s.data.toList.take k))) (fun _ i => s.size - (intOf i).toNat)
  case atStart => exact ⟨0, Nat.zero_le _, rfl, by simp [be]⟩
  case round =>
    obtain ⟨k, hk, rfl, rfl⟩ := hrel
    by_cases hlt : k < s.size
    · have hb := be_bd (s.data.toList.take k) (by rw [List.length_take]; omega)
      have hb3 := hb.2.1 (by rw [List.length_take]; omega)
      have hb0 := hb.1
      have hsn := be_snoc s k hlt
      have hby := byteAt_range s k
      have HSN := Lib.hid hsn
      clear hsn hb
      generalize be (s.data.toList.take k) = v at *
      have hbe : ∀ hh, ((s[k]'hh).toNat : Int) = byteAt s k := by
        intro hh
        unfold byteAt
        have hh' : k < s.data.size := hh
        simp [List.getD_eq_getElem?_getD, Array.getElem?_eq_getElem hh', ByteArray.getElem_eq_getElem_data]
      have HBE := Lib.hid hbe
      clear hbe
      go_wp2
      go_roundw
      case rel =>
        refine ⟨k + 1, by omega, by go_num, ?_⟩
        rw [HSN.out, HBE.out]
        congr 1
        unfold wrap64
        omega
      case measure => simp [intOf]; omega
    · have hkn : k = s.size := by omega
      have hall : s.data.toList.take k = s.data.toList := List.take_of_length_le (by omega)
      rw [hall]
      have hr := be_range s.data.toList
      have hm : pow8 s.data.toList.length ≤ pow8 4 := pow8_mono (by omega)
      have hp := pow8_pos s.data.toList.length
      have heven : pow8 s.size % 2 = 0 := by
        obtain ⟨m, hm⟩ : ∃ m, s.size = m + 1 := ⟨s.size - 1, by omega⟩
        rw [hm, pow8_succ]
        omega
      rw [pow8_4] at hm
      rw [hsl] at hr hm hp
      have HN := Lib.hid (show numOf size s.data.toList = if size < 0 ∧ 2 * be s.data.toList ≥ pow8 s.size then be s.data.toList - pow8 s.size else be s.data.toList by unfold numOf; rw [hsl])
      generalize be s.data.toList = v at *
      generalize pow8 s.size = p at *
      clear hall hkn
      by_cases hneg : size < 0
      · by_cases hbig : 2 * v ≥ p
        · have hge : p / 2 ≤ v := by omega
          go_wp2_with (go_at_call 40; refine hpw.mono ?_; rintro e w' ⟨rfl, rfl⟩)
          go_ret
          rw [HN.out, if_pos ⟨hneg, hbig⟩]
          exact ⟨rfl, rfl⟩
        · have hge : ¬ p / 2 ≤ v := by omega
          go_wp2_with (go_at_call 40; refine hpw.mono ?_; rintro e w' ⟨rfl, rfl⟩)
          go_ret
          rw [HN.out, if_neg (fun h => by have := h.2; omega)]
          exact ⟨rfl, rfl⟩
      · go_wp2
        go_ret
        rw [HN.out, if_neg (fun h => by have := h.1; omega)]
        exact ⟨rfl, rfl⟩

end Go.Proofs.Ytigljfmbelaobaa
