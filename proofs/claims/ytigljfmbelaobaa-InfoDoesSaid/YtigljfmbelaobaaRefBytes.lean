/- The document's layer 3: bytes of a number; layer 12: a word. -/
import Derived.Test.YtigljfmbelaobaaRefOne
import Derived.Test.YtigljfmbelaobaaBinPut
namespace Go.Proofs.Ytigljfmbelaobaa
open Go.RowKit

theorem word_any (s : ByteArray) (at_ : Nat) (w : World) (h : at_ + 2 ≤ s.size) (hs : s.size ≤ 140737488355328) :
    Calls Try.prog 41 #[.string s, .int .i64 (at_ : Int)] w fun e w' => e = .returned (.int .i64 (wordAt s.data.toList at_)) ∧ w = w' := by
  have hx : (s.extract at_ (at_ + 2)).size = 2 := by rw [ByteArray.size_extract]; omega
  have h1 := one_any (s.extract at_ (at_ + 2)) 2 w (by omega) (by omega)
  have hn : numOf 2 (s.extract at_ (at_ + 2)).data.toList = wordAt s.data.toList at_ := by
    unfold numOf wordAt
    rw [if_neg (by omega)]
    congr 1
    simp [List.extract_eq_take_drop]
  rw [hn] at h1
  clear hn hx
  go_enter Try.func41, Try.ntmps41
  go_wp2_with (go_at_call 19; refine h1.mono ?_; rintro e w' ⟨rfl, rfl⟩)
  go_ret
  exact ⟨rfl, rfl⟩

theorem byteOf_add (v : Int) (n k : Nat) (h : k < n) : byteOf (v + pow8 n) k = byteOf v k := by
  have e : pow8 n = pow8 (n - k - 1) * 256 * pow8 k := by
    have : pow8 (n - k - 1) * 256 = pow8 (n - k - 1 + 1) := (pow8_succ _).symm
    rw [this]
    unfold pow8
    rw [← Int.pow_add]
    congr 1
    omega
  have hp : 0 < pow8 k := by unfold pow8; exact Int.pow_pos (by decide)
  unfold byteOf
  rw [e, Int.add_mul_ediv_right _ _ (by omega), Int.add_mul_emod_self_right]
theorem bytesOf_add (v : Int) (n : Nat) : ∀ k, k ≤ n → bytesOf (v + pow8 n) k = bytesOf v k := by
  intro k
  induction k with
  | zero => intro _; rfl
  | succ k ih => intro hk; simp only [bytesOf]; rw [byteOf_add v n k (by omega), ih (by omega)]

set_option maxHeartbeats 1000000 in
theorem bytes_pos (v : Int) (n : Nat) (w : World) (hn : n ≤ 4) (h0 : 0 ≤ v) (h1 : v ≤ 8589934592) :
    Calls Try.prog 24 #[.int .i64 v, .int .i64 (n : Int)] w fun e w' => e = .returned (.string ⟨(bytesOf v n).toArray⟩) ∧ Below w.heap.size w w' := by
  go_enter Try.func24, Try.ntmps24
  have hnv : ¬ v < 0 := by omega
  go_wp2
  go_loopw [0, 5, 6] (fun x s i wr => ∃ k : Nat, k ≤ n ∧ i = .int .i64 (k : Int) ∧ x = .int .i64 (v / pow8 k) ∧ s = .string ⟨(bytesOf v k).toArray⟩ ∧ Below w.heap.size w wr) (fun _ _ i _ => n - (intOf i).toNat)
  case atStart => exact ⟨0, Nat.zero_le _, rfl, by simp [pow8], rfl, Below.refl _ _⟩
  case round =>
    obtain ⟨k, hk, rfl, rfl, rfl, hbw⟩ := hrel
    have hp := pow8_pos k
    have hq0 : 0 ≤ v / pow8 k := Int.ediv_nonneg h0 (by omega)
    have hq1 : v / pow8 k ≤ v := Int.ediv_le_self _ h0
    by_cases hlt : k < n
    · have hbv : v / pow8 k % 256 = ((byteOf v k).toNat : Int) := by
        rw [← byteOf_val]
        congr 2
        unfold pow8
        rw [Int.pow_mul]
        rfl
      have hcv : (convert 66 9 (.slice (some ⟨wr.heap.size, 0, none⟩) 1 1)).run Try.prog (wr.alloc (.cells #[.int .u8 (v / pow8 k % 256)] 5)) = .ok (.string ⟨#[byteOf v k]⟩) (wr.alloc (.cells #[.int .u8 (v / pow8 k % 256)] 5)) :=
        run_convert_bytes_back _ 66 9 5 ⟨wr.heap.size, 0, none⟩ 1 [byteOf v k] Try.underlying66 Try.underlying5 Try.underlying9 (fun j hj => by
          simp only [List.length_cons, List.length_nil] at hj
          have : j = 0 := by omega
          subst this
          have := (Box.new wr 5 (.int .u8 (v / pow8 k % 256))).cell
          rw [addr_add]
          rw [this, hbv]
          rfl)
      have hsz : (⟨(bytesOf v k).toArray⟩ : ByteArray).size = k := by
        have : ∀ m, (bytesOf v m).length = m := by intro m; induction m with | zero => rfl | succ m ih => simp [bytesOf, ih]
        simp [ByteArray.size, this]
      have hsz2 : (⟨(bytesOf v k).toArray⟩ : ByteArray).size ≤ 4 := by omega
      have hnx : v / pow8 k / 256 = v / pow8 (k + 1) := by
        rw [pow8_succ, ← Int.ediv_ediv_of_nonneg (by exact hp)]
      have hsz1 : (⟨#[byteOf v k]⟩ : ByteArray).size = 1 := rfl
      have HNX := Lib.hid hnx
      clear hbv hsz hnx
      go_wp2
      go_roundw
      case rel =>
        refine ⟨k + 1, by omega, by go_num, by rw [HNX.out], ?_, hbw.alloc hbw.size _⟩
        congr 1
      case measure => simp [intOf]; omega
    · have hkn : k = n := by omega
      have HK := Lib.hid hkn
      clear hkn
      go_wp2
      go_ret
      rw [HK.out]
      exact ⟨rfl, hbw⟩

end Go.Proofs.Ytigljfmbelaobaa
