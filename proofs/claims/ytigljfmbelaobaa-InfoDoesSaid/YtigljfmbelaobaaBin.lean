/- Layer 3 (bin): what right, fits and take come to. -/
import Derived.Test.YtigljfmbelaobaaBase
namespace Go.Proofs.Ytigljfmbelaobaa
open Go.RowKit

def sizeB (n : Int) : Bool := decide (n ≠ 0) && (decide (-4 ≤ n) && decide (n ≤ 4))
def rightB (l : List Int) : Bool := l.all sizeB

theorem rightB_false {l : List Int} {k : Nat} (h : k < l.length) (hs : sizeB (nth l k) = false) : rightB l = false := by
  unfold rightB
  rw [List.all_eq_false]
  exact ⟨nth l k, nth_mem l k h, by simp [hs]⟩
theorem rightB_true {l : List Int} (h : ∀ k, k < l.length → sizeB (nth l k) = true) : rightB l = true := by
  unfold rightB
  rw [List.all_eq_true]
  intro x hx
  obtain ⟨k, hk, rfl⟩ := List.getElem_of_mem hx
  rw [← nth_eq l k hk]
  exact h k hk

set_option maxHeartbeats 400000 in
theorem right_any (A : Option Addr) (c : Nat) (l : List Int) (w : World) (h : Ints w A l) :
    Calls Try.prog 35 #[.slice A l.length c] w fun e w' => e = .returned (.bool (rightB l)) ∧ w = w' := by
  have hl := h.len
  go_enter Try.func35, Try.ntmps35
  go_wp2
  go_loop [4, 7] (fun _ i => ∃ k : Nat, k ≤ l.length ∧ i = .int .i64 k ∧ ∀ j, j < k → sizeB (nth l j) = true) (fun _ i => l.length - (intOf i).toNat)
  case atStart => exact ⟨0, Nat.zero_le _, rfl, fun j hj => absurd hj (by omega)⟩
  case round =>
    obtain ⟨k, hk, rfl, hs⟩ := hrel
    by_cases hlt : k < l.length
    · obtain ⟨b, off, rfl, g⟩ := h.cells k hlt
      have HS := Lib.hid hs
      clear hs h
      by_cases h1 : nth l k = 0
      · have hr := Lib.hid (rightB_false hlt (by unfold sizeB; simp [h1]))
        go_wp2
        go_ret
        exact ⟨ret_bool hr.out.symm, rfl⟩
      · by_cases h2 : nth l k < -4
        · have hr := Lib.hid (rightB_false hlt (by unfold sizeB; simp; omega))
          go_wp2
          go_ret
          exact ⟨ret_bool hr.out.symm, rfl⟩
        · by_cases h3 : 4 < nth l k
          · have hr := Lib.hid (rightB_false hlt (by unfold sizeB; simp; omega))
            go_wp2
            go_ret
            exact ⟨ret_bool hr.out.symm, rfl⟩
          · have hr := Lib.hid (show sizeB (nth l k) = true by unfold sizeB; simp; omega)
            go_wp2
            go_round
            case rel =>
              refine ⟨k + 1, by omega, by go_num, fun j hj => ?_⟩
              rcases Nat.lt_or_ge j k with hj' | hj'
              · exact HS.out j hj'
              · obtain rfl : j = k := by omega
                exact hr.out
            case measure => simp [intOf]; omega
    · have hr := Lib.hid (rightB_true (l := l) fun j hj => hs j (by omega))
      clear hs
      go_wp2
      go_ret
      exact ⟨ret_bool hr.out.symm, rfl⟩

/-- does v fit the size n (n a size)? -/
def pow8 (n : Nat) : Int := (256 : Int) ^ n
def fitsB (v n : Int) : Bool :=
  if n < 0 then decide (-(pow8 (-n).toNat / 2) ≤ v) && decide (v < pow8 (-n).toNat / 2)
  else decide (0 ≤ v) && decide (v < pow8 n.toNat)

set_option maxHeartbeats 400000 in
theorem fits_any (v n : Int) (w : World) (hn : sizeB n = true) :
    Calls Try.prog 42 #[.int .i64 v, .int .i64 n] w fun e w' => e = .returned (.bool (fitsB v n)) ∧ w = w' := by
  unfold sizeB at hn
  simp at hn
  obtain ⟨h0, h1, h2⟩ := hn
  have hc : n = -4 ∨ n = -3 ∨ n = -2 ∨ n = -1 ∨ n = 1 ∨ n = 2 ∨ n = 3 ∨ n = 4 := by omega
  clear h0 h1 h2
  rcases hc with rfl | rfl | rfl | rfl | rfl | rfl | rfl | rfl
  all_goals
    go_enter Try.func42, Try.ntmps42
    go_wp2
    all_goals (go_ret; exact ⟨ret_bool (by unfold fitsB pow8; simp; try omega), rfl⟩)

def be (l : List UInt8) : Int := l.foldl (fun v c => v * 256 + (c.toNat : Int)) 0
/-- the number that bytes are, of a size -/
def numOf (size : Int) (l : List UInt8) : Int := if size < 0 ∧ 2 * be l ≥ pow8 l.length then be l - pow8 l.length else be l

theorem size_cases {n : Int} (h : sizeB n = true) : ∃ m : Nat, 1 ≤ m ∧ m ≤ 4 ∧ n.natAbs = m ∧ (n = m ∨ n = -(m : Int)) := by
  unfold sizeB at h
  simp at h
  exact ⟨n.natAbs, by omega, by omega, rfl, by omega⟩

set_option maxHeartbeats 1000000 in
theorem take_more (b : Nat) (s : ByteArray) (n : Int) (w : World) (hn : sizeB n = true) (hc : w.cell? ⟨b, 0, none⟩ = some (.string s)) (hlt : s.size < n.natAbs) :
    Calls Try.prog 36 #[.pointer (some ⟨b, 0, none⟩), .int .i64 n] w fun e w' => e = .panicked [{ v := .iface 23 (.int .i64 4), recovered := false }] ∧ w = w' := by
  obtain ⟨m, h1, h4, hm, rfl | rfl⟩ := size_cases hn
  all_goals
    have hlt' : s.size < m := by omega
    clear hlt hm hn
    go_enter Try.func36, Try.ntmps36
    go_wp2
    exact ⟨rfl, rfl, rfl⟩

theorem below_bytesWorld (w : World) (e : TypeId) (s : ByteArray) : Below w.heap.size w (Lib.bytesWorld w e s) := by
  refine ⟨?_, ?_, ?_, by rw [Lib.bytesWorld_size]; omega, fun k hk => Lib.bytesWorld_at_old w e s k hk⟩
  all_goals
    unfold Lib.bytesWorld World.freeze
    split <;> rfl
theorem be_append (l : List UInt8) (c : UInt8) : be (l ++ [c]) = be l * 256 + (c.toNat : Int) := by simp [be]
theorem pow8_succ (n : Nat) : pow8 (n + 1) = pow8 n * 256 := by unfold pow8; rw [Int.pow_succ]
theorem be_rev (l : List UInt8) : ∀ r : List UInt8, l = r.reverse → 0 ≤ be l ∧ be l < pow8 l.length := by
  intro r
  induction r generalizing l with
  | nil => intro h; subst h; simp [be, pow8]
  | cons c r ih =>
    intro h
    subst h
    rw [List.reverse_cons, be_append]
    obtain ⟨h0, h1⟩ := ih _ rfl
    have hc := c.toNat_lt
    have : (r.reverse ++ [c]).length = r.reverse.length + 1 := by simp
    rw [this, pow8_succ]
    omega
theorem be_range (l : List UInt8) : 0 ≤ be l ∧ be l < pow8 l.length := be_rev l l.reverse (by simp)
theorem pow8_1 : pow8 1 = 256 := by decide
theorem pow8_2 : pow8 2 = 65536 := by decide
theorem pow8_3 : pow8 3 = 16777216 := by decide
theorem pow8_4 : pow8 4 = 4294967296 := by decide
theorem pow8_pos (n : Nat) : 0 ≤ pow8 n := by
  induction n with
  | zero => decide
  | succ n ih => rw [pow8_succ]; omega
theorem pow8_mono {a b : Nat} (h : a ≤ b) : pow8 a ≤ pow8 b := by
  induction h with
  | refl => exact Int.le_refl _
  | @step m _ ih => have h0 : 0 ≤ pow8 m := pow8_pos m; rw [pow8_succ]; omega
theorem be_bd (l : List UInt8) (h : l.length ≤ 4) : 0 ≤ be l ∧ (l.length ≤ 3 → be l < 16777216) ∧ be l < 4294967296 := by
  obtain ⟨h0, h1⟩ := be_range l
  refine ⟨h0, fun h3 => ?_, ?_⟩
  · have := pow8_mono h3
    have e : pow8 3 = 16777216 := by decide
    omega
  · have := pow8_mono h
    have e : pow8 4 = 4294967296 := by decide
    omega
def byteAt (s : ByteArray) (k : Nat) : Int := (s.data.toList.getD k 0).toNat
theorem byteAt_range (s : ByteArray) (k : Nat) : 0 ≤ byteAt s k ∧ byteAt s k ≤ 255 := by
  unfold byteAt
  have := (s.data.toList.getD k 0).toNat_lt
  omega

theorem byteAt_extract (s : ByteArray) (m j : Nat) (h : j < m) : (((s.extract 0 m).data.toList.getD j 0).toNat : Int) = byteAt s j := by
  unfold byteAt
  rw [ByteArray.data_extract]
  simp [List.getD_eq_getElem?_getD, h]
theorem be_snoc (s : ByteArray) (k : Nat) (h : k < s.size) : be (s.data.toList.take (k + 1)) = be (s.data.toList.take k) * 256 + byteAt s k := by
  rw [List.take_succ_eq_append_getElem (by simpa using h), be_append]
  unfold byteAt
  have h' : k < s.data.size := h
  simp [List.getD_eq_getElem?_getD, Array.getElem?_eq_getElem h']

theorem i64_or8 {x c : Int} (h0 : 0 ≤ x) (h1 : x < 16777216) (h2 : 0 ≤ c) (h3 : c ≤ 255) : bits BinOp.or IntKind.i64 (x * 256) c = x * 256 + c :=
  bits_join .i64 63 (by decide) (fun n h h' => by rw [IntKind.wrap_i64]; omega) 8 (x * 256) c (by omega) (by omega) (by omega) (by omega) (by omega) (by omega)

set_option maxHeartbeats 1000000 in
theorem take_some (b : Nat) (s : ByteArray) (n : Int) (w : World) (hn : sizeB n = true) (hc : w.cell? ⟨b, 0, none⟩ = some (.string s)) (hf : w.frozen? ⟨b, 0, none⟩ = false) (hs : s.size ≤ 140737488355328) (hle : n.natAbs ≤ s.size) :
    Calls Try.prog 36 #[.pointer (some ⟨b, 0, none⟩), .int .i64 n] w fun e w' => e = .returned (.int .i64 (numOf n (s.data.toList.take n.natAbs))) ∧ Below w.heap.size (w.setCell ⟨b, 0, none⟩ (.string (s.extract n.natAbs s.size))) w' := by
  obtain ⟨m, h1, h4, hm, rfl | rfl⟩ := size_cases hn
  all_goals
    rw [hm] at hle
    have Hm := Lib.hid hm
    clear hm hn
    have hcv := fun (w : World) (s : ByteArray) => Lib.run_convert_string_bytes (P := Try.prog) w 9 66 5 s Try.underlying9 Try.underlying66 Try.underlying5
    have hb := World.block_lt_of_cell? w _ hc
    go_enter Try.func36, Try.ntmps36
    go_wp2
    have hB : Below w.heap.size w (Lib.bytesWorld w 5 (s.extract 0 m)) := below_bytesWorld _ _ _
    have hcell : ∀ j, j < m → (Lib.bytesWorld w 5 (s.extract 0 m)).cell? ⟨w.heap.size, j, none⟩ = some (.int .u8 (byteAt s j)) := fun j hj => by
      rw [Lib.bytesWorld_cell _ _ _ _ (by simp; omega), byteAt_extract _ _ _ hj]
    generalize Lib.bytesWorld w 5 (s.extract 0 m) = w1 at *
    clear hcv
    have hc1 := (hB.cell (p := ⟨b, 0, none⟩) hb).trans hc
    have hf1 := (hB.frozen (p := ⟨b, 0, none⟩) hb).trans hf
    have HC := Lib.hid hcell
    clear hcell hc hf
    go_loop [6, 8, 30] (fun v _ i => ∃ (k : Nat) (x : Int), k ≤ m ∧ i = .int .i64 k ∧ v = .int .i64 x ∧ x = be (s.data.toList.take k)) (fun _ _ i => m - (intOf i).toNat)
    case atStart => exact ⟨0, 0, Nat.zero_le _, rfl, rfl, rfl⟩
    case round =>
      obtain ⟨k, x, hk, rfl, rfl, hx⟩ := hrel
      have hx2 := be_bd (s.data.toList.take k) (by simp; omega)
      by_cases hlt : k < m
      · have hx0 : 0 ≤ x := by rw [hx]; exact hx2.1
        have hx1 : x < 16777216 := by rw [hx]; exact hx2.2.1 (by simp; omega)
        have hsn := be_snoc s k (by omega)
        rw [← hx] at hsn
        have HX := Lib.hid hsn
        clear hx hx2 hsn
        have g := HC.out k hlt
        have hr := byteAt_range s k
        obtain ⟨hr0, hr1⟩ := hr
        go_wp2
        go_round
        case rel => exact ⟨k + 1, _, by omega, by go_num, rfl, by rw [HX.out, i64_or8 hx0 hx1 hr0 hr1]⟩
        case measure => simp [intOf]; omega
      · obtain rfl : k = m := by omega
        have hx0 : 0 ≤ x := by rw [hx]; exact hx2.1
        have hx1 : x < 4294967296 := by rw [hx]; exact hx2.2.2
        have HX := Lib.hid hx
        have hl : (s.data.toList.take k).length = k := by simp; omega
        have HL := Lib.hid hl
        clear hx hx2 hl
        have hk4 : k = 1 ∨ k = 2 ∨ k = 3 ∨ k = 4 := by omega
        have HB := Lib.hid hB
        clear hB
        rcases hk4 with rfl | rfl | rfl | rfl
        all_goals
          go_wp2
          all_goals
            go_ret
            refine ⟨ret_int ?_, ?_⟩
            · (try rw [Hm.out]); unfold numOf; rw [HL.out, ← HX.out]; simp only [pow8_1, pow8_2, pow8_3, pow8_4]; split <;> omega
            · (try rw [Hm.out]); exact below_setCell2 HB.out _ _

theorem nth_drop (l : List Int) (k : Nat) (h : k < l.length) : l.drop k = nth l k :: l.drop (k + 1) := by
  rw [nth_eq l k h, List.drop_eq_getElem_cons h]
theorem rightB_at {l : List Int} (h : rightB l = true) {k : Nat} (hk : k < l.length) : sizeB (nth l k) = true := by
  unfold rightB at h
  rw [List.all_eq_true] at h
  exact h _ (nth_mem l k hk)

theorem numOf_i64 (n : Int) (l : List UInt8) (h : l.length ≤ 4) : I64 (numOf n l) := by
  have h1 := be_range l
  have h2 := pow8_mono h
  have h3 := pow8_pos l.length
  rw [pow8_4] at h2
  unfold I64 numOf
  split <;> omega

end Go.Proofs.Ytigljfmbelaobaa
