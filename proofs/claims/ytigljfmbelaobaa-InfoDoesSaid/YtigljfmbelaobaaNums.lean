/- Numbers of two bytes each, with a sign or without: read and written. -/
import Derived.Test.YtigljfmbelaobaaBinGet
import Derived.Test.YtigljfmbelaobaaBinPut
import Derived.Test.YtigljfmbelaobaaWordsS
import Derived.Test.YtigljfmbelaobaaPlainPut
namespace Go.Proofs.Ytigljfmbelaobaa
open Go.RowKit

/-- Is it a number of two bytes, with a sign? -/
def fits2 (v : Int) : Bool := decide (-32768 ≤ v) && decide (v ≤ 32767)
theorem fits2_B (v : Int) : fitsB v (-2) = fits2 v := by
  unfold fitsB fits2
  rw [if_pos (by decide), show (-(-2 : Int)).toNat = 2 from rfl, pow8_2]
  congr 1
  simp only [decide_eq_decide]
  omega
theorem fits2_iff (v : Int) : fits2 v = true ↔ -32768 ≤ v ∧ v ≤ 32767 := by simp [fits2]
def fitsW (v : Int) : Bool := decide (0 ≤ v) && decide (v ≤ 65535)
theorem fitsW_iff (v : Int) : fitsW v = true ↔ 0 ≤ v ∧ v ≤ 65535 := by simp [fitsW]
theorem fitsW_B (v : Int) : fitsB v 2 = fitsW v := by
  unfold fitsB fitsW
  rw [if_neg (by decide), show (2 : Int).toNat = 2 from rfl, pow8_2]
  congr 1
  simp only [decide_eq_decide]
  omega
/-- Does a value fit a size of two bytes? -/
def fitN (n v : Int) : Bool := if n < 0 then fits2 v else fitsW v
theorem natAbs_two {n : Int} (h : n.natAbs = 2) : n = 2 ∨ n = -2 := by omega
theorem fitN_B {n : Int} (h : n.natAbs = 2) (v : Int) : fitsB v n = fitN n v := by
  rcases natAbs_two h with rfl | rfl
  · unfold fitN; rw [if_neg (by decide)]; exact fitsW_B v
  · unfold fitN; rw [if_pos (by decide)]; exact fits2_B v

/-- The number with a sign at a place. -/
def swordAt (s : List UInt8) (k : Nat) : Int := if 32768 ≤ wordAt s k then wordAt s k - 65536 else wordAt s k
theorem swordAt_range (s : List UInt8) (k : Nat) : -32768 ≤ swordAt s k ∧ swordAt s k ≤ 32767 := by
  have := wordAt_range s k
  unfold swordAt
  split <;> omega
theorem swordAt_fits (s : List UInt8) (k : Nat) : fits2 (swordAt s k) = true := (fits2_iff _).2 (swordAt_range s k)
theorem swordAt_drop (s : List UInt8) (j k : Nat) : swordAt (s.drop j) k = swordAt s (j + k) := by
  unfold swordAt
  rw [wordAt_drop]
def numAt (n : Int) (s : List UInt8) (k : Nat) : Int := if n < 0 then swordAt s k else wordAt s k
theorem numAt_drop (n : Int) (s : List UInt8) (j k : Nat) : numAt n (s.drop j) k = numAt n s (j + k) := by
  unfold numAt
  rw [wordAt_drop, swordAt_drop]
theorem numAt_fits (n : Int) (s : List UInt8) (k : Nat) : fitN n (numAt n s k) = true := by
  unfold fitN numAt
  split
  · exact swordAt_fits s k
  · exact (fitsW_iff _).2 (wordAt_range s k)
theorem numAt_pos (s : List UInt8) (k : Nat) : numAt 2 s k = wordAt s k := rfl
theorem numAt_neg (s : List UInt8) (k : Nat) : numAt (-2) s k = swordAt s k := rfl
theorem numOf_numAt {n : Int} (h : n.natAbs = 2) (s : List UInt8) (hl : 2 ≤ s.length) : numOf n (s.take 2) = numAt n s 0 := by
  have hlen : (s.take 2).length = 2 := by rw [List.length_take]; omega
  unfold numOf
  rw [hlen, pow8_2]
  have e : be (s.take 2) = wordAt s 0 := by unfold wordAt; simp
  rw [e]
  rcases natAbs_two h with rfl | rfl
  · rw [if_neg (fun h => by have := h.1; omega)]
    rfl
  · unfold numAt swordAt
    simp only [Int.reduceLT, Int.reduceNeg, if_true, true_and]
    by_cases hb : 32768 ≤ wordAt s 0
    · rw [if_pos (by omega), if_pos hb]
    · rw [if_neg (by omega), if_neg hb]

/-- The numbers of sizes of two bytes each, from a place on. -/
def numsAt : List Int → List UInt8 → Nat → List Int
  | [], _, _ => []
  | n :: ns, s, k => numAt n s k :: numsAt ns s (k + 2)
theorem numsAt_length : ∀ (ns : List Int) (s : List UInt8) (k : Nat), (numsAt ns s k).length = ns.length
  | [], _, _ => rfl
  | _ :: ns, s, k => by simp [numsAt, numsAt_length ns s (k + 2)]
theorem numsAt_drop : ∀ (ns : List Int) (s : List UInt8) (j k : Nat), numsAt ns (s.drop j) k = numsAt ns s (j + k)
  | [], _, _, _ => rfl
  | n :: ns, s, j, k => by rw [numsAt, numsAt, numAt_drop, numsAt_drop ns s j (k + 2)]; rfl
theorem numsAt_nth : ∀ (ns : List Int) (s : List UInt8) (k i : Nat), i < ns.length → nth (numsAt ns s k) i = numAt (nth ns i) s (k + 2 * i)
  | [], _, _, i, h => by simp at h
  | n :: ns, s, k, 0, _ => rfl
  | n :: ns, s, k, i + 1, h => by
    have := numsAt_nth ns s (k + 2) i (by simpa using h)
    have e1 : nth (numsAt (n :: ns) s k) (i + 1) = nth (numsAt ns s (k + 2)) i := by simp [nth, numsAt]
    have e2 : nth (n :: ns) (i + 1) = nth ns i := by simp [nth]
    rw [e1, e2, this]
    congr 1
    omega

theorem takes_nums : ∀ (ns : List Int), (∀ n, n ∈ ns → n.natAbs = 2) → ∀ s : List UInt8, takes ns s = if s.length < 2 * ns.length then none else some (numsAt ns s 0) := by
  intro ns
  induction ns with
  | nil => intro _ s; simp [takes, numsAt]
  | cons n ns ih =>
    intro h s
    have hn := h n (by simp)
    unfold takes
    rw [hn, ih (fun x hx => h x (by simp [hx]))]
    have hl : (s.drop 2).length = s.length - 2 := List.length_drop
    by_cases h1 : s.length < 2
    · rw [if_pos h1, if_pos (by simp; omega)]
    · rw [if_neg h1, hl]
      by_cases h2 : s.length - 2 < 2 * ns.length
      · rw [if_pos h2, if_pos (by simp; omega)]
        rfl
      · rw [if_neg h2, if_neg (by simp; omega), numOf_numAt hn s (by omega), numsAt_drop]
        rfl
/-- bin.Get at such sizes. -/
def numsS (s : List UInt8) (at_ : Int) (ns : List Int) : List Int × Int :=
  if at_ < 0 then ([], 1) else if at_ > s.length ∨ (s.length : Int) - at_ < 2 * ns.length then ([], 4) else (numsAt ns s at_.toNat, 0)
theorem rightB_two {ns : List Int} (h : ∀ n, n ∈ ns → n.natAbs = 2) : rightB ns = true := by
  unfold rightB
  rw [List.all_eq_true]
  intro x hx
  rcases natAbs_two (h x hx) with rfl | rfl <;> decide
theorem getS_nums {ns : List Int} (h : ∀ n, n ∈ ns → n.natAbs = 2) (s : List UInt8) (at_ : Int) : getS s at_ ns = numsS s at_ ns := by
  unfold getS numsS
  rw [rightB_two h, takes_nums ns h, numsAt_drop, List.length_drop, Nat.add_zero]
  by_cases h0 : at_ < 0
  · rw [if_pos (.inl h0), if_pos h0]
  · rw [if_neg (by rintro (h | h); exact h0 h; cases h), if_neg h0]
    by_cases h1 : at_ > s.length
    · rw [if_pos h1, if_pos (.inl h1)]
    · rw [if_neg h1]
      by_cases h2 : (s.length : Int) - at_ < 2 * ns.length
      · rw [if_pos (by omega), if_pos (.inr h2)]
      · rw [if_neg (by omega), if_neg (by rintro (h | h); exact h1 h; exact h2 h)]
theorem numsS_in {s : List UInt8} {m : Nat} {ns : List Int} (h : m + 2 * ns.length ≤ s.length) : numsS s (m : Int) ns = (numsAt ns s m, 0) := by
  unfold numsS
  rw [if_neg (by omega), if_neg (by omega)]
  simp
theorem numsS_out {s : List UInt8} {m : Nat} {ns : List Int} (h : s.length < m + 2 * ns.length) : numsS s (m : Int) ns = ([], 4) := by
  unfold numsS
  rw [if_neg (by omega), if_pos (by omega)]
theorem numsS_ok {s : List UInt8} {at_ : Int} {ns : List Int} (h : (numsS s at_ ns).2 = 0) : 0 ≤ at_ ∧ at_ + 2 * ns.length ≤ s.length ∧ numsS s at_ ns = (numsAt ns s at_.toNat, 0) := by
  unfold numsS at *
  by_cases h0 : at_ < 0
  · rw [if_pos h0] at h; simp at h
  · rw [if_neg h0] at h ⊢
    by_cases h1 : at_ > s.length ∨ (s.length : Int) - at_ < 2 * ns.length
    · rw [if_pos h1] at h; simp at h
    · rw [if_neg h1]
      exact ⟨by omega, by omega, rfl⟩
theorem numsS_no {s : List UInt8} {at_ : Int} {ns : List Int} (h : (numsS s at_ ns).2 ≠ 0) : (numsS s at_ ns).1 = [] := by
  unfold numsS at *
  by_cases h0 : at_ < 0
  · rw [if_pos h0]
  · rw [if_neg h0] at h ⊢
    by_cases h1 : at_ > s.length ∨ (s.length : Int) - at_ < 2 * ns.length
    · rw [if_pos h1]
    · rw [if_neg h1] at h; exact absurd rfl h
theorem nums_any (s : ByteArray) (at_ : Int) (A : Option Addr) (c : Nat) (ns : List Int) (w : World) (h : Ints w A ns) (hs : s.size ≤ 140737488355328) (hn : ns.length ≤ 1000000) (h2 : ∀ n, n ∈ ns → n.natAbs = 2) :
    Calls Try.prog 16 #[.string s, .int .i64 at_, .slice A ns.length c] w (RetInts w (numsS s.data.toList at_ ns)) := by
  have := get_any s at_ A c ns w h hs hn
  rwa [getS_nums h2] at this

/-! ### Put at such sizes -/
/-- Do all values fit? -/
def allFit : List Int → List Int → Bool
  | n :: ns, v :: vs => fitN n v && allFit ns vs
  | _, _ => true
theorem putAll_nums : ∀ (ns row : List Int), ns.length = row.length → (∀ n, n ∈ ns → n.natAbs = 2) → putAll ns row = if allFit ns row = true then some (wordBytes row) else none := by
  intro ns
  induction ns with
  | nil => intro row hl _; cases row with | nil => rfl | cons _ _ => simp at hl
  | cons n ns ih =>
    intro row hl h
    cases row with
    | nil => simp at hl
    | cons v row =>
      rw [putAll, fitN_B (h n (by simp)), ih row (by simpa using hl) (fun x hx => h x (by simp [hx])), h n (by simp), allFit, wordBytes_cons]
      by_cases h1 : fitN n v = true
      · by_cases h2 : allFit ns row = true
        · simp [h1, h2]
        · simp [h1, h2]
      · simp [h1]
theorem putS_nums {ns row : List Int} (hl : ns.length = row.length) (h : ∀ n, n ∈ ns → n.natAbs = 2) : putS ns row = if allFit ns row = true then (wordBytes row, 0) else ([], 2) := by
  unfold putS
  rw [rightB_two h, if_neg (by simp [hl]), putAll_nums ns row hl h]
  by_cases h2 : allFit ns row = true
  · simp [h2]
  · simp [h2]

theorem sword_two {v : Int} (h : -32768 ≤ v ∧ v ≤ 32767) : (if 32768 ≤ be (bytesOf v 2) then be (bytesOf v 2) - 65536 else be (bytesOf v 2)) = v := by
  have h1 := byteOf_val v 1
  have h0 := byteOf_val v 0
  simp [be, bytesOf]
  simp at h1 h0
  split <;> omega
theorem num_two {n v : Int} (h : fitN n v = true) : (if n < 0 then (if 32768 ≤ be (bytesOf v 2) then be (bytesOf v 2) - 65536 else be (bytesOf v 2)) else be (bytesOf v 2)) = v := by
  unfold fitN at h
  split
  · rename_i hn
    rw [if_pos hn] at h
    exact sword_two ((fits2_iff v).1 h)
  · rename_i hn
    rw [if_neg hn] at h
    exact be_two v ((fitsW_iff v).1 h)
/-- numbers that were put are got -/
theorem nums_got : ∀ (ns row : List Int) (front back : List UInt8), ns.length = row.length → allFit ns row = true → numsAt ns (front ++ wordBytes row ++ back) front.length = row := by
  intro ns
  induction ns with
  | nil => intro row _ _ hl _; cases row with | nil => rfl | cons _ _ => simp at hl
  | cons n ns ih =>
    intro row front back hl h
    cases row with
    | nil => simp at hl
    | cons v row =>
      simp only [allFit, Bool.and_eq_true] at h
      have hb2 : (bytesOf v 2).length = 2 := by simp [bytesOf]
      rw [numsAt]
      congr 1
      · have hw : wordAt (front ++ wordBytes (v :: row) ++ back) front.length = be (bytesOf v 2) := by
          unfold wordAt
          rw [wordBytes_cons, List.append_assoc, List.drop_left, List.append_assoc, List.take_append_of_le_length (by rw [hb2]; exact Nat.le_refl _), List.take_of_length_le (by rw [hb2]; exact Nat.le_refl _)]
        unfold numAt swordAt
        rw [hw]
        exact num_two h.1
      · have := ih row (front ++ bytesOf v 2) back (by simpa using hl) h.2
        rw [List.length_append, hb2] at this
        rw [wordBytes_cons]
        simpa [List.append_assoc] using this

end Go.Proofs.Ytigljfmbelaobaa
