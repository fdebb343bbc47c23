/- What words come to: numbers of two bytes each. -/
import Derived.Test.YtigljfmbelaobaaWords
namespace Go.Proofs.Ytigljfmbelaobaa
open Go.RowKit

def wordAt (s : List UInt8) (k : Nat) : Int := be ((s.drop k).take 2)
theorem wordAt_range (s : List UInt8) (k : Nat) : 0 ≤ wordAt s k ∧ wordAt s k ≤ 65535 := by
  unfold wordAt
  obtain ⟨h0, h1⟩ := be_range ((s.drop k).take 2)
  have h2 : pow8 ((s.drop k).take 2).length ≤ pow8 2 := pow8_mono (by simp; omega)
  rw [pow8_2] at h2
  omega
theorem wordAt_drop (s : List UInt8) (j k : Nat) : wordAt (s.drop j) k = wordAt s (j + k) := by
  unfold wordAt
  rw [List.drop_drop]
/-- so many words from a place on, as bytes have enough -/
def wordsAt (s : List UInt8) (k n : Nat) : List Int := (List.range n).map fun i => wordAt s (k + 2 * i)
theorem wordsAt_length (s : List UInt8) (k n : Nat) : (wordsAt s k n).length = n := by simp [wordsAt]
theorem wordsAt_nth (s : List UInt8) (k n j : Nat) (hj : j < n) : nth (wordsAt s k n) j = wordAt s (k + 2 * j) := by
  rw [nth_eq _ _ (by rw [wordsAt_length]; exact hj)]
  simp [wordsAt]
theorem wordsAt_range (s : List UInt8) (k n : Nat) : ∀ x, x ∈ wordsAt s k n → 0 ≤ x ∧ x ≤ 65535 := by
  intro x hx
  simp only [wordsAt, List.mem_map] at hx
  obtain ⟨i, _, rfl⟩ := hx
  exact wordAt_range _ _
def wordsS (s : List UInt8) (at_ : Int) (n : Nat) : List Int × Int :=
  if at_ < 0 then ([], 1) else if at_ > s.length ∨ (s.length : Int) - at_ < 2 * n then ([], 4) else (wordsAt s at_.toNat n, 0)

theorem takes_words : ∀ (n : Nat) (s : List UInt8), takes (List.replicate n 2) s = if s.length < 2 * n then none else some (wordsAt s 0 n) := by
  intro n
  induction n with
  | zero => intro s; simp [takes, wordsAt]
  | succ n ih =>
    intro s
    rw [List.replicate_succ]
    unfold takes
    have e2 : (2 : Int).natAbs = 2 := rfl
    rw [e2, ih]
    by_cases h : s.length < 2
    · rw [if_pos h, if_pos (by omega)]
    · rw [if_neg h]
      by_cases h' : (s.drop 2).length < 2 * n
      · rw [if_pos h', if_pos (by simp at h'; omega)]
        rfl
      · rw [if_neg h', if_neg (by simp at h'; omega)]
        simp only [Option.map_some, Option.some.injEq, wordsAt, List.range_succ_eq_map, List.map_cons, List.map_map, List.cons.injEq]
        refine ⟨?_, ?_⟩
        · simp [numOf, wordAt]
        · apply List.map_congr_left
          intro i _
          simp only [Function.comp, wordAt_drop, Nat.succ_eq_add_one]
          congr 1
          omega
theorem rep_two (n : Nat) : rep [2] n = List.replicate n 2 := by simp [rep]
theorem getS_words (s : List UInt8) (at_ : Int) (n : Nat) : getS s at_ (rep [2] n) = wordsS s at_ n := by
  have hr : rightB (rep [2] n) = true := by
    rw [rep_two]
    unfold rightB
    rw [List.all_eq_true]
    intro x hx
    rw [List.eq_of_mem_replicate hx]
    decide
  unfold getS wordsS
  rw [hr, rep_two, takes_words]
  by_cases h0 : at_ < 0
  · rw [if_pos (.inl h0), if_pos h0]
  · rw [if_neg (by rintro (h | h); exact h0 h; cases h), if_neg h0]
    by_cases h1 : at_ > s.length
    · rw [if_pos h1, if_pos (.inl h1)]
    · rw [if_neg h1]
      by_cases h2 : (s.length : Int) - at_ < 2 * n
      · rw [if_pos (by rw [List.length_drop]; omega), if_pos (.inr h2)]
      · rw [if_neg (by rw [List.length_drop]; omega), if_neg (by rintro (h | h); exact h1 h; exact h2 h)]
        simp only [wordsAt, wordAt_drop, Nat.zero_add]
theorem wordsS_ok {s : List UInt8} {at_ : Int} {n : Nat} (h : (wordsS s at_ n).2 = 0) : 0 ≤ at_ ∧ at_ ≤ s.length ∧ wordsS s at_ n = (wordsAt s at_.toNat n, 0) := by
  unfold wordsS at *
  by_cases h0 : at_ < 0
  · rw [if_pos h0] at h; simp at h
  · rw [if_neg h0] at h ⊢
    by_cases h1 : at_ > s.length ∨ (s.length : Int) - at_ < 2 * n
    · rw [if_pos h1] at h; simp at h
    · rw [if_neg h1]
      exact ⟨by omega, by omega, rfl⟩
theorem wordsS_no {s : List UInt8} {at_ : Int} {n : Nat} (h : (wordsS s at_ n).2 ≠ 0) : (wordsS s at_ n).1 = [] := by
  unfold wordsS at *
  by_cases h0 : at_ < 0
  · rw [if_pos h0]
  · rw [if_neg h0] at h ⊢
    by_cases h1 : at_ > s.length ∨ (s.length : Int) - at_ < 2 * n
    · rw [if_pos h1]
    · rw [if_neg h1] at h; exact absurd rfl h
theorem words_any' (s : ByteArray) (at_ : Int) (n : Nat) (w : World) (hs : s.size ≤ 140737488355328) (hn : n ≤ 400000) :
    Calls Try.prog 37 #[.string s, .int .i64 at_, .int .i64 (n : Int)] w (RetInts w (wordsS s.data.toList at_ n)) := by
  have := words_any s at_ n w hs hn
  rwa [getS_words] at this

end Go.Proofs.Ytigljfmbelaobaa
