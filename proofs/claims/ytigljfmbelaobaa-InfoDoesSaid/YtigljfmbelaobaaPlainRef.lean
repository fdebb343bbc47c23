/- The document's Get in plain Lean: it is the program's. -/
import Derived.Test.YtigljfmbelaobaaCoverGet
import Derived.Test.YtigljfmbelaobaaPlainPut
namespace Go.Proofs.Ytigljfmbelaobaa
open Go.RowKit

def runsT (l : List Int) (n : Nat) : List Int × Int := match rngGo l [] (List.range n) with
  | none => ([], 5)
  | some r => if isS r = true then (r, 0) else ([], 5)
def listT (l : List Int) : List Int × Int := if isS l = true then (l, 0) else ([], 5)
def getT (t : List UInt8) (f : Int) (n : Nat) : List Int × Int :=
  if f = 1 then (if t.length < 4 + 2 * n then ([], 4) else listT (wordsAt t 4 n))
  else if f = 2 then (if t.length < 4 + 6 * n then ([], 4) else runsT (wordsAt t 4 (3 * n)) n)
  else ([], 5)

theorem wordsAt_drop (s : List UInt8) (m k n : Nat) : wordsAt (s.drop m) k n = wordsAt s (m + k) n := by
  unfold wordsAt
  apply List.map_congr_left
  intro i _
  rw [wordAt_drop]
  congr 1
  omega
theorem wordsS_in {s : List UInt8} {m n : Nat} (h : m + 2 * n ≤ s.length) : wordsS s (m : Int) n = (wordsAt s m n, 0) := by
  unfold wordsS
  rw [if_neg (by omega), if_neg (by omega)]
  simp
theorem wordsS_out {s : List UInt8} {m n : Nat} (h : s.length < m + 2 * n) : wordsS s (m : Int) n = ([], 4) := by
  unfold wordsS
  rw [if_neg (by omega), if_pos (by omega)]

theorem coverGet_getT (s : List UInt8) (m : Nat) (h : m + 4 ≤ s.length) : coverGetS s (m : Int) = getT (s.drop m) (wordAt (s.drop m) 0) (wordAt (s.drop m) 2).toNat := by
  unfold coverGetS getT
  have hw : wordsS s (m : Int) 2 = (wordsAt s m 2, 0) := wordsS_in (by omega)
  rw [hw, if_neg (by simp)]
  simp only [Int.toNat_natCast]
  rw [wordAt_drop, wordAt_drop, Nat.add_zero]
  have hl : (s.drop m).length = s.length - m := List.length_drop
  have r1 := wordAt_range s (m + 2)
  generalize wordAt s m = f at *
  obtain ⟨n, hn⟩ : ∃ n : Nat, wordAt s (m + 2) = (n : Int) := ⟨(wordAt s (m + 2)).toNat, by omega⟩
  rw [hn, Int.toNat_natCast]
  unfold bodyS
  rw [Int.toNat_natCast, wordsAt_drop, wordsAt_drop, hl]
  have e4 : (m : Int) + 4 = ((m + 4 : Nat) : Int) := by omega
  rw [e4]
  by_cases h1 : f = 1
  · simp only [if_pos h1]
    by_cases h2 : s.length < m + 4 + 2 * n
    · rw [wordsS_out h2, if_pos (show s.length - m < 4 + 2 * n by omega)]
      rfl
    · rw [wordsS_in (by omega), if_neg (show ¬ s.length - m < 4 + 2 * n by omega)]
      rfl
  · simp only [if_neg h1]
    by_cases hf : f = 2
    · simp only [if_pos hf]
      by_cases h2 : s.length < m + 4 + 2 * (3 * n)
      · rw [wordsS_out h2]
        rw [if_pos (show s.length - m < 4 + 6 * n by omega)]
        rfl
      · rw [wordsS_in (by omega)]
        simp only [if_true]
        rw [if_neg (show ¬ s.length - m < 4 + 6 * n by omega)]
        unfold runsT rangesS
        generalize rngGo (wordsAt s (m + 4) (3 * n)) [] (List.range n) = r
        cases r with
        | none => simp
        | some r => simp
    · simp only [if_neg hf]
      simp

end Go.Proofs.Ytigljfmbelaobaa
