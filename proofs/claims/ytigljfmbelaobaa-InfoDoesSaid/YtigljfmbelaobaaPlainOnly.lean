/- What is got is right, and put again it has no more bytes: the plain law of layer 12. -/
import Derived.Test.YtigljfmbelaobaaPlainPut
namespace Go.Proofs.Ytigljfmbelaobaa
open Go.RowKit

theorem spans_same (L : List Int) (m : Nat) : ∀ (d : Nat), (∀ i, m ≤ i → i < m + d → goesOn L i) → spansTo L (m + d) = spansTo L m := by
  intro d
  induction d with
  | zero => intro _; rfl
  | succ d ih =>
    intro h
    show (if goesOn L (m + d) then _ else _) = _
    rw [if_pos (h (m + d) (by omega) (by omega))]
    exact ih fun i hi hi' => h i hi (by omega)
theorem spans_one (L : List Int) (m : Nat) : (spansTo L (m + 1)).1.length ≤ (spansTo L m).1.length + 1 := by
  show (if goesOn L m then spansTo L m else _ : List (Nat × Nat) × Nat).1.length ≤ _
  split
  · omega
  · simp
theorem upto_length (a b : Int) : (upto a b).length = (b - a + 1).toNat := by simp [upto]
theorem nth_upto (a b : Int) (j : Nat) (hj : j < (upto a b).length) : nth (upto a b) j = a + (j : Int) := by
  rw [nth_eq _ j hj]
  simp [upto]
theorem runs_le (ws : List Int) : ∀ (q : Nat) (acc : List Int), rngGo ws [] (List.range q) = some acc → ∀ rest : List Int, (spansTo (acc ++ rest) acc.length).1.length ≤ q := by
  intro q
  induction q with
  | zero =>
    intro acc h rest
    simp only [List.range_zero, rngGo, Option.some.injEq] at h
    subst h
    exact Nat.le_refl _
  | succ q ih =>
    intro acc h rest
    rw [List.range_succ, rngGo_append] at h
    cases hp : rngGo ws [] (List.range q) with
    | none => rw [hp] at h; cases h
    | some accp =>
      rw [hp] at h
      change rngGo ws accp [q] = some acc at h
      simp only [rngGo] at h
      split at h
      · cases h
      · rename_i hc
        simp only [Option.some.injEq] at h
        generalize nth ws (q * 3) = a at *
        generalize nth ws (q * 3 + 1) = b at *
        have hab : a ≤ b := by
          rcases Int.lt_or_le b a with h1 | h1
          · exact absurd (.inl h1) hc
          · exact h1
        have ih' := ih accp hp (upto a b ++ rest)
        subst h
        have hul := upto_length a b
        rw [List.append_assoc]
        obtain ⟨d, hd⟩ : ∃ d, (upto a b).length = d + 1 := ⟨(upto a b).length - 1, by omega⟩
        have e1 : (accp ++ upto a b).length = accp.length + d + 1 := by rw [List.length_append]; omega
        rw [e1]
        have h1 := spans_one (accp ++ (upto a b ++ rest)) (accp.length + d)
        have h2 := spans_same (accp ++ (upto a b ++ rest)) accp.length d (fun i hi hi' => by
          obtain ⟨j, rfl⟩ : ∃ j, i = accp.length + j := ⟨i - accp.length, by omega⟩
          refine ⟨by simp only [List.length_append]; omega, ?_⟩
          rw [Nat.add_assoc, nth_right, nth_right, nth_left _ _ _ (by omega), nth_left _ _ _ (by omega), nth_upto _ _ _ (by omega), nth_upto _ _ _ (by omega)]
          omega)
        rw [h2] at h1
        omega

theorem bodyS_no {s : List UInt8} {at_ f n : Int} (h : (bodyS s at_ f n).2 ≠ 0) : (bodyS s at_ f n).1 = [] := by
  unfold bodyS at *
  split
  · rename_i h1
    rw [if_pos h1] at h
    exact wordsS_no h
  · rename_i h1
    rw [if_neg h1] at h
    split
    · rename_i h2
      rw [if_pos h2] at h
      split
      · rename_i h3
        rw [if_pos h3] at h
        exact rangesS_no _ _ h
      · rename_i h3
        exact wordsS_no h3
    · rfl
theorem coverGet_no {s : List UInt8} {at_ : Int} (h : (coverGetS s at_).2 ≠ 0) : (coverGetS s at_).1 = [] := by
  unfold coverGetS at *
  split
  · rfl
  · rename_i h1
    rw [if_neg h1] at h
    split
    · rfl
    · rename_i h2
      rw [if_neg h2] at h
      split
      · rename_i h3
        rw [if_pos h3] at h
        exact absurd rfl h
      · rfl

theorem wordsS_room {s : List UInt8} {at_ : Int} {n : Nat} {r : List Int} (h : wordsS s at_ n = (r, 0)) : r = wordsAt s at_.toNat n ∧ 0 ≤ at_ ∧ 2 * (n : Int) ≤ s.length - at_ := by
  have h2 : (wordsS s at_ n).2 = 0 := by rw [h]
  obtain ⟨h0, h1, h3⟩ := wordsS_ok h2
  rw [h] at h3
  simp only [Prod.mk.injEq, and_true] at h3
  refine ⟨h3, h0, ?_⟩
  unfold wordsS at h2
  rw [if_neg (by omega)] at h2
  rcases Int.lt_or_le ((s.length : Int) - at_) (2 * n) with h4 | h4
  · rw [if_pos (.inr h4)] at h2
    simp at h2
  · exact h4

/-- What is got is right; put, it has no more bytes. -/
theorem cover_only {s : List UInt8} {at_ : Int} {l : List Int} (h : coverGetS s at_ = (l, 0)) : isS l = true ∧ 0 ≤ at_ ∧ 2 * ((coverRow l).length : Int) ≤ s.length - at_ := by
  unfold coverGetS at h
  split at h
  · rename_i h1
    simp only [Prod.mk.injEq] at h
    exact absurd h.2 h1
  · rename_i h1
    split at h
    · rename_i h2
      simp only [Prod.mk.injEq] at h
      exact absurd h.2 h2
    · rename_i h2
      split at h
      · rename_i h3
        simp only [Prod.mk.injEq, and_true] at h
        have h1' : (wordsS s at_ 2).2 = 0 := by simpa using h1
        have h2' : (bodyS s at_ (wordAt s at_.toNat) (wordAt s (at_.toNat + 2))).2 = 0 := by simpa using h2
        have hat := (wordsS_ok h1').1
        have hr1 := wordAt_range s (at_.toNat + 2)
        generalize wordAt s at_.toNat = f at *
        generalize wordAt s (at_.toNat + 2) = n at *
        rw [h] at h3
        refine ⟨h3, hat, ?_⟩
        have hb : bodyS s at_ f n = (l, 0) := Prod.ext h h2'
        have hcl := coverRow_length l
        unfold bodyS at hb
        split at hb
        · obtain ⟨e, _, hroom⟩ := wordsS_room hb
          have : l.length = n.toNat := by rw [e, wordsAt_length]
          omega
        · split at hb
          · split at hb
            · rename_i h5
              have hws := wordsS_room (r := (wordsS s (at_ + 4) (3 * n.toNat)).1) (Prod.ext rfl h5)
              generalize (wordsS s (at_ + 4) (3 * n.toNat)).1 = ws at *
              have hgo : rngGo ws [] (List.range n.toNat) = some l := by
                unfold rangesS at hb
                split at hb
                · simp at hb
                · rename_i r hr
                  simp only [Prod.mk.injEq, and_true] at hb
                  rw [hr, hb]
              have hrun := runs_le ws n.toNat l hgo []
              rw [List.append_nil] at hrun
              have hc2 : (coverRow l).length ≤ 2 + 3 * (spansTo l l.length).1.length := by
                unfold coverRow
                split
                · simp; omega
                · rw [List.length_append, rowsOf_length]; simp
              have := hws.2.2
              omega
            · rename_i h5
              rw [hb] at h5
              exact absurd rfl h5
          · simp at hb
      · simp at h

end Go.Proofs.Ytigljfmbelaobaa
