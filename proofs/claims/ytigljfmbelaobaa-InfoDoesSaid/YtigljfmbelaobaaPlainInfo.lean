/- Layer 14 (info): what is put is got; what is got is right. -/
import Derived.Test.YtigljfmbelaobaaInfoGet
namespace Go.Proofs.Ytigljfmbelaobaa
open Go.RowKit

theorem infoSizes_nth (n i : Nat) (h : i < n) : nth (infoSizes n) (2 + 2 * i) = -2 := by
  unfold infoSizes
  rw [show 2 + 2 * i = [(2 : Int), 2].length + 2 * i by simp, nth_right]
  exact repn_nth n i h
theorem vals0_nth (l : List (Int × Int)) : ∀ i (h : i < l.length), nth (vals0 l) (2 * i) = l[i].2 := by
  induction l with
  | nil => intro i h; simp at h
  | cons x l ih =>
    intro i h
    have e : vals0 (x :: l) = [x.2, 0] ++ vals0 l := by simp [vals0]
    rw [e]
    cases i with
    | zero => rfl
    | succ i =>
      rw [show 2 * (i + 1) = [x.2, (0 : Int)].length + 2 * i by simp; omega, nth_right]
      exact ih i (by simpa using h)
theorem infoRow_nth (l : List (Int × Int)) (i : Nat) (h : i < l.length) : nth (infoRow l) (2 + 2 * i) = l[i].2 := by
  unfold infoRow
  rw [show 2 + 2 * i = [4 + 4 * (l.length : Int), (l.length : Int)].length + 2 * i by simp, nth_right]
  exact vals0_nth l i h

/-- What is put is got, wherever it stands. -/
theorem info_back {l : List (Int × Int)} (h : infoIs l = true) (hl : l.length ≤ 16382) (front back : List UInt8) : infoGetS (front ++ infoBytes l ++ back) (front.length : Int) = (l, 0) := by
  have hs := infoIs_is h
  have hfit := infoRow_fits h hl
  have hrl := infoRow_length l
  have hwl := wordBytes_length (infoRow l)
  have hg := nums_got (infoSizes l.length) (infoRow l) front (wordBytes (coverRow (fsts l)) ++ back) (by rw [infoSizes_length, infoRow_length]) hfit
  have htx : front ++ infoBytes l ++ back = front ++ wordBytes (infoRow l) ++ (wordBytes (coverRow (fsts l)) ++ back) := by simp [infoBytes, List.append_assoc]
  have htx2 : front ++ infoBytes l ++ back = (front ++ wordBytes (infoRow l)) ++ wordBytes (coverRow (fsts l)) ++ back := by simp [infoBytes, List.append_assoc]
  have hcb := cover_back hs (by rw [fsts_length]; omega) (front ++ wordBytes (infoRow l)) back
  rw [← htx2] at hcb
  rw [← htx] at hg
  have hlen : (front ++ infoBytes l ++ back).length ≥ front.length + 4 + 4 * l.length := by
    rw [htx]
    simp only [List.length_append, hwl, hrl]
    omega
  generalize front ++ infoBytes l ++ back = s at *
  have hn := fun i (hi : i < (infoSizes l.length).length) => numsAt_nth (infoSizes l.length) s front.length i hi
  rw [hg] at hn
  have hsl := infoSizes_length l.length
  have h0 := hn 0 (by omega)
  have h1 := hn 1 (by omega)
  have e0 : wordAt s front.length = 4 + 4 * (l.length : Int) := by
    have : nth (infoSizes l.length) 0 = 2 := rfl
    rw [this, numAt_pos] at h0
    exact h0.symm
  have e1 : wordAt s (front.length + 2) = (l.length : Int) := by
    have : nth (infoSizes l.length) 1 = 2 := rfl
    rw [this, numAt_pos] at h1
    exact h1.symm
  unfold infoGetS
  rw [Int.toNat_natCast, e0, e1]
  have hpos : ((front ++ wordBytes (infoRow l)).length : Int) = (front.length : Int) + (4 + 4 * (l.length : Int)) := by
    rw [List.length_append, hwl, hrl]; omega
  rw [hpos] at hcb
  rw [hcb]
  rw [if_neg (by omega), if_neg (by omega), if_neg (by omega), if_neg (by simp), if_neg (by simp [fsts_length])]
  congr 1
  apply List.ext_getElem
  · rw [valsAt_length, fsts_length]
  · intro i hi hi'
    rw [valsAt_get]
    have h2 := hn (2 + 2 * i) (by omega)
    rw [infoSizes_nth _ _ hi', infoRow_nth _ _ hi', numAt_neg] at h2
    apply Prod.ext
    · show nth (fsts l) i = l[i].1
      rw [nth_eq _ _ (by rw [fsts_length]; exact hi')]
      simp [fsts]
    · show swordAt s (front.length + 4 + 4 * i) = l[i].2
      rw [h2]
      congr 1
      omega

/-- What is got is right; its numbers stand there. -/
theorem info_only {s : List UInt8} {at_ : Int} {l : List (Int × Int)} (h : infoGetS s at_ = (l, 0)) :
    infoIs l = true ∧ 0 ≤ at_ ∧ at_ + 4 + 4 * l.length ≤ s.length ∧ wordAt s (at_.toNat + 2) = (l.length : Int) ∧ coverGetS s (at_ + wordAt s at_.toNat) = (fsts l, 0) ∧ ∀ i (hi : i < l.length), swordAt s (at_.toNat + 4 + 4 * i) = l[i].2 := by
  unfold infoGetS at h
  by_cases h0 : at_ < 0
  · rw [if_pos h0] at h; simp at h
  rw [if_neg h0] at h
  by_cases h1 : at_ > s.length ∨ (s.length : Int) - at_ < 4
  · rw [if_pos h1] at h; simp at h
  rw [if_neg h1] at h
  by_cases h2 : (s.length : Int) - at_ < 4 + 4 * wordAt s (at_.toNat + 2)
  · rw [if_pos h2] at h; simp at h
  rw [if_neg h2] at h
  generalize hcg : coverGetS s (at_ + wordAt s at_.toNat) = cg at *
  obtain ⟨g, ge⟩ := cg
  by_cases h3 : ge ≠ 0
  · rw [if_pos h3] at h
    simp only [Prod.mk.injEq] at h
    exact absurd h.2 h3
  have hge : ge = 0 := by omega
  subst hge
  rw [if_neg (by simp)] at h
  by_cases h4 : ((g.length : Int)) ≠ wordAt s (at_.toNat + 2)
  · rw [if_pos h4] at h; simp at h
  rw [if_neg h4] at h
  simp only [Prod.mk.injEq, and_true] at h
  subst h
  have hgl : (g.length : Int) = wordAt s (at_.toNat + 2) := by omega
  have hS := (cover_only hcg).1
  have hvl := valsAt_length s at_.toNat g
  refine ⟨?_, by omega, by rw [hvl]; omega, by rw [hvl]; exact hgl.symm, by rw [fsts_valsAt], fun i hi => by rw [valsAt_get]⟩
  unfold infoIs
  rw [fsts_valsAt, hS, Bool.true_and, List.all_eq_true]
  intro x hx
  simp only [valsAt, List.mem_map] at hx
  obtain ⟨i, _, rfl⟩ := hx
  exact swordAt_fits _ _
theorem infoGet_no {s : List UInt8} {at_ : Int} (h : (infoGetS s at_).2 ≠ 0) : (infoGetS s at_).1 = [] := by
  unfold infoGetS at *
  split
  · rfl
  · rename_i h0
    rw [if_neg h0] at h
    split
    · rfl
    · rename_i h1
      rw [if_neg h1] at h
      split
      · rfl
      · rename_i h2
        rw [if_neg h2] at h
        split
        · rfl
        · rename_i h3
          rw [if_neg h3] at h
          split
          · rfl
          · rename_i h4
            rw [if_neg h4] at h
            exact absurd rfl h
theorem infoFind_at {l : List (Int × Int)} (h : infoIs l = true) {k : Nat} (hk : k < l.length) : infoFindS l l[k].1 = (l[k].2, true) := by
  have hs := infoIs_is h
  have hkl : k < (fsts l).length := by rw [fsts_length]; exact hk
  have e : l[k].1 = nth (fsts l) k := by rw [nth_eq _ _ hkl]; simp [fsts]
  have hf := findS_at hs hkl
  have hm : nth (fsts l) k ∈ fsts l := nth_mem _ _ hkl
  unfold findS at hf
  rw [if_pos ⟨hs, hm⟩] at hf
  simp only [Prod.mk.injEq, and_true] at hf
  unfold infoFindS
  rw [e, if_pos ⟨h, hm⟩, show (fsts l).findIdx (· == nth (fsts l) k) = k by omega]
  simp [List.getD_eq_getElem?_getD, hk]

end Go.Proofs.Ytigljfmbelaobaa
