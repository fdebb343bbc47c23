/- What is put is got: the plain law of layer 12. -/
import Derived.Test.YtigljfmbelaobaaCoverPut
import Derived.Test.YtigljfmbelaobaaCoverGet
namespace Go.Proofs.Ytigljfmbelaobaa
open Go.RowKit

def wordBytes (row : List Int) : List UInt8 := row.flatMap fun v => bytesOf v 2
theorem wordBytes_cons (v : Int) (row : List Int) : wordBytes (v :: row) = bytesOf v 2 ++ wordBytes row := by simp [wordBytes]
theorem wordBytes_length (row : List Int) : (wordBytes row).length = 2 * row.length := by
  induction row with
  | nil => rfl
  | cons v row ih => rw [wordBytes_cons, List.length_append, ih]; simp [bytesOf]; omega
theorem fits_two {v : Int} (h : 0 ≤ v ∧ v ≤ 65535) : fitsB v 2 = true := by
  unfold fitsB
  rw [if_neg (by decide), show (2 : Int).toNat = 2 from rfl, pow8_2]
  simp
  omega
theorem putAll_words : ∀ (row : List Int), (∀ v, v ∈ row → 0 ≤ v ∧ v ≤ 65535) → putAll (List.replicate row.length 2) row = some (wordBytes row) := by
  intro row
  induction row with
  | nil => intro _; rfl
  | cons v row ih =>
    intro h
    rw [List.length_cons, List.replicate_succ, putAll, if_pos (fits_two (h v (by simp))), ih (fun x hx => h x (by simp [hx])), wordBytes_cons]
    rfl
theorem putS_words {row : List Int} (h : ∀ v, v ∈ row → 0 ≤ v ∧ v ≤ 65535) : putS (rep [2] row.length) row = (wordBytes row, 0) := by
  unfold putS
  rw [rep_two, putAll_words row h, if_neg]
  rintro (h1 | h1)
  · unfold rightB at h1
    rw [List.all_eq_false] at h1
    obtain ⟨x, hx, h2⟩ := h1
    rw [List.eq_of_mem_replicate hx] at h2
    exact h2 (by decide)
  · simp at h1

theorem be_two (v : Int) (h : 0 ≤ v ∧ v ≤ 65535) : be (bytesOf v 2) = v := by
  have h1 := byteOf_val v 1
  have h0 := byteOf_val v 0
  simp [be, bytesOf]
  simp at h1 h0
  omega
theorem wordAt_bytes : ∀ (row : List Int) (rest : List UInt8) (i : Nat), (∀ v, v ∈ row → 0 ≤ v ∧ v ≤ 65535) → i < row.length → wordAt (wordBytes row ++ rest) (2 * i) = nth row i := by
  intro row
  induction row with
  | nil => intro rest i _ hi; simp at hi
  | cons v row ih =>
    intro rest i h hi
    have hb2 : (bytesOf v 2).length = 2 := by simp [bytesOf]
    cases i with
    | zero =>
      have : nth (v :: row) 0 = v := rfl
      rw [this]
      unfold wordAt
      rw [wordBytes_cons, List.append_assoc]
      simp only [Nat.mul_zero, List.drop_zero]
      rw [List.take_append_of_le_length (by rw [hb2]; exact Nat.le_refl _), List.take_of_length_le (by rw [hb2]; exact Nat.le_refl _)]
      exact be_two v (h v (by simp))
    | succ i =>
      have e : nth (v :: row) (i + 1) = nth row i := by simp [nth]
      rw [e, ← ih rest i (fun x hx => h x (by simp [hx])) (by simpa using hi)]
      rw [show 2 * (i + 1) = 2 + 2 * i by omega, ← wordAt_drop, wordBytes_cons, List.append_assoc]
      have hd : (bytesOf v 2 ++ (wordBytes row ++ rest)).drop 2 = wordBytes row ++ rest := List.drop_left' hb2
      rw [hd]
theorem nth_drop' (row : List Int) (j i : Nat) : nth (row.drop j) i = nth row (j + i) := by
  unfold nth
  simp [List.getD_eq_getElem?_getD, List.getElem?_drop]
/-- words that were put are got -/
theorem words_got (front back : List UInt8) (row : List Int) (h : ∀ v, v ∈ row → 0 ≤ v ∧ v ≤ 65535) (j n : Nat) (hj : j + n ≤ row.length) :
    wordsS (front ++ wordBytes row ++ back) ((front.length + 2 * j : Nat) : Int) n = ((row.drop j).take n, 0) := by
  unfold wordsS
  have hl : (front ++ wordBytes row ++ back).length = front.length + 2 * row.length + back.length := by simp [wordBytes_length]; omega
  rw [if_neg (by omega), if_neg (by rw [hl]; omega)]
  congr 1
  apply List.ext_getElem
  · rw [wordsAt_length, List.length_take, List.length_drop]; omega
  · intro i hi hi'
    rw [wordsAt_length] at hi
    rw [← nth_eq _ i (by rw [wordsAt_length]; exact hi), wordsAt_nth _ _ _ _ hi, ← nth_eq _ i hi']
    have e1 : nth ((row.drop j).take n) i = nth row (j + i) := by
      rw [← nth_drop']
      unfold nth
      simp [List.getD_eq_getElem?_getD, hi]
    rw [e1, ← wordAt_bytes row back (j + i) h (by omega)]
    rw [show ((front.length + 2 * j : Nat) : Int).toNat + 2 * i = front.length + 2 * (j + i) by omega, ← wordAt_drop, List.append_assoc, List.drop_left]

/-- From a run's beginning on its glyphs go up by one. -/
theorem run_up (l : List Int) : ∀ (k i : Nat), (spansTo l k).2 + i ≤ k → nth l ((spansTo l k).2 + i) = nth l (spansTo l k).2 + (i : Int) := by
  intro k
  induction k with
  | zero =>
    intro i hi
    have : i = 0 := by omega
    subst this
    simp
  | succ k ih =>
    intro i hi
    unfold spansTo at hi ⊢
    split at hi
    · rename_i hg
      rw [if_pos hg]
      by_cases he : (spansTo l k).2 + i ≤ k
      · exact ih i he
      · cases i with
        | zero => simp
        | succ i =>
          have h1 := ih i (by omega)
          have h2 : (spansTo l k).2 + i = k := by omega
          rw [show (spansTo l k).2 + (i + 1) = k + 1 by omega, hg.2]
          rw [h2] at h1
          rw [h1]
          omega
    · rename_i hg
      rw [if_neg hg]
      simp only at hi ⊢
      have : i = 0 := by omega
      subst this
      simp

theorem spansTo_snd (l : List Int) : ∀ k, (spansTo l k).2 ≤ k := spansTo_le l
theorem spans_full (l : List Int) : (spansTo l l.length).2 = l.length := by
  cases h : l.length with
  | zero => rfl
  | succ k =>
    unfold spansTo
    rw [if_neg (fun hg => by have := hg.1; omega)]
theorem take_upto (l : List Int) (f k : Nat) (hf : f ≤ k) (hk : k < l.length) (hup : ∀ i, f + i ≤ k → nth l (f + i) = nth l f + (i : Int)) :
    l.take f ++ upto (nth l f) (nth l k) = l.take (k + 1) := by
  have hk' : nth l k = nth l f + ((k - f : Nat) : Int) := by have := hup (k - f) (by omega); rwa [show f + (k - f) = k by omega] at this
  have hn : (nth l k - nth l f + 1).toNat = k - f + 1 := by omega
  apply List.ext_getElem
  · simp [upto, hn]; omega
  · intro i hi hi'
    by_cases hif : i < f
    · rw [List.getElem_append_left (by rw [List.length_take]; omega)]
      simp
    · rw [List.getElem_append_right (by rw [List.length_take]; omega)]
      simp only [upto, List.getElem_map, List.getElem_range, List.length_take, List.getElem_take]
      have hmin : min f l.length = f := by omega
      have := hup (i - f) (by rw [List.length_take] at hi'; omega)
      rw [show f + (i - f) = i by omega, nth_eq l i (by rw [List.length_take] at hi'; omega)] at this
      rw [hmin, ← this]

theorem nth_left (a b : List Int) (i : Nat) (h : i < a.length) : nth (a ++ b) i = nth a i := by
  unfold nth
  simp [List.getD_eq_getElem?_getD, List.getElem?_append_left h]
theorem nth_right (a b : List Int) (i : Nat) : nth (a ++ b) (a.length + i) = nth b i := by
  unfold nth
  simp [List.getD_eq_getElem?_getD, List.getElem?_append_right]
theorem ranges_got (l : List Int) : ∀ (k : Nat), k ≤ l.length → ∀ X : List Int, rngGo (rowsOf l (spansTo l k).1 ++ X) [] (List.range (spansTo l k).1.length) = some (l.take (spansTo l k).2) := by
  intro k
  induction k with
  | zero => intro _ X; rfl
  | succ k ih =>
    intro hk X
    by_cases hg : goesOn l k
    · have : spansTo l (k + 1) = spansTo l k := by show (if goesOn l k then _ else _) = _; rw [if_pos hg]
      rw [this]
      exact ih (by omega) X
    · have : spansTo l (k + 1) = ((spansTo l k).1 ++ [((spansTo l k).2, k)], k + 1) := by show (if goesOn l k then _ else _) = _; rw [if_neg hg]
      rw [this]
      simp only [List.length_append, List.length_cons, List.length_nil, Nat.zero_add]
      rw [rowsOf_snoc, List.append_assoc, List.range_succ, rngGo_append, ih (by omega)]
      have hup := run_up l k
      have hle := spansTo_le l k
      have hrl := rowsOf_length l (spansTo l k).1
      generalize (spansTo l k).1 = ps at *
      generalize (spansTo l k).2 = f at *
      show rngGo _ (l.take f) [ps.length] = _
      have n0 : nth (rowsOf l ps ++ (rowOf l (f, k) ++ X)) (ps.length * 3) = nth l f := by
        rw [show ps.length * 3 = (rowsOf l ps).length + 0 by omega, nth_right]; rfl
      have n1 : nth (rowsOf l ps ++ (rowOf l (f, k) ++ X)) (ps.length * 3 + 1) = nth l k := by
        rw [show ps.length * 3 + 1 = (rowsOf l ps).length + 1 by omega, nth_right]; rfl
      have n2 : nth (rowsOf l ps ++ (rowOf l (f, k) ++ X)) (ps.length * 3 + 2) = (f : Int) := by
        rw [show ps.length * 3 + 2 = (rowsOf l ps).length + 2 by omega, nth_right]; rfl
      have hk' : nth l k = nth l f + ((k - f : Nat) : Int) := by have := hup (k - f) (by omega); rwa [show f + (k - f) = k by omega] at this
      simp only [rngGo, n0, n1, n2]
      rw [if_neg, take_upto l f k hle (by omega) hup]
      rintro (h1 | h1)
      · omega
      · rw [List.length_take] at h1
        omega

theorem coverRow_range {l : List Int} (hs : isS l = true) (hl : l.length ≤ 65535) : ∀ v, v ∈ coverRow l → 0 ≤ v ∧ v ≤ 65535 := by
  intro v hv
  have hbd := isS_bd hs
  have hql := spansTo_length l l.length
  unfold coverRow at hv
  split at hv
  · simp only [List.mem_append, List.mem_cons, List.not_mem_nil, or_false] at hv
    rcases hv with (rfl | rfl) | hv
    · omega
    · omega
    · have := hbd v hv; omega
  · simp only [List.mem_append, List.mem_cons, List.not_mem_nil, or_false] at hv
    rcases hv with (rfl | rfl) | hv
    · omega
    · omega
    · simp only [rowsOf, List.mem_flatMap] at hv
      obtain ⟨p, hp, hv⟩ := hv
      have hpm := spansTo_mem l l.length p hp
      have h1 := nth_bd hbd p.1
      have h2 := nth_bd hbd p.2
      simp only [rowOf, List.mem_cons, List.not_mem_nil, or_false] at hv
      rcases hv with rfl | rfl | rfl <;> omega
theorem coverPut_ok {l : List Int} (hs : isS l = true) (hl : l.length ≤ 65535) : coverPutS l = (wordBytes (coverRow l), 0) := by
  unfold coverPutS
  rw [if_pos hs, putS_words (coverRow_range hs hl)]
theorem coverRow_length (l : List Int) : (coverRow l).length ≤ 2 + l.length := by
  unfold coverRow
  split
  · simp; omega
  · rw [List.length_append, rowsOf_length]; simp; omega

/-- What is put is got, wherever it stands. -/
theorem cover_back {l : List Int} (hs : isS l = true) (hl : l.length ≤ 65535) (front back : List UInt8) :
    coverGetS (front ++ wordBytes (coverRow l) ++ back) (front.length : Int) = (l, 0) := by
  have hr := coverRow_range hs hl
  have hlen2 : 2 ≤ (coverRow l).length := by unfold coverRow; split <;> simp
  have hw2 := words_got front back (coverRow l) hr 0 2 (by omega)
  simp only [Nat.mul_zero, Nat.add_zero] at hw2
  have hw := fun i (hi : i < (coverRow l).length) => show wordAt (front ++ wordBytes (coverRow l) ++ back) (front.length + 2 * i) = nth (coverRow l) i by
    rw [← wordAt_drop, List.append_assoc, List.drop_left]
    exact wordAt_bytes _ _ _ hr hi
  have w0 := hw 0 (by omega)
  have w1 := hw 1 (by omega)
  simp only [Nat.mul_zero, Nat.add_zero, Nat.mul_one] at w0 w1
  unfold coverGetS
  rw [hw2, if_neg (by simp)]
  rw [show (front.length : Int).toNat = front.length by omega, w0, w1]
  have hbody : bodyS (front ++ wordBytes (coverRow l) ++ back) (front.length : Int) (nth (coverRow l) 0) (nth (coverRow l) 1) = (l, 0) := by
    have hql := spansTo_length l l.length
    by_cases hge : 3 * (spansTo l l.length).1.length ≥ l.length
    · have e : coverRow l = [1, (l.length : Int)] ++ l := by unfold coverRow; rw [if_pos hge]
      have e0 : nth (coverRow l) 0 = 1 := by rw [e]; rfl
      have e1 : nth (coverRow l) 1 = (l.length : Int) := by rw [e]; rfl
      rw [e0, e1]
      unfold bodyS
      rw [if_pos rfl]
      have := words_got front back (coverRow l) hr 2 l.length (by rw [e]; simp; omega)
      rw [show ((front.length + 2 * 2 : Nat) : Int) = (front.length : Int) + 4 by omega] at this
      rw [show ((l.length : Int)).toNat = l.length by omega, this, e]
      simp
    · have e : coverRow l = [2, ((spansTo l l.length).1.length : Int)] ++ rowsOf l (spansTo l l.length).1 := by unfold coverRow; rw [if_neg hge]
      have e0 : nth (coverRow l) 0 = 2 := by rw [e]; rfl
      have e1 : nth (coverRow l) 1 = ((spansTo l l.length).1.length : Int) := by rw [e]; rfl
      rw [e0, e1]
      unfold bodyS
      rw [if_neg (by decide), if_pos rfl]
      have hrl := rowsOf_length l (spansTo l l.length).1
      have := words_got front back (coverRow l) hr 2 (3 * (spansTo l l.length).1.length) (by rw [e, List.length_append, hrl]; simp)
      rw [show ((front.length + 2 * 2 : Nat) : Int) = (front.length : Int) + 4 by omega] at this
      rw [show (((spansTo l l.length).1.length : Nat) : Int).toNat = (spansTo l l.length).1.length by omega, this, e]
      have hd : (List.drop 2 ([2, ((spansTo l l.length).1.length : Int)] ++ rowsOf l (spansTo l l.length).1)).take (3 * (spansTo l l.length).1.length) = rowsOf l (spansTo l l.length).1 := by
        simp only [List.cons_append, List.nil_append, List.drop_succ_cons, List.drop_zero]
        exact List.take_of_length_le (by rw [hrl]; exact Nat.le_refl _)
      rw [hd, if_pos rfl]
      unfold rangesS
      have hg := ranges_got l l.length (Nat.le_refl _) []
      rw [List.append_nil, spans_full, List.take_length] at hg
      rw [hg]
  rw [hbody, if_neg (by simp), if_pos hs]

end Go.Proofs.Ytigljfmbelaobaa
