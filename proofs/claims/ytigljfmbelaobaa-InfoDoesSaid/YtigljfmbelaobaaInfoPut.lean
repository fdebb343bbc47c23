/- Layer 14 (info): Find and Put. -/
import Derived.Test.YtigljfmbelaobaaInfoIs
import Derived.Test.YtigljfmbelaobaaCoverPut
import Derived.Test.YtigljfmbelaobaaFind
import Derived.Test.YtigljfmbelaobaaRefPut
namespace Go.Proofs.Ytigljfmbelaobaa
open Go.RowKit

theorem infoIs_is {l : List (Int × Int)} (h : infoIs l = true) : isS (fsts l) = true := by
  unfold infoIs at h
  simp only [Bool.and_eq_true] at h
  exact h.1
theorem infoIs_fits {l : List (Int × Int)} (h : infoIs l = true) : ∀ x, x ∈ l → fits2 x.2 = true := by
  unfold infoIs at h
  simp only [Bool.and_eq_true, List.all_eq_true] at h
  exact h.2

/-- A glyph's value among pairs. -/
def infoFindS (l : List (Int × Int)) (g : Int) : Int × Bool := if infoIs l = true ∧ g ∈ fsts l then ((l.getD ((fsts l).findIdx (· == g)) (0, 0)).2, true) else (0, false)

set_option maxHeartbeats 2000000 in
theorem infoFind_any (A : Option Addr) (c : Nat) (l : List (Int × Int)) (g : Int) (w : World) (h : Prs w A l) (hl : l.length ≤ 1000000) :
    Calls Try.prog 10 #[.slice A l.length c, .int .i64 g] w fun e w' => e = .returned (.tuple #[.int .i64 (infoFindS l g).1, .bool (infoFindS l g).2]) ∧ Below w.heap.size w w' := by
  have hi := infoIs_any A c l w h hl
  go_enter Try.func10, Try.ntmps10
  cases his : infoIs l
  · rw [his] at hi
    have HF := Lib.hid (show infoFindS l g = (0, false) by unfold infoFindS; rw [if_neg (fun h => by rw [his] at h; cases h.1)])
    clear his
    go_wp2_with (go_at_call 14; refine hi.mono ?_; rintro e w1 ⟨rfl, hb1⟩)
    go_ret2
    rw [HF.out]
    exact ⟨rfl, hb1⟩
  · rw [his] at hi
    have hs := infoIs_is his
    have HIS := Lib.hid his
    clear his
    go_wp2_with fail
    refine hi.mono ?_
    rintro e w1 ⟨rfl, hb1⟩
    have h1 := h.below pairR_keeps hb1
    go_wp2_with fail
    refine (pairsGlyphs_any A c l w1 h1 hl).mono ?_
    rintro e w2 ⟨A2, c2, rfl, hi2, hb2, hc2⟩
    have h2 := h1.below pairR_keeps hb2
    have hf := find_any A2 c2 (fsts l) g w2 hi2
    by_cases hm : g ∈ fsts l
    · obtain ⟨k, hk⟩ : ∃ k, (fsts l).findIdx (· == g) = k := ⟨_, rfl⟩
      have hkl : k < (fsts l).length := by
        rw [← hk]
        exact List.findIdx_lt_length_of_exists ⟨g, hm, by simp⟩
      have hfs : findS (fsts l) g = ((k : Int), true) := by
        unfold findS
        rw [if_pos ⟨hs, hm⟩, hk]
      rw [hfs] at hf
      rw [fsts_length] at hkl
      obtain ⟨b, off, rfl, g0, g1, _, _⟩ := Prs.at_ h2 k hkl
      have HF := Lib.hid (show infoFindS l g = (l[k].2, true) by unfold infoFindS; rw [if_pos ⟨HIS.out, hm⟩, hk]; simp [List.getD_eq_getElem?_getD, hkl])
      generalize l[k] = x at *
      obtain ⟨x0, x1⟩ := x
      dsimp only at *
      have hkli : (k : Int) < (l.length : Int) := by omega
      clear hs hfs hk hm
      go_wp2_with (go_at_call 27; refine hf.mono ?_; rintro e w' ⟨rfl, rfl⟩)
      go_ret2
      rw [HF.out]
      exact ⟨rfl, hb1.trans (hb2.mono hb1.size)⟩
    · have hfs : findS (fsts l) g = (0, false) := by
        unfold findS
        rw [if_neg (fun h => hm h.2)]
      rw [hfs] at hf
      have HF := Lib.hid (show infoFindS l g = (0, false) by unfold infoFindS; rw [if_neg (fun h => hm h.2)])
      clear hs hfs hm
      go_wp2_with (go_at_call 27; refine hf.mono ?_; rintro e w' ⟨rfl, rfl⟩)
      go_ret2
      rw [HF.out]
      exact ⟨rfl, hb1.trans (hb2.mono hb1.size)⟩

/-- The sizes and the numbers of pairs. -/
def infoSizes (n : Nat) : List Int := [2, 2] ++ rep [-2, 2] n
def vals0 (l : List (Int × Int)) : List Int := l.flatMap fun x => [x.2, 0]
def infoRow (l : List (Int × Int)) : List Int := [4 + 4 * (l.length : Int), (l.length : Int)] ++ vals0 l
theorem vals0_length (l : List (Int × Int)) : (vals0 l).length = 2 * l.length := by
  induction l with
  | nil => rfl
  | cons x l ih => simp only [vals0, List.flatMap_cons, List.length_append] at *; rw [ih]; simp; omega
theorem vals0_take (l : List (Int × Int)) (k : Nat) (h : k < l.length) : vals0 (l.take (k + 1)) = vals0 (l.take k) ++ [l[k].2, 0] := by
  rw [List.take_succ_eq_append_getElem h]
  simp only [vals0, List.flatMap_append, List.flatMap_cons, List.flatMap_nil, List.append_nil]
theorem rep_succ' (l : List Int) (k : Nat) : rep l (k + 1) = rep l k ++ l := by rw [rep_add, rep_one]
theorem infoSizes_two (n : Nat) : ∀ x, x ∈ infoSizes n → x.natAbs = 2 := by
  intro x hx
  rcases List.mem_append.1 hx with h | h
  · simp at h; subst h; rfl
  · have := rep_mem h
    simp at this
    rcases this with rfl | rfl <;> rfl
theorem infoSizes_length (n : Nat) : (infoSizes n).length = 2 + 2 * n := by simp [infoSizes, rep_length]; omega
theorem infoRow_length (l : List (Int × Int)) : (infoRow l).length = 2 + 2 * l.length := by simp [infoRow, vals0_length]; omega
theorem infoRow_fits {l : List (Int × Int)} (h : infoIs l = true) (hl : l.length ≤ 16382) : allFit (infoSizes l.length) (infoRow l) = true := by
  have hf := infoIs_fits h
  have e : ∀ m : List (Int × Int), (∀ x, x ∈ m → fits2 x.2 = true) → allFit (rep [-2, 2] m.length) (vals0 m) = true := by
    intro m
    induction m with
    | nil => intro _; rfl
    | cons x m ih =>
      intro hm
      rw [List.length_cons, show m.length + 1 = 1 + m.length by omega, rep_add, rep_one]
      show allFit (-2 :: 2 :: rep [-2, 2] m.length) (x.2 :: 0 :: vals0 m) = true
      simp only [allFit, Bool.and_eq_true]
      exact ⟨by unfold fitN; rw [if_pos (by decide)]; exact hm x (by simp), by decide, ih fun y hy => hm y (by simp [hy])⟩
  show allFit (2 :: 2 :: rep [-2, 2] l.length) ((4 + 4 * (l.length : Int)) :: (l.length : Int) :: vals0 l) = true
  simp only [allFit, Bool.and_eq_true]
  refine ⟨?_, ?_, e l hf⟩
  · unfold fitN; rw [if_neg (by decide)]; exact (fitsW_iff _).2 (by omega)
  · unfold fitN; rw [if_neg (by decide)]; exact (fitsW_iff _).2 (by omega)
/-- The bytes of pairs. -/
def infoBytes (l : List (Int × Int)) : List UInt8 := wordBytes (infoRow l) ++ wordBytes (coverRow (fsts l))
def infoPutS (l : List (Int × Int)) : List UInt8 × Int := if infoIs l = true then (if 16382 < l.length then ([], 7) else (infoBytes l, 0)) else ([], 1)

/-- A slice literal of two ints is a row of the call's own. -/
theorem own_pair (w : World) (base : Nat) (T : TypeId) (x y : Int) (hb : base ≤ w.heap.size) (H : Nat) (hH : w.heap.size = H) :
    (w.alloc (.cells #[.int .i64 x, .int .i64 y] T)).ownsRow base T 1 (.slice (some ⟨H, 0, none⟩) 2 2) [x, y].length ([x, y].map (Value.int .i64)) := by
  subst hH
  exact ⟨by simp, .inr ⟨w.heap.size, 2, _, rfl, hb, World.alloc_heap_new w _, Nat.le_refl _, by unfold maxLen; omega, rfl, rfl⟩⟩
theorem ints_pair_at (w : World) (T : TypeId) (x y : Int) (hx : I64 x) (hy : I64 y) (H : Nat) (hH : w.heap.size = H) : Ints (w.alloc (.cells #[.int .i64 x, .int .i64 y] T)) (some ⟨H, 0, none⟩) [x, y] := by
  subst hH
  exact ints_pair w T x y hx hy

set_option maxRecDepth 100000 in
set_option maxHeartbeats 4000000 in
theorem infoPut_yes (A : Option Addr) (c : Nat) (l : List (Int × Int)) (w : World) (h : Prs w A l) (hl : l.length ≤ 16382) (his : infoIs l = true) :
    Calls Try.prog 8 #[.slice A l.length c] w fun e w' => e = .returned (.tuple #[.string (txt (infoBytes l)), .int .i64 0]) ∧ Below w.heap.size w w' := by
  have hi := infoIs_any A c l w h (by omega)
  rw [his] at hi
  have hp1 := putS_nums (ns := infoSizes l.length) (row := infoRow l) (by rw [infoSizes_length, infoRow_length]) (infoSizes_two _)
  rw [infoRow_fits his hl, if_pos rfl] at hp1
  have HP1 := Lib.hid hp1
  have HP2 := Lib.hid (coverPut_ok (infoIs_is his) (by rw [fsts_length]; omega))
  clear hp1 his
  go_enter Try.func8, Try.ntmps8
  go_wp2_with fail
  refine hi.mono ?_
  rintro e w1 ⟨rfl, hb1⟩
  have h1 := h.below pairR_keeps hb1
  have hsz1 := hb1.size
  have ho1 := own_pair w1 w.heap.size 3 2 2 hsz1 w1.heap.size rfl
  have ho2 := own_pair (w1.alloc (.cells #[.int .i64 2, .int .i64 2] 3)) w.heap.size 3 (4 + 4 * (l.length : Int)) (l.length : Int) (by simp; omega) (w1.heap.size + 1) (by simp)
  have ho1' := ho1.alloc (.cells #[.int .i64 (4 + 4 * (l.length : Int)), .int .i64 (l.length : Int)] 3)
  have hbb : Below w.heap.size w ((w1.alloc (.cells #[.int .i64 2, .int .i64 2] 3)).alloc (.cells #[.int .i64 (4 + 4 * (l.length : Int)), .int .i64 (l.length : Int)] 3)) := (hb1.alloc hsz1 _).alloc (by simp; omega) _
  have HO1 := Lib.hid ho1'
  have HO2 := Lib.hid ho2
  clear hi ho1 ho2 ho1'
  go_wp2_with fail
  go_loopw [4, 5, 7, 30] (fun ss rr _ i wr => ∃ (k : Nat) (sv rv : Value), sv = ss ∧ rv = rr ∧ k ≤ l.length ∧ i = .int .i64 (k : Int) ∧ wr.ownsRow w.heap.size 3 1 sv (infoSizes k).length ((infoSizes k).map (Value.int .i64)) ∧
      wr.ownsRow w.heap.size 3 1 rv ([4 + 4 * (l.length : Int), (l.length : Int)] ++ vals0 (l.take k)).length (([4 + 4 * (l.length : Int), (l.length : Int)] ++ vals0 (l.take k)).map (Value.int .i64)) ∧
      Hid (sv.ownBlock ≠ rv.ownBlock ∧ sv.ownBlock ≠ none ∧ rv.ownBlock ≠ none) ∧ Below w.heap.size w wr) (fun _ _ _ i _ => l.length - (intOf i).toNat)
  case atStart => exact ⟨0, _, _, rfl, rfl, Nat.zero_le _, rfl, HO1.out, HO2.out, by unfold Hid; simp [Value.ownBlock], hbb⟩
  case round =>
    obtain ⟨k, sv, rv, rfl, rfl, hk, rfl, hos, hor, HD, hbw⟩ := hrel
    have HOS := Lib.hid hos
    have HOR := Lib.hid hor
    have HB := Lib.hid hbw
    have hsz := hbw.size
    clear hos hor hbw
    by_cases hlt : k < l.length
    · obtain ⟨b, off, rfl, g0, g1, _, hi1⟩ := h.at_ k hlt
      have c0 := (HB.out.cell (p := ⟨b, off + k * 2, none⟩) (World.block_lt_of_cell? w _ g0)).trans g0
      have c1 := (HB.out.cell (p := ⟨b, off + k * 2 + 1, none⟩) (World.block_lt_of_cell? w _ g1)).trans g1
      have HS1 := Lib.hid (show infoSizes (k + 1) = infoSizes k ++ [-2, 2] by unfold infoSizes; rw [rep_succ', List.append_assoc])
      have HS2 := Lib.hid (show [4 + 4 * (l.length : Int), (l.length : Int)] ++ vals0 (l.take (k + 1)) = [4 + 4 * (l.length : Int), (l.length : Int)] ++ vals0 (l.take k) ++ [l[k].2, 0] by rw [vals0_take l k hlt, List.append_assoc])
      have HL1 := Lib.hid (show (infoSizes k).length ≤ 100000 by rw [infoSizes_length]; omega)
      have HL2 := Lib.hid (show ([4 + 4 * (l.length : Int), (l.length : Int)] ++ vals0 (l.take k)).length ≤ 100000 by rw [List.length_append, vals0_length, List.length_take]; simp; omega)
      generalize infoSizes k = acs at *
      generalize [4 + 4 * (l.length : Int), (l.length : Int)] ++ vals0 (l.take k) = acr at *
      generalize l[k] = x at *
      obtain ⟨x0, x1⟩ := x
      dsimp only at *
      clear g0 g1
      go_wp2_with (at_builtin; refine wpList_append_ints rfl (.tmp 34) (.tmp 35) rfl w.heap.size sv acs rfl ((HOS.out.alloc _).alloc _) (some ⟨wr.heap.size + 1, 0, none⟩) 2 [-2, 2] rfl (ints_pair_at _ _ (-2) 2 (by unfold I64; omega) (by unfold I64; omega) _ (by simp)) (fun h => by cases h) (by have := HL1.out; simp only [List.length_cons, List.length_nil]; omega) (by simp; omega) ?_)
      intro sv' w2 hown hg _ hfr
      have hb2 : Below w.heap.size w w2 := ((HB.out.alloc hsz _).alloc (by simp; omega) _).grown hg (by simp; omega) (own_base HOS.out)
      have hown : w2.ownsRow w.heap.size 3 1 sv' (acs ++ [-2, 2]).length ((acs ++ [-2, 2]).map (Value.int .i64)) := by simpa using hown
      rw [← HS1.out] at hown
      have hor2 : w2.ownsRow w.heap.size 3 1 rv acr.length (acr.map (Value.int .i64)) := ((HOR.out.alloc _).alloc _).kept hg (.inr fun e => HD.out.1 e.symm)
      have hcx : w2.cell? ⟨wr.heap.size, 0, none⟩ = some (.int .i64 x0) ∧ w2.cell? ⟨wr.heap.size, 1, none⟩ = some (.int .i64 x1) := by
        have hne : some wr.heap.size ≠ sv.ownBlock := fun e => by have := HOS.out.lt _ e.symm; omega
        have hbk := hg.block wr.heap.size (by simp; omega) hne
        have hnew : ((wr.alloc (.cells #[.int .i64 x0, .int .i64 x1] 35)).alloc (.cells #[.int .i64 (-2), .int .i64 2] 3)).heap[wr.heap.size]? = some (.cells #[.int .i64 x0, .int .i64 x1] 35) :=
          (Below.heap_alloc _ _ _ (by simp)).trans (World.alloc_heap_new wr _)
        exact ⟨by rw [cell_of_heap (hbk.trans hnew) 0]; rfl, by rw [cell_of_heap (hbk.trans hnew) 1]; rfl⟩
      obtain ⟨cx0, cx1⟩ := hcx
      have hdn : sv'.ownBlock ≠ rv.ownBlock ∧ sv'.ownBlock ≠ none := by
        rcases hfr with e | e
        · rw [e]; exact ⟨HD.out.1, HD.out.2.1⟩
        · rw [e]
          refine ⟨fun e2 => ?_, by simp⟩
          have := (HOR.out.lt _ e2.symm).2
          omega
      have hs2 : w.heap.size ≤ w2.heap.size := hb2.size
      have HO2 := Lib.hid hown
      have HR2 := Lib.hid hor2
      have HB2 := Lib.hid hb2
      have HDN := Lib.hid hdn
      clear hown hor2 hb2 hdn hg hfr
      go_wp2_with (at_builtin; refine wpList_append_ints rfl (.tmp 37) (.tmp 40) rfl w.heap.size rv acr rfl (HR2.out.alloc _) (some ⟨w2.heap.size, 0, none⟩) 2 [x1, 0] rfl (ints_pair_at _ _ x1 0 hi1 (by unfold I64; omega) _ rfl) (fun h => by cases h) (by have := HL2.out; simp only [List.length_cons, List.length_nil]; omega) (by simp; omega) ?_)
      intro rv' w3 hown hg _ hfr
      have hb3 : Below w.heap.size w w3 := (HB2.out.alloc hs2 _).grown hg (by simp; omega) (own_base HR2.out)
      have hown : w3.ownsRow w.heap.size 3 1 rv' (acr ++ [x1, 0]).length ((acr ++ [x1, 0]).map (Value.int .i64)) := by simpa using hown
      rw [← HS2.out] at hown
      have hos3 := (HO2.out.alloc (.cells #[.int .i64 x1, .int .i64 0] 3)).kept hg (.inr HDN.out.1)
      have hd3 : sv'.ownBlock ≠ rv'.ownBlock ∧ sv'.ownBlock ≠ none ∧ rv'.ownBlock ≠ none := by
        rcases hfr with e | e
        · rw [e]; exact ⟨HDN.out.1, HDN.out.2, HD.out.2.2⟩
        · rw [e]
          refine ⟨fun e2 => ?_, HDN.out.2, by simp⟩
          have := (HO2.out.lt _ e2).2
          omega
      have HO3 := Lib.hid hos3
      have HR3 := Lib.hid hown
      have HB3 := Lib.hid hb3
      have HD3 := Lib.hid hd3
      clear hown hos3 hb3 hd3 hg hfr
      go_wp2
      go_roundw
      case rel => exact ⟨k + 1, _, _, rfl, rfl, by omega, by go_num, HO3.out, HR3.out, HD3.out, HB3.out⟩
      case measure => simp [intOf]; omega
    · have hkn : k = l.length := by omega
      have hos := HOS.out
      have hor := HOR.out
      rw [show l.take k = l from List.take_of_length_le (by omega)] at hor
      rw [hkn] at hos
      change wr.ownsRow w.heap.size 3 1 rv (infoRow l).length ((infoRow l).map (Value.int .i64)) at hor
      obtain ⟨A1, c1, rfl, hi1, _⟩ := own_ints hos (fun x hx => by have := infoSizes_two _ x hx; unfold I64; omega) (by rw [infoSizes_length]; omega)
      obtain ⟨A2, c2, rfl, hi2, _⟩ := own_ints hor (fun x hx => by
        unfold infoRow at hx
        rcases List.mem_append.1 hx with hx | hx
        · simp at hx
          unfold I64
          omega
        · simp only [vals0, List.mem_flatMap] at hx
          obtain ⟨y, hy, hx⟩ := hx
          obtain ⟨j, hj, rfl⟩ := List.mem_iff_getElem.1 hy
          obtain ⟨_, _, _, _, _, _, hv⟩ := h.at_ j hj
          simp at hx
          rcases hx with rfl | rfl
          · exact hv
          · unfold I64; omega) (by rw [infoRow_length]; omega)
      have hpu := put_any A1 A2 c1 c2 (infoSizes l.length) (infoRow l) wr hi1 hi2 (by rw [infoSizes_length]; omega)
      rw [HP1.out] at hpu
      have hz1 : (txt (wordBytes (infoRow l))).size ≤ 100000 := by rw [txt_size, wordBytes_length, infoRow_length]; omega
      have hz2 : (txt (wordBytes (coverRow (fsts l)))).size ≤ 100000 := by
        have := coverRow_length (fsts l)
        rw [fsts_length] at this
        rw [txt_size, wordBytes_length]
        omega
      have hpt : Calls Try.prog 21 #[.slice A1 (infoSizes l.length).length c1, .slice A2 (infoRow l).length c2] wr fun e w' => e = .returned (.tuple #[.string (txt (wordBytes (infoRow l))), .int .i64 0]) ∧ Below wr.heap.size wr w' := hpu
      have hw := h.below pairR_keeps HB.out
      clear hkn hos hor hpu hi1 hi2
      go_wp2_with fail
      refine hpt.mono ?_
      rintro e w2 ⟨rfl, hb2⟩
      have h2 := hw.below pairR_keeps hb2
      go_wp2_with fail
      refine (pairsGlyphs_any A c l w2 h2 (by omega)).mono ?_
      rintro e w3 ⟨A3, c3, rfl, hi3, hb3, hc3⟩
      have hcp := coverPut_any A3 c3 (fsts l) w3 hi3 hc3.1 (by rw [fsts_length]; omega)
      rw [HP2.out] at hcp
      have hcp2 : Calls Try.prog 22 #[.slice A3 (fsts l).length c3] w3 fun e w' => e = .returned (.tuple #[.string (txt (wordBytes (coverRow (fsts l)))), .int .i64 0]) ∧ Below w3.heap.size w3 w' := hcp
      clear hcp hpt
      go_wp2_with (go_at_call 22; refine hcp2.mono ?_; rintro e w4 ⟨rfl, hb4⟩)
      go_ret2
      refine ⟨?_, ((HB.out.trans (hb2.mono hsz)).trans (hb3.mono (Nat.le_trans hsz hb2.size))).trans (hb4.mono (Nat.le_trans (Nat.le_trans hsz hb2.size) hb3.size))⟩
      unfold infoBytes
      rw [← txt_add]
      rfl

end Go.Proofs.Ytigljfmbelaobaa
