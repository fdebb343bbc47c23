/- vinculumlaw12.covered: the document's rows. -/
import Derived.Test.YtdbjnmdpbnomcaaCoverPut
import Derived.Test.YtdbjnmdpbnomcaaCoverGet
import Derived.Test.YtdbjnmdpbnomcaaFind
import Derived.Test.YtdbjnmdpbnomcaaIntsEq
namespace Go.Proofs.Ytdbjnmdpbnomcaa
open Go.RowKit

theorem ints_new (w : World) (T : TypeId) (l : List Int) (hl : l.length ≤ 100) (hwf : ∀ x, x ∈ l → I64 x) : Ints (w.alloc (.cells (l.map (Value.int .i64)).toArray T)) (some ⟨w.heap.size, 0, none⟩) l := by
  refine ⟨by omega, hwf, fun j hj => ⟨w.heap.size, 0, rfl, ?_⟩⟩
  have := cell_of_heap (World.alloc_heap_new w (.cells (l.map (Value.int .i64)).toArray T)) (0 + j)
  rw [this]
  simp [nth_eq l j hj, hj]

theorem put57 : coverPutS [5, 7] = ([0, 1, 0, 2, 0, 5, 0, 7], 0) := by decide +kernel
theorem put5678 : coverPutS [5, 6, 7, 8] = ([0, 2, 0, 1, 0, 5, 0, 8, 0, 0], 0) := by decide +kernel
theorem put55 : coverPutS [5, 5] = ([], 1) := by decide +kernel
theorem get5678 : coverGetS [120, 0, 2, 0, 1, 0, 5, 0, 8, 0, 0] 1 = ([5, 6, 7, 8], 0) := by decide +kernel
theorem getMore : coverGetS [0, 1, 0, 2, 0, 5, 0, 7] 5 = ([], 4) := by decide +kernel
theorem catx : ((⟨#[120]⟩ : ByteArray) ++ ⟨#[0, 2, 0, 1, 0, 5, 0, 8, 0, 0]⟩).data.toList = [120, 0, 2, 0, 1, 0, 5, 0, 8, 0, 0] := by decide +kernel
theorem catn : ((⟨#[120]⟩ : ByteArray) ++ ⟨#[0, 2, 0, 1, 0, 5, 0, 8, 0, 0]⟩).size ≤ 140737488355328 := by decide +kernel
theorem find7 : findS [5, 6, 7, 8] 7 = (2, true) := by decide +kernel
theorem is5678 : isS [5, 6, 7, 8] = true := by decide +kernel

set_option maxHeartbeats 2000000 in
theorem covered_any (w : World) : Calls Try.prog 15 #[] w fun e w' => e = .returned (.bool true) ∧ Below w.heap.size w w' := by
  go_enter Try.func15, Try.ntmps15
  go_wp2_with fail
  refine (coverPut_any _ 2 [5, 7] _ (ints_new w 3 [5, 7] (by simp) (by unfold I64; simp)) (fun h => by cases h) (by simp)).mono ?_
  rintro e w1 ⟨rfl, hb1⟩
  rw [put57]
  have H1 : Below w.heap.size w w1 := ((Below.refl _ _).alloc (Nat.le_refl _) _).trans (hb1.mono (by rw [World.size_alloc]; omega))
  go_wp2_with fail
  refine (coverPut_any _ 4 [5, 6, 7, 8] _ (ints_new w1 3 [5, 6, 7, 8] (by simp) (by unfold I64; simp)) (fun h => by cases h) (by simp)).mono ?_
  rintro e w2 ⟨rfl, hb2⟩
  rw [put5678]
  have H2 : Below w.heap.size w w2 := (H1.alloc (H1.size) _).trans (hb2.mono (by rw [World.size_alloc]; have := H1.size; omega))
  go_wp2_with fail
  have hg := coverGet_any (⟨#[120]⟩ ++ ⟨#[0, 2, 0, 1, 0, 5, 0, 8, 0, 0]⟩) 1 w2 catn
  rw [catx, get5678] at hg
  refine hg.mono ?_
  rintro e w3 ⟨A3, c3, rfl, hi3, hb3, hz3⟩
  have H3 : Below w.heap.size w w3 := H2.trans (hb3.mono H2.size)
  go_wp2_with fail
  have hf := find_any A3 c3 [5, 6, 7, 8] 7 w3 hi3
  rw [find7] at hf
  refine hf.mono ?_
  rintro e w4 ⟨rfl, rfl⟩
  go_wp2_with fail
  have hg2 := coverGet_any ⟨#[0, 1, 0, 2, 0, 5, 0, 7]⟩ 5 w3 (by decide +kernel)
  have he : (⟨#[0, 1, 0, 2, 0, 5, 0, 7]⟩ : ByteArray).data.toList = [0, 1, 0, 2, 0, 5, 0, 7] := rfl
  rw [he, getMore] at hg2
  refine hg2.mono ?_
  rintro e w5 ⟨A5, c5, rfl, hi5, hb5, hz5⟩
  have H5 : Below w.heap.size w w5 := H3.trans (hb5.mono H3.size)
  have hi3' := hi3.below hb5
  go_wp2_with fail
  refine (coverPut_any _ 2 [5, 5] _ (ints_new w5 3 [5, 5] (by simp) (by unfold I64; simp)) (fun h => by cases h) (by simp)).mono ?_
  rintro e w6 ⟨rfl, hb6⟩
  rw [put55]
  have H6 : Below w.heap.size w w6 := (H5.alloc (H5.size) _).trans (hb6.mono (by rw [World.size_alloc]; have := H5.size; omega))
  have hi6 := hi3'.below (((Below.refl _ _).alloc (Nat.le_refl _) _).trans (hb6.mono (by rw [World.size_alloc]; omega)))
  go_wp2_with fail
  refine (intsEq_any A3 _ c3 4 [5, 6, 7, 8] [5, 6, 7, 8] _ (hi6.alloc _) (ints_new w6 3 [5, 6, 7, 8] (by simp) (by unfold I64; simp))).mono ?_
  rintro e w7 ⟨rfl, hb7⟩
  have H7 : Below w.heap.size w w7 := (H6.alloc H6.size _).trans (hb7.mono (by rw [World.size_alloc]; have := H6.size; omega))
  have hi7 := (hi6.alloc _).below hb7
  go_wp2_with fail
  have hs := is_any A3 c3 [5, 6, 7, 8] w7 hi7
  rw [is5678] at hs
  refine hs.mono ?_
  rintro e w8 ⟨rfl, rfl⟩
  go_wp2
  go_ret
  exact ⟨rfl, H7⟩

end Go.Proofs.Ytdbjnmdpbnomcaa
