/- vinculumlaw14.valued: the document's rows. -/
import Derived.Test.YtigljfmbelaobaaPlainInfo
import Derived.Test.YtigljfmbelaobaaInfoSame
namespace Go.Proofs.Ytigljfmbelaobaa
open Go.RowKit

/-- A slice literal of structs of two ints. -/
def flat2 (l : List (Int × Int)) : List Value := (l.map fun x => [Value.int .i64 x.1, Value.int .i64 x.2]).flatten
theorem prs_new (w : World) (T : TypeId) (l : List (Int × Int)) (hl : l.length ≤ 100) (hwf : ∀ x, x ∈ l → I64 x.1 ∧ I64 x.2) : Prs (w.alloc (.cells (flat2 l).toArray T)) (some ⟨w.heap.size, 0, none⟩) l := by
  refine ⟨by omega, fun j x hj => ⟨w.heap.size, 0, [.int .i64 x.1, .int .i64 x.2], rfl, rfl, fun i v hv => ?_, rfl, hwf x (List.mem_of_getElem? hj)⟩⟩
  have := cell_of_heap (World.alloc_heap_new w (.cells (flat2 l).toArray T)) (0 + j * 2 + i)
  rw [this]
  have h2 := flatten_at (l.map fun x => [Value.int .i64 x.1, Value.int .i64 x.2]) 2 (by rintro vs hvs; obtain ⟨x, _, rfl⟩ := List.mem_map.1 hvs; rfl) j [.int .i64 x.1, .int .i64 x.2] (by simp [List.getElem?_map, hj]) i v hv
  rw [show 0 + j * 2 + i = j * 2 + i by omega]
  simpa [flat2] using h2

theorem v14put : infoPutS [(5, -2), (7, 300)] = ([0, 12, 0, 2, 255, 254, 0, 0, 1, 44, 0, 0, 0, 1, 0, 2, 0, 5, 0, 7], 0) := by decide +kernel
theorem v14get : infoGetS [0, 12, 0, 2, 255, 254, 0, 0, 1, 44, 0, 0, 0, 1, 0, 2, 0, 5, 0, 7] 0 = ([(5, -2), (7, 300)], 0) := by decide +kernel
theorem v14more : infoGetS [0, 12, 0, 2, 255, 254, 0, 0, 1, 44, 0] 0 = ([], 4) := by decide +kernel
theorem v14find : infoFindS [(5, -2), (7, 300)] 7 = (300, true) := by decide +kernel
theorem v14none : infoFindS [(5, -2), (7, 300)] 6 = (0, false) := by decide +kernel
theorem v14is : infoIs [(5, -2), (7, 300)] = true := by decide +kernel

theorem v14front (w : World) : Calls Try.prog 28 #[.string ⟨#[0, 12, 0, 2, 255, 254, 0, 0, 1, 44, 0, 0, 0, 1, 0, 2, 0, 5, 0, 7]⟩, .int .i64 11] w fun e w' => e = .returned (.string ⟨#[0, 12, 0, 2, 255, 254, 0, 0, 1, 44, 0]⟩) ∧ w = w' := by
  obtain ⟨s, hs⟩ : ∃ s : ByteArray, s = ⟨#[0, 12, 0, 2, 255, 254, 0, 0, 1, 44, 0, 0, 0, 1, 0, 2, 0, 5, 0, 7]⟩ := ⟨_, rfl⟩
  have hz : s.size = 20 := by rw [hs]; rfl
  have hz2 : ¬ (s.size : Int) < 11 := by omega
  have hz3 : 11 ≤ s.size := by omega
  have HE := Lib.hid (show s.extract 0 11 = ⟨#[0, 12, 0, 2, 255, 254, 0, 0, 1, 44, 0]⟩ by rw [hs]; decide +kernel)
  rw [← hs]
  clear hs hz
  go_enter Try.func28, Try.ntmps28
  go_wp2
  go_ret
  rw [HE.out]
  exact ⟨rfl, rfl⟩

set_option maxRecDepth 100000 in
set_option maxHeartbeats 4000000 in
theorem valued_any (w : World) : Calls Try.prog 12 #[] w fun e w' => e = .returned (.bool true) ∧ Below w.heap.size w w' := by
  go_enter Try.func12, Try.ntmps12
  have hp := prs_new w 35 [(5, -2), (7, 300)] (by simp) (by unfold I64; simp)
  have H0 : Below w.heap.size w (w.alloc (.cells (flat2 [(5, -2), (7, 300)]).toArray 35)) := by (repeat (first | exact Below.refl _ _ | assumption | (refine Below.alloc ?_ (by first | omega | (simp; done) | (simp; omega)) _) | (refine Below.setCell ?_ (by first | omega | (simp; done) | (simp; omega)) _) | (refine Below.drew ?_)))
  go_wp2_with fail
  change Calls _ _ _ (w.alloc (.cells (flat2 [(5, -2), (7, 300)]).toArray 35)) _
  generalize w.alloc (.cells (flat2 [(5, -2), (7, 300)]).toArray 35) = w0 at *
  have hpu := infoPut_any (some ⟨w.heap.size, 0, none⟩) 2 [(5, -2), (7, 300)] w0 hp (by simp)
  rw [v14put] at hpu
  refine hpu.mono ?_
  rintro e w1 ⟨rfl, hb1⟩
  have H1 := H0.trans (hb1.mono H0.size)
  have hp1 := hp.below pairR_keeps hb1
  clear hpu
  go_wp2_with fail
  have hg := infoGet_any ⟨#[0, 12, 0, 2, 255, 254, 0, 0, 1, 44, 0, 0, 0, 1, 0, 2, 0, 5, 0, 7]⟩ 0 w1 (by decide +kernel)
  rw [show (⟨#[0, 12, 0, 2, 255, 254, 0, 0, 1, 44, 0, 0, 0, 1, 0, 2, 0, 5, 0, 7]⟩ : ByteArray).data.toList = [0, 12, 0, 2, 255, 254, 0, 0, 1, 44, 0, 0, 0, 1, 0, 2, 0, 5, 0, 7] from rfl, v14get] at hg
  refine hg.mono ?_
  rintro e w2 ⟨A2, c2, rfl, hi2, hb2, hc2⟩
  have H2 := H1.trans (hb2.mono H1.size)
  have hp2 := hp1.below pairR_keeps hb2
  dsimp only at hi2 hc2 ⊢
  clear hg
  go_wp2_with fail
  have hf := infoFind_any (some ⟨w.heap.size, 0, none⟩) 2 [(5, -2), (7, 300)] 7 w2 hp2 (by simp)
  rw [v14find] at hf
  refine hf.mono ?_
  rintro e w3 ⟨rfl, hb3⟩
  have H3 := H2.trans (hb3.mono H2.size)
  have hp3 := hp2.below pairR_keeps hb3
  have hi3 := hi2.below pairR_keeps hb3
  clear hf
  go_wp2_with fail
  have hf := infoFind_any (some ⟨w.heap.size, 0, none⟩) 2 [(5, -2), (7, 300)] 6 w3 hp3 (by simp)
  rw [v14none] at hf
  refine hf.mono ?_
  rintro e w4 ⟨rfl, hb4⟩
  have H4 := H3.trans (hb4.mono H3.size)
  have hp4 := hp3.below pairR_keeps hb4
  have hi4 := hi3.below pairR_keeps hb4
  clear hf
  go_wp2_with fail
  refine (v14front w4).mono ?_
  rintro e w' ⟨rfl, rfl⟩
  go_wp2_with fail
  have hg := infoGet_any ⟨#[0, 12, 0, 2, 255, 254, 0, 0, 1, 44, 0]⟩ 0 w4 (by decide +kernel)
  rw [show (⟨#[0, 12, 0, 2, 255, 254, 0, 0, 1, 44, 0]⟩ : ByteArray).data.toList = [0, 12, 0, 2, 255, 254, 0, 0, 1, 44, 0] from rfl, v14more] at hg
  refine hg.mono ?_
  rintro e w5 ⟨A5, c5, rfl, hi5, hb5, hc5⟩
  have H5 := H4.trans (hb5.mono H4.size)
  have hp5 := hp4.below pairR_keeps hb5
  have hi5' := hi4.below pairR_keeps hb5
  dsimp only at hc5 ⊢
  clear hg hi5
  go_wp2_with fail
  have hsm := pairsSame_any (some ⟨w.heap.size, 0, none⟩) A2 2 c2 [(5, -2), (7, 300)] [(5, -2), (7, 300)] w5 hp5 hi5'
  simp only [decide_true] at hsm
  refine hsm.mono ?_
  rintro e w6 ⟨rfl, hb6⟩
  have H6 := H5.trans (hb6.mono H5.size)
  have hp6 := hp5.below pairR_keeps hb6
  clear hsm
  go_wp2_with fail
  have his := infoIs_any (some ⟨w.heap.size, 0, none⟩) 2 [(5, -2), (7, 300)] w6 hp6 (by simp)
  rw [v14is] at his
  refine his.mono ?_
  rintro e w7 ⟨rfl, hb7⟩
  go_wp2
  go_ret
  exact ⟨rfl, H6.trans (hb7.mono H6.size)⟩

end Go.Proofs.Ytigljfmbelaobaa
