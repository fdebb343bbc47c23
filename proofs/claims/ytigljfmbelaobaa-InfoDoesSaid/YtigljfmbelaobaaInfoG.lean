/- Layer 14 (info): glyphs of pairs. -/
import Derived.Test.YtigljfmbelaobaaSls
import Derived.Test.YtigljfmbelaobaaConcat
import Derived.Test.YtigljfmbelaobaaBinGet
namespace Go.Proofs.Ytigljfmbelaobaa
open Go.RowKit

/-- The glyphs of pairs. -/
def fsts (l : List (Int × Int)) : List Int := l.map (·.1)
theorem fsts_length (l : List (Int × Int)) : (fsts l).length = l.length := by simp [fsts]
theorem fsts_take (l : List (Int × Int)) (k : Nat) (h : k < l.length) : fsts (l.take (k + 1)) = fsts (l.take k) ++ [l[k].1] := by
  rw [List.take_succ_eq_append_getElem h]
  simp only [fsts, List.map_append, List.map_cons, List.map_nil]
theorem ints_cell_at (w : World) (T : TypeId) (x : Int) (hx : I64 x) (H : Nat) (hH : w.heap.size = H) : Ints (w.alloc (.cells #[.int .i64 x] T)) (some ⟨H, 0, none⟩) [x] := by
  subst hH
  exact ints_cell w T x hx

set_option maxRecDepth 100000 in
set_option maxHeartbeats 2000000 in
theorem pairsGlyphs_any (A : Option Addr) (c : Nat) (l : List (Int × Int)) (w : World) (h : Prs w A l) (hl : l.length ≤ 1000000) :
    Calls Try.prog 23 #[.slice A l.length c] w fun e w' => ∃ A' c', e = .returned (.slice A' (fsts l).length c') ∧ Ints w' A' (fsts l) ∧ Below w.heap.size w w' ∧ Cap A' (fsts l).length c' := by
  have hlen := h.len
  go_enter Try.func23, Try.ntmps23
  go_wp2
  go_loopw [3, 5, 8] (fun vv _ i wr => ∃ (k : Nat) (v : Value), v = vv ∧ k ≤ l.length ∧ i = .int .i64 (k : Int) ∧ wr.ownsRow w.heap.size 3 1 v (fsts (l.take k)).length ((fsts (l.take k)).map (Value.int .i64)) ∧ Below w.heap.size w wr) (fun _ _ i _ => l.length - (intOf i).toNat)
  case atStart => exact ⟨0, _, rfl, Nat.zero_le _, rfl, World.ownsRow_nil _ _ _ _, Below.refl _ _⟩
  case round =>
    obtain ⟨k, v, rfl, hk, rfl, hown, hbw⟩ := hrel
    have HO := Lib.hid hown
    have HB := Lib.hid hbw
    have hsz := hbw.size
    clear hown hbw
    by_cases hlt : k < l.length
    · obtain ⟨b, off, rfl, g0, g1, hi0, _⟩ := h.at_ k hlt
      have c0 := (HB.out.cell (p := ⟨b, off + k * 2, none⟩) (World.block_lt_of_cell? w _ g0)).trans g0
      have c1 := (HB.out.cell (p := ⟨b, off + k * 2 + 1, none⟩) (World.block_lt_of_cell? w _ g1)).trans g1
      have HS := Lib.hid (fsts_take l k hlt)
      have HL := Lib.hid (show (fsts (l.take k)).length ≤ k by rw [fsts_length, List.length_take]; omega)
      generalize fsts (l.take k) = acc at *
      generalize l[k] = x at *
      obtain ⟨x0, x1⟩ := x
      dsimp only at *
      clear g0 g1
      go_wp2_with (at_builtin; refine wpList_append_ints rfl (.tmp 12) (.tmp 15) rfl w.heap.size v acc rfl ((HO.out.alloc _).alloc _) (some ⟨wr.heap.size + 1, 0, none⟩) 1 [x0] rfl (ints_cell_at _ _ x0 hi0 _ (by simp)) (fun h => by cases h) (by have := HL.out; simp only [List.length_cons, List.length_nil]; omega) (by simp; omega) ?_)
      intro v' w' hown hg _ _
      have hb' : Below w.heap.size w w' := ((HB.out.alloc hsz _).alloc (by simp; omega) _).grown hg (by simp; omega) (own_base HO.out)
      have hown : w'.ownsRow w.heap.size 3 1 v' (acc ++ [x0]).length ((acc ++ [x0]).map (Value.int .i64)) := by simpa using hown
      rw [← HS.out] at hown
      have HO' := Lib.hid hown
      have HB' := Lib.hid hb'
      clear hown hb' hg
      go_wp2
      go_roundw
      case rel => exact ⟨k + 1, _, rfl, by omega, by go_num, HO'.out, HB'.out⟩
      case measure => simp [intOf]; omega
    · have hkn : l.take k = l := List.take_of_length_le (by omega)
      have hown := HO.out
      rw [hkn] at hown
      have hwf : ∀ x, x ∈ fsts l → I64 x := by
        intro x hx
        simp only [fsts, List.mem_map] at hx
        obtain ⟨y, hy, rfl⟩ := hx
        obtain ⟨j, hj, rfl⟩ := List.mem_iff_getElem.1 hy
        obtain ⟨_, _, _, _, _, hi, _⟩ := h.at_ j hj
        exact hi
      obtain ⟨A', c', rfl, hi, hc⟩ := own_ints hown hwf (by rw [fsts_length]; omega)
      have HC := Lib.hid hc
      have HI := Lib.hid hi
      clear hkn hown hc hi
      go_wp2
      go_ret
      exact ⟨A', c', rfl, HI.out, HB.out, HC.out⟩

end Go.Proofs.Ytigljfmbelaobaa
