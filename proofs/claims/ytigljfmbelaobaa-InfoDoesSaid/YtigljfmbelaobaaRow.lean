/- What the rows' proofs share: arguments opened. -/
import Derived.Test.YtigljfmbelaobaaRows
import Derived.Test.YtigljfmbelaobaaBase
import Derived.ProofKit
import Derived.SizedLaws
import Derived.OpenShut
namespace Go.Proofs.Ytigljfmbelaobaa
open Go.ChangeShapes Go.WideShapes Go.ChangeAt Go.RowKit

theorem row_own : ownKnob Try.prog.godebug = none := by kernel_rfl
theorem row_laid : laidOutB Try.prog = true := by kernel_rfl
theorem row_cells : Try.prog.cellsOf 3 = 1 := by kernel_rfl
theorem row_bytes : Try.prog.bytesOf 3 = 8 := by kernel_rfl

/-- A slice of ints among the arguments. -/
theorem open_list {H : Type} {enc : TypeId × Value → H} {W : World} {A : Option Addr} {len cap : Nat} {d : DataW H} {p : List MemPlace} {ts : List TypeId} {ds : List (DataW H)} {j : Nat}
    (h0 : DataW.Trod enc Try.prog W 0 (fun _ => true) true 37 (.slice A len cap) d p) (hsz : (DataW.weightsEach Try.prog ts ds).all (· ≤ reachBytes) = true) (ht : ts[j]? = some 37) (hd : ds[j]? = some d) :
    ∃ l : List Int, len = l.length ∧ Ints W A l ∧ (A = none → cap = 0) := by
  obtain ⟨fuel, hf⟩ := h0
  rcases open_ints Try.underlying37 Try.underlying3 row_cells hf with ⟨hcs, hx⟩ | ⟨a, len', cap', zs, hcs, _, hl, hm, hzl, hx, hcell, hwf⟩
  · simp [Value.cells] at hcs
    obtain ⟨rfl, rfl, rfl⟩ := hcs
    exact ⟨[], rfl, Ints.empty _ _, fun _ => rfl⟩
  · simp [Value.cells] at hcs
    obtain ⟨rfl, rfl, rfl⟩ := hcs
    simp only [Prod.mk.injEq] at hx
    have hb := sized_slice hsz (j := j) (t := 37) (e := 3) ht (by rw [hd, hx.1]) Try.underlying37
    rw [row_bytes] at hb
    simp only [lits, List.length_map, List.length_take, List.length_drop, reachBytes] at hb
    simp only [if_true] at hzl
    refine ⟨zs.take len, by rw [List.length_take]; omega, ⟨by rw [List.length_take]; omega, fun x hx' => ?_, fun j hj => ?_⟩, fun h => by cases h⟩
    · have := hwf x (List.mem_of_mem_take hx')
      have e1 : IntKind.i64.min = -9223372036854775808 := by decide
      have e2 : IntKind.i64.max = 9223372036854775807 := by decide
      simp [Lit.wf, e1, e2] at this
      unfold I64
      omega
    · rw [List.length_take] at hj
      obtain ⟨b, off, e, hc⟩ := ints_at hcell (by omega)
      refine ⟨b, off, by rw [e], ?_⟩
      rw [hc j (by omega)]
      simp [nth, List.getD_eq_getElem?_getD, (by omega : j < len)]

end Go.Proofs.Ytigljfmbelaobaa
