/- Pairs among the arguments. -/
import Derived.Test.YtigljfmbelaobaaOpen
namespace Go.Proofs.Ytigljfmbelaobaa
open Go.ChangeShapes Go.WideShapes Go.ChangeAt Go.RowKit Go.Deep

theorem opens_pair : Opens 35 PairR := by
  intro H enc W fuel cs d p h hw
  obtain ⟨hl, hf⟩ := open_fields Try.underlying35 (by kernel_rfl) (by kernel_rfl) h hw
  obtain ⟨v0, n0, y0, q0, e0, t0, w0⟩ := hf 0 _ rfl
  obtain ⟨v1, n1, y1, q1, e1, t1, w1⟩ := hf 1 _ rfl
  obtain ⟨x0, h0, i0⟩ := opens_int H enc W n0 _ y0 q0 t0 w0
  obtain ⟨x1, h1, i1⟩ := opens_int H enc W n1 _ y1 q1 t1 w1
  simp only [List.cons.injEq, and_true] at h0 h1
  subst h0 h1
  match cs, hl, e0, e1 with
  | [c0, c1], _, e0, e1 =>
    simp only [List.getElem?_cons_zero, List.getElem?_cons_succ, Option.some.injEq] at e0 e1
    subst e0 e1
    exact ⟨(x0, x1), rfl, i0, i1⟩
theorem opens_pairs : Opens 22 (SlR PairR 2) := opens_slice (bytes := 16) Try.underlying22 (by kernel_rfl) (by decide) (by kernel_rfl) (by decide) opens_pair

/-- A slice of pairs among the arguments. -/
theorem open_pairs_arg {H : Type} {enc : TypeId × Value → H} {W : World} {A : Option Addr} {len cap : Nat} {d : DataW H} {p : List MemPlace} {ts : List TypeId} {ds : List (DataW H)} {j : Nat}
    (h0 : DataW.Trod enc Try.prog W 0 (fun _ => true) true 22 (.slice A len cap) d p) (hsz : (DataW.weightsEach Try.prog ts ds).all (· ≤ reachBytes) = true) (ht : ts[j]? = some 22) (hd : ds[j]? = some d) :
    ∃ l : List (Int × Int), len = l.length ∧ Prs W A l ∧ (A = none → cap = 0) := by
  obtain ⟨l, v, hv, A', c', e, hs, hc⟩ := open_arg opens_pairs h0 hsz ht hd
  simp only [Value.cells, List.cons.injEq, and_true] at hv
  subst hv
  cases e
  exact ⟨l, rfl, hs, hc.1⟩

end Go.Proofs.Ytigljfmbelaobaa
