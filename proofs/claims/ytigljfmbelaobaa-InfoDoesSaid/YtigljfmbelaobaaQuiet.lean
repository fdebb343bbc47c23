/- Drawn regions whose operations read, and whose callees hand back plain values (they may make memory): one walk in the order of the text. -/
import Derived.Test.YtigljfmbelaobaaKeep
import Derived.Test.YtigljfmbelaobaaAuto
import Derived.Test.YtigljfmbelaobaaBase
import Derived.Deep.Quiet
namespace Go.Proofs.Ytigljfmbelaobaa
open Go.RowKit

section
variable {P : Program} {ops : Array Oper} {C : World → Prop} {Q : Act → Prop} {a : Act} {o : Oper} {rest : List Oper}

theorem quiet_skip (hw : Region.wanted o (yielded ops a.tmps) = false) (h : wpQuiet P ops C Q rest (a.put o.dst undef)) : wpQuiet P ops C Q (o :: rest) a := by
  unfold wpQuiet
  rw [if_neg (by rw [hw]; simp)]
  exact h
theorem quiet_op (hw : Region.wanted o (yielded ops a.tmps) = true) (h : ∃ v, (∀ W, C W → (execOp a.eval o).run P W = .ok (.value v) W) ∧ wpQuiet P ops C Q rest (a.put o.dst v)) : wpQuiet P ops C Q (o :: rest) a := by
  obtain ⟨v, h1, h2⟩ := h
  unfold wpQuiet
  rw [if_pos hw]
  exact ⟨v, fun W hW => by unfold Oper.quietAt; rw [h1 W hW]; exact ⟨rfl, rfl⟩, h2⟩
theorem quiet_call {f : FuncId} {args : Array Value} (hw : Region.wanted o (yielded ops a.tmps) = true) (hr : ∀ W, C W → (execOp a.eval o).run P W = .ok (.enter f args) W)
    (h : ∃ v, (∀ W, C W → Calls P f args W fun e W' => e = .returned v ∧ C W') ∧ wpQuiet P ops C Q rest (a.put o.dst v)) : wpQuiet P ops C Q (o :: rest) a := by
  obtain ⟨v, h1, h2⟩ := h
  unfold wpQuiet
  rw [if_pos hw]
  exact ⟨v, fun W hW => by unfold Oper.quietAt; rw [hr W hW]; exact ⟨rfl, h1 W hW⟩, h2⟩
/-- The operations that are left are some of a list. -/
theorem region_quiet {id : Nat} {Q : Exit → Act → World → Prop} {a : Act} {w : World} {l : List Oper} (C : World → Prop) (hm : P.follows .mixedOrders = true) (hB : Region.lexB .any l.toArray = true) (hC : C w.drew)
    (h : wpQuiet P l.toArray C (fun a' => ∀ w', C w' → Q .normal a' w') l a) : (Code.region id l.toArray true).wp P Q a w :=
  wp_region_quiet (C := C) hm hB hC (by simpa using h)
end

end Go.Proofs.Ytigljfmbelaobaa
