/- Drawn regions: taking an operation whose value the walk finds. -/
import Derived.Test.YtigljfmbelaobaaKeep
namespace Go.Proofs.Ytigljfmbelaobaa


section
variable {P : Program} {md : Region.Mode} {ops : Array Oper} {Q : Exit → Act → World → Prop}
theorem wpAnyG_takeE {last : Nat} {S : World → Prop} {i : Nat} {oi : Oper} {fuel : Nat} {listed : Array Bool} {a : Act} {w : World} (hi : ops[i]? = some oi)
    (hs : Region.noSelect ops = true) (hf : Region.free md ops listed i = true) (hr : (Region.ready md ops listed).contains i = true) (hcl : closedB md ops listed = true)
    (hwait : (i != last && waitsB md ops ops.size last i) = true)
    (hQ : ∀ v c a w, Q (.panic c) (a.put oi.dst v) w → Q (.panic c) a w) (hw : Region.wanted oi (yielded ops a.tmps) = true) (hS : S w)
    (h : ∃ v, (∀ W, S W → (execOp a.eval oi).run P W = .ok (.value v) W) ∧ wpAnyG P md ops Q last S fuel (listed.setIfInBounds i true) (a.put oi.dst v) w) : wpAnyG P md ops Q last S (fuel + 1) listed a w := by
  obtain ⟨v, h1, h2⟩ := h
  exact wpAnyG_take hi hs hf hr hcl hwait (hQ v) (Or.inl ⟨hw, h1⟩) hS h2
theorem wpAnyG_skipE {last : Nat} {S : World → Prop} {i : Nat} {oi : Oper} {fuel : Nat} {listed : Array Bool} {a : Act} {w : World} (hi : ops[i]? = some oi)
    (hs : Region.noSelect ops = true) (hf : Region.free md ops listed i = true) (hr : (Region.ready md ops listed).contains i = true) (hcl : closedB md ops listed = true)
    (hwait : (i != last && waitsB md ops ops.size last i) = true)
    (hQ : ∀ v c a w, Q (.panic c) (a.put oi.dst v) w → Q (.panic c) a w) (hw : Region.wanted oi (yielded ops a.tmps) = false) (hS : S w)
    (h : wpAnyG P md ops Q last S fuel (listed.setIfInBounds i true) (a.put oi.dst undef) w) : wpAnyG P md ops Q last S (fuel + 1) listed a w :=
  wpAnyG_take hi hs hf hr hcl hwait (hQ undef) (Or.inr ⟨hw, rfl⟩) hS h
end
theorem put_lit (l : List Value) (d : List Deferred) (i : Nat) (v : Value) : ({ tmps := l.toArray, defers := d } : Act).put (some i) v = { tmps := (l.set i v).toArray, defers := d } := by
  simp [Act.put]

end Go.Proofs.Ytigljfmbelaobaa
