/- A region that draws its order inside a round of a range over a function goes as everywhere. -/
import Derived.Test.YtigljfmbelaobaaKeep
import Derived.Test.YtigljfmbelaobaaBase
import Derived.RangeFuncNested
import Derived.RangeFuncBound
import Derived.RangeFuncCalls
import Derived.RangeFuncLeaves
import Derived.OwnWalkIn
import Derived.TacticsInMore
import Derived.LoopNIn
import Derived.LoopIn
namespace Go.Proofs.Ytigljfmbelaobaa
open Go.RowKit

/-- What a round of a loop whose iterator keeps the blocks S may do. -/
structure RoundK (S : Nat → Prop) (W W' : World) : Prop where
  others : KeepsOthers W W'
  touch : Touch (fun k => ¬ S k) W W'
theorem RoundK.refl (S : Nat → Prop) (W : World) : RoundK S W W := ⟨KeepsOthers.refl _, Touch.refl _ _⟩
theorem RoundK.drew {S : Nat → Prop} {A W : World} (h : RoundK S A W) : RoundK S A W.drew := ⟨h.others.trans (KeepsOthers.drew W), h.touch.drew⟩
theorem RoundK.alloc {S : Nat → Prop} {A W : World} (h : RoundK S A W) (o : Obj) : RoundK S A (W.alloc o) := ⟨h.others.trans (KeepsOthers.alloc W o), h.touch.alloc o⟩
theorem RoundK.setCell {S : Nat → Prop} {A W : World} (h : RoundK S A W) {p : Addr} (hp : ¬ S p.block) (v : Value) : RoundK S A (W.setCell p v) := ⟨h.others.trans (KeepsOthers.setCell W p v), h.touch.setCell (fun _ => hp) v⟩
/-- A step that may turn a row of the call's own. -/
theorem RoundK.grown {S : Nat → Prop} {A W W' : World} (h : RoundK S A W) {base : Nat} {e : TypeId} {size : Nat} {v : Value} {n : Nat} {xs : List Value} (ho : W.ownsRow base e size v n xs) (hg : W.grownBy W' v.ownBlock) (hS : ∀ k, S k → k < base) : RoundK S A W' := by
  refine ⟨h.others.trans (KeepsOthers.of_grownBy hg fun j _ hj hjo => ?_), h.touch.grown hg fun k hk _ hs => ?_⟩
  · rcases ho.2 with ⟨hv, _⟩ | ⟨g, cap, cur, hv, _, hh, _⟩
    · rw [hv] at hj; cases hj
    · rw [hv] at hj
      simp only [Value.ownBlock, Option.some.injEq] at hj
      subst hj
      rw [hh] at hjo
      cases hjo
      rfl
  · have := own_base ho k hk
    have := hS k hs
    omega
theorem RoundK.below {S : Nat → Prop} {A W W' : World} (h : RoundK S A W) (hb : Below W.heap.size W W') : RoundK S A W' :=
  ⟨h.others.trans ⟨hb.size, fun k _ hk _ => (hb.block k (Array.getElem?_eq_some_iff.1 hk).1).trans hk⟩, h.touch.thenBelow hb⟩
theorem RoundK.trans {S : Nat → Prop} {A B C : World} (h : RoundK S A B) (k : RoundK S B C) : RoundK S A C := ⟨h.others.trans k.others, h.touch.trans k.touch fun _ _ h => h⟩

/-- What a loop's invariant speaks of lies in cells: it abides the iterator's steps. -/
theorem box_ownFrom {W W' : World} {B b : Nat} {T : TypeId} {v : Value} (h : Box W b T v) {row : Option Nat} (hg : W.grownBy W' row) (hr : ∀ r, row = some r → B ≤ r ∧ ∃ o : Obj, W.heap[r]? = some o ∧ o.isCells = false) : Box W' b T v := by
  refine h.grown hg ?_
  intro e
  obtain ⟨_, o, ho, hc⟩ := hr b e.symm
  rw [h] at ho
  cases ho
  cases hc
theorem own_ownFrom {W W' : World} {B base : Nat} {e : TypeId} {size : Nat} {v : Value} {n : Nat} {xs : List Value} (h : W.ownsRow base e size v n xs) {row : Option Nat} (hg : W.grownBy W' row) (hr : ∀ r, row = some r → B ≤ r ∧ ∃ o : Obj, W.heap[r]? = some o ∧ o.isCells = false) : W'.ownsRow base e size v n xs := by
  refine h.kept hg ?_
  cases hv : v.ownBlock with
  | none => exact .inl rfl
  | some g =>
    refine .inr fun e => ?_
    obtain ⟨_, o, ho, hc⟩ := hr g e.symm
    rcases h.2 with ⟨h1, _⟩ | ⟨g', cap, cur, h1, _, hh, _⟩
    · rw [h1] at hv; cases hv
    · rw [h1] at hv
      simp only [Value.ownBlock, Option.some.injEq] at hv
      subst hv
      rw [hh] at ho
      cases ho
      cases hc
theorem below_ownFrom {w W W' : World} {B N : Nat} (h : Below N w W) {row : Option Nat} (hg : W.grownBy W' row) (hr : ∀ r, row = some r → B ≤ r ∧ ∃ o : Obj, W.heap[r]? = some o ∧ o.isCells = false) (hN : N ≤ B) (hs : N ≤ W.heap.size) : Below N w W' :=
  h.grown hg hs fun k hk => by have := (hr k hk).1; omega

section
variable {P : Program} {ops : Array Oper} {Q : Exit → Act → World → Prop}

theorem rowsIn_round (l n : Nat) {row : String} {args : Array Value} {w : World} {R : Value → World → Prop} (h : Rows P row args w R) : RowsIn (Fence.wide.inRound l) n P row args w R :=
  fun c cs _ => let ⟨v, w', r, s⟩ := h c cs; ⟨v, w', r, by rw [fenced_inRound]; exact stepsIn_wide.2 s⟩
theorem callsIn_round (l n : Nat) {f : FuncId} {args : Array Value} {w : World} {R : Ending → World → Prop} (h : Calls P f args w R) : CallsIn (Fence.wide.inRound l) n P f args w R := CallsIn.inRound l (callsIn_wide.2 h)

theorem wpOpsIn_round (l n : Nat) (hnd : ∀ (i : Nat) (o : Oper), ops[i]? = some o → ∀ c, o.op ≠ .defer c) (hlo : ¬ LetsOut Q) : ∀ (is : List Nat) (a : Act) (w : World), wpOps P ops Q is a w → wpOpsIn (Fence.wide.inRound l) n P ops Q is a w := by
  intro is
  induction is with
  | nil => exact fun a w h => h
  | cons i rest ih =>
    intro a w h
    simp only [wpOps] at h
    simp only [wpOpsIn]
    cases ho : ops[i]? with
    | none => simp only [ho] at h ⊢; exact ih a w h
    | some o =>
      simp only [ho] at h ⊢
      by_cases hw : Region.wanted o (yielded ops a.tmps) = true
      · rw [if_pos hw] at h ⊢
        have h := h.resolve_right fun x => hlo x.2
        refine ⟨fun _ _ => trivial, ?_⟩
        rw [Oper.semAt_eq _ _ _ (hnd i o ho)]
        unfold Oper.wp at h
        generalize (execOp a.eval o).run P w = r at h ⊢
        cases r with
        | ok x w' =>
          cases x <;> simp only [Oper.upon] at h <;> simp only [Oper.uponIn]
          case value v => exact ih _ _ h
          case skip => exact ih _ _ h
          case defer d => exact ih _ _ h
          case enter f args =>
            refine ⟨fun h => by simp [Fence.wide] at h, callsIn_round l _ (h.mono fun e w'' he => ?_)⟩
            cases e with
            | returned v => exact ih _ _ he
            | panicked c => exact he
            | outgrown => exact he
          case row row args => exact ⟨fun h => by simp [Fence.wide] at h, rowsIn_round l _ (h.mono fun v w'' he => ih _ _ he)⟩
        | halt x w' => cases x <;> simp only [Oper.upon] at h <;> simp only [Oper.uponIn]; exact h
      · rw [if_neg hw] at h ⊢
        exact ⟨fun _ _ => trivial, ih _ _ h⟩

theorem wpIn_region_round {id l n : Nat} {a : Act} {w : World} (hnd : ops.all (fun o => match o.op with | .defer _ => false | _ => true) = true) (hlo : ¬ LetsOut Q) (hm : P.follows .mixedOrders = true)
    (h : wpAny P .any ops Q ops.size (Array.replicate ops.size false) a { w with drawn := w.drawn + 1 }) : (Code.region id ops true).wpIn (Fence.wide.inRound l) n P Q a w := by
  refine wpIn_region_draw fun t => wpOpsIn_round l n ?_ hlo _ _ _ ?_
  · intro i o ho c hc
    rw [Array.all_eq_true] at hnd
    obtain ⟨hi, rfl⟩ := Array.getElem?_eq_some_iff.1 ho
    have := hnd i hi
    rw [hc] at this
    cases this
  · simp only [Region.schedule, hm, Bool.true_or, if_true]
    exact wpAny_sound ops.size t _ a _ h

end

end Go.Proofs.Ytigljfmbelaobaa
