/- The document's layer 3: a row of its own. -/
import Derived.Test.YtdbjnmdpbnomcaaConcat
namespace Go.Proofs.Ytdbjnmdpbnomcaa
open Go.RowKit

/-- append(nil, l...): a row of its own. -/
theorem ownRow_any (A : Option Addr) (c : Nat) (l : List Int) (w : World) (h : Ints w A l) (hc : A = none → c = 0) (hl : l.length ≤ 1000000) :
    Calls Try.prog 8 #[.slice A l.length c] w fun e w' => ∃ A' c', e = .returned (.slice A' l.length c') ∧ Ints w' A' l ∧ Below w.heap.size w w' ∧ Cap A' l.length c' := by
  go_enter Try.func8, Try.ntmps8
  go_wp2_with (at_builtin; refine wpList_append_ints rfl (.tmp 4) (.tmp 5) rfl w.heap.size (.slice none 0 0) [] rfl (World.ownsRow_nil _ _ _ _) A c l rfl h hc (by simp; omega) (Nat.le_refl _) ?_)
  intro v' w' hown hg _ _
  obtain ⟨A', c', rfl, hi, hcp⟩ := own_ints hown h.wf (by omega)
  have hb : Below w.heap.size w w' := (Below.refl _ _).grown hg (Nat.le_refl _) (fun k hk => by cases hk)
  go_wp2
  go_ret
  exact ⟨A', c', rfl, hi, hb, hcp⟩

end Go.Proofs.Ytdbjnmdpbnomcaa
