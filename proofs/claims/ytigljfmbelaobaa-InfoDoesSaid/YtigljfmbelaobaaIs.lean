/- Right glyphs: cover.Is and the document's. -/
import Derived.Test.YtigljfmbelaobaaBase
namespace Go.Proofs.Ytigljfmbelaobaa
open Go.RowKit

def OkAt (l : List Int) (i : Nat) : Prop := 0 ≤ nth l i ∧ nth l i ≤ 65534 ∧ (0 < i → nth l (i - 1) < nth l i)
instance (l : List Int) (i : Nat) : Decidable (OkAt l i) := by unfold OkAt; infer_instance
def isS (l : List Int) : Bool := decide (∀ i, i < l.length → OkAt l i)
theorem isS_no {l : List Int} {k : Nat} (hk : k < l.length) (h : ¬ OkAt l k) : isS l = false := by
  unfold isS
  rw [decide_eq_false_iff_not]
  exact fun g => h (g k hk)
theorem isS_yes {l : List Int} (h : ∀ i, i < l.length → OkAt l i) : isS l = true := by
  unfold isS
  rw [decide_eq_true_iff]
  exact h

set_option maxHeartbeats 1000000 in
theorem is_any (A : Option Addr) (c : Nat) (l : List Int) (w : World) (h : Ints w A l) :
    Calls Try.prog 29 #[.slice A l.length c] w fun e w' => e = .returned (.bool (isS l)) ∧ w = w' := by
  have hlen := h.len
  go_enter Try.func29, Try.ntmps29
  go_wp2
  go_loop [3, 4, 7] (fun _ _ i => ∃ k : Nat, k ≤ l.length ∧ i = .int .i64 k ∧ ∀ j, j < k → OkAt l j) (fun _ _ i => l.length - (intOf i).toNat)
  case atStart => exact ⟨0, Nat.zero_le _, rfl, fun j hj => by omega⟩
  case round =>
    obtain ⟨k, hk, rfl, hok⟩ := hrel
    by_cases hlt : k < l.length
    · obtain ⟨b, off, rfl, g⟩ := h.cells k hlt
      by_cases h1 : nth l k < 0
      · go_wp2
        go_ret
        exact ⟨ret_bool (isS_no hlt (fun ⟨q, _⟩ => by omega)).symm, rfl⟩
      · by_cases h2 : 65534 < nth l k
        · go_wp2
          go_ret
          exact ⟨ret_bool (isS_no hlt (fun ⟨_, q, _⟩ => by omega)).symm, rfl⟩
        · by_cases hk0 : 0 < k
          · have g' : w.cell? ⟨b, off + (k - 1), none⟩ = some (.int .i64 (nth l (k - 1))) := by
              obtain ⟨_, _, e, g'⟩ := h.cells (k - 1) (by omega)
              cases e
              exact g'
            by_cases h3 : nth l k ≤ nth l (k - 1)
            · go_wp2
              go_ret
              exact ⟨ret_bool (isS_no hlt (fun ⟨_, _, q⟩ => by have := q hk0; omega)).symm, rfl⟩
            · go_wp2
              go_roundw
              case rel => exact ⟨k + 1, by omega, by go_num, fun j hj => by
                by_cases hjk : j = k
                · subst hjk; exact ⟨by omega, by omega, fun _ => by omega⟩
                · exact hok j (by omega)⟩
              case measure => simp [intOf]; omega
          · go_wp2
            go_roundw
            case rel => exact ⟨k + 1, by omega, by go_num, fun j hj => by
              by_cases hjk : j = k
              · subst hjk; exact ⟨by omega, by omega, fun _ => by omega⟩
              · exact hok j (by omega)⟩
            case measure => simp [intOf]; omega
    · go_wp2
      go_ret
      exact ⟨ret_bool (isS_yes fun i hi => hok i (by omega)).symm, rfl⟩

end Go.Proofs.Ytigljfmbelaobaa
