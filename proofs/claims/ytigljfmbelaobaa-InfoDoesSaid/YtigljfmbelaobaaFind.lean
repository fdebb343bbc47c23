/- Layer 12 (cover): Find. -/
import Derived.Test.YtigljfmbelaobaaIs
import Derived.WalkMore
import Derived.ScopeJumps
namespace Go.Proofs.Ytigljfmbelaobaa
open Go.RowKit

theorem okAt_lt {l : List Int} (h : ∀ i, i < l.length → OkAt l i) : ∀ (d i : Nat), i + d + 1 < l.length → nth l i < nth l (i + d + 1) := by
  intro d
  induction d with
  | zero =>
    intro i hi
    have := (h (i + 1) hi).2.2 (by omega)
    simpa using this
  | succ d ih =>
    intro i hi
    have a := ih i (by omega)
    have b := (h (i + d + 1 + 1) (by omega)).2.2 (by omega)
    simp only [Nat.add_sub_cancel] at b
    have : i + (d + 1) + 1 = i + d + 1 + 1 := by omega
    rw [this]
    omega
theorem isS_lt {l : List Int} (h : isS l = true) {i j : Nat} (hij : i < j) (hj : j < l.length) : nth l i < nth l j := by
  unfold isS at h
  rw [decide_eq_true_iff] at h
  have := okAt_lt h (j - i - 1) i (by omega)
  rwa [show i + (j - i - 1) + 1 = j by omega] at this

/-- A glyph's place among glyphs. -/
def findS (l : List Int) (g : Int) : Int × Bool := if isS l = true ∧ g ∈ l then ((l.findIdx (· == g) : Nat), true) else (0, false)
theorem findS_at {l : List Int} (h : isS l = true) {k : Nat} (hk : k < l.length) : findS l (nth l k) = ((k : Int), true) := by
  have hm : nth l k ∈ l := nth_mem l k hk
  unfold findS
  rw [if_pos ⟨h, hm⟩]
  have : l.findIdx (· == nth l k) = k := by
    rw [List.findIdx_eq hk]
    refine ⟨by simp [nth_eq l k hk], fun j hj => ?_⟩
    have hlt := isS_lt h hj hk
    rw [beq_eq_false_iff_ne, ← nth_eq l j (by omega)]
    omega
  rw [this]
theorem findS_out {l : List Int} {g : Int} (h : ∀ j, j < l.length → nth l j ≠ g) : findS l g = (0, false) := by
  unfold findS
  rw [if_neg]
  rintro ⟨_, hm⟩
  obtain ⟨j, hj, e⟩ := List.mem_iff_getElem.1 hm
  exact h j hj (by rw [nth_eq l j hj]; exact e)
theorem findS_no {l : List Int} {g : Int} (h : isS l = false) : findS l g = (0, false) := by
  unfold findS
  rw [if_neg]
  rintro ⟨h', _⟩
  rw [h] at h'
  cases h'

set_option maxHeartbeats 1000000 in
theorem find_any (A : Option Addr) (c : Nat) (l : List Int) (g : Int) (w : World) (h : Ints w A l) :
    Calls Try.prog 27 #[.slice A l.length c, .int .i64 g] w fun e w' => e = .returned (.tuple #[.int .i64 (findS l g).1, .bool (findS l g).2]) ∧ w = w' := by
  have hlen := h.len
  go_enter Try.func27, Try.ntmps27
  go_wp2
  refine wp_scope_jumps 0 (fun a' w' => w = w' ∧ Hid (isS l = true) ∧ ∃ (lo hi : Nat), lo ≤ hi ∧ hi ≤ l.length ∧ (∀ j, j < lo → nth l j < g) ∧ (∀ j, hi ≤ j → j < l.length → g < nth l j) ∧ ∃ (u8 u9 u10 u11 u12 u13 u14 u15 u16 u17 u18 u19 u20 u21 u22 u23 u24 u25 u26 u27 u28 u29 u30 u31 u32 u33 u34 u35 u36 u37 u38 : Value), a' = { tmps := #[.slice A l.length c, .int .i64 g, undef, undef, .int .i64 0, .bool false, .int .i64 (lo : Int), .int .i64 (hi : Int), u8, u9, u10, u11, u12, u13, u14, u15, u16, u17, u18, u19, u20, u21, u22, u23, u24, u25, u26, u27, u28, u29, u30, u31, u32, u33, u34, u35, u36, u37, u38], defers := [] })
    (fun a' _ => (intOf (a'.tmps.getD 7 undef)).toNat - (intOf (a'.tmps.getD 6 undef)).toNat) rfl ?_ ?_
  · go_wp2_with fail
    refine (is_any A c l w h).mono ?_
    rintro e w1 ⟨rfl, rfl⟩
    cases hs : isS l
    · go_wp2
      simp only [Exit.jump]
      go_ret2
      rw [findS_no (by rw [hs] <;> rfl)]
      exact ⟨rfl, rfl⟩
    · have HS := Lib.hid hs
      clear hs
      by_cases heq : l.length = 0
      · have HEQ := Lib.hid heq
        go_wp2
        go_step3
        go_wp2
        simp only [Exit.jump]
        go_ret2
        rw [findS_out (fun j hj => by have := HEQ.out; omega)]
        exact ⟨rfl, rfl⟩
      · obtain ⟨b, off, rfl, gm⟩ := h.cells (l.length / 2) (by omega)
        by_cases hE : nth l (l.length / 2) = g
        · subst hE
          go_wp2
          go_step3
          go_wp2
          simp only [Exit.jump]
          go_ret2
          rw [findS_at HS.out (by omega)]
          exact ⟨rfl, rfl⟩
        · by_cases hL : nth l (l.length / 2) < g
          · go_wp2
            go_step3
            go_wp2
            go_step3
            rw [show (l.length : Int) / 2 + 1 = ((l.length / 2 + 1 : Nat) : Int) by omega]
            refine ⟨rfl, rfl, HS, l.length / 2 + 1, l.length, by omega, Nat.le_refl _, fun j hj => ?_, fun j hj hj' => by omega, _, _, _, _, _, _, _, _, _, _, _, _, _, _, _, _, _, _, _, _, _, _, _, _, _, _, _, _, _, _, _, rfl⟩
            · by_cases hjm : j = l.length / 2
              · subst hjm; exact hL
              · have := isS_lt HS.out (show j < l.length / 2 by omega) (by omega); omega
          · go_wp2
            go_step3
            go_wp2
            go_step3
            rw [show (l.length : Int) / 2 = ((l.length / 2 : Nat) : Int) by omega]
            refine ⟨rfl, rfl, HS, 0, l.length / 2, Nat.zero_le _, by omega, fun j hj => by omega, fun j hj hj' => ?_, _, _, _, _, _, _, _, _, _, _, _, _, _, _, _, _, _, _, _, _, _, _, _, _, _, _, _, _, _, _, _, rfl⟩
            · by_cases hjm : j = l.length / 2
              · subst hjm; omega
              · have := isS_lt HS.out (show l.length / 2 < j by omega) hj'; omega
  · rintro a' w1 ⟨rfl, HS, lo, hi, h1, h2, h3, h4, u8, u9, u10, u11, u12, u13, u14, u15, u16, u17, u18, u19, u20, u21, u22, u23, u24, u25, u26, u27, u28, u29, u30, u31, u32, u33, u34, u35, u36, u37, u38, rfl⟩
    by_cases heq : lo = hi
    · subst heq
      go_wp2
      simp only [Exit.jump]
      go_ret2
      rw [findS_out (fun j hj => by
        by_cases hjl : j < lo
        · have := h3 j hjl; omega
        · have := h4 j (by omega) hj; omega)]
      exact ⟨rfl, rfl⟩
    · obtain ⟨b, off, rfl, gm⟩ := h.cells ((lo + hi) / 2) (by omega)
      by_cases hE : nth l ((lo + hi) / 2) = g
      · subst hE
        go_wp2
        simp only [Exit.jump]
        go_ret2
        rw [findS_at HS.out (by omega)]
        exact ⟨by simp, rfl⟩
      · by_cases hL : nth l ((lo + hi) / 2) < g
        · go_wp2
          go_step3
          rw [show ((lo : Int) + hi) / 2 + 1 = (((lo + hi) / 2 + 1 : Nat) : Int) by omega]
          refine ⟨rfl, ⟨rfl, HS, (lo + hi) / 2 + 1, hi, by omega, h2, fun j hj => ?_, h4, _, _, _, _, _, _, _, _, _, _, _, _, _, _, _, _, _, _, _, _, _, _, _, _, _, _, _, _, _, _, _, rfl⟩, ?_⟩
          · by_cases hjm : j = (lo + hi) / 2
            · subst hjm; exact hL
            · by_cases hjl : j < lo
              · exact h3 j hjl
              · have := isS_lt HS.out (show j < (lo + hi) / 2 by omega) (by omega); omega
          · simp [intOf]; omega
        · go_wp2
          go_step3
          rw [show ((lo : Int) + hi) / 2 = (((lo + hi) / 2 : Nat) : Int) by omega]
          refine ⟨rfl, ⟨rfl, HS, lo, (lo + hi) / 2, by omega, by omega, h3, fun j hj hj' => ?_, _, _, _, _, _, _, _, _, _, _, _, _, _, _, _, _, _, _, _, _, _, _, _, _, _, _, _, _, _, _, _, rfl⟩, ?_⟩
          · by_cases hjm : j = (lo + hi) / 2
            · subst hjm; omega
            · by_cases hjl : hi ≤ j
              · exact h4 j hjl hj'
              · have := isS_lt HS.out (show (lo + hi) / 2 < j by omega) hj'; omega
          · simp [intOf]; omega

end Go.Proofs.Ytigljfmbelaobaa
