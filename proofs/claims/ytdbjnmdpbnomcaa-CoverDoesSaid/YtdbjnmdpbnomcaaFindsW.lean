/- The law CoverFinds: what its function comes to. -/
import Derived.Test.YtdbjnmdpbnomcaaCovered
namespace Go.Proofs.Ytdbjnmdpbnomcaa
open Go.RowKit

theorem short_any (A : Option Addr) (n c : Nat) (w : World) (hn : n ≤ 140737488355328) :
    Calls Try.prog 7 #[.slice A n c] w fun e w' => e = .returned (.bool (decide (n ≤ 500))) ∧ w = w' := by
  go_enter Try.func7, Try.ntmps7
  go_wp2
  go_ret
  refine ⟨ret_bool ?_, rfl⟩
  simp only [decide_eq_decide]
  omega

theorem mem_take_succ (l : List Int) (k : Nat) (hk : k < l.length) (g : Int) : decide (g ∈ l.take (k + 1)) = (decide (g ∈ l.take k) || decide (nth l k = g)) := by
  rw [List.take_succ_eq_append_getElem hk, ← nth_eq l k hk]
  simp only [List.mem_append, List.mem_singleton, Bool.decide_or]
  congr 1
  simp only [decide_eq_decide]
  exact eq_comm

set_option maxHeartbeats 2000000 in
theorem finds_any (A : Option Addr) (c : Nat) (l : List Int) (g : Int) (w : World) (h : Ints w A l) :
    Calls Try.prog 6 #[.slice A l.length c, .int .i64 g] w fun e w' => e = .returned (.bool true) ∧ Below w.heap.size w w' := by
  have hlen := h.len
  have hsh := short_any A l.length c w hlen
  have hfi := find_any A c l g w h
  have hi := is_any A c l w h
  go_enter Try.func6, Try.ntmps6
  by_cases h5 : l.length ≤ 500
  · have hd : decide (l.length ≤ 500) = true := by simpa using h5
    rw [hd] at hsh
    cases hs : isS l
    · rw [hs] at hi
      rw [findS_no hs] at hfi
      have HS := Lib.hid hs
      clear hs hd
      go_wp2_with (first
        | (go_at_call 7; refine hsh.mono ?_; rintro e w' ⟨rfl, rfl⟩)
        | (go_at_call 13; refine hfi.mono ?_; rintro e w' ⟨rfl, rfl⟩)
        | (go_at_call 17; refine hi.mono ?_; rintro e w' ⟨rfl, rfl⟩)
        | (go_at_call 15; refine (covered_any w).mono ?_; rintro e w' ⟨rfl, hb⟩))
      go_ret
      exact ⟨rfl, hb⟩
    · rw [hs] at hi
      have HS := Lib.hid hs
      clear hs hd
      obtain ⟨p, ok, hpk⟩ : ∃ p ok, findS l g = (p, ok) := ⟨_, _, rfl⟩
      rw [hpk] at hfi
      have hin : ok = decide (g ∈ l) ∧ ((ok = false ∧ p = 0) ∨ (ok = true ∧ ∃ j : Nat, p = (j : Int) ∧ j < l.length ∧ nth l j = g)) := by
        by_cases hm : g ∈ l
        · obtain ⟨j, hj, e⟩ := List.mem_iff_getElem.1 hm
          rw [← nth_eq l j hj] at e
          subst e
          rw [findS_at HS.out hj] at hpk
          cases hpk
          exact ⟨by simpa using hm, .inr ⟨rfl, j, rfl, hj, rfl⟩⟩
        · have : findS l g = (0, false) := by unfold findS; rw [if_neg (fun h => hm h.2)]
          rw [this] at hpk
          cases hpk
          exact ⟨by simpa using hm, .inl ⟨rfl, rfl⟩⟩
      have HIN := Lib.hid hin
      clear hin hpk
      go_wp2_with (first
        | (go_at_call 7; refine hsh.mono ?_; rintro e w' ⟨rfl, rfl⟩)
        | (go_at_call 13; refine hfi.mono ?_; rintro e w' ⟨rfl, rfl⟩)
        | (go_at_call 17; refine hi.mono ?_; rintro e w' ⟨rfl, rfl⟩))
      go_loop [7, 8] (fun b i => ∃ (k : Nat) (bb : Bool), k ≤ l.length ∧ i = .int .i64 (k : Int) ∧ b = .bool bb ∧ Hid (bb = decide (g ∈ l.take k))) (fun _ i => l.length - (intOf i).toNat)
      case atStart => exact ⟨0, false, Nat.zero_le _, rfl, rfl, by unfold Hid; simp⟩
      case round =>
        obtain ⟨k, bb, hk, rfl, rfl, hbb⟩ := hrel
        by_cases hlt : k < l.length
        · obtain ⟨b, off, rfl, gk⟩ := h.cells k hlt
          cases bb
          · by_cases he : nth l k = g
            · have HE := Lib.hid he
              have hee : (nth l k == g) = true := by simpa using he
              clear he
              go_wp2
              go_roundw
              case rel => exact ⟨k + 1, true, by omega, by go_num, rfl, by unfold Hid; rw [mem_take_succ l k hlt]; simp [HE.out]⟩
              case measure => simp [intOf]; omega
            · have HE := Lib.hid he
              have hee : (nth l k == g) = false := by simpa using he
              clear he
              go_wp2
              go_roundw
              case rel => exact ⟨k + 1, false, by omega, by go_num, rfl, by unfold Hid; rw [mem_take_succ l k hlt, ← hbb.out]; simp [HE.out]⟩
              case measure => simp [intOf]; omega
          · go_wp2
            go_roundw
            case rel => exact ⟨k + 1, true, by omega, by go_num, rfl, by unfold Hid; rw [mem_take_succ l k hlt, ← hbb.out]; rfl⟩
            case measure => simp [intOf]; omega
        · have hkn : k = l.length := by omega
          have hok : bb = ok := by rw [hbb.out, HIN.out.1, hkn, List.take_length]
          subst hok
          clear hkn hbb
          have hcv := covered_any w
          rcases HIN.out.2 with ⟨rfl, rfl⟩ | ⟨rfl, j, rfl, hj, hje⟩
          · go_wp2_with (go_at_call 15; refine hcv.mono ?_; rintro e w' ⟨rfl, hb⟩)
            go_ret
            exact ⟨rfl, hb⟩
          · obtain ⟨b, off, rfl, gj⟩ := h.cells j hj
            rw [hje] at gj
            have HJE := Lib.hid hje
            clear hje
            go_wp2_with (go_at_call 15; refine hcv.mono ?_; rintro e w' ⟨rfl, hb⟩; have gj' := (hb.cell (p := ⟨b, off + j, none⟩) (World.block_lt_of_cell? w _ gj)).trans gj)
            go_ret
            exact ⟨rfl, hb⟩
  · have hd : decide (l.length ≤ 500) = false := by simpa using h5
    rw [hd] at hsh
    go_wp2_with (first
        | (go_at_call 7; refine hsh.mono ?_; rintro e w' ⟨rfl, rfl⟩))
    go_ret
    exact ⟨rfl, Below.refl _ _⟩

end Go.Proofs.Ytdbjnmdpbnomcaa
