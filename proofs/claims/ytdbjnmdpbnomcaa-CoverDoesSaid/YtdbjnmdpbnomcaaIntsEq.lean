/- vinculumref03.Ints: are two rows the same? -/
import Derived.Test.YtdbjnmdpbnomcaaKeep
import Derived.Test.YtdbjnmdpbnomcaaBase
namespace Go.Proofs.Ytdbjnmdpbnomcaa
open Go.RowKit

set_option maxRecDepth 100000 in
set_option maxHeartbeats 1000000 in
theorem intsEq_any (A1 A2 : Option Addr) (c1 c2 : Nat) (a b : List Int) (w : World) (h1 : Ints w A1 a) (h2 : Ints w A2 b) :
    Calls Try.prog 16 #[.slice A1 a.length c1, .slice A2 b.length c2] w fun e w' => e = .returned (.bool (decide (a = b))) ∧ Below w.heap.size w w' := by
  have hl1 := h1.len
  have hl2 := h2.len
  go_enter Try.func16, Try.ntmps16
  by_cases hne : a.length = b.length
  · have HNE := Lib.hid hne
    have hb : (a.length : Int) = (b.length : Int) := by omega
    rw [← hne]
    have h2' : ∀ j, j < a.length → ∃ bl off, A2 = some ⟨bl, off, none⟩ ∧ w.cell? ⟨bl, off + j, none⟩ = some (.int .i64 (nth b j)) := fun j hj => h2.cells j (by omega)
    clear hne hb
    go_wp2
    go_loopw [5] (fun i wr => ∃ k : Nat, k ≤ a.length ∧ i = .int .i64 (k : Int) ∧ Below w.heap.size w wr ∧ ∀ j, j < k → nth a j = nth b j) (fun i _ => a.length - (intOf i).toNat)
    case atStart => exact ⟨0, Nat.zero_le _, rfl, Below.refl _ _, fun j hj => by omega⟩
    case round =>
      obtain ⟨k, hk, rfl, hbw, hok⟩ := hrel
      have HOK := Lib.hid hok
      clear hok
      by_cases hlt : k < a.length
      · obtain ⟨b1, o1, rfl, g1⟩ := h1.cells k hlt
        obtain ⟨b2, o2, rfl, g2⟩ := h2' k hlt
        have e1 := (hbw.cell (p := ⟨b1, o1 + k, none⟩) (World.block_lt_of_cell? w _ g1)).trans g1
        have e2 := (hbw.cell (p := ⟨b2, o2 + k, none⟩) (World.block_lt_of_cell? w _ g2)).trans g2
        by_cases heq : nth a k = nth b k
        · have HEQ := Lib.hid heq
          have hbb : (nth a k != nth b k) = false := by simpa using heq
          clear heq
          go_wp2
          refine wp_region_any (by kernel_rfl) ?_
          change wpAny _ _ _ _ _ _ _ (World.drew _)
          refine wpAny_of_G (last := 8) (S := fun W => W.cell? ⟨b1, o1 + k, none⟩ = some (.int .i64 (nth a k)) ∧ W.cell? ⟨b2, o2 + k, none⟩ = some (.int .i64 (nth b k))) _ _ _ _ ?_
          refine wpAnyG_take (i := 0) (v := .slice (some ⟨b1, o1, none⟩) a.length c1) rfl (by kernel_rfl) (by kernel_rfl) (by kernel_rfl) (by kernel_rfl) (by kernel_rfl) (fun _ _ _ h => h) (Or.inl ⟨by rfl, by (intro W hW; go_simp)⟩) (by go_simp) ?_
          refine wpAnyG_take (i := 1) (v := .int .i64 (k : Int)) rfl (by kernel_rfl) (by kernel_rfl) (by kernel_rfl) (by kernel_rfl) (by kernel_rfl) (fun _ _ _ h => h) (Or.inl ⟨by rfl, by (intro W hW; go_simp)⟩) (by go_simp) ?_
          refine wpAnyG_take (i := 2) (v := .pointer (some ⟨b1, o1 + k, none⟩)) rfl (by kernel_rfl) (by kernel_rfl) (by kernel_rfl) (by kernel_rfl) (by kernel_rfl) (fun _ _ _ h => h) (Or.inl ⟨by rfl, by (intro W hW; go_simp)⟩) (by go_simp) ?_
          refine wpAnyG_take (i := 3) (v := .int .i64 (nth a k)) rfl (by kernel_rfl) (by kernel_rfl) (by kernel_rfl) (by kernel_rfl) (by kernel_rfl) (fun _ _ _ h => h) (Or.inl ⟨by rfl, by (intro W hW; go_simp)⟩) (by go_simp) ?_
          simp only [Act.put, List.getElem_toArray, List.getElem_cons_zero, List.getElem_cons_succ, List.setIfInBounds_toArray, List.set_cons_zero, List.set_cons_succ]
          refine wpAnyG_take (i := 4) (v := .slice (some ⟨b2, o2, none⟩) a.length c2) rfl (by kernel_rfl) (by kernel_rfl) (by kernel_rfl) (by kernel_rfl) (by kernel_rfl) (fun _ _ _ h => h) (Or.inl ⟨by rfl, by (intro W hW; go_simp)⟩) (by go_simp) ?_
          refine wpAnyG_take (i := 5) (v := .int .i64 (k : Int)) rfl (by kernel_rfl) (by kernel_rfl) (by kernel_rfl) (by kernel_rfl) (by kernel_rfl) (fun _ _ _ h => h) (Or.inl ⟨by rfl, by (intro W hW; go_simp)⟩) (by go_simp) ?_
          refine wpAnyG_take (i := 6) (v := .pointer (some ⟨b2, o2 + k, none⟩)) rfl (by kernel_rfl) (by kernel_rfl) (by kernel_rfl) (by kernel_rfl) (by kernel_rfl) (fun _ _ _ h => h) (Or.inl ⟨by rfl, by (intro W hW; go_simp)⟩) (by go_simp) ?_
          refine wpAnyG_take (i := 7) (v := .int .i64 (nth b k)) rfl (by kernel_rfl) (by kernel_rfl) (by kernel_rfl) (by kernel_rfl) (by kernel_rfl) (fun _ _ _ h => h) (Or.inl ⟨by rfl, by (intro W hW; go_simp)⟩) (by go_simp) ?_
          simp only [Act.put, List.getElem_toArray, List.getElem_cons_zero, List.getElem_cons_succ, List.setIfInBounds_toArray, List.set_cons_zero, List.set_cons_succ]
          refine wpAnyG_step (i := 8) (by kernel_rfl) rfl (fun K hK => ?_)
          go_simp
          refine hK _ _ (fun h => absurd rfl h) ?_
          refine wpAnyG_done (by kernel_rfl) ?_ _
          go_wp2
          go_roundw
          case rel => exact ⟨k + 1, by omega, by go_num, hbw.drew, fun j hj => by
            by_cases hjk : j = k
            · subst hjk; exact HEQ.out
            · exact HOK.out j (by omega)⟩
          case measure => simp [intOf]; omega
        · have HEQ := Lib.hid heq
          have hbb : (nth a k != nth b k) = true := by simpa using heq
          clear heq
          go_wp2
          refine wp_region_any (by kernel_rfl) ?_
          change wpAny _ _ _ _ _ _ _ (World.drew _)
          refine wpAny_of_G (last := 8) (S := fun W => W.cell? ⟨b1, o1 + k, none⟩ = some (.int .i64 (nth a k)) ∧ W.cell? ⟨b2, o2 + k, none⟩ = some (.int .i64 (nth b k))) _ _ _ _ ?_
          refine wpAnyG_take (i := 0) (v := .slice (some ⟨b1, o1, none⟩) a.length c1) rfl (by kernel_rfl) (by kernel_rfl) (by kernel_rfl) (by kernel_rfl) (by kernel_rfl) (fun _ _ _ h => h) (Or.inl ⟨by rfl, by (intro W hW; go_simp)⟩) (by go_simp) ?_
          refine wpAnyG_take (i := 1) (v := .int .i64 (k : Int)) rfl (by kernel_rfl) (by kernel_rfl) (by kernel_rfl) (by kernel_rfl) (by kernel_rfl) (fun _ _ _ h => h) (Or.inl ⟨by rfl, by (intro W hW; go_simp)⟩) (by go_simp) ?_
          refine wpAnyG_take (i := 2) (v := .pointer (some ⟨b1, o1 + k, none⟩)) rfl (by kernel_rfl) (by kernel_rfl) (by kernel_rfl) (by kernel_rfl) (by kernel_rfl) (fun _ _ _ h => h) (Or.inl ⟨by rfl, by (intro W hW; go_simp)⟩) (by go_simp) ?_
          refine wpAnyG_take (i := 3) (v := .int .i64 (nth a k)) rfl (by kernel_rfl) (by kernel_rfl) (by kernel_rfl) (by kernel_rfl) (by kernel_rfl) (fun _ _ _ h => h) (Or.inl ⟨by rfl, by (intro W hW; go_simp)⟩) (by go_simp) ?_
          simp only [Act.put, List.getElem_toArray, List.getElem_cons_zero, List.getElem_cons_succ, List.setIfInBounds_toArray, List.set_cons_zero, List.set_cons_succ]
          refine wpAnyG_take (i := 4) (v := .slice (some ⟨b2, o2, none⟩) a.length c2) rfl (by kernel_rfl) (by kernel_rfl) (by kernel_rfl) (by kernel_rfl) (by kernel_rfl) (fun _ _ _ h => h) (Or.inl ⟨by rfl, by (intro W hW; go_simp)⟩) (by go_simp) ?_
          refine wpAnyG_take (i := 5) (v := .int .i64 (k : Int)) rfl (by kernel_rfl) (by kernel_rfl) (by kernel_rfl) (by kernel_rfl) (by kernel_rfl) (fun _ _ _ h => h) (Or.inl ⟨by rfl, by (intro W hW; go_simp)⟩) (by go_simp) ?_
          refine wpAnyG_take (i := 6) (v := .pointer (some ⟨b2, o2 + k, none⟩)) rfl (by kernel_rfl) (by kernel_rfl) (by kernel_rfl) (by kernel_rfl) (by kernel_rfl) (fun _ _ _ h => h) (Or.inl ⟨by rfl, by (intro W hW; go_simp)⟩) (by go_simp) ?_
          refine wpAnyG_take (i := 7) (v := .int .i64 (nth b k)) rfl (by kernel_rfl) (by kernel_rfl) (by kernel_rfl) (by kernel_rfl) (by kernel_rfl) (fun _ _ _ h => h) (Or.inl ⟨by rfl, by (intro W hW; go_simp)⟩) (by go_simp) ?_
          simp only [Act.put, List.getElem_toArray, List.getElem_cons_zero, List.getElem_cons_succ, List.setIfInBounds_toArray, List.set_cons_zero, List.set_cons_succ]
          refine wpAnyG_step (i := 8) (by kernel_rfl) rfl (fun K hK => ?_)
          go_simp
          refine hK _ _ (fun h => absurd rfl h) ?_
          refine wpAnyG_done (by kernel_rfl) ?_ _
          go_wp2
          go_ret
          refine ⟨ret_bool ?_, hbw.drew⟩
          symm
          rw [decide_eq_false_iff_not]
          intro h
          exact HEQ.out (by rw [h])
      · have hkn : k = a.length := by omega
        have HKN := Lib.hid hkn
        clear hkn
        go_wp2
        go_ret
        refine ⟨ret_bool ?_, hbw⟩
        symm
        rw [decide_eq_true_iff]
        apply List.ext_getElem HNE.out
        intro i hi hi'
        have := HOK.out i (by rw [HKN.out]; exact hi)
        rwa [nth_eq a i hi, nth_eq b i hi'] at this
  · have HNE := Lib.hid hne
    have hb : ((a.length : Int) != (b.length : Int)) = true := by rw [bne_iff_ne]; omega
    go_wp2
    go_ret
    refine ⟨ret_bool ?_, Below.refl _ _⟩
    symm
    rw [decide_eq_false_iff_not]
    intro h
    exact HNE.out (by rw [h])

end Go.Proofs.Ytdbjnmdpbnomcaa
