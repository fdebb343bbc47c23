/- slices.Grow of nil and slices.Concat of two rows of ints. -/
import Derived.Test.YtigljfmbelaobaaBase
import Derived.Lib.AppendZeros
import Derived.Maps.AppendAt
import Derived.Laws.AppendOwnNone
import Derived.LoopN
namespace Go.Proofs.Ytigljfmbelaobaa
open Go.RowKit

theorem info_int2 : (Try.prog.info? 3).map (fun i => (i.zero, i.size, i.bytes)) = some (some (.int .i64 0), 1, 8) := by kernel_rfl

set_option maxHeartbeats 1000000 in
theorem grow_nil (n : Nat) (w : World) (hn : n ≤ 10000000) :
    Calls Try.prog 54 #[.slice none 0 0, .int .i64 (n : Int)] w fun e w' => ∃ v, e = .returned v ∧ w'.ownsRow w.heap.size 3 1 v 0 [] ∧ Below w.heap.size w w' := by
  obtain ⟨i0, hi, hz0, hz1, hz2⟩ := info_parts info_int2
  have e0 : decide ((n : Int) < 0) = false := by simp
  by_cases h0 : 0 < n
  · have hap := Lib.run_append_nil_zeros (P := Try.prog) w 37 3 37 3 i0 (.int .i64 0) .i64 .i64 Try.underlying37 Try.underlying3 hi hz0 n h0 (by omega) (by omega) (by rw [hz2]; omega)
    have HA := Lib.hid hap
    clear hap
    go_enter Try.func54, Try.ntmps54
    go_wp2_with (at_builtin; refine Lib.wpList_append_run _ rfl (.tmp 20) (.tmp 21) 37 3 rfl _ _ rfl rfl _ _ HA.out ?_)
    go_ret
    refine ⟨_, rfl, ?_, by (repeat (first | exact Below.refl _ _ | assumption | (refine Below.alloc ?_ (by first | omega | (simp; done) | (simp; omega)) _) | (refine Below.setCell ?_ (by first | omega | (simp; done) | (simp; omega)) _) | (refine Below.drew ?_)))⟩
    have hg := grownCap_ge w n 0 3
    have hm := grownCap_le_maxLen w n 0 3 (by unfold maxLen; omega)
    refine World.ownsRow_made w.drew _ (grownCap w n 0 3) (Nat.le_refl _) hm ?_
    rw [Array.size_append, size_zeroCells, size_zeroCells]
    simp
    omega
  · obtain rfl : n = 0 := by omega
    go_enter Try.func54, Try.ntmps54
    go_wp2
    go_ret
    exact ⟨_, rfl, World.ownsRow_nil _ _ _ _, Below.refl _ _⟩

/-- append(v, l...) where the call owns v, l any row of ints, at the operation. -/
theorem wpList_append_ints {w : World} {ops : Array Oper} {rest : List Oper} {o : Oper} {a : Act} {Q : Exit → Act → World → Prop} (hgd : o.guard = none) (s x : Operand)
    (ho : o.op = .call { callee := .builtin .append, args := #[s, x], argTypes := #[37, 37] })
    (base : Nat) (v : Value) (xs : List Int) (hs : a.eval s = v) (hown : w.ownsRow base 3 1 v xs.length (xs.map (Value.int .i64)))
    (A : Option Addr) (c : Nat) (l : List Int) (hx : a.eval x = .slice A l.length c) (hI : Ints w A l) (hcap : A = none → c = 0) (hlen : xs.length + l.length ≤ 10000000) (hbase : base ≤ w.heap.size)
    (h : ∀ v' w', w'.ownsRow base 3 1 v' (xs ++ l).length ((xs ++ l).map (Value.int .i64)) → w.grownBy w' v.ownBlock → (v' = .slice none 0 0 ↔ v = .slice none 0 0 ∧ l = []) → (v'.ownBlock = v.ownBlock ∨ v'.ownBlock = some w.heap.size) → wpList Try.prog ops Q rest (a.put o.dst v') w') :
    wpList Try.prog ops Q (o :: rest) a w := by
  obtain ⟨i0, hi, hz0, hz1, hz2⟩ := info_parts info_int2
  cases A with
  | none =>
    have hl : l = [] := by
      cases l with
      | nil => rfl
      | cons y l => obtain ⟨b, off, e, _⟩ := hI.cells 0 (by simp); cases e
    subst hl
    obtain rfl := hcap rfl
    refine wpList_append_own_none hgd s x 37 ho base 3 i0 1 Try.underlying37 hi v _ _ hs hown hx ?_
    exact h v w (by simpa using hown) (World.grownBy.refl _ _) (by simp) (.inl rfl)
  | some ad =>
    have hnews : ∀ j u, (l.map (Value.int .i64))[j]? = some u → w.cell? (ad.add j) = some u := by
      intro j u hu
      have h0 : 0 < l.length := by cases l; simp at hu; simp
      obtain ⟨ad', e, hc⟩ := hI.news h0
      cases e
      rw [List.getElem?_map] at hu
      cases hx : l[j]? with
      | none => simp [hx] at hu
      | some y => simp [hx] at hu; subst hu; exact hc j y hx
    refine wpList_append_own_at w hgd s x 37 ho base 3 i0 (.int .i64 0) 1 8 Try.underlying37 hi hz0 hz1 hz2 rfl (by decide) v xs.length _ hs hown ad l.length c (l.map (Value.int .i64)) hx (by simp) hnews (ints_oneCell _ _) (by unfold maxLen; omega) (by omega) hbase ?_
    intro v' w' h1 h2 h3 h4
    refine h v' w' (by simpa using h1) h2 ?_ h4
    rw [h3]
    simp

set_option maxRecDepth 100000 in
set_option maxHeartbeats 2000000 in
/-- slices.Concat of two rows -/
theorem concat_two (B : Nat) (A1 A2 : Option Addr) (c1 c2 : Nat) (l1 l2 : List Int) (w : World) (hb : w.heap[B]? = some (.cells #[.slice A1 l1.length c1, .slice A2 l2.length c2] 37 (0, 0))) (h1 : Ints w A1 l1) (k1 : A1 = none → c1 = 0) (h2 : Ints w A2 l2) (k2 : A2 = none → c2 = 0) (hn1 : l1.length ≤ 1000000) (hn2 : l2.length ≤ 1000000) :
    Calls Try.prog 46 #[.slice (some ⟨B, 0, none⟩) 2 2] w fun e w' => ∃ v, e = .returned v ∧ Sl w' v (l1 ++ l2) ∧ Below w.heap.size w w' := by
  obtain ⟨i0, hi, hz0, hz1, hz2⟩ := info_parts info_int2
  have g1 : w.cell? ⟨B, 0, none⟩ = some (.slice A1 l1.length c1) := cell_of_heap hb 0
  have g2 : w.cell? ⟨B, 1, none⟩ = some (.slice A2 l2.length c2) := cell_of_heap hb 1
  have hlt := World.block_lt_of_cell? w _ g1
  have hgr := grow_nil (l1.length + l2.length) w (by omega)
  rw [Int.natCast_add] at hgr
  have HB := Lib.hid hb
  clear hb
  go_enter Try.func46, Try.ntmps46
  go_wp2
  refine wp_loop_rounds 3 ?_
  rw [rounds_succ]
  go_wp2
  rw [rounds_succ]
  go_wp2
  rw [rounds_succ]
  go_wp2_with fail
  refine hgr.mono ?_
  rintro e w1 ⟨v, rfl, hown, hb1⟩
  have g1' := (hb1.cell (p := ⟨B, 0, none⟩) hlt).trans g1
  have g2' := (hb1.cell (p := ⟨B, 1, none⟩) hlt).trans g2
  have hs1 := hb1.size
  have H1 := Lib.hid (h1.below hb1)
  have H2 := Lib.hid (h2.below hb1)
  have HO := Lib.hid hown
  have HB1 := Lib.hid hb1
  have K1 := Lib.hid k1
  have K2 := Lib.hid k2
  have G2 := Lib.hid g2
  clear hown hb1 k1 k2 g1 g2 hgr
  obtain ⟨va, vc, vn, rfl⟩ : ∃ va vc vn, v = .slice va vn vc := by
    rcases HO.out.2 with ⟨hv, _⟩ | ⟨g, cap, cur, hv, _⟩
    · exact ⟨_, _, _, hv⟩
    · exact ⟨_, _, _, hv⟩
  go_wp2
  refine wp_loop_rounds 3 ?_
  rw [rounds_succ]
  go_wp2_with (at_builtin; refine wpList_append_ints rfl (.tmp 31) (.tmp 32) rfl w.heap.size _ [] rfl HO.out A1 c1 l1 rfl H1.out K1.out (by simp; omega) hs1 ?_)
  intro v2 w2 ho2 hg2 _ hat2
  have hb2 := HB1.out.grown hg2 hs1 (own_base HO.out)
  have hs2 := hb2.size
  have g3 := (hb2.cell (p := ⟨B, 1, none⟩) hlt).trans G2.out
  have HO2 := Lib.hid ho2
  have HB2 := Lib.hid hb2
  obtain ⟨va2, vc2, vn2, rfl⟩ : ∃ va vc vn, v2 = .slice va vn vc := by
    rcases HO2.out.2 with ⟨hv, _⟩ | ⟨g, cap, cur, hv, _⟩
    · exact ⟨_, _, _, hv⟩
    · exact ⟨_, _, _, hv⟩
  clear ho2 hb2 hg2 hat2 g1' g2'
  go_wp2
  rw [rounds_succ]
  go_wp2_with (at_builtin; (refine wpList_append_ints rfl (.tmp 31) (.tmp 32) rfl w.heap.size _ l1 rfl HO2.out A2 c2 l2 rfl (h2.below HB2.out) K2.out (by omega) hs2 ?_))
  intro v3 w3 ho3 hg3 _ hat3
  have hb3 := HB2.out.grown hg3 hs2 (own_base HO2.out)
  have HO3 := Lib.hid ho3
  have HB3 := Lib.hid hb3
  obtain ⟨va3, vc3, vn3, rfl⟩ : ∃ va vc vn, v3 = .slice va vn vc := by
    rcases HO3.out.2 with ⟨hv, _⟩ | ⟨g, cap, cur, hv, _⟩
    · exact ⟨_, _, _, hv⟩
    · exact ⟨_, _, _, hv⟩
  clear ho3 hb3 hg3 hat3 g3
  go_wp2
  rw [rounds_succ]
  go_wp2
  go_ret
  refine ⟨_, rfl, ?_, HB3.out⟩
  have hwf : ∀ x, x ∈ l1 ++ l2 → I64 x := fun x hx => (List.mem_append.1 hx).elim (h1.wf x) (h2.wf x)
  exact own_ints (by simpa using HO3.out) hwf (by simp; omega)

end Go.Proofs.Ytigljfmbelaobaa
