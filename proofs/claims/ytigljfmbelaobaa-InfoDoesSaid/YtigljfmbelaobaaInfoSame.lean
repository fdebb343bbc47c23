/- vinculumref14.Same: are two rows of pairs the same? -/
import Derived.Test.YtigljfmbelaobaaSls
import Derived.Test.YtigljfmbelaobaaQuiet
import Derived.Laws.StructEq
namespace Go.Proofs.Ytigljfmbelaobaa
open Go.RowKit

theorem eq_pair (a b c d : Int) (w : World) : (Op.equalIn 10000 35 (.agg #[.int .i64 a, .int .i64 b]) (.agg #[.int .i64 c, .int .i64 d])).run Try.prog w = .ok (a == c && b == d) w := by
  have hS : Try.prog.underlying 35 = some (.struct (Try.prog.fieldsOf 35)) := by kernel_rfl
  have hp : Try.prog.stoodInHeld 35 = false := by kernel_rfl
  rw [show (10000 : Nat) = 9999 + 1 from rfl, run_equalIn_agg w 9999 35 _ _ hS hp]
  simp only [Program.fieldsOf, Try.underlying35]
  go_simp
  by_cases h1 : a = c <;> by_cases h2 : b = d <;> simp [h1, h2]
theorem neq_pair (a b c d : Int) (w : World) : (binOp .neq 35 (.agg #[.int .i64 a, .int .i64 b]) (.agg #[.int .i64 c, .int .i64 d])).run Try.prog w = .ok (.bool (!(a == c && b == d))) w := by
  rw [run_neq_struct, eq_pair]
  rfl

set_option maxRecDepth 100000 in
set_option maxHeartbeats 2000000 in
theorem pairsSame_any (A B : Option Addr) (c d : Nat) (l m : List (Int × Int)) (w : World) (h1 : Prs w A l) (h2 : Prs w B m) :
    Calls Try.prog 13 #[.slice A l.length c, .slice B m.length d] w fun e w' => e = .returned (.bool (decide (l = m))) ∧ Below w.heap.size w w' := by
  have hl1 := h1.len
  have hl2 := h2.len
  have hnp := neq_pair
  go_enter Try.func13, Try.ntmps13
  by_cases hlen : l.length = m.length
  · have hb : ((l.length : Int) != (m.length : Int)) = false := by rw [bne_eq_false_iff_eq, hlen]
    have hle : l.length ≤ m.length := by omega
    have HL := Lib.hid hlen
    clear hlen
    go_wp2
    go_loopw [5] (fun i wr => ∃ k : Nat, k ≤ l.length ∧ i = .int .i64 (k : Int) ∧ Below w.heap.size w wr ∧ Hid (∀ j (hj : j < l.length) (hj' : j < m.length), j < k → l[j] = m[j])) (fun i _ => l.length - (intOf i).toNat)
    case atStart => exact ⟨0, Nat.zero_le _, rfl, Below.refl _ _, fun j _ _ hk => by omega⟩
    case round =>
      obtain ⟨k, hk, rfl, hbw, HQ⟩ := hrel
      by_cases hlt : k < l.length
      · have hlt2 : k < m.length := by omega
        obtain ⟨b1, o1, rfl, x0, x1, _, _⟩ := h1.at_ k hlt
        obtain ⟨b2, o2, rfl, y0, y1, _, _⟩ := h2.at_ k hlt2
        have c0 := (hbw.cell (p := ⟨b1, o1 + k * 2, none⟩) (World.block_lt_of_cell? w _ x0)).trans x0
        have c1 := (hbw.cell (p := ⟨b1, o1 + k * 2 + 1, none⟩) (World.block_lt_of_cell? w _ x1)).trans x1
        have d0 := (hbw.cell (p := ⟨b2, o2 + k * 2, none⟩) (World.block_lt_of_cell? w _ y0)).trans y0
        have d1 := (hbw.cell (p := ⟨b2, o2 + k * 2 + 1, none⟩) (World.block_lt_of_cell? w _ y1)).trans y1
        have HNO := Lib.hid (fun (hn : l[k] ≠ m[k]) => show decide (l = m) = false by
          rw [decide_eq_false_iff_not]
          rintro rfl
          exact hn rfl)
        have HYES := Lib.hid (fun (he : l[k] = m[k]) j (hj : j < l.length) (hj' : j < m.length) (hjk : j < k + 1) => show l[j] = m[j] by
          by_cases e : j = k
          · subst e; exact he
          · exact HQ.out j hj hj' (by omega))
        clear x0 x1 y0 y1
        generalize l[k] = x at *
        generalize m[k] = y at *
        obtain ⟨x0, x1⟩ := x
        obtain ⟨y0, y1⟩ := y
        dsimp only at *
        by_cases he : x0 = y0 ∧ x1 = y1
        · obtain ⟨rfl, rfl⟩ := he
          have HX := Lib.hid (HYES.out rfl)
          clear HNO HYES
          go_wp2
          refine region_quiet (fun W => W.cell? ⟨b1, o1 + k * 2, none⟩ = some (.int .i64 x0) ∧ W.cell? ⟨b1, o1 + k * 2 + 1, none⟩ = some (.int .i64 x1) ∧ W.cell? ⟨b2, o2 + k * 2, none⟩ = some (.int .i64 x0) ∧ W.cell? ⟨b2, o2 + k * 2 + 1, none⟩ = some (.int .i64 x1) ∧ Below w.heap.size w W) (by kernel_rfl) (by kernel_rfl) ⟨c0, c1, d0, d1, hbw.drew⟩ ?_
          repeat (first | (refine quiet_skip (by rfl) ?_) | (refine quiet_op (by rfl) ?_; apply Exists.intro; refine ⟨fun W hC => ?_, ?_⟩; (· (obtain ⟨hC0, hC1, hC2, hC3, hC4⟩ := hC; go_simp; try first | rfl | (rw [if_neg (by omega)]; first | done | rfl) | (rw [if_pos (by omega)]; first | done | rfl))))); (try simp only [put_lit, List.set])
          refine wpQuiet_nil ?_
          rintro w4 ⟨-, -, -, -, hb4⟩
          go_wp2
          go_roundw
          case rel => exact ⟨k + 1, by omega, by go_num, hb4, HX⟩
          case measure => simp [intOf]; omega
        · have hf : (x0 == y0 && x1 == y1) = false := by
            rw [Bool.and_eq_false_iff, beq_eq_false_iff_ne, beq_eq_false_iff_ne]
            by_cases e : x0 = y0
            · exact .inr fun e2 => he ⟨e, e2⟩
            · exact .inl e
          have HX := Lib.hid (HNO.out (fun e => he (by cases e; exact ⟨rfl, rfl⟩)))
          clear HNO HYES he
          have hnp2 := fun W => hnp x0 x1 y0 y1 W
          simp only [hf] at hnp2
          clear hf hnp
          go_wp2
          refine region_quiet (fun W => W.cell? ⟨b1, o1 + k * 2, none⟩ = some (.int .i64 x0) ∧ W.cell? ⟨b1, o1 + k * 2 + 1, none⟩ = some (.int .i64 x1) ∧ W.cell? ⟨b2, o2 + k * 2, none⟩ = some (.int .i64 y0) ∧ W.cell? ⟨b2, o2 + k * 2 + 1, none⟩ = some (.int .i64 y1) ∧ Below w.heap.size w W) (by kernel_rfl) (by kernel_rfl) ⟨c0, c1, d0, d1, hbw.drew⟩ ?_
          repeat (first | (refine quiet_skip (by rfl) ?_) | (refine quiet_op (by rfl) ?_; apply Exists.intro; refine ⟨fun W hC => ?_, ?_⟩; (· (obtain ⟨hC0, hC1, hC2, hC3, hC4⟩ := hC; go_simp; try first | rfl | (rw [if_neg (by omega)]; first | done | rfl) | (rw [if_pos (by omega)]; first | done | rfl))))); (try simp only [put_lit, List.set])
          refine wpQuiet_nil ?_
          rintro w4 ⟨-, -, -, -, hb4⟩
          go_wp2
          go_ret
          exact ⟨ret_bool HX.out.symm, hb4⟩
      · have HX := Lib.hid (show decide (l = m) = true by
          rw [decide_eq_true_iff]
          exact List.ext_getElem HL.out fun j hj hj' => HQ.out j hj hj' (by omega))
        clear HQ
        go_wp2
        go_ret
        exact ⟨ret_bool HX.out.symm, hbw⟩
  · have hb : ((l.length : Int) != (m.length : Int)) = true := by rw [bne_iff_ne]; omega
    have HX := Lib.hid (show decide (l = m) = false by
      rw [decide_eq_false_iff_not]
      rintro rfl
      exact hlen rfl)
    clear hlen
    go_wp2
    go_ret
    exact ⟨ret_bool HX.out.symm, Below.refl _ _⟩

end Go.Proofs.Ytigljfmbelaobaa
