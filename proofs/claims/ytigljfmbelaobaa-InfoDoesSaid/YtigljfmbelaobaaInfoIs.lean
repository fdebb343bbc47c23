/- Layer 14 (info): right pairs. -/
import Derived.Test.YtigljfmbelaobaaInfoG
import Derived.Test.YtigljfmbelaobaaNums
import Derived.Test.YtigljfmbelaobaaIs
import Derived.Shelf.Abstract
namespace Go.Proofs.Ytigljfmbelaobaa
open Go.RowKit Go.Shelf

theorem putS_one (v : Int) : putS [-2] [v] = if fits2 v = true then (bytesOf v 2, 0) else ([], 2) := by
  unfold putS
  rw [if_neg (by simp [rightB, sizeB]), putAll, fits2_B]
  cases fits2 v
  · rfl
  · simp [putAll]

set_option maxRecDepth 100000 in
set_option maxHeartbeats 2000000 in
theorem wrong_any (P : Value) (g v : Int) (w : World) (hv : I64 v) :
    Calls Try.prog 31 #[P, .agg #[.int .i64 g, .int .i64 v]] w fun e w' => e = .returned (.bool (!fits2 v)) ∧ Below w.heap.size w w' := by
  have hp := putS_one v
  go_enter Try.func31, Try.ntmps31
  go_wp2_with fail
  refine (put_any (some ⟨w.heap.size + 1, 0, none⟩) (some ⟨w.heap.size + 2, 0, none⟩) 1 1 [-2] [v] _ ((ints_cell_at _ _ (-2) (by unfold I64; omega) _ (by simp)).alloc _) (ints_cell_at _ _ v hv _ (by simp)) (by simp)).mono ?_
  rw [hp]
  rintro e w1 ⟨rfl, hb1⟩
  have hb : Below w.heap.size w w1 := (by (repeat (first | exact Below.refl _ _ | assumption | (refine Below.alloc ?_ (by first | omega | (simp; done) | (simp; omega)) _) | (refine Below.setCell ?_ (by first | omega | (simp; done) | (simp; omega)) _) | (refine Below.drew ?_))) : Below w.heap.size w _).trans (hb1.mono (by simp; omega))
  clear hb1 hp
  cases hf : fits2 v
  · have HF := Lib.hid hf
    clear hf
    simp only [Bool.false_eq_true, if_false]
    go_wp2
    go_ret
    exact ⟨ret_bool (by rw [HF.out]; rfl), hb⟩
  · have HF := Lib.hid hf
    clear hf
    simp only [if_true]
    go_wp2
    go_ret
    exact ⟨ret_bool (by rw [HF.out]; rfl), hb⟩

set_option maxRecDepth 100000 in
set_option maxHeartbeats 2000000 in
/-- slices.IndexFunc over pairs, whatever function. -/
theorem indexPair_any (A : Option Addr) (c : Nat) (l : List (Int × Int)) (g : FuncId) (first lb : Array Value) (p : Int × Int → Bool) (w : World) (h : Prs w A l) (eg : ∀ args w, (callFunc g args).run Try.prog w = .ok (.enter g args) w)
    (hp : ∀ W, Below w.heap.size w W → ∀ j (hj : j < l.length), Calls Try.prog g (first.push (.agg #[.int .i64 l[j].1, .int .i64 l[j].2]) ++ lb) W fun e W' => e = .returned (.bool (p l[j])) ∧ Below w.heap.size w W') :
    Calls Try.prog 47 #[.slice A l.length c, .func (.func g) first lb] w fun e w' => (∃ k : Int, e = .returned (.int .i64 k) ∧ (decide (0 ≤ k)) = l.any p) ∧ Below w.heap.size w w' := by
  have hlen := h.len
  go_enter Try.func47, Try.ntmps47
  go_wp2
  go_loopw [5, 8] (fun _ i wr => ∃ k : Nat, k ≤ l.length ∧ i = .int .i64 (k : Int) ∧ Below w.heap.size w wr ∧ Hid (∀ j (hj : j < l.length), j < k → p l[j] = false)) (fun _ i _ => l.length - (intOf i).toNat)
  case atStart => exact ⟨0, Nat.zero_le _, rfl, Below.refl _ _, fun j hj hk => by omega⟩
  case round =>
    obtain ⟨k, hk, rfl, hbw, HN⟩ := hrel
    by_cases hlt : k < l.length
    · obtain ⟨b, off, rfl, g0, g1, _, _⟩ := h.at_ k hlt
      have c0 := (hbw.cell (p := ⟨b, off + k * 2, none⟩) (World.block_lt_of_cell? w _ g0)).trans g0
      have c1 := (hbw.cell (p := ⟨b, off + k * 2 + 1, none⟩) (World.block_lt_of_cell? w _ g1)).trans g1
      have hcall := hp wr hbw k hlt
      have HANY := Lib.hid (fun (hpk : p l[k] = true) => show l.any p = true from List.any_eq_true.2 ⟨l[k], List.getElem_mem hlt, hpk⟩)
      have HNX := Lib.hid (fun (hpk : p l[k] = false) j (hj : j < l.length) (hjk : j < k + 1) => show p l[j] = false by
        by_cases e : j = k
        · subst e; exact hpk
        · exact HN.out j hj (by omega))
      clear hp g0 g1
      generalize l[k] = x at *
      obtain ⟨x0, x1⟩ := x
      dsimp only at *
      cases hq : p (x0, x1)
      · rw [hq] at hcall
        have HX := Lib.hid (HNX.out hq)
        clear HANY HNX hq
        go_wp2_with (go_at_fn g; refine hcall.mono ?_; rintro e w' ⟨rfl, hb'⟩)
        go_roundw
        case rel => exact ⟨k + 1, by omega, by go_num, hb', HX⟩
        case measure => simp [intOf]; omega
      · rw [hq] at hcall
        have HX := Lib.hid (HANY.out hq)
        clear HANY HNX hq
        go_wp2_with (go_at_fn g; refine hcall.mono ?_; rintro e w' ⟨rfl, hb'⟩)
        go_ret
        exact ⟨⟨k, rfl, by rw [HX.out]; simp⟩, hb'⟩
    · have HX := Lib.hid (show l.any p = false by
        rw [List.any_eq_false]
        intro x hx
        obtain ⟨j, hj, rfl⟩ := List.mem_iff_getElem.1 hx
        rw [HN.out j hj (by omega)]
        simp)
      clear hp HN
      go_wp2
      go_ret
      exact ⟨⟨-1, rfl, by rw [HX.out]; rfl⟩, hbw⟩

set_option maxHeartbeats 2000000 in
/-- slices.ContainsFunc over pairs, whatever function. -/
theorem containsPair_any (A : Option Addr) (c : Nat) (l : List (Int × Int)) (g : FuncId) (first lb : Array Value) (p : Int × Int → Bool) (w : World) (h : Prs w A l) (eg : ∀ args w, (callFunc g args).run Try.prog w = .ok (.enter g args) w)
    (hp : ∀ W, Below w.heap.size w W → ∀ j (hj : j < l.length), Calls Try.prog g (first.push (.agg #[.int .i64 l[j].1, .int .i64 l[j].2]) ++ lb) W fun e W' => e = .returned (.bool (p l[j])) ∧ Below w.heap.size w W') :
    Calls Try.prog 30 #[.slice A l.length c, .func (.func g) first lb] w fun e w' => e = .returned (.bool (l.any p)) ∧ Below w.heap.size w w' := by
  have hi := indexPair_any A c l g first lb p w h eg hp
  clear hp eg
  go_enter Try.func30, Try.ntmps30
  go_wp2_with (go_at_call 47; refine hi.mono ?_; rintro e w' ⟨⟨k, rfl, hk⟩, hb⟩; have HK := Lib.hid hk; clear hk)
  go_ret
  exact ⟨ret_bool HK.out, hb⟩

/-- Are pairs right? -/
def infoIs (l : List (Int × Int)) : Bool := isS (fsts l) && l.all fun x => fits2 x.2

set_option maxHeartbeats 2000000 in
theorem infoIs_any (A : Option Addr) (c : Nat) (l : List (Int × Int)) (w : World) (h : Prs w A l) (hl : l.length ≤ 1000000) :
    Calls Try.prog 14 #[.slice A l.length c] w fun e w' => e = .returned (.bool (infoIs l)) ∧ Below w.heap.size w w' := by
  have hi := pairsGlyphs_any A c l w h hl
  have hmf := fun (fn : Fn) (first cap : Array Value) (w : World) => (rfl : (Instr.makeFunc fn first cap).run Try.prog w = .ok (.func fn first cap) w)
  go_enter Try.func14, Try.ntmps14
  go_wp2_with fail
  refine hi.mono ?_
  rintro e w1 ⟨A', c', rfl, hi1, hb1, hc1⟩
  go_wp2_with fail
  refine (is_any A' c' (fsts l) w1 hi1).mono ?_
  rintro e w2 ⟨rfl, rfl⟩
  cases hs : isS (fsts l)
  · have HS := Lib.hid hs
    clear hs
    go_wp2
    go_ret
    exact ⟨ret_bool (by unfold infoIs; rw [HS.out]; rfl), hb1⟩
  · have HS := Lib.hid hs
    clear hs
    have h1 := h.below pairR_keeps hb1
    have hc := containsPair_any A c l 31 #[.slice A l.length c] #[] (fun x => !fits2 x.2) w1 h1 (enters_of Try.func31 (by kernel_rfl) rfl) (fun W hW j hj => by
      obtain ⟨_, _, _, _, _, _, hv⟩ := h.at_ j hj
      exact (wrong_any _ _ _ W hv).mono fun e W' ⟨he, hb⟩ => ⟨he, hW.trans (hb.mono hW.size)⟩)
    go_wp2_with (go_at_call 30; refine hc.mono ?_; rintro e w' ⟨rfl, hb2⟩)
    go_ret
    refine ⟨ret_bool ?_, hb1.trans (hb2.mono hb1.size)⟩
    unfold infoIs
    rw [HS.out, Bool.true_and, List.any_eq_not_all_not]
    simp

end Go.Proofs.Ytigljfmbelaobaa
