/- slices.Repeat of ints. -/
import Derived.Test.YtigljfmbelaobaaMul
import Derived.Test.YtigljfmbelaobaaKeep
import Derived.Laws.CopyOwn
import Derived.LoopN
namespace Go.Proofs.Ytigljfmbelaobaa
open Go.RowKit

def rep (l : List Int) (q : Nat) : List Int := (List.replicate q l).flatten
theorem rep_length (l : List Int) (q : Nat) : (rep l q).length = q * l.length := by simp [rep]
theorem rep_zero (l : List Int) : rep l 0 = [] := rfl
theorem rep_one (l : List Int) : rep l 1 = l := by simp [rep]
theorem rep_add (l : List Int) (q r : Nat) : rep l (q + r) = rep l q ++ rep l r := by
  unfold rep
  rw [← List.replicate_append_replicate, List.flatten_append]
theorem rep_take (l : List Int) {q r : Nat} (h : r ≤ q) : (rep l q).take (r * l.length) = rep l r := by
  obtain ⟨d, rfl⟩ : ∃ d, q = r + d := ⟨q - r, by omega⟩
  rw [rep_add, ← rep_length l r, List.take_left]
theorem rep_mem {l : List Int} {q : Nat} {x : Int} (h : x ∈ rep l q) : x ∈ l := by
  unfold rep at h
  rw [List.mem_flatten] at h
  obtain ⟨m, hm, hx⟩ := h
  rw [List.eq_of_mem_replicate hm] at hx
  exact hx

theorem info_int' : (Try.prog.info? 3).map (fun i => (i.zero, i.size, i.bytes)) = some (some (.int .i64 0), 1, 8) := by kernel_rfl
theorem make_ints (n : Nat) (hn : n ≤ 10000000) (w : World) : (Instr.makeSlice 37 (.int .i64 (n : Int)) (.int .i64 (n : Int))).run Try.prog w = .ok (.slice (some ⟨w.heap.size, 0, none⟩) n n) (w.alloc (.cells (madeCells #[.int .i64 0] n) 3)) := by
  obtain ⟨i0, hi, hz0, hz1, hz2⟩ := info_parts info_int'
  have h := run_make (P := Try.prog) w 37 3 i0 _ Try.underlying37 hi hz0 .i64 .i64 (n : Int) (n : Int) (by omega) (by omega) (by rw [hz2]; omega) (by omega)
  rw [h, hz1]
  simp [Value.cells]

/-- The new slice's cells: p = q * (length of l) of them hold q times l. -/
structure RepSo (l : List Int) (q p N : Nat) (cur : List Value) : Prop where
  hp : p = q * l.length
  len : cur.length = N
  head : cur.take p = (rep l q).map (Value.int .i64)
theorem RepSo.le {l : List Int} {q p N n : Nat} {cur : List Value} (h : RepSo l q p N cur) (hN : N = n * l.length) (hq : q ≤ n) : p ≤ N := by
  rw [h.hp, hN]; exact Nat.mul_le_mul_right _ hq
theorem RepSo.lt {l : List Int} {q p N n : Nat} {cur : List Value} (h : RepSo l q p N cur) (hN : N = n * l.length) (hq : q < n) (h0 : 0 < l.length) : p < N := by
  rw [h.hp, hN]; exact Nat.mul_lt_mul_of_pos_right hq h0
theorem RepSo.oneCell {l : List Int} {q p N : Nat} {cur : List Value} (h : RepSo l q p N cur) : ∀ v ∈ cur.take (min p (N - p)), v.oneCell' = true := by
  intro v hv
  have : cur.take (min p (N - p)) = (cur.take p).take (min p (N - p)) := by rw [List.take_take]; congr 1; omega
  rw [this, h.head] at hv
  have := List.mem_of_mem_take hv
  simp at this
  obtain ⟨x, _, rfl⟩ := this
  rfl
theorem RepSo.start (l : List Int) (N : Nat) (hl : l.length ≤ N) : RepSo l 1 l.length N (splice (madeCells #[.int .i64 0] N).toList 0 (l.map (Value.int .i64))) := by
  refine ⟨by omega, ?_, ?_⟩
  · rw [length_splice _ _ _ (by simp [size_madeCells]; omega)]
    simp [size_madeCells]
  · rw [rep_one]
    unfold splice
    simp only [List.take_zero, List.nil_append]
    rw [← List.length_map (f := Value.int .i64), List.take_left]
theorem RepSo.pos {l : List Int} {q p N : Nat} {cur : List Value} (h : RepSo l q p N cur) (h0 : 0 < l.length) (hq : 1 ≤ q) : 0 < p := by
  rw [h.hp]; exact Nat.mul_pos hq h0
theorem RepSo.full {l : List Int} {q p N n : Nat} {cur : List Value} (h : RepSo l q p N cur) (hN : N = n * l.length) (hq : q = n) : p = N := by
  rw [h.hp, hN, hq]
theorem RepSo.step {l : List Int} {q p N n : Nat} {cur : List Value} (h : RepSo l q p N cur) (hN : N = n * l.length) (hq : q ≤ n) :
    RepSo l (q + min q (n - q)) (p + min p (N - p)) N (splice cur p (cur.take (min p (N - p)))) := by
  have hpN := h.le hN hq
  have hmin : min p (N - p) = min q (n - q) * l.length := by
    rw [h.hp, hN, ← Nat.sub_mul]
    rcases Nat.le_total q (n - q) with hc | hc
    · rw [Nat.min_eq_left hc, Nat.min_eq_left (Nat.mul_le_mul_right _ hc)]
    · rw [Nat.min_eq_right hc, Nat.min_eq_right (Nat.mul_le_mul_right _ hc)]
  have hlen : (cur.take (min p (N - p))).length = min p (N - p) := by rw [List.length_take, h.len]; omega
  have hcs : cur.take (min p (N - p)) = (rep l (min q (n - q))).map (Value.int .i64) := by
    have e : cur.take (min p (N - p)) = (cur.take p).take (min p (N - p)) := by rw [List.take_take]; congr 1; omega
    rw [e, h.head, ← List.map_take, hmin, rep_take l (Nat.min_le_left _ _)]
  refine ⟨?_, ?_, ?_⟩
  · rw [hmin, h.hp, Nat.add_mul]
  · rw [length_splice _ _ _ (by rw [hlen, h.len]; omega)]
    exact h.len
  · unfold splice
    rw [rep_add, List.map_append, ← h.head, ← hcs]
    have hl1 : (cur.take p).length = p := by rw [List.length_take, h.len]; omega
    rw [← List.append_assoc, List.take_left' (by rw [List.length_append, hl1, hlen])]
theorem RepSo.ints {l : List Int} {N n g : Nat} {cur : List Value} {w : World} (h : RepSo l n N N cur) (hg : w.heap[g]? = some (.cells cur.toArray 3 (0, 0))) (hwf : ∀ x, x ∈ l → I64 x) (_h0 : 0 < l.length) (_hl : l.length ≤ 4) (hN : N ≤ 1600000) :
    Ints w (some ⟨g, 0, none⟩) (rep l n) := by
  have hl : (rep l n).length = N := by rw [rep_length, h.hp]
  have hc : cur = (rep l n).map (Value.int .i64) := by rw [← h.head, List.take_of_length_le (by rw [h.len]; omega)]
  refine ⟨by omega, fun x hx => hwf x (rep_mem hx), fun j hj => ⟨g, 0, rfl, ?_⟩⟩
  rw [Nat.zero_add, cell_of_heap hg j, hc]
  simp [nth, hj]

set_option maxRecDepth 100000 in
set_option maxHeartbeats 2000000 in
theorem repeat_some (A : Option Addr) (c : Nat) (l : List Int) (n N : Nat) (w : World) (h : Ints w A l) (h0 : 0 < l.length) (hl : l.length ≤ 4) (hn1 : 1 ≤ n) (hn : n ≤ 400000) (hN : N = n * l.length) (hNb : N ≤ 1600000) (hlN : l.length ≤ N) :
    Calls Try.prog 18 #[.slice A l.length c, .int .i64 (n : Int)] w fun e w' => ∃ A' c', e = .returned (.slice A' N c') ∧ Ints w' A' (rep l n) ∧ Below w.heap.size w w' := by
  have hm := mul_small (l.length : Int) (n : Int) w (by omega) (by omega) (by omega) (by omega)
  rw [show (l.length : Int) * (n : Int) = (N : Int) by rw [hN]; push_cast; rw [Int.mul_comm]] at hm
  have hmk := make_ints N (by omega)
  have HN := Lib.hid hN
  clear hN
  have e0 : decide ((n : Int) < 0) = false := by simp
  go_enter Try.func18, Try.ntmps18
  go_wp2_with (first
    | (go_at_call 39; refine hm.mono ?_; rintro e w' ⟨rfl, rfl⟩)
    | (with_reducible refine wpList_copy_splice rfl (.tmp 31) (.tmp 32) 37 37 rfl 3 Try.underlying37 (by kernel_rfl) (some ⟨w.heap.size, 0, none⟩) A N N l.length c rfl rfl w.heap.size 0 (madeCells #[.int .i64 0] N).toList 3 ?c1 (l.map (Value.int .i64)) ?c2 ?c3 ?c4 ?c5 w.heap.size w ?c6 (Nat.le_refl _) ?_))
  case c1 => exact heap_alloc_new _ _
  case c2 => rw [List.length_map]; exact (Nat.min_eq_left hlN).symm
  case c3 => exact (h.alloc _).news h0
  case c4 => simp [size_madeCells]; omega
  case c5 => intro v hv; simp at hv; obtain ⟨x, _, rfl⟩ := hv; rfl
  case c6 => (repeat (first | exact Below.refl _ _ | assumption | (refine Below.alloc ?_ (by first | omega | (simp; done) | (simp; omega)) _) | (refine Below.setCell ?_ (by first | omega | (simp; done) | (simp; omega)) _) | (refine Below.drew ?_)))
  intro w1 hg1 hb1
  have HG1 := Lib.hid hg1.out
  clear hg1
  go_wp2
  go_loopw [8] (fun s wr => ∃ (q p : Nat) (cur : List Value), 1 ≤ q ∧ q ≤ n ∧ s = .int .i64 (p : Int) ∧ wr.heap[w.heap.size]? = some (.cells cur.toArray 3 (0, 0)) ∧ Below w.heap.size w wr ∧ RepSo l q p N cur) (fun s _ => N - (intOf s).toNat)
  case atStart =>
    exact ⟨1, l.length, _, Nat.le_refl _, hn1, by simp, HG1.out, hb1, RepSo.start l N hlN⟩
  case round =>
    obtain ⟨q, p, cur, hq1, hq, rfl, hgr, hbr, hso⟩ := hrel
    have HS := Lib.hid hso
    have HGr := Lib.hid hgr
    have HBr := Lib.hid hbr
    have hp := hso.le HN.out hq
    clear hso hgr hbr
    by_cases hlt : q < n
    · have hpN : p < N := HS.out.lt HN.out hlt h0
      have hp0 : 0 ≤ (p : Int) := by omega
      have hpi : (p : Int) ≤ (N : Int) := by omega
      have hpn : ¬ N = p := by omega
      go_wp2_with fail
      refine wp_region_any (by kernel_rfl) ?_
      change wpAny _ _ _ _ _ _ _ (World.drew _)
      refine wpAny_of_G (last := 9) (S := fun _ => True) _ _ _ _ ?_
      refine wpAnyG_take (i := 0) (v := .int .i64 (p : Int)) rfl (by kernel_rfl) (by kernel_rfl) (by kernel_rfl) (by kernel_rfl) (by kernel_rfl) (fun _ _ _ h => h) (Or.inl ⟨by rfl, by (intro W hW; go_simp)⟩) (by go_simp) ?_
      refine wpAnyG_take (i := 1) (v := .slice (some ⟨w.heap.size, 0, none⟩) N N) rfl (by kernel_rfl) (by kernel_rfl) (by kernel_rfl) (by kernel_rfl) (by kernel_rfl) (fun _ _ _ h => h) (Or.inl ⟨by rfl, by (intro W hW; go_simp)⟩) (by go_simp) ?_
      refine wpAnyG_take (i := 2) (v := .int .i64 (p : Int)) rfl (by kernel_rfl) (by kernel_rfl) (by kernel_rfl) (by kernel_rfl) (by kernel_rfl) (fun _ _ _ h => h) (Or.inl ⟨by rfl, by (intro W hW; go_simp)⟩) (by go_simp) ?_
      refine wpAnyG_take (i := 3) (v := .slice (some ⟨w.heap.size, p, none⟩) (N - p) (N - p)) rfl (by kernel_rfl) (by kernel_rfl) (by kernel_rfl) (by kernel_rfl) (by kernel_rfl) (fun _ _ _ h => h) (Or.inl ⟨by rfl, by (intro W hW; go_simp)⟩) (by go_simp) ?_
      refine wpAnyG_take (i := 4) (v := .slice (some ⟨w.heap.size, 0, none⟩) N N) rfl (by kernel_rfl) (by kernel_rfl) (by kernel_rfl) (by kernel_rfl) (by kernel_rfl) (fun _ _ _ h => h) (Or.inl ⟨by rfl, by (intro W hW; go_simp)⟩) (by go_simp) ?_
      refine wpAnyG_take (i := 5) (v := .int .i64 (p : Int)) rfl (by kernel_rfl) (by kernel_rfl) (by kernel_rfl) (by kernel_rfl) (by kernel_rfl) (fun _ _ _ h => h) (Or.inl ⟨by rfl, by (intro W hW; go_simp)⟩) (by go_simp) ?_
      refine wpAnyG_take (i := 6) (v := .slice (some ⟨w.heap.size, 0, none⟩) p N) rfl (by kernel_rfl) (by kernel_rfl) (by kernel_rfl) (by kernel_rfl) (by kernel_rfl) (fun _ _ _ h => h) (Or.inl ⟨by rfl, by (intro W hW; go_simp)⟩) (by go_simp) ?_
      simp only [Act.put, List.getElem_toArray, List.getElem_cons_zero, List.getElem_cons_succ, List.setIfInBounds_toArray, List.set_cons_zero, List.set_cons_succ]
      refine wpAnyG_step (i := 7) (by kernel_rfl) rfl (fun K hK => ?_)
      refine step_copy_splice rfl _ _ 37 37 rfl 3 Try.underlying37 (by kernel_rfl) _ _ (N - p) (N - p) p N rfl rfl w.heap.size p cur 3 HGr.out (cur.take (min p (N - p))) ?c1 ?c2 ?c3 ?c4 w.heap.size w HBr.out.drew (Nat.le_refl _) ?_
      case c1 => have := HS.out.len; rw [List.length_take]; show min _ _ = min _ _; omega
      case c2 =>
        intro _
        refine ⟨rfl, _, rfl, fun j v hv => ?_⟩
        rw [addr_add, Nat.zero_add]
        have hv' : cur[j]? = some v := by
          rw [List.getElem?_take] at hv
          split at hv
          · exact hv
          · cases hv
        have := cell_of_heap (w := wr.drew) HGr.out j
        rw [this]
        simpa using hv'
      case c3 => have := HS.out.len; rw [List.length_take]; omega
      case c4 => exact HS.out.oneCell
      intro w2 hg2 hb2
      have hcl : (cur.take (min p (N - p))).length = min p (N - p) := by have := HS.out.len; rw [List.length_take]; omega
      rw [hcl]
      have hso2 := HS.out.step HN.out hq
      obtain ⟨d, hd⟩ : ∃ d, d = min p (N - p) := ⟨_, rfl⟩
      have hd1 : d ≤ p := by omega
      have hd2 : p + d ≤ N := by omega
      have hd3 : 0 < d := by have := HS.out.pos h0 hq1; omega
      rw [← hd] at hso2 hg2 ⊢
      have HG2 := Lib.hid hg2.out
      have HSO := Lib.hid hso2
      have HB2 := Lib.hid hb2
      clear hg2 hso2 hb2 hd hcl
      have hw : IntKind.i64.wrap ((p : Int) + (d : Int)) = (p : Int) + (d : Int) := IntWalk.i64_in _ (by omega)
      simp only [goInt]
      go_simp
      refine hK _ _ (fun _ => trivial) ?_
      refine wpAnyG_step (i := 8) (by kernel_rfl) rfl (fun K hK => ?_)
      go_simp
      refine hK _ _ (fun _ => trivial) ?_
      refine wpAnyG_step (i := 9) (by kernel_rfl) rfl (fun K hK => ?_)
      go_simp
      refine hK _ _ (fun _ => trivial) ?_
      refine wpAnyG_done (by kernel_rfl) ?_ _
      go_wp2
      go_roundw
      case rel => exact ⟨_, p + d, _, by omega, by omega, by go_num, HG2.out, HB2.out, HSO.out⟩
      case measure => simp [intOf]; omega
    · have hqn : q = n := by omega
      have HQ := Lib.hid hqn
      have hpN := HS.out.full HN.out HQ.out
      clear hqn
      have HP := Lib.hid hpN
      have hge : N ≤ p := by omega
      clear hpN
      go_wp2
      go_ret
      refine ⟨_, _, rfl, ?_, HBr.out⟩
      have hs := HS.out
      rw [HP.out, HQ.out] at hs
      exact hs.ints HGr.out h.wf h0 hl (by omega)

set_option maxHeartbeats 1000000 in
theorem repeat_none (A : Option Addr) (c : Nat) (l : List Int) (w : World) (hl : l.length ≤ 4) :
    Calls Try.prog 18 #[.slice A l.length c, .int .i64 0] w fun e w' => ∃ A' c', e = .returned (.slice A' 0 c') ∧ Ints w' A' (rep l 0) ∧ Below w.heap.size w w' := by
  have hm := mul_small (l.length : Int) 0 w (by omega) (by omega) (by omega) (by omega)
  rw [Int.mul_zero] at hm
  have hmk := make_ints 0 (by omega)
  simp only [Int.ofNat_zero] at hmk
  go_enter Try.func18, Try.ntmps18
  go_wp2_with (first
    | (go_at_call 39; refine hm.mono ?_; rintro e w' ⟨rfl, rfl⟩)
    | (with_reducible refine wpList_copy_nothing rfl (.tmp 31) (.tmp 32) 37 37 rfl 3 Try.underlying37 (by kernel_rfl) (some ⟨w.heap.size, 0, none⟩) A 0 0 l.length c rfl rfl (Nat.min_zero _) ?_))
  refine wp_loop_rounds 1 ?_
  rw [rounds_succ]
  go_wp2
  go_ret
  exact ⟨_, _, rfl, Ints.empty _ _, by (repeat (first | exact Below.refl _ _ | assumption | (refine Below.alloc ?_ (by first | omega | (simp; done) | (simp; omega)) _) | (refine Below.setCell ?_ (by first | omega | (simp; done) | (simp; omega)) _) | (refine Below.drew ?_)))⟩

/-- slices.Repeat -/
theorem repeat_any (A : Option Addr) (c : Nat) (l : List Int) (n : Nat) (w : World) (h : Ints w A l) (h0 : 0 < l.length) (hl : l.length ≤ 4) (hn : n ≤ 400000) :
    Calls Try.prog 18 #[.slice A l.length c, .int .i64 (n : Int)] w fun e w' => ∃ A' c', e = .returned (.slice A' (rep l n).length c') ∧ Ints w' A' (rep l n) ∧ Below w.heap.size w w' := by
  rw [rep_length]
  by_cases hn0 : n = 0
  · subst hn0
    rw [Nat.zero_mul]
    exact repeat_none A c l w hl
  · refine repeat_some A c l n (n * l.length) w h h0 hl (by omega) hn rfl ?_ ?_
    · have := Nat.mul_le_mul hn hl
      omega
    · exact Nat.le_mul_of_pos_left _ (by omega)

end Go.Proofs.Ytigljfmbelaobaa
