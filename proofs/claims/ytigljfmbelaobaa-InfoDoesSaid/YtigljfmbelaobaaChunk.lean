/- slices.Chunk of ints, whose number is a multiple of the chunks' length: what it hands to a loop. -/
import Derived.Test.YtigljfmbelaobaaRound
namespace Go.Proofs.Ytigljfmbelaobaa
open Go.RowKit
attribute [local go_sem] Oper.semAt_some

/-- Where the k-th chunk of n begins. -/
def chunkAt (A : Option Addr) (n k : Nat) : Option Addr := A.map fun a => ⟨a.block, a.off + k * n, none⟩
/-- What a loop over chunks keeps: the two captured variables. -/
def ChunkK (Bs Bn : Nat) (W W' : World) : Prop := Touch (fun k => ¬ (k = Bs ∨ k = Bn)) W W'

theorem chunk_maker (A : Option Addr) (len c : Nat) (n : Int) (w : World) (hn : 1 ≤ n) :
    Calls Try.prog 49 #[.slice A len c, .int .i64 n] w fun e w' => e = .returned (.func (.func 55) #[] #[.pointer (some ⟨w.heap.size, 0, none⟩), .pointer (some ⟨w.heap.size + 1, 0, none⟩)]) ∧
      (w.alloc (.cells #[.slice A len c] 37)).alloc (.cells #[.int .i64 n] 3) = w' := by
  have hmf := fun (fn : Fn) (first cap : Array Value) (w : World) => (rfl : (Instr.makeFunc fn first cap).run Try.prog w = .ok (.func fn first cap) w)
  have hd : decide (n < 1) = false := by simp; omega
  go_enter Try.func49, Try.ntmps49
  go_wp2
  go_ret
  exact ⟨rfl, rfl⟩

set_option maxRecDepth 100000 in
set_option maxHeartbeats 1000000 in
theorem chunk_in (A : Option Addr) (c n q len l Bs Bn : Nat) (hn : 1 ≤ n) (hlen : Hid (len = q * n)) (hln : len ≤ 10000000) (hnl : n ≤ 100) (hA : 0 < q → ∃ b off, A = some ⟨b, off, none⟩) (hlc : len ≤ c) (J Jx : List (Fin q) → World → Prop)
    (hY : ∀ pre x W, J pre W → pre.length < q → YieldAt Fence.wide (3 - 1) Try.prog l #[.slice (chunkAt A n x.val) n n] W fun e W' =>
      (e = .returned (.bool true) ∧ J (pre ++ [x]) W' ∧ ChunkK Bs Bn W W') ∨ (e = .returned (.bool false) ∧ Jx (pre ++ [x]) W'))
    (W : World) (hs : Box W Bs 37 (.slice A len c)) (hb : Box W Bn 3 (.int .i64 (n : Int))) (h0 : J [] W) (hJd : ∀ pre W, J pre W → J pre W.drew) :
    CallsIn Fence.wide 3 Try.prog 55 #[.func (.yield l) #[] #[], .pointer (some ⟨Bs, 0, none⟩), .pointer (some ⟨Bn, 0, none⟩)] W fun e W' => (∃ v, e = .returned v) ∧
      ((∃ ys, ys.map (·.val) = List.range q ∧ J ys W') ∨ (∃ pre, (∃ k, k ≤ q ∧ pre.map (·.val) = List.range k) ∧ Jx pre W')) := by
  refine callsIn_of_wp Try.func55 rfl trivial ?_ rfl
  simp only [Try.ntmps55, List.size_toArray, List.length_cons, List.length_nil, Nat.reduceAdd, Nat.reduceSub, Array.replicate_succ, Array.replicate_zero, List.push_toArray, List.append_toArray, List.nil_append, List.cons_append]
  gi_wp2
  gi_loopw [4] (fun i wr => ∃ (k p : Nat) (pre : List (Fin q)), k ≤ q ∧ i = .int .i64 (p : Int) ∧ Hid (p = k * n) ∧ Hid (pre.map (·.val) = List.range k) ∧ J pre wr ∧ Box wr Bs 37 (.slice A len c) ∧ Box wr Bn 3 (.int .i64 (n : Int))) (fun i _ => len - (intOf i).toNat)
  case atStart => exact ⟨0, 0, [], Nat.zero_le _, rfl, by unfold Hid; simp, by unfold Hid; simp, h0, hs, hb⟩
  case round =>
    obtain ⟨k, p, pre, hk, rfl, hp, hpre, hJ, hs', hb'⟩ := hrel
    have hpl0 : pre.length ≤ k := by have := congrArg List.length hpre.out; simp at this; omega
    have cs := hs'.cell
    have cb := hb'.cell
    by_cases hlt : k < q
    · obtain ⟨b, off, rfl⟩ := hA (by omega)
      have hpl : p + n ≤ len := by
        rw [hp.out, hlen.out]
        have : (k + 1) * n ≤ q * n := Nat.mul_le_mul_right _ hlt
        rw [Nat.add_mul] at this
        omega
      have hpn : ¬ len = p := by omega
      have hpi : (p : Int) ≤ (len : Int) := by omega
      have hlcc : ¬ c = p := by omega
      have hnm : ¬ len - p < n := by omega
      gi_wp2
      refine wpIn_wide.2 ?_
      refine wp_region_any (by kernel_rfl) ?_
      change wpAny _ _ _ _ _ _ _ (World.drew _)
      refine wpAny_of_G (last := 6) (S := fun W => W.cell? ⟨Bs, 0, none⟩ = some (.slice (some ⟨b, off, none⟩) len c) ∧ W.cell? ⟨Bn, 0, none⟩ = some (.int .i64 (n : Int))) _ _ _ _ ?_
      refine wpAnyG_take (i := 0) (v := .int .i64 (n : Int)) rfl (by kernel_rfl) (by kernel_rfl) (by kernel_rfl) (by kernel_rfl) (by kernel_rfl) (fun _ _ _ h => h) (Or.inl ⟨by rfl, by (intro W hW; go_simp)⟩) (by go_simp) ?_
      refine wpAnyG_take (i := 1) (v := .slice (some ⟨b, off, none⟩) len c) rfl (by kernel_rfl) (by kernel_rfl) (by kernel_rfl) (by kernel_rfl) (by kernel_rfl) (fun _ _ _ h => h) (Or.inl ⟨by rfl, by (intro W hW; go_simp)⟩) (by go_simp) ?_
      refine wpAnyG_take (i := 2) (v := .int .i64 (p : Int)) rfl (by kernel_rfl) (by kernel_rfl) (by kernel_rfl) (by kernel_rfl) (by kernel_rfl) (fun _ _ _ h => h) (Or.inl ⟨by rfl, by (intro W hW; go_simp)⟩) (by go_simp) ?_
      refine wpAnyG_take (i := 3) (v := .slice (some ⟨b, off + p, none⟩) (len - p) (c - p)) rfl (by kernel_rfl) (by kernel_rfl) (by kernel_rfl) (by kernel_rfl) (by kernel_rfl) (fun _ _ _ h => h) (Or.inl ⟨by rfl, by (intro W hW; go_simp)⟩) (by go_simp) ?_
      refine wpAnyG_take (i := 4) (v := .int .i64 ((len - p : Nat) : Int)) rfl (by kernel_rfl) (by kernel_rfl) (by kernel_rfl) (by kernel_rfl) (by kernel_rfl) (fun _ _ _ h => h) (Or.inl ⟨by rfl, by (intro W hW; go_simp)⟩) (by go_simp) ?_
      refine wpAnyG_take (i := 5) (v := .int .i64 (n : Int)) rfl (by kernel_rfl) (by kernel_rfl) (by kernel_rfl) (by kernel_rfl) (by kernel_rfl) (fun _ _ _ h => h) (Or.inl ⟨by rfl, by (intro W hW; go_simp)⟩) (by go_simp) ?_
      simp only [Act.put, List.getElem_toArray, List.getElem_cons_zero, List.getElem_cons_succ, List.setIfInBounds_toArray, List.set_cons_zero, List.set_cons_succ]
      refine wpAnyG_step (i := 6) (by kernel_rfl) rfl (fun K hK => ?_)
      go_simp
      refine hK _ _ (fun h => absurd rfl h) ?_
      refine wpAnyG_done (by kernel_rfl) ?_ _
      have cs' := hs'.drew.cell
      have cb' := hb'.drew.cell
      obtain ⟨fn, tmps, assign, body, hy, hR⟩ := hY _ ⟨k, hlt⟩ wr.drew (hJd _ _ hJ) (by omega)
      dsimp only at hy
      rw [show chunkAt (some ⟨b, off, none⟩) n k = some ⟨b, off + p, none⟩ by rw [hp.out]; rfl] at hy
      gi_wp2
      refine hR.mono ?_
      rintro e W3 (⟨rfl, hJ3, hk3⟩ | ⟨rfl, hJx3⟩)
      · have hs3 := hs'.drew.touch hk3 (fun h => h (.inl rfl))
        have hb3 := hb'.drew.touch hk3 (fun h => h (.inr rfl))
        have cs3 := hs3.cell
        have cb3 := hb3.cell
        gi_wp2
        go_roundw
        case rel => exact ⟨k + 1, p + n, _, by omega, by go_num, by unfold Hid; rw [hp.out, Nat.add_mul, Nat.one_mul], by unfold Hid; rw [List.map_append, hpre.out, List.range_succ]; rfl, hJ3, hs3, hb3⟩
        case measure => simp [intOf]; omega
      · gi_wp2
        refine bodyPost_ret (results_none rfl _ _ _) rfl ?_
        exact ⟨⟨_, rfl⟩, .inr ⟨_, ⟨k + 1, by omega, by rw [List.map_append, hpre.out, List.range_succ]; rfl⟩, hJx3⟩⟩
    · have hkq : k = q := by omega
      have hge : len ≤ p := by rw [hlen.out, hp.out, hkq]; exact Nat.le_refl _
      have HK := Lib.hid hkq
      clear hkq
      gi_wp2
      go_end0
      exact ⟨⟨_, rfl⟩, .inl ⟨pre, by rw [hpre.out, HK.out], hJ⟩⟩

theorem abides_drew {β : Type} {B : Nat} {J : β → World → Prop} (h : AbidesFrom B J) {s : β} {W : World} (hj : J s W) : J s W.drew :=
  h s W W.drew none hj ⟨rfl, rfl, rfl, Nat.le_refl _, fun _ _ _ => rfl⟩ (fun r e => by cases e)

/-- slices.Chunk hands q chunks of n to a loop. -/
theorem chunk_stops (A : Option Addr) (c n q len Bs Bn : Nat) (w : World) (hn : 1 ≤ n) (hlen : len = q * n) (hln : len ≤ 10000000) (hnl : n ≤ 100) (hA : 0 < q → ∃ b off, A = some ⟨b, off, none⟩) (hlc : len ≤ c) (hs : Box w Bs 37 (.slice A len c)) (hb : Box w Bn 3 (.int .i64 (n : Int))) :
    SeqStopsK Fence.wide 3 Try.prog 55 #[.pointer (some ⟨Bs, 0, none⟩), .pointer (some ⟨Bn, 0, none⟩)] (fun k : Fin q => #[.slice (chunkAt A n k.val) n n]) (ChunkK Bs Bn) (fun xs => xs.map (·.val) = List.range q) (fun pre => ∃ k, k ≤ q ∧ pre.map (·.val) = List.range k) q w :=
  fun l J Jx W hW hJ _ hY h0 => chunk_in A c n q len l Bs Bn hn hlen hln hnl hA hlc J Jx hY W (hs.below' hW) (hb.below' hW) h0 (fun _ _ h => abides_drew hJ h)

theorem chunkK_t {Bs Bn : Nat} {A B C : World} (h : ChunkK Bs Bn A B) (k : ChunkK Bs Bn B C) : ChunkK Bs Bn A C := h.trans k (fun _ _ h => h)
theorem chunkK_b {Bs Bn : Nat} {w : World} (h1 : Bs < w.heap.size) (h2 : Bn < w.heap.size) (W : World) (l : Nat) (o o' : Obj) (hl : w.heap.size ≤ l) (_ : W.heap[l]? = some o) (_ : o.isCells = false) (_ : o.isWalk = false) : ChunkK Bs Bn W (W.putObj l o') := by
  have hg := grownBy_putObj' W l o'
  refine ⟨hg.os, hg.tape, hg.output, hg.size, fun k hk hn => hg.block k hk ?_⟩
  intro e
  cases e
  exact hn (fun h => by rcases h with h | h <;> omega)

end Go.Proofs.Ytigljfmbelaobaa
