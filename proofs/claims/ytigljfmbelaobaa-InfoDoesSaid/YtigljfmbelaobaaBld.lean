/- A strings.Builder of the call's own: what its methods come to. -/
import Derived.Test.YtigljfmbelaobaaBase
import Derived.Lib.Builder
import Derived.Lib.AppendStr
import Derived.Lib.UnsafeStr
import Derived.Maps.AppendAt
namespace Go.Proofs.Ytigljfmbelaobaa
open Go.RowKit

/-- A builder in block b holds the bytes l, in the buffer v (of blocks from B on). -/
structure Bld (B b : Nat) (v : Value) (l : List UInt8) (w : World) : Prop where
  base : B ≤ b
  blk : ∃ p : Value, (p = .pointer none ∨ p = .pointer (some ⟨b, 0, none⟩)) ∧ w.heap[b]? = some (.cells #[p, v] 68 (0, 0))
  own : w.ownsRow B 5 1 v l.length (Lib.byteCells l)
  nil : l = [] → v = .slice none 0 0

theorem Bld.lt {B b : Nat} {v : Value} {l : List UInt8} {w : World} (h : Bld B b v l w) : b < w.heap.size := by
  obtain ⟨p, _, hb⟩ := h.blk
  exact (Array.getElem?_eq_some_iff.1 hb).1
theorem Bld.ne {B b : Nat} {v : Value} {l : List UInt8} {w : World} (h : Bld B b v l w) : v.ownBlock ≠ some b := by
  obtain ⟨p, _, hb⟩ := h.blk
  exact Lib.ownBlock_ne h.own hb (by decide)
theorem Bld.fresh (w : World) (B : Nat) (hB : B ≤ w.heap.size) : Bld B w.heap.size (.slice none 0 0) [] (w.alloc (.cells #[.pointer none, .slice none 0 0] 68)) :=
  ⟨hB, ⟨_, .inl rfl, heap_alloc_new w _⟩, World.ownsRow_nil _ _ _ _, fun _ => rfl⟩
theorem Bld.touch {B b : Nat} {v : Value} {l : List UInt8} {w w' : World} (h : Bld B b v l w) {S : Nat → Prop} (k : Touch S w w') (hb : ¬ S b) (hv : ∀ g, v.ownBlock = some g → ¬ S g) : Bld B b v l w' := by
  obtain ⟨p, hp, hbk⟩ := h.blk
  exact ⟨h.base, ⟨p, hp, (k.block b h.lt hb).trans hbk⟩, own_touch h.own k hv, h.nil⟩
theorem Bld.below {B b : Nat} {v : Value} {l : List UInt8} {w w' : World} (h : Bld B b v l w) (k : Below w.heap.size w w') : Bld B b v l w' :=
  h.touch (Touch.of_below (S := fun _ => False) k) (fun h => h) (fun _ _ h => h)
theorem Bld.alloc {B b : Nat} {v : Value} {l : List UInt8} {w : World} (h : Bld B b v l w) (o : Obj) : Bld B b v l (w.alloc o) := h.below ((Below.refl _ _).alloc (Nat.le_refl _) o)
theorem Bld.drew {B b : Nat} {v : Value} {l : List UInt8} {w : World} (h : Bld B b v l w) : Bld B b v l w.drew := h.below (Below.refl _ _).drew
/-- What a builder's method may turn. -/
def BldS (b : Nat) (v : Value) (k : Nat) : Prop := k = b ∨ v.ownBlock = some k
theorem Bld.above {B b : Nat} {v : Value} {l : List UInt8} {w : World} (h : Bld B b v l w) : ∀ k, BldS b v k → B ≤ k := by
  rintro k (rfl | hk)
  · exact h.base
  · exact own_base h.own k hk

set_option maxHeartbeats 1000000 in
theorem copy_used (b : Nat) (w : World) (h0 : w.cell? ⟨b, 0, none⟩ = some (.pointer (some ⟨b, 0, none⟩))) :
    Calls Try.prog 52 #[.pointer (some ⟨b, 0, none⟩)] w fun e w' => e = .returned (.tuple #[]) ∧ w = w' := by
  obtain ⟨j, hj, _⟩ := Option.map_eq_some_iff.1 (show (Try.prog.info? 68).map (·.size) = some 2 by kernel_rfl)
  go_enter Try.func52, Try.ntmps52
  go_wp2
  rw [Lib.run_neq_ptr_same w _ Try.underlying65 hj]
  go_wp2
  go_end0
  exact ⟨rfl, rfl⟩

set_option maxRecDepth 100000 in
set_option maxHeartbeats 1000000 in
theorem copy_fresh (b : Nat) (w : World) (h0 : w.cell? ⟨b, 0, none⟩ = some (.pointer none)) (hsh : w.shape? b = some (68, 2)) (hfz : w.frozen? ⟨b, 0, none⟩ = false) :
    Calls Try.prog 52 #[.pointer (some ⟨b, 0, none⟩)] w fun e w' => e = .returned (.tuple #[]) ∧ w.setCell ⟨b, 0, none⟩ (.pointer (some ⟨b, 0, none⟩)) = w' := by
  obtain ⟨j, hj, hjs⟩ := Option.map_eq_some_iff.1 (show (Try.prog.info? 68).map (·.size) = some 2 by kernel_rfl)
  go_enter Try.func52, Try.ntmps52
  go_wp2
  rw [Lib.run_to_unsafe w ⟨b, 0, none⟩ Try.underlying65 Try.underlying89 hj (by rw [hjs]; decide) hsh (Nat.zero_lt_succ 1)]
  simp only [Result.andThen]
  rw [Oper.upon_value]
  go_wp2
  rw [run_callFunc_extern Try.func56 (by kernel_rfl) (by kernel_rfl) (by kernel_rfl) (e := Extern.AbiNoEscape.same) (by kernel_rfl)]
  rw [Lib.run_noEscape]
  simp only [Result.andThen]
  rw [Oper.upon_value]
  go_wp2
  rw [Lib.run_from_unsafe w ⟨b, 0, none⟩ Try.underlying89 Try.underlying65 hj hsh (by kernel_rfl)]
  simp only [Result.andThen]
  rw [Oper.upon_value]
  go_wp2
  go_end0
  exact ⟨rfl, rfl⟩

/-- copyCheck: behind it the builder's first cell holds its own address. -/
theorem copy_any {B b : Nat} {v : Value} {l : List UInt8} {w : World} (h : Bld B b v l w) :
    Calls Try.prog 52 #[.pointer (some ⟨b, 0, none⟩)] w fun e w' => e = .returned (.tuple #[]) ∧ Bld B b v l w' ∧ w'.heap[b]? = some (.cells #[.pointer (some ⟨b, 0, none⟩), v] 68 (0, 0)) ∧ Touch (· = b) w w' := by
  obtain ⟨p, rfl | rfl, hb⟩ := h.blk
  · refine (copy_fresh b w (cell_of_heap hb 0) (by simp [World.shape?, hb]) (frozen_of_heap hb 0)).mono ?_
    rintro e w' ⟨rfl, rfl⟩
    have hb' : (w.setCell ⟨b, 0, none⟩ (.pointer (some ⟨b, 0, none⟩))).heap[b]? = some (.cells #[.pointer (some ⟨b, 0, none⟩), v] 68 (0, 0)) := by
      simp [World.setCell, Array.getElem?_modify, hb]
    have ht : Touch (· = b) w (w.setCell ⟨b, 0, none⟩ (.pointer (some ⟨b, 0, none⟩))) := (Touch.refl (· = b) w).setCell (p := ⟨b, 0, none⟩) (fun _ => rfl) _
    exact ⟨rfl, ⟨h.base, ⟨_, .inr rfl, hb'⟩, own_touch h.own ht (fun g hg e => h.ne (by rw [hg]; exact congrArg some e)), h.nil⟩, hb', ht⟩
  · refine (copy_used b w (cell_of_heap hb 0)).mono ?_
    rintro e w' ⟨rfl, rfl⟩
    exact ⟨rfl, h, hb, Touch.refl _ _⟩

theorem info_u8 : (Try.prog.info? 5).map (fun i => (i.zero, i.size, i.bytes)) = some (some (.int .u8 0), 1, 1) := by kernel_rfl

theorem byteCells_snoc (l : List UInt8) (c : UInt8) : Lib.byteCells (l ++ [c]) = Lib.byteCells l ++ [.int .u8 (c.toNat : Int)] := by simp [Lib.byteCells]

/-- Behind a write: the builder holds more. -/
def Wrote (B b : Nat) (v : Value) (l : List UInt8) (w w' : World) : Prop := ∃ v', Bld B b v' l w' ∧ Touch (BldS b v) w w' ∧ (v'.ownBlock = v.ownBlock ∨ ∃ g, v'.ownBlock = some g ∧ w.heap.size ≤ g)

set_option maxHeartbeats 2000000 in
theorem writeByte_any {B b : Nat} {v : Value} {l : List UInt8} (c : UInt8) {w : World} (h : Bld B b v l w) (hlen : l.length + 1 ≤ 140737488355328) (hB : B ≤ w.heap.size) :
    Calls Try.prog 43 #[.pointer (some ⟨b, 0, none⟩), .int .u8 (c.toNat : Int)] w fun e w' => e = .returned .nilIface ∧ Wrote B b v (l ++ [c]) w w' := by
  obtain ⟨i0, hi, hz0, hz1, hz2⟩ := info_parts info_u8
  go_enter Try.func43, Try.ntmps43
  go_wp2_with fail
  refine (copy_any h).mono ?_
  rintro e w1 ⟨rfl, h1, hbk, ht1⟩
  have hs1 := ht1.size
  have c1 : w1.cell? ⟨b, 1, none⟩ = some v := cell_of_heap hbk 1
  have HT := Lib.hid ht1
  have HH := Lib.hid h1
  have HBK := Lib.hid hbk
  clear ht1 h1 hbk
  go_wp2_with (at_builtin; refine wpList_append_own_at _ rfl _ _ 66 rfl B 5 i0 (.int .u8 0) 1 1 Try.underlying66 hi hz0 hz1 hz2 rfl (by decide) _ _ _ rfl (HH.out.own.alloc _) ⟨w1.heap.size, 0, none⟩ 1 1 [.int .u8 (c.toNat : Int)] rfl rfl (cell_one_new _ _ _) (by simp [Value.oneCell']) (by unfold maxLen; omega) (by omega) (by simp; omega) ?_)
  intro v' w2 hown hg hnil hat
  have hb2 : w2.heap[b]? = some (.cells #[.pointer (some ⟨b, 0, none⟩), v] 68 (0, 0)) := by
    rw [hg.block b (by have := HH.out.lt; simp; omega) (fun e => HH.out.ne e.symm)]
    exact (Below.heap_alloc w1 _ b HH.out.lt).trans HBK.out
  have d1 : w2.cell? ⟨b, 1, none⟩ = some v := cell_of_heap hb2 1
  have f1 : w2.frozen? ⟨b, 1, none⟩ = false := frozen_of_heap hb2 1
  obtain ⟨g, cap, rfl⟩ : ∃ g cap, v' = .slice (some ⟨g, 0, none⟩) (l.length + 1) cap := by
    rcases hown.2 with ⟨_, h0⟩ | ⟨g, cap, cur, hv, _⟩
    · omega
    · exact ⟨g, cap, hv⟩
  have HO := Lib.hid hown
  have HG := Lib.hid hg
  have HA := Lib.hid hat
  have HB2 := Lib.hid hb2
  clear hown hg hat hnil hb2
  go_wp2
  go_ret
  have hne := Lib.ownBlock_ne HO.out HB2.out (by decide : 68 ≠ 5)
  have ht : Touch (BldS b v) w (w2.setCell ⟨b, 1, none⟩ (.slice (some ⟨g, 0, none⟩) (l.length + 1) cap)) :=
    (((HT.out.mono (fun k _ e => Or.inl e)).alloc _).grown HG.out (fun k e _ => Or.inr e)).setCell (fun _ => Or.inl rfl) _
  refine ⟨rfl, .slice (some ⟨g, 0, none⟩) (l.length + 1) cap, ⟨h.base, ⟨_, .inr rfl, ?_⟩, ?_, fun e => by simp at e⟩, ht, ?_⟩
  · have hb2 := HB2.out
    simp [World.setCell, Array.getElem?_modify, hb2]
  · have := own_touch (S := (· = b)) (w' := w2.setCell ⟨b, 1, none⟩ (.slice (some ⟨g, 0, none⟩) (l.length + 1) cap)) HO.out ((Touch.refl (· = b) w2).setCell (p := ⟨b, 1, none⟩) (fun _ => rfl) _) (fun g' hg' e => hne (by rw [hg']; exact congrArg some e))
    rw [byteCells_snoc]
    simpa using this
  · rcases HA.out with h2 | h2
    · exact .inl h2
    · refine .inr ⟨_, h2, ?_⟩
      have e : (w1.alloc (.cells #[.int .u8 (c.toNat : Int)] 5)).heap.size = w1.heap.size + 1 := by simp
      omega

theorem touch_freeze {S : Nat → Prop} {a w : World} (h : Touch S a w) {p : Addr} (hp : p.block < a.heap.size → S p.block) (n : Nat) : Touch S a (w.freeze p n) := by
  unfold World.freeze
  split
  · exact h
  · refine ⟨h.os, h.tape, h.output, by simpa using h.size, fun k hk hn => ?_⟩
    have hne : p.block ≠ k := fun e => hn (by subst e; exact hp hk)
    rw [← h.block k hk hn]
    show (w.heap.modify p.block _)[k]? = _
    rw [Array.getElem?_modify, if_neg hne]

theorem shape_drew (w : World) (g : Nat) : w.drew.shape? g = w.shape? g := rfl

set_option maxHeartbeats 1000000 in
theorem string_any {B b : Nat} {v : Value} {l : List UInt8} {w : World} (h : Bld B b v l w) :
    Calls Try.prog 44 #[.pointer (some ⟨b, 0, none⟩)] w fun e w' => e = .returned (.string ⟨l.toArray⟩) ∧ Touch (BldS b v) w w' := by
  obtain ⟨p, hp, hbk⟩ := h.blk
  have c1 : w.drew.cell? ⟨b, 1, none⟩ = some v := cell_of_heap (w := w.drew) hbk 1
  by_cases h0 : l = []
  · subst h0
    have hv := h.nil rfl
    subst hv
    have hSD : (Builtin.unsafeSliceData_ #[66] 87 #[.slice none 0 0]).run Try.prog w.drew = .ok (.pointer none) w.drew := Lib.run_unsafeSliceData_nil _ _ _ _ _
    have hUS : (Builtin.unsafeString_ #[87, 3] 9 #[.pointer none, .int .i64 0]).run Try.prog w.drew = .ok (.string .empty) w.drew := Lib.run_unsafeString_none _ _ _ _ _
    clear hp hbk h
    go_enter Try.func44, Try.ntmps44
    go_wp2
    go_region
    all_goals (go_wp2; go_ret; exact ⟨rfl, (Touch.refl _ _).drew⟩)
  · have hl0 : l.length ≠ 0 := by simpa using h0
    obtain ⟨g, cap, cur, rfl, hbg, hg, hnc, hcm, hcs⟩ : ∃ g cap cur, v = .slice (some ⟨g, 0, none⟩) l.length cap ∧ B ≤ g ∧ w.heap[g]? = some (.cells cur 5 (0, 0)) ∧ l.length ≤ cap ∧ cap ≤ maxLen ∧ cur.size = cap * 1 := by
      rcases h.own.2 with ⟨_, hz⟩ | ⟨g, cap, cur, hv, r⟩
      · exact absurd hz hl0
      · exact ⟨g, cap, cur, hv, r.1, r.2.1, r.2.2.1, r.2.2.2.1, r.2.2.2.2.1⟩
    have hSD : (Builtin.unsafeSliceData_ #[66] 87 #[.slice (some ⟨g, 0, none⟩) l.length cap]).run Try.prog w.drew = .ok (.pointer (some ⟨g, 0, none⟩)) w.drew := Lib.run_unsafeSliceData_row _ _ _ _ _ _ (by omega)
    have hUS : (Builtin.unsafeString_ #[87, 3] 9 #[.pointer (some ⟨g, 0, none⟩), .int .i64 l.length]).run Try.prog w.drew = .ok (.string ⟨l.toArray⟩) (w.drew.freeze ⟨g, 0, none⟩ l.length) := by
      refine Lib.run_unsafeString_row w.drew 87 3 9 5 Try.underlying87 (by kernel_rfl) g cur.size (by rw [shape_drew]; simp [World.shape?, hg]) l h0 (by omega) (by unfold maxLen at hcm; omega) ?_
      intro j x hx
      exact h.own.cells (g := g) rfl j (.int .u8 x.toNat) (by simp [Lib.byteCells, hx])
    have HH := Lib.hid h
    clear hp hbk h hg
    go_enter Try.func44, Try.ntmps44
    go_wp2
    go_region
    all_goals (go_wp2; go_ret; exact ⟨rfl, touch_freeze ((Touch.refl _ _).drew) (fun _ => .inr rfl) _⟩)

end Go.Proofs.Ytigljfmbelaobaa
