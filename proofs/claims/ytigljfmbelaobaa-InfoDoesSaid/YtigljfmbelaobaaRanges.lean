/- Layer 12 (cover): what ranges comes to. -/
import Derived.Test.YtigljfmbelaobaaChunk
import Derived.Test.YtigljfmbelaobaaConcat
import Derived.Test.YtigljfmbelaobaaBinGet
import Derived.Shelf.Abstract
import Derived.Maps.OwnIn
namespace Go.Proofs.Ytigljfmbelaobaa
open Go.RowKit Go.Shelf
attribute [local go_sem] Oper.semAt_some

def upto (a b : Int) : List Int := (List.range (b - a + 1).toNat).map fun (i : Nat) => a + (i : Int)
/-- Ranges of glyphs, those numbered ks, behind acc. -/
def rngGo (l : List Int) : List Int → List Nat → Option (List Int)
  | acc, [] => some acc
  | acc, k :: ks => if nth l (k * 3 + 1) < nth l (k * 3) ∨ nth l (k * 3 + 2) ≠ acc.length then none else rngGo l (acc ++ upto (nth l (k * 3)) (nth l (k * 3 + 1))) ks
def rangesS (l : List Int) (q : Nat) : List Int × Int := match rngGo l [] (List.range q) with
  | none => ([], 5)
  | some r => (r, 0)
theorem rngGo_append (l : List Int) : ∀ (ks js : List Nat) (acc : List Int), rngGo l acc (ks ++ js) = (rngGo l acc ks).bind fun r => rngGo l r js := by
  intro ks
  induction ks with
  | nil => intro js acc; rfl
  | cons k ks ih =>
    intro js acc
    simp only [List.cons_append, rngGo]
    split
    · rfl
    · exact ih js _

def part (a : Int) (j : Nat) : List Int := (List.range j).map fun (i : Nat) => a + (i : Int)
theorem part_succ (a : Int) (j : Nat) : part a (j + 1) = part a j ++ [a + (j : Int)] := by simp [part, List.range_succ]

/-- Where the loop over ranges stands. -/
structure RInv (w : World) (l : List Int) (pre : List Nat) (v : Value) (acc : List Int) (W : World) : Prop where
  b0 : Box W w.heap.size 37 (.slice none 0 0)
  b1 : Box W (w.heap.size + 1) 23 (.int .i64 0)
  b2 : Box W (w.heap.size + 1 + 1) 37 v
  own : W.ownsRow (w.heap.size + 5) 3 1 v acc.length (acc.map (Value.int .i64))
  below : Below w.heap.size w W
  size : w.heap.size + 5 ≤ W.heap.size
  so : rngGo l [] pre = some acc
  len : acc.length ≤ pre.length * 65536
  wf : ∀ x, x ∈ acc → I64 x
def RStop (w : World) (l : List Int) (pre : List Nat) (W : World) : Prop :=
  Box W w.heap.size 37 (.slice none 0 0) ∧ Box W (w.heap.size + 1) 23 (.int .i64 5) ∧ Below w.heap.size w W ∧ w.heap.size + 5 ≤ W.heap.size ∧ rngGo l [] pre = none

def rFrame (A : Option Addr) (n c N : Nat) (u5 u9 : Value) : Act :=
  { tmps := #[Value.slice A n c, undef, Value.pointer (some { block := N, off := 0 }),
          Value.pointer (some { block := N + 1, off := 0 }),
          Value.pointer (some { block := N + 1 + 1, off := 0 }), u5, undef, Value.slice A n c,
          Value.func (Fn.func 55) #[]
            #[Value.pointer (some { block := N + 1 + 1 + 1, off := 0 }),
              Value.pointer (some { block := N + 1 + 1 + 1 + 1, off := 0 })],
          u9, undef, undef, undef, undef, undef, undef, undef, undef, undef, undef, undef, undef, undef, undef,
          undef, undef, undef, undef, undef, undef, undef, undef, undef, undef, undef, undef, undef, undef, undef,
          undef], defers := [] }

set_option maxRecDepth 100000 in
set_option maxHeartbeats 2000000 in
theorem ranges_any (A : Option Addr) (c q : Nat) (l : List Int) (w : World) (h : Ints w A l) (hl : l.length = q * 3) (hq : q ≤ 100000) (hlc : l.length ≤ c) (hbd : ∀ x, x ∈ l → 0 ≤ x ∧ x ≤ 65535) :
    Calls Try.prog 38 #[.slice A l.length c] w (RetInts w (rangesS l q)) := by
  have HL := Lib.hid hl
  have hb0 : Below w.heap.size w (((((w.alloc (.cells #[.slice none 0 0] 37)).alloc (.cells #[.int .i64 0] 23)).alloc (.cells #[.slice none 0 0] 37)).alloc (.cells #[.slice A l.length c] 37)).alloc (.cells #[.int .i64 3] 3)) := by (repeat (first | exact Below.refl _ _ | assumption | (refine Below.alloc ?_ (by first | omega | (simp; done) | (simp; omega)) _) | (refine Below.setCell ?_ (by first | omega | (simp; done) | (simp; omega)) _) | (refine Below.drew ?_)))
  have bx0 := ((((Box.new w 37 (.slice none 0 0)).alloc (.cells #[.int .i64 0] 23)).alloc (.cells #[.slice none 0 0] 37)).alloc (.cells #[.slice A l.length c] 37)).alloc (.cells #[.int .i64 3] 3)
  have bx1 := (((Box.new (w.alloc (.cells #[.slice none 0 0] 37)) 23 (.int .i64 0)).alloc (.cells #[.slice none 0 0] 37)).alloc (.cells #[.slice A l.length c] 37)).alloc (.cells #[.int .i64 3] 3)
  have bx2 := ((Box.new ((w.alloc (.cells #[.slice none 0 0] 37)).alloc (.cells #[.int .i64 0] 23)) 37 (.slice none 0 0)).alloc (.cells #[.slice A l.length c] 37)).alloc (.cells #[.int .i64 3] 3)
  have bx3 := (Box.new (((w.alloc (.cells #[.slice none 0 0] 37)).alloc (.cells #[.int .i64 0] 23)).alloc (.cells #[.slice none 0 0] 37)) 37 (.slice A l.length c)).alloc (.cells #[.int .i64 3] 3)
  have bx4 := Box.new ((((w.alloc (.cells #[.slice none 0 0] 37)).alloc (.cells #[.int .i64 0] 23)).alloc (.cells #[.slice none 0 0] 37)).alloc (.cells #[.slice A l.length c] 37)) 3 (.int .i64 3)
  simp only [World.size_alloc] at bx1 bx2 bx3 bx4
  have hsz0 : (((((w.alloc (.cells #[.slice none 0 0] 37)).alloc (.cells #[.int .i64 0] 23)).alloc (.cells #[.slice none 0 0] 37)).alloc (.cells #[.slice A l.length c] 37)).alloc (.cells #[.int .i64 3] 3)).heap.size = w.heap.size + 5 := by simp
  have HZ := Lib.hid hsz0
  clear hl hsz0
  refine (callsIn_wide (n := 4)).1 ?_
  refine callsIn_of_wp_marks Try.func38 rfl trivial ?_ rfl
  simp only [Try.ntmps38, List.size_toArray, List.length_cons, List.length_nil, Nat.reduceAdd, Nat.reduceSub, Array.replicate_succ, Array.replicate_zero, List.push_toArray, List.append_toArray, List.nil_append, List.cons_append]
  gi_wp2_with (refine ⟨trivial, ?_⟩; gi_at_call 49; refine (callsIn_wide.2 (chunk_maker A l.length c 3 _ (by omega))).mono ?_; rintro e w' ⟨rfl, rfl⟩)
  generalize (((((w.alloc (.cells #[.slice none 0 0] 37)).alloc (.cells #[.int .i64 0] 23)).alloc (.cells #[.slice none 0 0] 37)).alloc (.cells #[.slice A l.length c] 37)).alloc (.cells #[.int .i64 3] 3)) = W0 at *
  have hA : 0 < q → ∃ b off, A = some ⟨b, off, none⟩ := fun hq0 => by
    obtain ⟨b, off, e, _⟩ := h.cells 0 (by rw [HL.out]; omega)
    exact ⟨b, off, e⟩
  have hch : ∀ x : Fin q, ∃ b o, chunkAt A 3 x.val = some ⟨b, o, none⟩ ∧ w.cell? ⟨b, o, none⟩ = some (.int .i64 (nth l (x.val * 3))) ∧ w.cell? ⟨b, o + 1, none⟩ = some (.int .i64 (nth l (x.val * 3 + 1))) ∧ w.cell? ⟨b, o + 2, none⟩ = some (.int .i64 (nth l (x.val * 3 + 2))) := by
    intro x
    have hx := x.isLt
    have hx3 : x.val * 3 + 2 < l.length := by rw [HL.out]; omega
    obtain ⟨b, off, rfl, g0⟩ := h.cells (x.val * 3) (by omega)
    obtain ⟨_, _, e1, g1⟩ := h.cells (x.val * 3 + 1) (by omega)
    obtain ⟨_, _, e2, g2⟩ := h.cells (x.val * 3 + 2) (by omega)
    cases e1
    cases e2
    exact ⟨b, off + x.val * 3, rfl, g0, g1, g2⟩
  refine wpIn_rangeFunc_ownG rfl (by omega) (gf := 55) (lb := #[.pointer (some ⟨w.heap.size + 1 + 1 + 1, 0, none⟩), .pointer (some ⟨w.heap.size + 1 + 1 + 1 + 1, 0, none⟩)]) rfl trivial (enters_of Try.func55 (by kernel_rfl) rfl)
    (chunk_stops A c 3 q l.length (w.heap.size + 1 + 1 + 1) (w.heap.size + 1 + 1 + 1 + 1) W0 (by omega) HL.out (by rw [HL.out]; omega) (by omega) hA hlc bx3 bx4) chunkK_t (chunkK_b (by have := HZ.out; omega) (by have := HZ.out; omega)) (Below.refl _ _) (fun _ => rfl)
    (fun pre W => ∃ v acc, RInv w l (pre.map (·.val)) v acc W) (fun cd pre W => cd = .ret ∧ RStop w l (pre.map (·.val)) W) ?hI ?hIx ?h0
    (fun x => rFrame A l.length c w.heap.size (.slice (chunkAt A 3 x.val) 3 3) (.slice (chunkAt A 3 x.val) 3 3)) ?assign ?body ?done ?stop
  case hI =>
    rintro pre W W' row ⟨v, acc, hi⟩ hg hr
    exact ⟨v, acc, box_ownFrom hi.b0 hg hr, box_ownFrom hi.b1 hg hr, box_ownFrom hi.b2 hg hr, own_ownFrom hi.own hg hr, below_ownFrom hi.below hg hr (by have := HZ.out; omega) (by have := hi.size; omega), Nat.le_trans hi.size hg.size, hi.so, hi.len, hi.wf⟩
  case hIx =>
    rintro cd pre W W' row ⟨hc, h0, h1, h2, h3, h4⟩ hg hr
    exact ⟨hc, box_ownFrom h0 hg hr, box_ownFrom h1 hg hr, below_ownFrom h2 hg hr (by have := HZ.out; omega) (by omega), Nat.le_trans h3 hg.size, h4⟩
  case h0 => exact ⟨_, [], bx0, bx1, bx2, World.ownsRow_nil _ _ _ _, hb0, by have := HZ.out; omega, rfl, by simp, by simp⟩
  case assign =>
    intro l x W K hK
    gi_wp2
    exact hK
  case body =>
    rintro lr pre x W ⟨v, acc, hi⟩ hpl
    obtain ⟨b, o, he, cw0, cw1, cw2⟩ := hch x
    have hlt := World.block_lt_of_cell? w _ cw0
    have c0 := (hi.below.cell (p := ⟨b, o, none⟩) hlt).trans cw0
    have c1 := (hi.below.cell (p := ⟨b, o + 1, none⟩) hlt).trans cw1
    have c2 := (hi.below.cell (p := ⟨b, o + 2, none⟩) hlt).trans cw2
    have cv := hi.b2.cell
    have fv := hi.b2.frozen
    have cr0 := hi.b0.cell
    have fr0 := hi.b0.frozen
    have cr1 := hi.b1.cell
    have fr1 := hi.b1.frozen
    have hWs := hi.size
    have hx := x.isLt
    have hx3 : x.val * 3 + 2 < l.length := by rw [HL.out]; omega
    have r0 := hbd _ (nth_mem l (x.val * 3) (by omega))
    have r1 := hbd _ (nth_mem l (x.val * 3 + 1) (by omega))
    have r2 := hbd _ (nth_mem l (x.val * 3 + 2) (by omega))
    have hgo : rngGo l [] ((pre ++ [x]).map (·.val)) = rngGo l acc [x.val] := by
      rw [List.map_append, rngGo_append, hi.so]
      rfl
    simp only [rngGo] at hgo
    generalize nth l (x.val * 3) = a0 at *
    generalize nth l (x.val * 3 + 1) = a1 at *
    generalize nth l (x.val * 3 + 2) = a2 at *
    obtain ⟨va, vc, rfl⟩ : ∃ va vc, v = .slice va acc.length vc := by
      rcases hi.own.2 with ⟨hv, hv0⟩ | ⟨g, cap, cur, hv, _⟩
      · exact ⟨none, 0, by rw [hv, hv0]⟩
      · exact ⟨_, _, hv⟩
    have hacc : acc.length ≤ 6553600000 := by have := hi.len; rw [List.length_map] at this; omega
    have HI := Lib.hid hi
    have HGo := Lib.hid hgo
    have HE := Lib.hid he
    have CW1 := Lib.hid cw1
    clear hi hgo he cw0 cw1 cw2
    unfold rFrame
    rw [HE.out]
    by_cases hlt1 : a1 < a0
    · gi_wp2
      refine wpIn_region_round (by kernel_rfl) (by rintro ⟨a, w, h⟩; exact h) (by kernel_rfl) ?_
      change wpAny _ _ _ _ _ _ _ (World.drew _)
      refine wpAny_of_G (last := 14) (S := fun W' => W'.cell? ⟨b, o, none⟩ = some (.int .i64 a0) ∧ W'.cell? ⟨b, o + 1, none⟩ = some (.int .i64 a1)) _ _ _ _ ?_
      refine wpAnyG_take (i := 0) (v := .slice (some ⟨b, o, none⟩) 3 3) rfl (by kernel_rfl) (by kernel_rfl) (by kernel_rfl) (by kernel_rfl) (by kernel_rfl) (fun _ _ _ h => h) (Or.inl ⟨by rfl, by (intro W hW; go_simp)⟩) (by go_simp) ?_
      refine wpAnyG_take (i := 1) (v := .pointer (some ⟨b, o + 1, none⟩)) rfl (by kernel_rfl) (by kernel_rfl) (by kernel_rfl) (by kernel_rfl) (by kernel_rfl) (fun _ _ _ h => h) (Or.inl ⟨by rfl, by (intro W hW; go_simp)⟩) (by go_simp) ?_
      refine wpAnyG_take (i := 2) (v := .int .i64 a1) rfl (by kernel_rfl) (by kernel_rfl) (by kernel_rfl) (by kernel_rfl) (by kernel_rfl) (fun _ _ _ h => h) (Or.inl ⟨by rfl, by (intro W hW; go_simp)⟩) (by go_simp) ?_
      refine wpAnyG_take (i := 3) (v := .slice (some ⟨b, o, none⟩) 3 3) rfl (by kernel_rfl) (by kernel_rfl) (by kernel_rfl) (by kernel_rfl) (by kernel_rfl) (fun _ _ _ h => h) (Or.inl ⟨by rfl, by (intro W hW; go_simp)⟩) (by go_simp) ?_
      refine wpAnyG_take (i := 4) (v := .pointer (some ⟨b, o, none⟩)) rfl (by kernel_rfl) (by kernel_rfl) (by kernel_rfl) (by kernel_rfl) (by kernel_rfl) (fun _ _ _ h => h) (Or.inl ⟨by rfl, by (intro W hW; go_simp)⟩) (by go_simp) ?_
      refine wpAnyG_take (i := 5) (v := .int .i64 a0) rfl (by kernel_rfl) (by kernel_rfl) (by kernel_rfl) (by kernel_rfl) (by kernel_rfl) (fun _ _ _ h => h) (Or.inl ⟨by rfl, by (intro W hW; go_simp)⟩) (by go_simp) ?_
      refine wpAnyG_take (i := 6) (v := .bool true) rfl (by kernel_rfl) (by kernel_rfl) (by kernel_rfl) (by kernel_rfl) (by kernel_rfl) (fun _ _ _ h => h) (Or.inl ⟨by rfl, by (intro W hW; go_simp)⟩) (by go_simp) ?_
      refine wpAnyG_take (i := 7) (v := .bool true) rfl (by kernel_rfl) (by kernel_rfl) (by kernel_rfl) (by kernel_rfl) (by kernel_rfl) (fun _ _ _ h => h) (Or.inl ⟨by rfl, by (intro W hW; go_simp)⟩) (by go_simp) ?_
      simp only [Act.put, List.getElem_toArray, List.getElem_cons_zero, List.getElem_cons_succ, List.setIfInBounds_toArray, List.set_cons_zero, List.set_cons_succ]
      refine wpAnyG_take (i := 8) (v := undef) rfl (by kernel_rfl) (by kernel_rfl) (by kernel_rfl) (by kernel_rfl) (by kernel_rfl) (fun _ _ _ h => h) (Or.inr ⟨by rfl, rfl⟩) (by go_simp) ?_; simp only [Act.put, List.getElem_toArray, List.getElem_cons_zero, List.getElem_cons_succ, List.setIfInBounds_toArray, List.set_cons_zero, List.set_cons_succ]
      refine wpAnyG_take (i := 9) (v := undef) rfl (by kernel_rfl) (by kernel_rfl) (by kernel_rfl) (by kernel_rfl) (by kernel_rfl) (fun _ _ _ h => h) (Or.inr ⟨by rfl, rfl⟩) (by go_simp) ?_; simp only [Act.put, List.getElem_toArray, List.getElem_cons_zero, List.getElem_cons_succ, List.setIfInBounds_toArray, List.set_cons_zero, List.set_cons_succ]
      refine wpAnyG_take (i := 10) (v := undef) rfl (by kernel_rfl) (by kernel_rfl) (by kernel_rfl) (by kernel_rfl) (by kernel_rfl) (fun _ _ _ h => h) (Or.inr ⟨by rfl, rfl⟩) (by go_simp) ?_; simp only [Act.put, List.getElem_toArray, List.getElem_cons_zero, List.getElem_cons_succ, List.setIfInBounds_toArray, List.set_cons_zero, List.set_cons_succ]
      refine wpAnyG_take (i := 11) (v := undef) rfl (by kernel_rfl) (by kernel_rfl) (by kernel_rfl) (by kernel_rfl) (by kernel_rfl) (fun _ _ _ h => h) (Or.inr ⟨by rfl, rfl⟩) (by go_simp) ?_; simp only [Act.put, List.getElem_toArray, List.getElem_cons_zero, List.getElem_cons_succ, List.setIfInBounds_toArray, List.set_cons_zero, List.set_cons_succ]
      refine wpAnyG_take (i := 12) (v := undef) rfl (by kernel_rfl) (by kernel_rfl) (by kernel_rfl) (by kernel_rfl) (by kernel_rfl) (fun _ _ _ h => h) (Or.inr ⟨by rfl, rfl⟩) (by go_simp) ?_; simp only [Act.put, List.getElem_toArray, List.getElem_cons_zero, List.getElem_cons_succ, List.setIfInBounds_toArray, List.set_cons_zero, List.set_cons_succ]
      refine wpAnyG_take (i := 13) (v := undef) rfl (by kernel_rfl) (by kernel_rfl) (by kernel_rfl) (by kernel_rfl) (by kernel_rfl) (fun _ _ _ h => h) (Or.inr ⟨by rfl, rfl⟩) (by go_simp) ?_; simp only [Act.put, List.getElem_toArray, List.getElem_cons_zero, List.getElem_cons_succ, List.setIfInBounds_toArray, List.set_cons_zero, List.set_cons_succ]
      refine wpAnyG_step (i := 14) (by kernel_rfl) rfl (fun K hK => ?_)
      go_simp
      refine hK _ _ (fun h => absurd rfl h) ?_
      refine wpAnyG_done (by kernel_rfl) ?_ _
      gi_wp2
      have hrk : RoundK (fun k => k = w.heap.size + 1 + 1 + 1 ∨ k = w.heap.size + 1 + 1 + 1 + 1) W ((W.setCell ⟨w.heap.size, 0, none⟩ (.slice none 0 0)).setCell ⟨w.heap.size + 1, 0, none⟩ (.int .i64 5)).drew := (((RoundK.refl _ _).setCell (by first | (simp; done) | omega | (simp; omega)) _).setCell (by first | (simp; done) | omega | (simp; omega)) _).drew
      refine ⟨hrk.others.from _, rfl, (HI.out.b0.set _).other (by simp) _, (HI.out.b1.other (by simp) _).set _, ((HI.out.below.setCell (by simp) _).setCell (by simp) _).drew, by rw [drew_size, setCell_size, setCell_size]; exact hWs, ?_⟩
      rw [HGo.out, if_pos (.inl hlt1)]
    · by_cases hne : a2 = (acc.length : Int)
      · have hd : (a2 != (acc.length : Int)) = false := by rw [bne_eq_false_iff_eq]; exact hne
        have HNe := Lib.hid hne
        clear hne
        gi_wp2
        refine wpIn_region_round (by kernel_rfl) (by rintro ⟨a, w, h⟩; exact h) (by kernel_rfl) ?_
        change wpAny _ _ _ _ _ _ _ (World.drew _)
        refine wpAny_of_G (last := 14) (S := fun W' => W'.cell? ⟨b, o, none⟩ = some (.int .i64 a0) ∧ W'.cell? ⟨b, o + 1, none⟩ = some (.int .i64 a1) ∧ W'.cell? ⟨b, o + 2, none⟩ = some (.int .i64 a2) ∧ W'.cell? ⟨w.heap.size + 1 + 1, 0, none⟩ = some (.slice va acc.length vc)) _ _ _ _ ?_
        refine wpAnyG_take (i := 0) (v := .slice (some ⟨b, o, none⟩) 3 3) rfl (by kernel_rfl) (by kernel_rfl) (by kernel_rfl) (by kernel_rfl) (by kernel_rfl) (fun _ _ _ h => h) (Or.inl ⟨by rfl, by (intro W hW; go_simp)⟩) (by go_simp) ?_
        refine wpAnyG_take (i := 1) (v := .pointer (some ⟨b, o + 1, none⟩)) rfl (by kernel_rfl) (by kernel_rfl) (by kernel_rfl) (by kernel_rfl) (by kernel_rfl) (fun _ _ _ h => h) (Or.inl ⟨by rfl, by (intro W hW; go_simp)⟩) (by go_simp) ?_
        refine wpAnyG_take (i := 2) (v := .int .i64 a1) rfl (by kernel_rfl) (by kernel_rfl) (by kernel_rfl) (by kernel_rfl) (by kernel_rfl) (fun _ _ _ h => h) (Or.inl ⟨by rfl, by (intro W hW; go_simp)⟩) (by go_simp) ?_
        refine wpAnyG_take (i := 3) (v := .slice (some ⟨b, o, none⟩) 3 3) rfl (by kernel_rfl) (by kernel_rfl) (by kernel_rfl) (by kernel_rfl) (by kernel_rfl) (fun _ _ _ h => h) (Or.inl ⟨by rfl, by (intro W hW; go_simp)⟩) (by go_simp) ?_
        refine wpAnyG_take (i := 4) (v := .pointer (some ⟨b, o, none⟩)) rfl (by kernel_rfl) (by kernel_rfl) (by kernel_rfl) (by kernel_rfl) (by kernel_rfl) (fun _ _ _ h => h) (Or.inl ⟨by rfl, by (intro W hW; go_simp)⟩) (by go_simp) ?_
        refine wpAnyG_take (i := 5) (v := .int .i64 a0) rfl (by kernel_rfl) (by kernel_rfl) (by kernel_rfl) (by kernel_rfl) (by kernel_rfl) (fun _ _ _ h => h) (Or.inl ⟨by rfl, by (intro W hW; go_simp)⟩) (by go_simp) ?_
        refine wpAnyG_take (i := 6) (v := .bool false) rfl (by kernel_rfl) (by kernel_rfl) (by kernel_rfl) (by kernel_rfl) (by kernel_rfl) (fun _ _ _ h => h) (Or.inl ⟨by rfl, by (intro W hW; go_simp)⟩) (by go_simp) ?_
        refine wpAnyG_take (i := 7) (v := .bool false) rfl (by kernel_rfl) (by kernel_rfl) (by kernel_rfl) (by kernel_rfl) (by kernel_rfl) (fun _ _ _ h => h) (Or.inl ⟨by rfl, by (intro W hW; go_simp)⟩) (by go_simp) ?_
        simp only [Act.put, List.getElem_toArray, List.getElem_cons_zero, List.getElem_cons_succ, List.setIfInBounds_toArray, List.set_cons_zero, List.set_cons_succ]
        refine wpAnyG_take (i := 8) (v := .slice (some ⟨b, o, none⟩) 3 3) rfl (by kernel_rfl) (by kernel_rfl) (by kernel_rfl) (by kernel_rfl) (by kernel_rfl) (fun _ _ _ h => h) (Or.inl ⟨by rfl, by (intro W hW; go_simp)⟩) (by go_simp) ?_
        simp only [Act.put, List.getElem_toArray, List.getElem_cons_zero, List.getElem_cons_succ, List.setIfInBounds_toArray, List.set_cons_zero, List.set_cons_succ]
        refine wpAnyG_take (i := 9) (v := .pointer (some ⟨b, o + 2, none⟩)) rfl (by kernel_rfl) (by kernel_rfl) (by kernel_rfl) (by kernel_rfl) (by kernel_rfl) (fun _ _ _ h => h) (Or.inl ⟨by rfl, by (intro W hW; go_simp)⟩) (by go_simp) ?_
        simp only [Act.put, List.getElem_toArray, List.getElem_cons_zero, List.getElem_cons_succ, List.setIfInBounds_toArray, List.set_cons_zero, List.set_cons_succ]
        refine wpAnyG_take (i := 10) (v := .int .i64 a2) rfl (by kernel_rfl) (by kernel_rfl) (by kernel_rfl) (by kernel_rfl) (by kernel_rfl) (fun _ _ _ h => h) (Or.inl ⟨by rfl, by (intro W hW; go_simp)⟩) (by go_simp) ?_
        simp only [Act.put, List.getElem_toArray, List.getElem_cons_zero, List.getElem_cons_succ, List.setIfInBounds_toArray, List.set_cons_zero, List.set_cons_succ]
        refine wpAnyG_take (i := 11) (v := .slice va acc.length vc) rfl (by kernel_rfl) (by kernel_rfl) (by kernel_rfl) (by kernel_rfl) (by kernel_rfl) (fun _ _ _ h => h) (Or.inl ⟨by rfl, by (intro W hW; go_simp)⟩) (by go_simp) ?_
        simp only [Act.put, List.getElem_toArray, List.getElem_cons_zero, List.getElem_cons_succ, List.setIfInBounds_toArray, List.set_cons_zero, List.set_cons_succ]
        refine wpAnyG_take (i := 12) (v := .int .i64 (acc.length : Int)) rfl (by kernel_rfl) (by kernel_rfl) (by kernel_rfl) (by kernel_rfl) (by kernel_rfl) (fun _ _ _ h => h) (Or.inl ⟨by rfl, by (intro W hW; go_simp)⟩) (by go_simp) ?_
        simp only [Act.put, List.getElem_toArray, List.getElem_cons_zero, List.getElem_cons_succ, List.setIfInBounds_toArray, List.set_cons_zero, List.set_cons_succ]
        refine wpAnyG_take (i := 13) (v := .bool false) rfl (by kernel_rfl) (by kernel_rfl) (by kernel_rfl) (by kernel_rfl) (by kernel_rfl) (fun _ _ _ h => h) (Or.inl ⟨by rfl, by (intro W hW; go_simp)⟩) (by go_simp) ?_
        simp only [Act.put, List.getElem_toArray, List.getElem_cons_zero, List.getElem_cons_succ, List.setIfInBounds_toArray, List.set_cons_zero, List.set_cons_succ]
        refine wpAnyG_step (i := 14) (by kernel_rfl) rfl (fun K hK => ?_)
        go_simp
        refine hK _ _ (fun h => absurd rfl h) ?_
        refine wpAnyG_done (by kernel_rfl) ?_ _
        obtain ⟨cnt, hcnt⟩ : ∃ cnt : Nat, (cnt : Int) = a1 - a0 + 1 := ⟨(a1 - a0 + 1).toNat, by omega⟩
        have HCnt := Lib.hid hcnt
        have hcb : cnt ≤ 65536 := by omega
        clear hcnt
        have hrk0 : RoundK (fun k => k = w.heap.size + 1 + 1 + 1 ∨ k = w.heap.size + 1 + 1 + 1 + 1) W W.drew := (RoundK.refl _ _).drew
        obtain ⟨i0, hi0, hz0, hz1, hz2⟩ := info_parts info_int2
        gi_wp2
        gi_loopw [6] (fun s wr => ∃ (j : Nat) (v' : Value), j ≤ cnt ∧ s = .int .i64 (a0 + (j : Int)) ∧ Box wr w.heap.size 37 (.slice none 0 0) ∧ Box wr (w.heap.size + 1) 23 (.int .i64 0) ∧ Box wr (w.heap.size + 1 + 1) 37 v' ∧
            wr.ownsRow (w.heap.size + 5) 3 1 v' (acc ++ part a0 j).length ((acc ++ part a0 j).map (Value.int .i64)) ∧ Below w.heap.size w wr ∧ w.heap.size + 5 ≤ wr.heap.size ∧ RoundK (fun k => k = w.heap.size + 1 + 1 + 1 ∨ k = w.heap.size + 1 + 1 + 1 + 1) W wr)
          (fun s _ => (a1 + 1 - intOf s).toNat)
        case atStart => exact ⟨0, _, Nat.zero_le _, by simp, HI.out.b0.drew, HI.out.b1.drew, HI.out.b2.drew, by simpa [part] using own_drew HI.out.own, HI.out.below.drew, hWs, hrk0⟩
        case round =>
          obtain ⟨j, v', hj, rfl, k0, k1, k2, ko, kb, ks, kr⟩ := hrel
          have c1' := (kb.cell (p := ⟨b, o + 1, none⟩) hlt).trans CW1.out
          have cv' := k2.cell
          have fv' := k2.frozen
          have hjl : (acc ++ part a0 j).length ≤ 6553700000 := by simp [part]; omega
          have KO := Lib.hid ko
          have KB := Lib.hid kb
          have KR := Lib.hid kr
          have K0 := Lib.hid k0
          have K1 := Lib.hid k1
          have K2 := Lib.hid k2
          clear ko kb kr k0 k1 k2
          by_cases hlt2 : j < cnt
          · have hle : a0 + (j : Int) ≤ a1 := by have := HCnt.out; omega
            gi_wp2_with (gi_at_builtin; refine wpListIn_append_own _ rfl (.tmp 35) (.tmp 37) 37 rfl (w.heap.size + 5) 3 i0 (.int .i64 0) 1 8 Try.underlying37 hi0 hz0 hz1 hz2 rfl (by decide) _ _ _ rfl (KO.out.alloc _) ⟨wr.heap.size, 0, none⟩ 1 1 [.int .i64 (a0 + (j : Int))] rfl rfl (cell_one_new _ _ _) (by simp [Value.oneCell']) (by unfold maxLen; omega) (by omega) (by simp; omega) ?_)
            rintro v9 W9 ho9 hg9 hn9
            have e9 : acc.length + (part a0 j).length + 1 = (acc ++ part a0 (j + 1)).length := by simp [part_succ]; omega
            have hr9 : RoundK (fun k => k = w.heap.size + 1 + 1 + 1 ∨ k = w.heap.size + 1 + 1 + 1 + 1) W W9 := (KR.out.alloc _).grown (KO.out.alloc _) hg9 (by intro k hk; omega)
            have k09 := (K0.out.alloc _).grown hg9 (own_ne KO.out (by omega))
            have k19 := (K1.out.alloc _).grown hg9 (own_ne KO.out (by omega))
            have k29 := (K2.out.alloc _).grown hg9 (own_ne KO.out (by omega))
            have kb9 : Below w.heap.size w W9 := (KB.out.alloc (by omega) _).grown hg9 (by simp; omega) (fun k hk => by have := own_base KO.out k hk; omega)
            have ho9' : W9.ownsRow (w.heap.size + 5) 3 1 v9 (acc ++ part a0 (j + 1)).length ((acc ++ part a0 (j + 1)).map (Value.int .i64)) := by
              have : (acc ++ part a0 (j + 1)).length = acc.length + (part a0 j).length + 1 := e9.symm
              rw [this]
              simpa [part_succ] using ho9
            obtain ⟨va9, vc9, rfl⟩ : ∃ va vc, v9 = .slice va (acc ++ part a0 (j + 1)).length vc := by
              rcases ho9'.2 with ⟨hv, hv0⟩ | ⟨g, cap, cur, hv, _⟩
              · exact absurd hv hn9
              · exact ⟨_, _, hv⟩
            have cv9 := k29.cell
            have fv9 := k29.frozen
            have hs9 : w.heap.size + 5 ≤ W9.heap.size := Nat.le_trans (by simp; omega) hg9.size
            have HE9 := Lib.hid e9
            clear e9 ho9 hg9
            have HO9 := Lib.hid ho9'
            clear ho9'
            gi_wp2
            go_roundw
            case rel =>
              have hT : ∀ Z, Touch (fun k => k = w.heap.size + 1 + 1) W9 (W9.setCell ⟨w.heap.size + 1 + 1, 0, none⟩ Z) := fun Z => (Touch.refl (fun k => k = w.heap.size + 1 + 1) W9).setCell (p := ⟨w.heap.size + 1 + 1, 0, none⟩) (fun _ => rfl) Z
              have hO := fun Z => own_touch HO9.out (hT Z) (fun b hb => by have := own_base HO9.out b hb; omega)
              refine ⟨j + 1, _, by omega, by go_num, k09.other (by first | (simp; done) | omega | (simp; omega)) _, k19.other (by first | (simp; done) | omega | (simp; omega)) _, k29.set _, ?_, kb9.setCell (by first | (simp; done) | omega | (simp; omega)) _, by rw [setCell_size]; exact hs9, hr9.setCell (by first | (simp; done) | omega | (simp; omega)) _⟩
              rw [← List.length_append]
              exact hO _
            case measure => have := HCnt.out; simp [intOf]; omega
          · have hjc : j = cnt := by omega
            have HJ := Lib.hid hjc
            have hgt : ¬ a0 + (j : Int) ≤ a1 := by have := HCnt.out; omega
            clear hjc
            gi_wp2
            have hup : upto a0 a1 = part a0 j := by
              unfold upto part
              rw [show (a1 - a0 + 1).toNat = j by have := HCnt.out; have := HJ.out; omega]
            refine ⟨KR.out.others.from _, KR.out.touch, _, acc ++ part a0 j, K0.out, K1.out, K2.out, KO.out, KB.out, ks, ?_, ?_, ?_⟩
            · rw [HGo.out, if_neg (by rintro (h | h); exact absurd h (by omega); exact h HNe.out), hup]
            · have := HI.out.len
              simp [part] at this ⊢
              omega
            · intro y hy
              rcases List.mem_append.1 hy with hy | hy
              · exact HI.out.wf y hy
              · simp only [part, List.mem_map, List.mem_range] at hy
                obtain ⟨i, hi, rfl⟩ := hy
                unfold I64
                omega
      · have hd : (a2 != (acc.length : Int)) = true := by rw [bne_iff_ne]; exact hne
        gi_wp2
        refine wpIn_region_round (by kernel_rfl) (by rintro ⟨a, w, h⟩; exact h) (by kernel_rfl) ?_
        change wpAny _ _ _ _ _ _ _ (World.drew _)
        refine wpAny_of_G (last := 14) (S := fun W' => W'.cell? ⟨b, o, none⟩ = some (.int .i64 a0) ∧ W'.cell? ⟨b, o + 1, none⟩ = some (.int .i64 a1) ∧ W'.cell? ⟨b, o + 2, none⟩ = some (.int .i64 a2) ∧ W'.cell? ⟨w.heap.size + 1 + 1, 0, none⟩ = some (.slice va acc.length vc)) _ _ _ _ ?_
        refine wpAnyG_take (i := 0) (v := .slice (some ⟨b, o, none⟩) 3 3) rfl (by kernel_rfl) (by kernel_rfl) (by kernel_rfl) (by kernel_rfl) (by kernel_rfl) (fun _ _ _ h => h) (Or.inl ⟨by rfl, by (intro W hW; go_simp)⟩) (by go_simp) ?_
        refine wpAnyG_take (i := 1) (v := .pointer (some ⟨b, o + 1, none⟩)) rfl (by kernel_rfl) (by kernel_rfl) (by kernel_rfl) (by kernel_rfl) (by kernel_rfl) (fun _ _ _ h => h) (Or.inl ⟨by rfl, by (intro W hW; go_simp)⟩) (by go_simp) ?_
        refine wpAnyG_take (i := 2) (v := .int .i64 a1) rfl (by kernel_rfl) (by kernel_rfl) (by kernel_rfl) (by kernel_rfl) (by kernel_rfl) (fun _ _ _ h => h) (Or.inl ⟨by rfl, by (intro W hW; go_simp)⟩) (by go_simp) ?_
        refine wpAnyG_take (i := 3) (v := .slice (some ⟨b, o, none⟩) 3 3) rfl (by kernel_rfl) (by kernel_rfl) (by kernel_rfl) (by kernel_rfl) (by kernel_rfl) (fun _ _ _ h => h) (Or.inl ⟨by rfl, by (intro W hW; go_simp)⟩) (by go_simp) ?_
        refine wpAnyG_take (i := 4) (v := .pointer (some ⟨b, o, none⟩)) rfl (by kernel_rfl) (by kernel_rfl) (by kernel_rfl) (by kernel_rfl) (by kernel_rfl) (fun _ _ _ h => h) (Or.inl ⟨by rfl, by (intro W hW; go_simp)⟩) (by go_simp) ?_
        refine wpAnyG_take (i := 5) (v := .int .i64 a0) rfl (by kernel_rfl) (by kernel_rfl) (by kernel_rfl) (by kernel_rfl) (by kernel_rfl) (fun _ _ _ h => h) (Or.inl ⟨by rfl, by (intro W hW; go_simp)⟩) (by go_simp) ?_
        refine wpAnyG_take (i := 6) (v := .bool false) rfl (by kernel_rfl) (by kernel_rfl) (by kernel_rfl) (by kernel_rfl) (by kernel_rfl) (fun _ _ _ h => h) (Or.inl ⟨by rfl, by (intro W hW; go_simp)⟩) (by go_simp) ?_
        refine wpAnyG_take (i := 7) (v := .bool false) rfl (by kernel_rfl) (by kernel_rfl) (by kernel_rfl) (by kernel_rfl) (by kernel_rfl) (fun _ _ _ h => h) (Or.inl ⟨by rfl, by (intro W hW; go_simp)⟩) (by go_simp) ?_
        simp only [Act.put, List.getElem_toArray, List.getElem_cons_zero, List.getElem_cons_succ, List.setIfInBounds_toArray, List.set_cons_zero, List.set_cons_succ]
        refine wpAnyG_take (i := 8) (v := .slice (some ⟨b, o, none⟩) 3 3) rfl (by kernel_rfl) (by kernel_rfl) (by kernel_rfl) (by kernel_rfl) (by kernel_rfl) (fun _ _ _ h => h) (Or.inl ⟨by rfl, by (intro W hW; go_simp)⟩) (by go_simp) ?_
        simp only [Act.put, List.getElem_toArray, List.getElem_cons_zero, List.getElem_cons_succ, List.setIfInBounds_toArray, List.set_cons_zero, List.set_cons_succ]
        refine wpAnyG_take (i := 9) (v := .pointer (some ⟨b, o + 2, none⟩)) rfl (by kernel_rfl) (by kernel_rfl) (by kernel_rfl) (by kernel_rfl) (by kernel_rfl) (fun _ _ _ h => h) (Or.inl ⟨by rfl, by (intro W hW; go_simp)⟩) (by go_simp) ?_
        simp only [Act.put, List.getElem_toArray, List.getElem_cons_zero, List.getElem_cons_succ, List.setIfInBounds_toArray, List.set_cons_zero, List.set_cons_succ]
        refine wpAnyG_take (i := 10) (v := .int .i64 a2) rfl (by kernel_rfl) (by kernel_rfl) (by kernel_rfl) (by kernel_rfl) (by kernel_rfl) (fun _ _ _ h => h) (Or.inl ⟨by rfl, by (intro W hW; go_simp)⟩) (by go_simp) ?_
        simp only [Act.put, List.getElem_toArray, List.getElem_cons_zero, List.getElem_cons_succ, List.setIfInBounds_toArray, List.set_cons_zero, List.set_cons_succ]
        refine wpAnyG_take (i := 11) (v := .slice va acc.length vc) rfl (by kernel_rfl) (by kernel_rfl) (by kernel_rfl) (by kernel_rfl) (by kernel_rfl) (fun _ _ _ h => h) (Or.inl ⟨by rfl, by (intro W hW; go_simp)⟩) (by go_simp) ?_
        simp only [Act.put, List.getElem_toArray, List.getElem_cons_zero, List.getElem_cons_succ, List.setIfInBounds_toArray, List.set_cons_zero, List.set_cons_succ]
        refine wpAnyG_take (i := 12) (v := .int .i64 (acc.length : Int)) rfl (by kernel_rfl) (by kernel_rfl) (by kernel_rfl) (by kernel_rfl) (by kernel_rfl) (fun _ _ _ h => h) (Or.inl ⟨by rfl, by (intro W hW; go_simp)⟩) (by go_simp) ?_
        simp only [Act.put, List.getElem_toArray, List.getElem_cons_zero, List.getElem_cons_succ, List.setIfInBounds_toArray, List.set_cons_zero, List.set_cons_succ]
        refine wpAnyG_take (i := 13) (v := .bool true) rfl (by kernel_rfl) (by kernel_rfl) (by kernel_rfl) (by kernel_rfl) (by kernel_rfl) (fun _ _ _ h => h) (Or.inl ⟨by rfl, by (intro W hW; go_simp)⟩) (by go_simp) ?_
        simp only [Act.put, List.getElem_toArray, List.getElem_cons_zero, List.getElem_cons_succ, List.setIfInBounds_toArray, List.set_cons_zero, List.set_cons_succ]
        refine wpAnyG_step (i := 14) (by kernel_rfl) rfl (fun K hK => ?_)
        go_simp
        refine hK _ _ (fun h => absurd rfl h) ?_
        refine wpAnyG_done (by kernel_rfl) ?_ _
        gi_wp2
        have hrk : RoundK (fun k => k = w.heap.size + 1 + 1 + 1 ∨ k = w.heap.size + 1 + 1 + 1 + 1) W ((W.setCell ⟨w.heap.size, 0, none⟩ (.slice none 0 0)).setCell ⟨w.heap.size + 1, 0, none⟩ (.int .i64 5)).drew := (((RoundK.refl _ _).setCell (by first | (simp; done) | omega | (simp; omega)) _).setCell (by first | (simp; done) | omega | (simp; omega)) _).drew
        refine ⟨hrk.others.from _, rfl, (HI.out.b0.set _).other (by simp) _, (HI.out.b1.other (by simp) _).set _, ((HI.out.below.setCell (by simp) _).setCell (by simp) _).drew, by rw [drew_size, setCell_size, setCell_size]; exact hWs, ?_⟩
        rw [HGo.out, if_pos (.inr hne)]
  case done =>
    rintro D ys W hD hys ⟨v, acc, hi⟩ hK
    have hyl : ys.length = q := by have := congrArg List.length hys; simpa using this
    have hal : acc.length ≤ 6553600000 := by have := hi.len; rw [List.length_map] at this; omega
    obtain ⟨va, vc, rfl, hia, hz⟩ := own_ints hi.own hi.wf (by omega)
    have HYL := Lib.hid hyl
    have HYS := Lib.hid hys
    have hW := hi.size
    clear hyl hys
    have cv := hi.b2.cell
    have c0 := hi.b0.cell
    have f0 := hi.b0.frozen
    have c1 := hi.b1.cell
    have f1 := hi.b1.frozen
    gi_wp2
    have hDs : w.heap.size + 5 ≤ D := by have := HZ.out; omega
    have hK' : ((W.setCell ⟨w.heap.size, 0, none⟩ (.slice va acc.length vc)).setCell ⟨w.heap.size + 1, 0, none⟩ (.int .i64 0)).heap[D]? = some (.deferred (some [])) :=
      (Below.heap_setCell _ ⟨w.heap.size + 1, 0, none⟩ _ D (by first | (simp; done) | omega | (simp; omega))).trans ((Below.heap_setCell W ⟨w.heap.size, 0, none⟩ _ D (by first | (simp; done) | omega | (simp; omega))).trans hK)
    refine ⟨by simp, .inl ⟨D, _, rfl, run_takeDeferred hK', ?_⟩⟩
    have hg := grownBy_putObj' ((W.setCell ⟨w.heap.size, 0, none⟩ (.slice va acc.length vc)).setCell ⟨w.heap.size + 1, 0, none⟩ (.int .i64 0)) D (.deferred none)
    have b0' := ((hi.b0.set (.slice va acc.length vc)).other (p := ⟨w.heap.size + 1, 0, none⟩) (by first | (simp; done) | omega | (simp; omega)) (.int .i64 0)).grown hg (by simp; omega)
    have b1' := ((hi.b1.other (p := ⟨w.heap.size, 0, none⟩) (by first | (simp; done) | omega | (simp; omega)) (.slice va acc.length vc)).set (.int .i64 0)).grown hg (by simp; omega)
    have own1 := own_touch (S := fun k => k = w.heap.size ∨ k = w.heap.size + 1) hi.own (((Touch.refl (fun k => k = w.heap.size ∨ k = w.heap.size + 1) W).setCell (p := ⟨w.heap.size, 0, none⟩) (fun _ => .inl rfl) (.slice va acc.length vc)).setCell (p := ⟨w.heap.size + 1, 0, none⟩) (fun _ => .inr rfl) (.int .i64 0)) (fun b hb => by have := own_base hi.own b hb; omega)
    have own2 := own_ownFrom (B := 0) own1 hg (by intro r e; cases e; exact ⟨Nat.zero_le _, _, hK', rfl⟩)
    obtain ⟨A2, c2, e2, hia2, hz2⟩ := own_ints own2 hi.wf (by omega)
    cases e2
    have hso := hi.so
    rw [HYS.out] at hso
    have hR : RetInts w (rangesS l q) (.returned (.tuple #[.slice va acc.length vc, .int .i64 0])) (((W.setCell ⟨w.heap.size, 0, none⟩ (.slice va acc.length vc)).setCell ⟨w.heap.size + 1, 0, none⟩ (.int .i64 0)).putObj D (.deferred none)) := by
      unfold rangesS
      rw [hso]
      exact ⟨va, vc, rfl, hia2, ((hi.below.setCell (by first | (simp; done) | omega | (simp; omega)) _).setCell (by first | (simp; done) | omega | (simp; omega)) _).grown hg (by rw [setCell_size, setCell_size]; omega) (fun k hk => by cases hk; omega), hz⟩
    have e0 := b0'.cell
    have e1 := b1'.cell
    simp [LeavesInM, LeavesIn, results, Try.results38, go_sem, e0, e1, hR]
  case stop =>
    rintro D cd pre W hD hpre ⟨rfl, hst⟩ hK
    gi_wp2
    have hDs : w.heap.size + 5 ≤ D := by have := HZ.out; omega
    refine ⟨by simp, .inl ⟨D, _, rfl, run_takeDeferred hK, ?_⟩⟩
    obtain ⟨h0, h1, h2, h3, h4⟩ := hst
    obtain ⟨k, hkq, hpk⟩ := hpre
    have hg := grownBy_putObj' W D (.deferred none)
    have e0 := (h0.grown hg (by simp; omega)).cell
    have e1 := (h1.grown hg (by simp; omega)).cell
    have hR : RetInts w (rangesS l q) (.returned (.tuple #[.slice none 0 0, .int .i64 5])) (W.putObj D (.deferred none)) := by
      have : rngGo l [] (List.range q) = none := by
        rw [show List.range q = List.range k ++ (List.range (q - k)).map (k + ·) by rw [← List.range_add]; congr 1; omega, rngGo_append, ← hpk, h4]
        rfl
      unfold rangesS
      rw [this]
      exact ⟨none, 0, rfl, Ints.nil _, h2.grown hg (by omega) (fun k hk => by cases hk; omega), Cap.nil⟩
    simp [LeavesInM, LeavesIn, results, Try.results38, go_sem, e0, e1, hR]

end Go.Proofs.Ytigljfmbelaobaa
