/- Layer 12 (cover): Put. -/
import Derived.Test.YtigljfmbelaobaaSpans
import Derived.Test.YtigljfmbelaobaaConcat
import Derived.Test.YtigljfmbelaobaaBinPut
import Derived.Test.YtigljfmbelaobaaRepeat
import Derived.Shelf.Abstract
import Derived.Maps.OwnIn
import Derived.Deep.AppendLies
namespace Go.Proofs.Ytigljfmbelaobaa
open Go.RowKit Go.Shelf
attribute [local go_sem] Oper.semAt_some

theorem cells_new (w : World) (cs : Array Value) (T : TypeId) (j : Nat) : (w.alloc (.cells cs T)).cell? ((⟨w.heap.size, 0, none⟩ : Addr).add j) = cs[j]? := by
  rw [addr_add, Nat.zero_add]
  exact cell_of_heap (World.alloc_heap_new w _) j

/-- A run's three numbers. -/
def rowOf (l : List Int) (p : Nat × Nat) : List Int := [nth l p.1, nth l p.2, (p.1 : Int)]
def rowsOf (l : List Int) (ps : List (Nat × Nat)) : List Int := ps.flatMap (rowOf l)
theorem rowsOf_length (l : List Int) (ps : List (Nat × Nat)) : (rowsOf l ps).length = 3 * ps.length := by
  induction ps with
  | nil => rfl
  | cons p ps ih => rw [rowsOf, List.flatMap_cons, List.length_append, ← rowsOf, ih]; simp [rowOf]; omega
theorem rowsOf_snoc (l : List Int) (ps : List (Nat × Nat)) (p : Nat × Nat) : rowsOf l (ps ++ [p]) = rowsOf l ps ++ rowOf l p := by simp [rowsOf]
/-- The numbers that coverage of glyphs has. -/
def coverRow (l : List Int) : List Int :=
  if 3 * (spansTo l l.length).1.length ≥ l.length then [1, (l.length : Int)] ++ l else [2, ((spansTo l l.length).1.length : Int)] ++ rowsOf l (spansTo l l.length).1
def coverPutS (l : List Int) : List UInt8 × Int := if isS l = true then putS (rep [2] (coverRow l).length) (coverRow l) else ([], 1)

theorem isS_bd {l : List Int} (h : isS l = true) : ∀ x, x ∈ l → 0 ≤ x ∧ x ≤ 65534 := by
  intro x hx
  obtain ⟨j, hj, e⟩ := List.mem_iff_getElem.1 hx
  unfold isS at h
  rw [decide_eq_true_iff] at h
  have := h j hj
  rw [OkAt, nth_eq l j hj, e] at this
  exact ⟨this.1, this.2.1⟩

theorem spansTo_mem (l : List Int) : ∀ (k : Nat) (p : Nat × Nat), p ∈ (spansTo l k).1 → p.1 ≤ p.2 ∧ p.2 < k := by
  intro k
  induction k with
  | zero => intro p hp; simp [spansTo] at hp
  | succ k ih =>
    intro p hp
    unfold spansTo at hp
    split at hp
    · have := ih p hp; omega
    · rcases List.mem_append.1 hp with hp | hp
      · have := ih p hp; omega
      · obtain rfl := List.mem_singleton.1 hp
        have := spansTo_le l k
        dsimp only
        omega
theorem nth_bd {l : List Int} (hbd : ∀ x, x ∈ l → 0 ≤ x ∧ x ≤ 65534) (k : Nat) : 0 ≤ nth l k ∧ nth l k ≤ 65534 := by
  by_cases hk : k < l.length
  · exact hbd _ (nth_mem l k hk)
  · have : nth l k = 0 := by unfold nth; simp [List.getD_eq_getElem?_getD, List.getElem?_eq_none (by omega : l.length ≤ k)]
    omega
theorem rowsOf_wf {l : List Int} (hbd : ∀ x, x ∈ l → 0 ≤ x ∧ x ≤ 65534) {ps : List (Nat × Nat)} (hps : ∀ p, p ∈ ps → p.1 ≤ 100000) : ∀ y, y ∈ rowsOf l ps → I64 y := by
  intro y hy
  simp only [rowsOf, List.mem_flatMap] at hy
  obtain ⟨p, hp, hy⟩ := hy
  have h1 := nth_bd hbd p.1
  have h2 := nth_bd hbd p.2
  have h3 := hps p hp
  simp only [rowOf, List.mem_cons, List.not_mem_nil, or_false] at hy
  unfold I64
  rcases hy with rfl | rfl | rfl <;> omega

theorem ints_pair (w : World) (T : TypeId) (x y : Int) (hx : I64 x) (hy : I64 y) : Ints (w.alloc (.cells #[.int .i64 x, .int .i64 y] T)) (some ⟨w.heap.size, 0, none⟩) [x, y] := by
  refine ⟨by simp, ?_, fun j hj => ⟨w.heap.size, 0, rfl, ?_⟩⟩
  · intro z hz
    simp only [List.mem_cons, List.not_mem_nil, or_false] at hz
    rcases hz with rfl | rfl <;> assumption
  · have := cell_of_heap (World.alloc_heap_new w (.cells #[.int .i64 x, .int .i64 y] T)) (0 + j)
    rw [this]
    simp only [List.length_cons, List.length_nil] at hj
    match j, hj with
    | 0, _ => rfl
    | 1, _ => rfl

/-- Where the loop over runs stands. -/
structure PInv (w : World) (A : Option Addr) (c : Nat) (l : List Int) (pre : List (Nat × Nat)) (v : Value) (W : World) : Prop where
  b0 : Box W w.heap.size 37 (.slice A l.length c)
  b1 : Box W (w.heap.size + 1) 37 v
  own : W.ownsRow (w.heap.size + 3) 3 1 v (rowsOf l pre).length ((rowsOf l pre).map (Value.int .i64))
  below : Below w.heap.size w W
  size : w.heap.size + 3 ≤ W.heap.size

def pFrame (A : Option Addr) (n c N : Nat) (f t : Int) : Act :=
  { tmps := #[Value.slice A n c, Value.pointer (some { block := N, off := 0 }), Value.string { data := #[] }, Value.int IntKind.i64 0,
      Value.pointer (some { block := N + 1, off := 0 }), .int .i64 f, .int .i64 t, undef, Value.slice A n c, Value.bool true, Value.bool false, Value.slice A n c,
      Value.func (Fn.func 53) #[] #[Value.pointer (some { block := N + 1 + 1, off := 0 })], .int .i64 f, .int .i64 t, undef, undef, undef, undef, undef, undef, undef, undef, undef, undef, undef, undef, undef, undef, undef, undef, undef, undef, undef, undef, undef, undef, undef, undef, undef, undef, undef, undef, undef, undef, undef, undef, undef, undef, undef, undef, undef], defers := [] }

set_option maxRecDepth 100000 in
set_option maxHeartbeats 2000000 in
theorem coverPut_any (A : Option Addr) (c : Nat) (l : List Int) (w : World) (h : Ints w A l) (hc : A = none → c = 0) (hl : l.length ≤ 100000) :
    Calls Try.prog 22 #[.slice A l.length c] w (RetText w (coverPutS l)) := by
  have hb0 : Below w.heap.size w (((w.alloc (.cells #[.slice A l.length c] 37)).alloc (.cells #[.slice none 0 0] 37)).alloc (.cells #[.slice A l.length c] 37)) := by (repeat (first | exact Below.refl _ _ | assumption | (refine Below.alloc ?_ (by first | omega | (simp; done) | (simp; omega)) _) | (refine Below.setCell ?_ (by first | omega | (simp; done) | (simp; omega)) _) | (refine Below.drew ?_)))
  have bx0 := ((Box.new w 37 (.slice A l.length c)).alloc (.cells #[.slice none 0 0] 37)).alloc (.cells #[.slice A l.length c] 37)
  have bx1 := (Box.new (w.alloc (.cells #[.slice A l.length c] 37)) 37 (.slice none 0 0)).alloc (.cells #[.slice A l.length c] 37)
  have bx2 := Box.new ((w.alloc (.cells #[.slice A l.length c] 37)).alloc (.cells #[.slice none 0 0] 37)) 37 (.slice A l.length c)
  simp only [World.size_alloc] at bx1 bx2
  have hsz0 : (((w.alloc (.cells #[.slice A l.length c] 37)).alloc (.cells #[.slice none 0 0] 37)).alloc (.cells #[.slice A l.length c] 37)).heap.size = w.heap.size + 3 := by simp
  have HZ := Lib.hid hsz0
  clear hsz0
  have his := is_any A c l (w.alloc (.cells #[.slice A l.length c] 37)) (h.alloc _)
  refine (callsIn_wide (n := 4)).1 ?_
  refine callsIn_of_wp_marks Try.func22 rfl trivial ?_ rfl
  simp only [Try.ntmps22, List.size_toArray, List.length_cons, List.length_nil, Nat.reduceAdd, Nat.reduceSub, Array.replicate_succ, Array.replicate_zero, List.push_toArray, List.append_toArray, List.nil_append, List.cons_append]
  cases hs : isS l
  · rw [hs] at his
    have HIS := Lib.hid his
    have HS := Lib.hid hs
    clear hs his
    gi_wp2_with (refine ⟨trivial, ?_⟩; gi_at_call 29; refine (callsIn_wide.2 HIS.out).mono ?_; rintro e w' ⟨rfl, rfl⟩)
    have hR : RetText w (coverPutS l) (.returned (.tuple #[.string ⟨#[]⟩, .int .i64 1])) (w.alloc (.cells #[.slice A l.length c] 37)) := by
      unfold coverPutS
      rw [if_neg (by rw [HS.out]; simp)]
      exact ⟨rfl, by (repeat (first | exact Below.refl _ _ | assumption | (refine Below.alloc ?_ (by first | omega | (simp; done) | (simp; omega)) _) | (refine Below.setCell ?_ (by first | omega | (simp; done) | (simp; omega)) _) | (refine Below.drew ?_)))⟩
    simp [bodyPostM, LeavesInM, LeavesIn, results, Try.results22, go_sem, hR]
  · rw [hs] at his
    have HIS := Lib.hid his
    have HS := Lib.hid hs
    clear hs his
    gi_wp2_with (first
      | (refine ⟨trivial, ?_⟩; gi_at_call 29; refine (callsIn_wide.2 HIS.out).mono ?_; rintro e w' ⟨rfl, rfl⟩)
      | (refine ⟨trivial, ?_⟩; gi_at_call 45; refine (callsIn_wide.2 (spans_maker A l.length c _)).mono ?_; rintro e w' ⟨rfl, rfl⟩))
    generalize ((w.alloc (.cells #[.slice A l.length c] 37)).alloc (.cells #[.slice none 0 0] 37)).alloc (.cells #[.slice A l.length c] 37) = W0 at *
    have hbd := isS_bd HS.out
    refine wpIn_rangeFunc_ownG rfl (by omega) (gf := 53) (lb := #[.pointer (some ⟨w.heap.size + 1 + 1, 0, none⟩)]) rfl trivial (enters_of Try.func53 (by kernel_rfl) rfl)
      (spans_stops A c l (w.heap.size + 1 + 1) W0 (h.below hb0) (by omega) hbd bx2) spanK_t (spanK_b (by have := HZ.out; omega) (fun hne a ha => by have := HZ.out; have := h.lt hne a ha; omega)) (Below.refl _ _) (fun _ => rfl)
      (fun pre W => ∃ v, PInv w A c l (pre.map (·.val)) v W) (fun _ _ _ => False) ?hI ?hIx ?h0
      (fun x => pFrame A l.length c w.heap.size (x.val.1 : Int) (x.val.2 : Int)) ?assign ?body ?done ?stop
    case hI =>
      rintro pre W W' row ⟨v, hi⟩ hg hr
      exact ⟨v, box_ownFrom hi.b0 hg hr, box_ownFrom hi.b1 hg hr, own_ownFrom hi.own hg hr, below_ownFrom hi.below hg hr (by have := HZ.out; omega) (by have := hi.size; omega), Nat.le_trans hi.size hg.size⟩
    case hIx =>
      rintro cd pre W W' row h _ _
      exact h.elim
    case h0 => exact ⟨_, bx0, bx1, World.ownsRow_nil _ _ _ _, hb0, by have := HZ.out; omega⟩
    case assign =>
      intro l x W K hK
      gi_wp2
      exact hK
    case body =>
      rintro lr pre x W ⟨v, hi⟩ hpl
      obtain ⟨⟨f, t⟩, hft, htl⟩ := x
      dsimp only at hft htl ⊢
      obtain ⟨b, off, rfl, gf⟩ := h.cells f (by omega)
      obtain ⟨_, _, e, gt⟩ := h.cells t htl
      cases e
      have hltb := World.block_lt_of_cell? w _ gf
      have cf := (hi.below.cell (p := ⟨b, off + f, none⟩) hltb).trans gf
      have ct := (hi.below.cell (p := ⟨b, off + t, none⟩) hltb).trans gt
      have c0 := hi.b0.cell
      have c1 := hi.b1.cell
      have hWs := hi.size
      have hrl : (rowsOf l (pre.map (·.val))).length ≤ 300000 := by rw [rowsOf_length, List.length_map]; omega
      obtain ⟨va, vc, rfl⟩ : ∃ va vc, v = .slice va (rowsOf l (pre.map (·.val))).length vc := by
        rcases hi.own.2 with ⟨hv, hv0⟩ | ⟨g, cap, cur, hv, _⟩
        · exact ⟨none, 0, by rw [hv, hv0]⟩
        · exact ⟨_, _, hv⟩
      have HI := Lib.hid hi
      clear hi
      obtain ⟨i0, hi0, hz0, hz1, hz2⟩ := info_parts info_int2
      have hfl : f < l.length := by omega
      have HSN := Lib.hid (rowsOf_snoc l (pre.map (·.val)) (f, t))
      unfold pFrame
      generalize hrr : rowsOf l (pre.map (·.val)) = rr at *
      gi_wp2
      refine wpIn_region_round (by kernel_rfl) (by rintro ⟨a, w, h⟩; exact h) (by kernel_rfl) ?_
      change wpAny _ _ _ _ _ _ _ (World.drew _)
      refine wpAny_of_G (last := 12) (S := fun W' => W'.cell? ⟨w.heap.size, 0, none⟩ = some (.slice (some ⟨b, off, none⟩) l.length c) ∧ W'.cell? ⟨w.heap.size + 1, 0, none⟩ = some (.slice va rr.length vc) ∧ W'.cell? ⟨b, off + f, none⟩ = some (.int .i64 (nth l f)) ∧ W'.cell? ⟨b, off + t, none⟩ = some (.int .i64 (nth l t))) _ _ _ _ ?_
      refine wpAnyG_take (i := 0) (v := .slice va rr.length vc) rfl (by kernel_rfl) (by kernel_rfl) (by kernel_rfl) (by kernel_rfl) (by kernel_rfl) (fun _ _ _ h => h) (Or.inl ⟨by rfl, by (intro W hW; go_simp)⟩) (by go_simp) ?_
      refine wpAnyG_take (i := 1) (v := .slice (some ⟨b, off, none⟩) l.length c) rfl (by kernel_rfl) (by kernel_rfl) (by kernel_rfl) (by kernel_rfl) (by kernel_rfl) (fun _ _ _ h => h) (Or.inl ⟨by rfl, by (intro W hW; go_simp)⟩) (by go_simp) ?_
      refine wpAnyG_take (i := 2) (v := .int .i64 (f : Int)) rfl (by kernel_rfl) (by kernel_rfl) (by kernel_rfl) (by kernel_rfl) (by kernel_rfl) (fun _ _ _ h => h) (Or.inl ⟨by rfl, by (intro W hW; go_simp)⟩) (by go_simp) ?_
      simp only [Act.put, List.getElem_toArray, List.getElem_cons_zero, List.getElem_cons_succ, List.setIfInBounds_toArray, List.set_cons_zero, List.set_cons_succ]
      refine wpAnyG_take (i := 3) (v := .pointer (some ⟨b, off + f, none⟩)) rfl (by kernel_rfl) (by kernel_rfl) (by kernel_rfl) (by kernel_rfl) (by kernel_rfl) (fun _ _ _ h => h) (Or.inl ⟨by rfl, by (intro W hW; go_simp)⟩) (by go_simp) ?_
      refine wpAnyG_take (i := 4) (v := .int .i64 (nth l f)) rfl (by kernel_rfl) (by kernel_rfl) (by kernel_rfl) (by kernel_rfl) (by kernel_rfl) (fun _ _ _ h => h) (Or.inl ⟨by rfl, by (intro W hW; go_simp)⟩) (by go_simp) ?_
      refine wpAnyG_take (i := 5) (v := .slice (some ⟨b, off, none⟩) l.length c) rfl (by kernel_rfl) (by kernel_rfl) (by kernel_rfl) (by kernel_rfl) (by kernel_rfl) (fun _ _ _ h => h) (Or.inl ⟨by rfl, by (intro W hW; go_simp)⟩) (by go_simp) ?_
      simp only [Act.put, List.getElem_toArray, List.getElem_cons_zero, List.getElem_cons_succ, List.setIfInBounds_toArray, List.set_cons_zero, List.set_cons_succ]
      refine wpAnyG_take (i := 6) (v := .int .i64 (t : Int)) rfl (by kernel_rfl) (by kernel_rfl) (by kernel_rfl) (by kernel_rfl) (by kernel_rfl) (fun _ _ _ h => h) (Or.inl ⟨by rfl, by (intro W hW; go_simp)⟩) (by go_simp) ?_
      refine wpAnyG_take (i := 7) (v := .pointer (some ⟨b, off + t, none⟩)) rfl (by kernel_rfl) (by kernel_rfl) (by kernel_rfl) (by kernel_rfl) (by kernel_rfl) (fun _ _ _ h => h) (Or.inl ⟨by rfl, by (intro W hW; go_simp)⟩) (by go_simp) ?_
      simp only [Act.put, List.getElem_toArray, List.getElem_cons_zero, List.getElem_cons_succ, List.setIfInBounds_toArray, List.set_cons_zero, List.set_cons_succ]
      refine wpAnyG_take (i := 8) (v := .int .i64 (nth l t)) rfl (by kernel_rfl) (by kernel_rfl) (by kernel_rfl) (by kernel_rfl) (by kernel_rfl) (fun _ _ _ h => h) (Or.inl ⟨by rfl, by (intro W hW; go_simp)⟩) (by go_simp) ?_
      refine wpAnyG_take (i := 9) (v := .int .i64 (f : Int)) rfl (by kernel_rfl) (by kernel_rfl) (by kernel_rfl) (by kernel_rfl) (by kernel_rfl) (fun _ _ _ h => h) (Or.inl ⟨by rfl, by (intro W hW; go_simp)⟩) (by go_simp) ?_
      simp only [Act.put, List.getElem_toArray, List.getElem_cons_zero, List.getElem_cons_succ, List.setIfInBounds_toArray, List.set_cons_zero, List.set_cons_succ]
      refine wpAnyG_step (i := 10) (by kernel_rfl) rfl (fun K hK => ?_)
      go_simp
      have hp1 : PInv w (some ⟨b, off, none⟩) c l (pre.map (·.val)) (.slice va rr.length vc) (W.alloc (.cells #[.int .i64 (nth l f), .int .i64 (nth l t), .int .i64 (f : Int)] 3)).drew := by
        have h := HI.out
        exact ⟨(h.b0.alloc _).drew, (h.b1.alloc _).drew, own_drew (h.own.alloc _), (h.below.alloc (by omega) _).drew, by rw [drew_size, World.size_alloc]; omega⟩
      have hk1 : RoundK (spanB (w.heap.size + 1 + 1) (some ⟨b, off, none⟩) l) W (W.alloc (.cells #[.int .i64 (nth l f), .int .i64 (nth l t), .int .i64 (f : Int)] 3)).drew := ((RoundK.refl _ W).alloc _).drew
      have hn1 : ∀ j, (W.alloc (.cells #[.int .i64 (nth l f), .int .i64 (nth l t), .int .i64 (f : Int)] 3)).drew.cell? ((⟨W.heap.size, 0, none⟩ : Addr).add j) = _ := cells_new W #[.int .i64 (nth l f), .int .i64 (nth l t), .int .i64 (f : Int)] 3
      generalize hW1 : (W.alloc (.cells #[.int .i64 (nth l f), .int .i64 (nth l t), .int .i64 (f : Int)] 3)).drew = W1 at *
      refine hK _ _ (fun _ => ⟨hp1.b0.cell, hp1.b1.cell, (hp1.below.cell (p := ⟨b, off + f, none⟩) hltb).trans gf, (hp1.below.cell (p := ⟨b, off + t, none⟩) hltb).trans gt⟩) ?_
      have HN1 := Lib.hid hn1
      have HP1 := Lib.hid hp1
      have HW1 := Lib.hid hW1
      clear hn1 hp1 hW1
      refine wpAnyG_step (i := 11) (by kernel_rfl) rfl (fun K hK => ?_)
      refine step_append_lies _ rfl _ _ _ rfl (w.heap.size + 3) 3 i0 _ 1 8 Try.underlying37 hi0 hz0 hz1 hz2 rfl (by omega) (.slice va rr.length vc) rr.length _ rfl (by have := HP1.out.own; rwa [hrr] at this)
          ⟨W.heap.size, 0, none⟩ 3 3 [.int .i64 (nth l f), .int .i64 (nth l t), .int .i64 (f : Int)] rfl rfl (fun j u hu => by rw [HN1.out]; simpa using hu) (by simp [Value.oneCell']) (by omega) (by unfold maxLen; omega) (by omega) (by have := HP1.out.size; omega) _ rfl ?_
      intro g1 cap1 w2 hown2 hgrow hat2 hlt2
      go_simp
      have b02 := HP1.out.b0.grown hgrow (own_ne HP1.out.own (by omega))
      have b12 := HP1.out.b1.grown hgrow (own_ne HP1.out.own (by omega))
      have below2 := HP1.out.below.grown hgrow (by have := HP1.out.size; omega) (fun k hk => by have := own_base HP1.out.own k hk; omega)
      have hsz2 := Nat.le_trans HP1.out.size hgrow.size
      have hk2 := hk1.grown HP1.out.own hgrow (by rintro k (hk | ⟨_, a, ha, hk⟩); omega; cases ha; dsimp only at hk; omega)
      have hc1 := b12.cell
      have hf1 := b12.frozen
      have hrow : (rowsOf l ((pre ++ [(⟨(f, t), hft, htl⟩ : Run l)]).map (·.val))) = rr ++ [nth l f, nth l t, (f : Int)] := by
        rw [List.map_append]
        exact HSN.out
      have own3 : (w2.setCell ⟨w.heap.size + 1, 0, none⟩ (.slice (some ⟨g1, 0, none⟩) (rr.length + 3) cap1)).ownsRow (w.heap.size + 3) 3 1 (.slice (some ⟨g1, 0, none⟩) (rr.length + 3) cap1) (rowsOf l ((pre ++ [(⟨(f, t), hft, htl⟩ : Run l)]).map (·.val))).length ((rowsOf l ((pre ++ [(⟨(f, t), hft, htl⟩ : Run l)]).map (·.val))).map (Value.int .i64)) := by
        have h1 := own_touch (S := fun k => k = w.heap.size + 1) hown2 ((Touch.refl (fun k => k = w.heap.size + 1) w2).setCell (p := ⟨w.heap.size + 1, 0, none⟩) (fun _ => rfl) (.slice (some ⟨g1, 0, none⟩) (rr.length + 3) cap1)) (fun b hb => by have := own_base hown2 b hb; omega)
        rw [hrow, List.length_append, List.map_append]
        exact h1
      refine hK _ _ (fun _ => ⟨b02.cell, hc1, (below2.cell (p := ⟨b, off + f, none⟩) hltb).trans gf, (below2.cell (p := ⟨b, off + t, none⟩) hltb).trans gt⟩) ?_
      refine wpAnyG_step (i := 12) (by kernel_rfl) rfl (fun K hK => ?_)
      go_simp
      refine hK _ _ (fun h => absurd rfl h) ?_
      refine wpAnyG_done (by kernel_rfl) ?_ _
      have hk3 := hk2.setCell (p := ⟨w.heap.size + 1, 0, none⟩) (by rintro (hk | ⟨_, a, ha, hk⟩); exact absurd hk (by simp); cases ha; dsimp only at hk; omega) (.slice (some ⟨g1, 0, none⟩) (rr.length + 3) cap1)
      exact ⟨hk3.others.from _, hk3.touch, _, b02.other (by first | (simp; done) | omega | (simp; omega)) _, b12.set _, own3, below2.setCell (by first | (simp; done) | omega | (simp; omega)) _, by rw [setCell_size]; exact hsz2⟩
    case done =>
      rintro D ys W hD hys ⟨v, hi⟩ hK0
      have hK := hK0
      rw [hys] at hi
      have hql := spansTo_length l l.length
      have hpm := fun p hp => (spansTo_mem l l.length p hp)
      generalize hps : (spansTo l l.length).1 = ps at *
      have HPS := Lib.hid hps
      clear hps
      obtain ⟨va, vc, rfl, hia, hz⟩ := own_ints hi.own (rowsOf_wf hbd fun p hp => by have := hpm p hp; omega) (by rw [rowsOf_length]; omega)
      have HRL := Lib.hid (rowsOf_length l ps)
      have hsz := hi.size
      have HI := Lib.hid hi
      have c0 := hi.b0.cell
      have c1 := hi.b1.cell
      have f1 := hi.b1.frozen
      have HQL := Lib.hid hql
      have hrr3 : (rowsOf l ps).length ≤ 300000 := by rw [HRL.out]; omega
      have hdiv : ((rowsOf l ps).length : Int) / 3 = (ps.length : Int) := by rw [HRL.out]; omega
      have hp5 : (ps.length : Int) ≤ 100000 := by omega
      have HRR := Lib.hid (rfl : rowsOf l ps = rowsOf l ps)
      generalize hrr : rowsOf l ps = rr at *
      have HR := Lib.hid hrr
      clear hi hrr hql
      have a0 : ∀ o, (W.alloc o).cell? ⟨w.heap.size, 0, none⟩ = some (.slice A l.length c) := fun o => ((HI.out.b0.alloc o).cell)
      have a1 : ∀ o, (W.alloc o).cell? ⟨w.heap.size + 1, 0, none⟩ = some (.slice va rr.length vc) := fun o => ((HI.out.b1.alloc o).cell)
      by_cases hge : l.length ≤ rr.length
      · gi_wp2
        refine wpIn_wide.2 ?_
        refine wp_region_any (by kernel_rfl) ?_
        change wpAny _ _ _ _ _ _ _ (World.drew _)
        refine wpAny_keep (PP := fun _ _ _ => False) (fun _ => True) (fun _ _ _ _ _ _ _ _ => trivial) (fun _ _ _ _ h => h.elim) _ _ _ _ trivial ?_
        refine wpAny_of_G (last := 5) (S := fun W => W.cell? ⟨w.heap.size, 0, none⟩ = some (.slice A l.length c)) _ _ _ _ ?_
        refine wpAnyG_take (i := 0) (v := .slice A l.length c) rfl (by kernel_rfl) (by kernel_rfl) (by kernel_rfl) (by kernel_rfl) (by kernel_rfl) (fun _ _ _ h => h) (Or.inl ⟨by rfl, by (intro W hW; go_simp)⟩) (by go_simp) ?_
        refine wpAnyG_take (i := 1) (v := .int .i64 (l.length : Int)) rfl (by kernel_rfl) (by kernel_rfl) (by kernel_rfl) (by kernel_rfl) (by kernel_rfl) (fun _ _ _ h => h) (Or.inl ⟨by rfl, by (intro W hW; go_simp)⟩) (by go_simp) ?_
        simp only [Act.put, List.getElem_toArray, List.getElem_cons_zero, List.getElem_cons_succ, List.setIfInBounds_toArray, List.set_cons_zero, List.set_cons_succ]
        refine wpAnyG_take (i := 3) (v := .slice A l.length c) rfl (by kernel_rfl) (by kernel_rfl) (by kernel_rfl) (by kernel_rfl) (by kernel_rfl) (fun _ _ _ h => h) (Or.inl ⟨by rfl, by (intro W hW; go_simp)⟩) (by go_simp) ?_
        simp only [Act.put, List.getElem_toArray, List.getElem_cons_zero, List.getElem_cons_succ, List.setIfInBounds_toArray, List.set_cons_zero, List.set_cons_succ]
        refine wpAnyG_step (i := 2) (by kernel_rfl) rfl (fun K hK => ?_)
        go_simp
        refine hK _ _ (fun _ => ((HI.out.b0.alloc _).alloc _).drew.cell) ?_
        refine wpAnyG_step (i := 4) (by kernel_rfl) rfl (fun K hK => ?_)
        go_simp
        refine hK _ _ (fun _ => ((HI.out.b0.alloc _).alloc _).drew.cell) ?_
        refine wpAnyG_step (i := 5) (by kernel_rfl) rfl (fun K hK => ?_)
        have hcc := ((HI.out.b1.alloc (.cells #[.int .i64 2, .int .i64 (ps.length : Int)] 3)).alloc (.cells #[.int .i64 1, .int .i64 (l.length : Int)] 3)).drew.cell
        have hff := ((HI.out.b1.alloc (.cells #[.int .i64 2, .int .i64 (ps.length : Int)] 3)).alloc (.cells #[.int .i64 1, .int .i64 (l.length : Int)] 3)).drew.frozen
        go_simp
        refine hK _ _ (fun h => absurd rfl h) ?_
        refine wpAnyG_done (by kernel_rfl) ?_ _
        simp only [Qk]
        have hDw := HZ.out
        have hDl := (Array.getElem?_eq_some_iff.1 hK0).1
        have hTc : Touch (fun k => k = w.heap.size + 1) ((W.alloc (.cells #[.int .i64 2, .int .i64 (ps.length : Int)] 3)).alloc (.cells #[.int .i64 1, .int .i64 (l.length : Int)] 3)) (((W.alloc (.cells #[.int .i64 2, .int .i64 (ps.length : Int)] 3)).alloc (.cells #[.int .i64 1, .int .i64 (l.length : Int)] 3)).setCell ⟨w.heap.size + 1, 0, none⟩ (.slice A l.length c)).drew := ((Touch.refl (fun k => k = w.heap.size + 1) ((W.alloc (.cells #[.int .i64 2, .int .i64 (ps.length : Int)] 3)).alloc (.cells #[.int .i64 1, .int .i64 (l.length : Int)] 3))).setCell (p := ⟨w.heap.size + 1, 0, none⟩) (fun _ => rfl) _).drew
        have hI1c : Ints (((W.alloc (.cells #[.int .i64 2, .int .i64 (ps.length : Int)] 3)).alloc (.cells #[.int .i64 1, .int .i64 (l.length : Int)] 3)).setCell ⟨w.heap.size + 1, 0, none⟩ (.slice A l.length c)).drew (some ⟨W.heap.size + 1, 0, none⟩) [1, (l.length : Int)] := by
          have := (ints_pair (W.alloc (.cells #[.int .i64 2, .int .i64 (ps.length : Int)] 3)) 3 1 (l.length : Int) (by unfold I64; omega) (by unfold I64; omega))
          rw [World.size_alloc] at this
          exact this.touch hTc (fun a ha => by cases ha; simp; omega)
        have hI2c : Ints (((W.alloc (.cells #[.int .i64 2, .int .i64 (ps.length : Int)] 3)).alloc (.cells #[.int .i64 1, .int .i64 (l.length : Int)] 3)).setCell ⟨w.heap.size + 1, 0, none⟩ (.slice A l.length c)).drew A l := by
          by_cases hnil : l = []
          · have h0 : ∀ X, Ints X A l := fun X => by rw [hnil]; exact Ints.empty X A
            exact h0 _
          · exact (((h.below HI.out.below).alloc (.cells #[.int .i64 2, .int .i64 (ps.length : Int)] 3)).alloc (.cells #[.int .i64 1, .int .i64 (l.length : Int)] 3)).touch hTc (fun a ha => by have := h.lt hnil a ha; omega)
        have hBc := (((HI.out.b1.alloc (.cells #[.int .i64 2, .int .i64 (ps.length : Int)] 3)).alloc (.cells #[.int .i64 1, .int .i64 (l.length : Int)] 3)).set (.slice A l.length c)).drew
        have hLc := (((HI.out.below.alloc (by omega) (.cells #[.int .i64 2, .int .i64 (ps.length : Int)] 3)).alloc (by rw [World.size_alloc]; omega) (.cells #[.int .i64 1, .int .i64 (l.length : Int)] 3)).setCell (p := ⟨w.heap.size + 1, 0, none⟩) (by first | (simp; done) | omega | (simp; omega)) (.slice A l.length c)).drew
        have hDc : (((W.alloc (.cells #[.int .i64 2, .int .i64 (ps.length : Int)] 3)).alloc (.cells #[.int .i64 1, .int .i64 (l.length : Int)] 3)).setCell ⟨w.heap.size + 1, 0, none⟩ (.slice A l.length c)).drew.heap[D]? = some (.deferred (some [])) := (Below.heap_setCell ((W.alloc (.cells #[.int .i64 2, .int .i64 (ps.length : Int)] 3)).alloc (.cells #[.int .i64 1, .int .i64 (l.length : Int)] 3)) ⟨w.heap.size + 1, 0, none⟩ (.slice A l.length c) D (by first | (simp; done) | omega | (simp; omega))).trans ((Below.heap_alloc (W.alloc (.cells #[.int .i64 2, .int .i64 (ps.length : Int)] 3)) (.cells #[.int .i64 1, .int .i64 (l.length : Int)] 3) D (by rw [World.size_alloc]; omega)).trans ((Below.heap_alloc W (.cells #[.int .i64 2, .int .i64 (ps.length : Int)] 3) D hDl).trans hK0))
        have hSc : (((W.alloc (.cells #[.int .i64 2, .int .i64 (ps.length : Int)] 3)).alloc (.cells #[.int .i64 1, .int .i64 (l.length : Int)] 3)).setCell ⟨w.heap.size + 1, 0, none⟩ (.slice A l.length c)).drew.heap.size = W.heap.size + 2 := by rw [drew_size, setCell_size, World.size_alloc, World.size_alloc]
        clear hTc hcc hff
        generalize (((W.alloc (.cells #[.int .i64 2, .int .i64 (ps.length : Int)] 3)).alloc (.cells #[.int .i64 1, .int .i64 (l.length : Int)] 3)).setCell ⟨w.heap.size + 1, 0, none⟩ (.slice A l.length c)).drew = Wc at *
        have hbh : (Wc.alloc (.cells #[.slice (some ⟨W.heap.size + 1, 0, none⟩) 2 2, .slice A l.length c] 37)).heap[W.heap.size + 2]? = some (.cells #[.slice (some ⟨W.heap.size + 1, 0, none⟩) 2 2, .slice A l.length c] 37 (0, 0)) := by
          have := World.alloc_heap_new Wc (.cells #[.slice (some ⟨W.heap.size + 1, 0, none⟩) 2 2, .slice A l.length c] 37)
          rwa [hSc] at this
        have hct := concat_two (W.heap.size + 2) _ A 2 c [1, (l.length : Int)] l _ hbh (hI1c.alloc (.cells #[.slice (some ⟨W.heap.size + 1, 0, none⟩) 2 2, .slice A l.length c] 37)) (fun h => by cases h) (hI2c.alloc (.cells #[.slice (some ⟨W.heap.size + 1, 0, none⟩) 2 2, .slice A l.length c] 37)) hc (by simp) (by omega)
        have HCT := Lib.hid hct
        have HBX := Lib.hid (hBc.alloc (.cells #[.slice (some ⟨W.heap.size + 1, 0, none⟩) 2 2, .slice A l.length c] 37))
        have HBL := Lib.hid (hLc.alloc (by omega) (.cells #[.slice (some ⟨W.heap.size + 1, 0, none⟩) 2 2, .slice A l.length c] 37))
        have HDB := Lib.hid ((Below.heap_alloc Wc (.cells #[.slice (some ⟨W.heap.size + 1, 0, none⟩) 2 2, .slice A l.length c] 37) D (by omega)).trans hDc)
        have HSZB := Lib.hid (show w.heap.size + 3 ≤ (Wc.alloc (.cells #[.slice (some ⟨W.heap.size + 1, 0, none⟩) 2 2, .slice A l.length c] 37)).heap.size by rw [World.size_alloc]; omega)
        have HROW := Lib.hid (show coverRow l = [1, (l.length : Int)] ++ l by unfold coverRow; rw [HPS.out, if_pos (by rw [HRL.out] at hge; omega)])
        have hcWc := hBc.cell
        clear hbh hI1c hI2c hLc hDc hct
        gi_wp2_with fail
        generalize Wc.alloc (.cells #[.slice (some ⟨W.heap.size + 1, 0, none⟩) 2 2, .slice A l.length c] 37) = Wb at *
        refine ⟨trivial, ?_⟩
        refine (callsIn_wide.2 HCT.out).mono ?_
        rintro e w3 ⟨v3, rfl, ⟨A3, c3, rfl, hi3, hz3⟩, hb3⟩
        have hbx3 := HBX.out.below' hb3
        have hbl3 := HBL.out.trans (hb3.mono (by have := HSZB.out; omega))
        have hD3 := (hb3.block D (Array.getElem?_eq_some_iff.1 HDB.out).1).trans HDB.out
        have hsz3 : w.heap.size + 3 ≤ w3.heap.size := Nat.le_trans HSZB.out hb3.size
        rw [← HROW.out] at hi3 hz3 ⊢
        have hcl : (coverRow l).length ≤ 300002 := by rw [HROW.out]; simp; omega
        have hcx := hbx3.cell
        have hfx := hbx3.frozen
        generalize hcrow : coverRow l = row at *
        have HCROW := Lib.hid hcrow
        clear hcrow
        gi_wp2
        have hi4 : Ints (w3.setCell ⟨w.heap.size + 1, 0, none⟩ (.slice A3 row.length c3)) A3 row := hi3.touch (S := fun k => k = w.heap.size + 1) ((Touch.refl (fun k => k = w.heap.size + 1) w3).setCell (p := ⟨w.heap.size + 1, 0, none⟩) (fun _ => rfl) _) (hi3.ne_box (by rw [HROW.out]; simp) hbx3)
        have hbx4 := hbx3.set (.slice A3 row.length c3)
        have hbl4 := hbl3.setCell (p := ⟨w.heap.size + 1, 0, none⟩) (by first | (simp; done) | omega | (simp; omega)) (.slice A3 row.length c3)
        have hDw := HZ.out
        have hD4 := (Below.heap_setCell w3 ⟨w.heap.size + 1, 0, none⟩ (.slice A3 row.length c3) D (by first | (simp; done) | omega | (simp; omega))).trans hD3
        have hsz4 : w.heap.size + 3 ≤ (w3.setCell ⟨w.heap.size + 1, 0, none⟩ (.slice A3 row.length c3)).heap.size := by rw [setCell_size]; exact hsz3
        have hcx4 := hbx4.cell
        generalize w3.setCell ⟨w.heap.size + 1, 0, none⟩ (.slice A3 row.length c3) = w4 at *
        refine wpIn_wide.2 ?_
        refine wp_region_any (by kernel_rfl) ?_
        change wpAny _ _ _ _ _ _ _ (World.drew _)
        refine wpAny_keep (PP := fun _ _ _ => False) (fun _ => True) (fun _ _ _ _ _ _ _ _ => trivial) (fun _ _ _ _ h => h.elim) _ _ _ _ trivial ?_
        refine wpAny_of_G (last := 9) (S := fun W => W.cell? ⟨w.heap.size + 1, 0, none⟩ = some (.slice A3 row.length c3)) _ _ _ _ ?_
        refine wpAnyG_take (i := 1) (v := .slice A3 row.length c3) rfl (by kernel_rfl) (by kernel_rfl) (by kernel_rfl) (by kernel_rfl) (by kernel_rfl) (fun _ _ _ h => h) (Or.inl ⟨by rfl, by (intro W hW; go_simp)⟩) (by go_simp) ?_
        refine wpAnyG_take (i := 2) (v := .int .i64 (row.length : Int)) rfl (by kernel_rfl) (by kernel_rfl) (by kernel_rfl) (by kernel_rfl) (by kernel_rfl) (fun _ _ _ h => h) (Or.inl ⟨by rfl, by (intro W hW; go_simp)⟩) (by go_simp) ?_
        simp only [Act.put, List.getElem_toArray, List.getElem_cons_zero, List.getElem_cons_succ, List.setIfInBounds_toArray, List.set_cons_zero, List.set_cons_succ]
        refine wpAnyG_take (i := 4) (v := .slice A3 row.length c3) rfl (by kernel_rfl) (by kernel_rfl) (by kernel_rfl) (by kernel_rfl) (by kernel_rfl) (fun _ _ _ h => h) (Or.inl ⟨by rfl, by (intro W hW; go_simp)⟩) (by go_simp) ?_
        simp only [Act.put, List.getElem_toArray, List.getElem_cons_zero, List.getElem_cons_succ, List.setIfInBounds_toArray, List.set_cons_zero, List.set_cons_succ]
        refine wpAnyG_step (i := 0) (by kernel_rfl) rfl (fun K hK => ?_)
        go_simp
        have hbx5 := (hbx4.alloc (.cells #[.int .i64 2] 3)).drew
        have hI5 := (ints_cell w4 3 2 (by unfold I64; omega)).drew
        have hi5 := (hi4.alloc (.cells #[.int .i64 2] 3)).drew
        have hbl5 := (hbl4.alloc (by omega) (.cells #[.int .i64 2] 3)).drew
        have hD5 : (w4.alloc (.cells #[.int .i64 2] 3)).drew.heap[D]? = some (.deferred (some [])) := (Below.heap_alloc w4 _ D (Array.getElem?_eq_some_iff.1 hD4).1).trans hD4
        have hsz5 : w.heap.size + 3 ≤ (w4.alloc (.cells #[.int .i64 2] 3)).drew.heap.size := by rw [drew_size, World.size_alloc]; omega
        refine hK _ _ (fun _ => hbx5.cell) ?_
        generalize (w4.alloc (.cells #[.int .i64 2] 3)).drew = w5 at *
        refine wpAnyG_step (i := 3) (by kernel_rfl) rfl (fun K hK => ?_)
        go_simp
        refine (repeat_any _ 1 [2] row.length w5 hI5 (by simp) (by simp) (by omega)).mono ?_
        rintro e w6 ⟨A6, c6, rfl, hi6, hb6⟩
        have hbx6 := hbx5.below' hb6
        have hbl6 := hbl5.trans (hb6.mono (by omega))
        have hD6 := (hb6.block D (Array.getElem?_eq_some_iff.1 hD5).1).trans hD5
        have hsz6 : w.heap.size + 3 ≤ w6.heap.size := Nat.le_trans hsz5 hb6.size
        refine hK _ _ (fun _ => hbx6.cell) ?_
        refine wpAnyG_step (i := 5) (by kernel_rfl) rfl (fun K hK => ?_)
        go_simp
        refine (put_any A6 A3 c6 c3 (rep [2] row.length) row w6 hi6 (hi5.below hb6) (by rw [rep_length]; simp; omega)).mono ?_
        rintro e w7 ⟨rfl, hb7⟩
        have hbx7 := hbx6.below' hb7
        have hbl7 := hbl6.trans (hb7.mono (by omega))
        have hcx7 := hbx7.cell
        have hD7 := (hb7.block D (Array.getElem?_eq_some_iff.1 hD6).1).trans hD6
        refine hK _ _ (fun _ => hbx7.cell) ?_
        refine wpAnyG_take (i := 6) (v := .string ⟨(putS (rep [2] row.length) row).1.toArray⟩) rfl (by kernel_rfl) (by kernel_rfl) (by kernel_rfl) (by kernel_rfl) (by kernel_rfl) (fun _ _ _ h => h) (Or.inl ⟨by rfl, by (intro W hW; go_simp)⟩) (by go_simp) ?_
        refine wpAnyG_take (i := 7) (v := .int .i64 (putS (rep [2] row.length) row).2) rfl (by kernel_rfl) (by kernel_rfl) (by kernel_rfl) (by kernel_rfl) (by kernel_rfl) (fun _ _ _ h => h) (Or.inl ⟨by rfl, by (intro W hW; go_simp)⟩) (by go_simp) ?_
        simp only [Act.put, List.getElem_toArray, List.getElem_cons_zero, List.getElem_cons_succ, List.setIfInBounds_toArray, List.set_cons_zero, List.set_cons_succ]
        refine wpAnyG_step (i := 8) (by kernel_rfl) rfl (fun K hK => ?_)
        go_simp
        refine hK _ _ (fun _ => hbx7.cell) ?_
        refine wpAnyG_step (i := 9) (by kernel_rfl) rfl (fun K hK => ?_)
        go_simp
        refine hK _ _ (fun h => absurd rfl h) ?_
        refine wpAnyG_done (by kernel_rfl) ?_ _
        simp only [Qk]
        gi_wp2
        refine ⟨by simp, .inl ⟨D, _, rfl, run_takeDeferred hD7, ?_⟩⟩
        have hg := grownBy_putObj' w7 D (.deferred none)
        have hR : RetText w (coverPutS l) (.returned (.tuple #[.string ⟨(putS (rep [2] row.length) row).1.toArray⟩, .int .i64 (putS (rep [2] row.length) row).2])) (w7.putObj D (.deferred none)) := by
          unfold coverPutS
          rw [if_pos HS.out, HCROW.out]
          exact ⟨rfl, hbl7.grown hg (by have := hb7.size; omega) (fun k hk => by cases hk; omega)⟩
        simp [LeavesInM, LeavesIn, results, Try.results22, go_sem, hR]
      · have hbh : ((W.alloc (.cells #[.int .i64 2, .int .i64 (ps.length : Int)] 3)).alloc (.cells #[.slice (some ⟨W.heap.size, 0, none⟩) 2 2, .slice va rr.length vc] 37)).heap[W.heap.size + 1]? = some (.cells #[.slice (some ⟨W.heap.size, 0, none⟩) 2 2, .slice va rr.length vc] 37 (0, 0)) := by
          have := World.alloc_heap_new (W.alloc (.cells #[.int .i64 2, .int .i64 (ps.length : Int)] 3)) (.cells #[.slice (some ⟨W.heap.size, 0, none⟩) 2 2, .slice va rr.length vc] 37)
          rwa [World.size_alloc] at this
        have hI1 := (ints_pair W 3 2 (ps.length : Int) (by unfold I64; omega) (by unfold I64; omega)).alloc (.cells #[.slice (some ⟨W.heap.size, 0, none⟩) 2 2, .slice va rr.length vc] 37)
        have hI2 := (hia.alloc (.cells #[.int .i64 2, .int .i64 (ps.length : Int)] 3)).alloc (.cells #[.slice (some ⟨W.heap.size, 0, none⟩) 2 2, .slice va rr.length vc] 37)
        have hbx := (HI.out.b1.alloc (.cells #[.int .i64 2, .int .i64 (ps.length : Int)] 3)).alloc (.cells #[.slice (some ⟨W.heap.size, 0, none⟩) 2 2, .slice va rr.length vc] 37)
        have hbl := (HI.out.below.alloc (by omega) (.cells #[.int .i64 2, .int .i64 (ps.length : Int)] 3)).alloc (by rw [World.size_alloc]; omega) (.cells #[.slice (some ⟨W.heap.size, 0, none⟩) 2 2, .slice va rr.length vc] 37)
        have hDl := (Array.getElem?_eq_some_iff.1 hK).1
        have hDb : ((W.alloc (.cells #[.int .i64 2, .int .i64 (ps.length : Int)] 3)).alloc (.cells #[.slice (some ⟨W.heap.size, 0, none⟩) 2 2, .slice va rr.length vc] 37)).heap[D]? = some (.deferred (some [])) := (Below.heap_alloc _ _ _ (by rw [World.size_alloc]; omega)).trans ((Below.heap_alloc _ _ _ hDl).trans hK)
        have hct := concat_two (W.heap.size + 1) _ va 2 vc [2, (ps.length : Int)] rr _ hbh hI1 (fun h => by cases h) hI2 hz.1 (by simp) (by omega)
        have HCT := Lib.hid hct
        have HBX := Lib.hid hbx
        have HBL := Lib.hid hbl
        have HDB := Lib.hid hDb
        have hszb : w.heap.size + 3 ≤ ((W.alloc (.cells #[.int .i64 2, .int .i64 (ps.length : Int)] 3)).alloc (.cells #[.slice (some ⟨W.heap.size, 0, none⟩) 2 2, .slice va rr.length vc] 37)).heap.size := by simp; omega
        have HSZB := Lib.hid hszb
        have HROW := Lib.hid (show coverRow l = [2, (ps.length : Int)] ++ rr by unfold coverRow; rw [HPS.out, if_neg (by rw [HRL.out] at hge; omega)]; rw [HR.out])
        clear hbh hI1 hI2 hbx hbl hDb hct hszb
        gi_wp2_with fail
        generalize (W.alloc (.cells #[.int .i64 2, .int .i64 (ps.length : Int)] 3)).alloc (.cells #[.slice (some ⟨W.heap.size, 0, none⟩) 2 2, .slice va rr.length vc] 37) = Wb at *
        refine ⟨trivial, ?_⟩
        refine (callsIn_wide.2 HCT.out).mono ?_
        rintro e w3 ⟨v3, rfl, ⟨A3, c3, rfl, hi3, hz3⟩, hb3⟩
        have hbx3 := HBX.out.below' hb3
        have hbl3 := HBL.out.trans (hb3.mono (by have := HSZB.out; omega))
        have hD3 := (hb3.block D (Array.getElem?_eq_some_iff.1 HDB.out).1).trans HDB.out
        have hsz3 : w.heap.size + 3 ≤ w3.heap.size := Nat.le_trans HSZB.out hb3.size
        rw [← HROW.out] at hi3 hz3 ⊢
        have hcl : (coverRow l).length ≤ 300002 := by rw [HROW.out]; simp; omega
        have hcx := hbx3.cell
        have hfx := hbx3.frozen
        generalize hcrow : coverRow l = row at *
        have HCROW := Lib.hid hcrow
        clear hcrow
        gi_wp2
        have hi4 : Ints (w3.setCell ⟨w.heap.size + 1, 0, none⟩ (.slice A3 row.length c3)) A3 row := hi3.touch (S := fun k => k = w.heap.size + 1) ((Touch.refl (fun k => k = w.heap.size + 1) w3).setCell (p := ⟨w.heap.size + 1, 0, none⟩) (fun _ => rfl) _) (hi3.ne_box (by rw [HROW.out]; simp) hbx3)
        have hbx4 := hbx3.set (.slice A3 row.length c3)
        have hbl4 := hbl3.setCell (p := ⟨w.heap.size + 1, 0, none⟩) (by first | (simp; done) | omega | (simp; omega)) (.slice A3 row.length c3)
        have hDw := HZ.out
        have hD4 := (Below.heap_setCell w3 ⟨w.heap.size + 1, 0, none⟩ (.slice A3 row.length c3) D (by first | (simp; done) | omega | (simp; omega))).trans hD3
        have hsz4 : w.heap.size + 3 ≤ (w3.setCell ⟨w.heap.size + 1, 0, none⟩ (.slice A3 row.length c3)).heap.size := by rw [setCell_size]; exact hsz3
        have hcx4 := hbx4.cell
        generalize w3.setCell ⟨w.heap.size + 1, 0, none⟩ (.slice A3 row.length c3) = w4 at *
        refine wpIn_wide.2 ?_
        refine wp_region_any (by kernel_rfl) ?_
        change wpAny _ _ _ _ _ _ _ (World.drew _)
        refine wpAny_keep (PP := fun _ _ _ => False) (fun _ => True) (fun _ _ _ _ _ _ _ _ => trivial) (fun _ _ _ _ h => h.elim) _ _ _ _ trivial ?_
        refine wpAny_of_G (last := 9) (S := fun W => W.cell? ⟨w.heap.size + 1, 0, none⟩ = some (.slice A3 row.length c3)) _ _ _ _ ?_
        refine wpAnyG_take (i := 1) (v := .slice A3 row.length c3) rfl (by kernel_rfl) (by kernel_rfl) (by kernel_rfl) (by kernel_rfl) (by kernel_rfl) (fun _ _ _ h => h) (Or.inl ⟨by rfl, by (intro W hW; go_simp)⟩) (by go_simp) ?_
        refine wpAnyG_take (i := 2) (v := .int .i64 (row.length : Int)) rfl (by kernel_rfl) (by kernel_rfl) (by kernel_rfl) (by kernel_rfl) (by kernel_rfl) (fun _ _ _ h => h) (Or.inl ⟨by rfl, by (intro W hW; go_simp)⟩) (by go_simp) ?_
        simp only [Act.put, List.getElem_toArray, List.getElem_cons_zero, List.getElem_cons_succ, List.setIfInBounds_toArray, List.set_cons_zero, List.set_cons_succ]
        refine wpAnyG_take (i := 4) (v := .slice A3 row.length c3) rfl (by kernel_rfl) (by kernel_rfl) (by kernel_rfl) (by kernel_rfl) (by kernel_rfl) (fun _ _ _ h => h) (Or.inl ⟨by rfl, by (intro W hW; go_simp)⟩) (by go_simp) ?_
        simp only [Act.put, List.getElem_toArray, List.getElem_cons_zero, List.getElem_cons_succ, List.setIfInBounds_toArray, List.set_cons_zero, List.set_cons_succ]
        refine wpAnyG_step (i := 0) (by kernel_rfl) rfl (fun K hK => ?_)
        go_simp
        have hbx5 := (hbx4.alloc (.cells #[.int .i64 2] 3)).drew
        have hI5 := (ints_cell w4 3 2 (by unfold I64; omega)).drew
        have hi5 := (hi4.alloc (.cells #[.int .i64 2] 3)).drew
        have hbl5 := (hbl4.alloc (by omega) (.cells #[.int .i64 2] 3)).drew
        have hD5 : (w4.alloc (.cells #[.int .i64 2] 3)).drew.heap[D]? = some (.deferred (some [])) := (Below.heap_alloc w4 _ D (Array.getElem?_eq_some_iff.1 hD4).1).trans hD4
        have hsz5 : w.heap.size + 3 ≤ (w4.alloc (.cells #[.int .i64 2] 3)).drew.heap.size := by rw [drew_size, World.size_alloc]; omega
        refine hK _ _ (fun _ => hbx5.cell) ?_
        generalize (w4.alloc (.cells #[.int .i64 2] 3)).drew = w5 at *
        refine wpAnyG_step (i := 3) (by kernel_rfl) rfl (fun K hK => ?_)
        go_simp
        refine (repeat_any _ 1 [2] row.length w5 hI5 (by simp) (by simp) (by omega)).mono ?_
        rintro e w6 ⟨A6, c6, rfl, hi6, hb6⟩
        have hbx6 := hbx5.below' hb6
        have hbl6 := hbl5.trans (hb6.mono (by omega))
        have hD6 := (hb6.block D (Array.getElem?_eq_some_iff.1 hD5).1).trans hD5
        have hsz6 : w.heap.size + 3 ≤ w6.heap.size := Nat.le_trans hsz5 hb6.size
        refine hK _ _ (fun _ => hbx6.cell) ?_
        refine wpAnyG_step (i := 5) (by kernel_rfl) rfl (fun K hK => ?_)
        go_simp
        refine (put_any A6 A3 c6 c3 (rep [2] row.length) row w6 hi6 (hi5.below hb6) (by rw [rep_length]; simp; omega)).mono ?_
        rintro e w7 ⟨rfl, hb7⟩
        have hbx7 := hbx6.below' hb7
        have hbl7 := hbl6.trans (hb7.mono (by omega))
        have hcx7 := hbx7.cell
        have hD7 := (hb7.block D (Array.getElem?_eq_some_iff.1 hD6).1).trans hD6
        refine hK _ _ (fun _ => hbx7.cell) ?_
        refine wpAnyG_take (i := 6) (v := .string ⟨(putS (rep [2] row.length) row).1.toArray⟩) rfl (by kernel_rfl) (by kernel_rfl) (by kernel_rfl) (by kernel_rfl) (by kernel_rfl) (fun _ _ _ h => h) (Or.inl ⟨by rfl, by (intro W hW; go_simp)⟩) (by go_simp) ?_
        refine wpAnyG_take (i := 7) (v := .int .i64 (putS (rep [2] row.length) row).2) rfl (by kernel_rfl) (by kernel_rfl) (by kernel_rfl) (by kernel_rfl) (by kernel_rfl) (fun _ _ _ h => h) (Or.inl ⟨by rfl, by (intro W hW; go_simp)⟩) (by go_simp) ?_
        simp only [Act.put, List.getElem_toArray, List.getElem_cons_zero, List.getElem_cons_succ, List.setIfInBounds_toArray, List.set_cons_zero, List.set_cons_succ]
        refine wpAnyG_step (i := 8) (by kernel_rfl) rfl (fun K hK => ?_)
        go_simp
        refine hK _ _ (fun _ => hbx7.cell) ?_
        refine wpAnyG_step (i := 9) (by kernel_rfl) rfl (fun K hK => ?_)
        go_simp
        refine hK _ _ (fun h => absurd rfl h) ?_
        refine wpAnyG_done (by kernel_rfl) ?_ _
        simp only [Qk]
        gi_wp2
        refine ⟨by simp, .inl ⟨D, _, rfl, run_takeDeferred hD7, ?_⟩⟩
        have hg := grownBy_putObj' w7 D (.deferred none)
        have hR : RetText w (coverPutS l) (.returned (.tuple #[.string ⟨(putS (rep [2] row.length) row).1.toArray⟩, .int .i64 (putS (rep [2] row.length) row).2])) (w7.putObj D (.deferred none)) := by
          unfold coverPutS
          rw [if_pos HS.out, HCROW.out]
          exact ⟨rfl, hbl7.grown hg (by have := hb7.size; omega) (fun k hk => by cases hk; omega)⟩
        simp [LeavesInM, LeavesIn, results, Try.results22, go_sem, hR]
    case stop =>
      rintro D cd pre W hD hpre hst hK
      exact hst.elim

end Go.Proofs.Ytigljfmbelaobaa
