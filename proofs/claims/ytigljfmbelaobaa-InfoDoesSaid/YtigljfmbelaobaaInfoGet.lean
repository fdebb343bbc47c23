/- Layer 14 (info): Put, and Get. -/
import Derived.Test.YtigljfmbelaobaaInfoPut
import Derived.Test.YtigljfmbelaobaaCoverGet
import Derived.Test.YtigljfmbelaobaaPlainOnly
import Derived.Test.YtigljfmbelaobaaAuto
import Derived.Deep.AppendLies
namespace Go.Proofs.Ytigljfmbelaobaa
open Go.RowKit

theorem infoPut_any (A : Option Addr) (c : Nat) (l : List (Int × Int)) (w : World) (h : Prs w A l) (hl : l.length ≤ 1000000) :
    Calls Try.prog 8 #[.slice A l.length c] w (RetText w (infoPutS l)) := by
  cases his : infoIs l
  · have hi := infoIs_any A c l w h hl
    rw [his] at hi
    have HF := Lib.hid (show infoPutS l = ([], 1) by unfold infoPutS; rw [if_neg (by rw [his]; simp)])
    clear his
    go_enter Try.func8, Try.ntmps8
    go_wp2_with (go_at_call 14; refine hi.mono ?_; rintro e w1 ⟨rfl, hb1⟩)
    go_ret2
    rw [HF.out]
    exact ⟨rfl, hb1⟩
  · by_cases h16 : 16382 < l.length
    · have hi := infoIs_any A c l w h hl
      rw [his] at hi
      have HF := Lib.hid (show infoPutS l = ([], 7) by unfold infoPutS; rw [if_pos his, if_pos h16])
      have h16i : (16382 : Int) < (l.length : Int) := by omega
      clear his
      go_enter Try.func8, Try.ntmps8
      go_wp2_with (go_at_call 14; refine hi.mono ?_; rintro e w1 ⟨rfl, hb1⟩)
      go_ret2
      rw [HF.out]
      exact ⟨rfl, hb1⟩
    · have HF : infoPutS l = (infoBytes l, 0) := by unfold infoPutS; rw [if_pos his, if_neg h16]
      rw [HF]
      exact infoPut_yes A c l w h (by omega) his

/-- Pairs of glyphs and values that stand behind a place. -/
def valsAt (s : List UInt8) (m : Nat) (g : List Int) : List (Int × Int) := (List.range g.length).map fun i => (nth g i, swordAt s (m + 4 + 4 * i))
theorem valsAt_length (s : List UInt8) (m : Nat) (g : List Int) : (valsAt s m g).length = g.length := by simp [valsAt]
theorem valsAt_get (s : List UInt8) (m : Nat) (g : List Int) (i : Nat) (h : i < (valsAt s m g).length) : (valsAt s m g)[i] = (nth g i, swordAt s (m + 4 + 4 * i)) := by simp [valsAt]
theorem fsts_valsAt (s : List UInt8) (m : Nat) (g : List Int) : fsts (valsAt s m g) = g := by
  apply List.ext_getElem
  · simp [fsts, valsAt]
  · intro i h1 h2
    simp [fsts, valsAt, nth_eq g i h2]
/-- What info.Get comes to. -/
def infoGetS (s : List UInt8) (at_ : Int) : List (Int × Int) × Int :=
  if at_ < 0 then ([], 1) else if at_ > s.length ∨ (s.length : Int) - at_ < 4 then ([], 4) else
  if (s.length : Int) - at_ < 4 + 4 * wordAt s (at_.toNat + 2) then ([], 4) else
  if (coverGetS s (at_ + wordAt s at_.toNat)).2 ≠ 0 then ([], (coverGetS s (at_ + wordAt s at_.toNat)).2) else
  if ((coverGetS s (at_ + wordAt s at_.toNat)).1.length : Int) ≠ wordAt s (at_.toNat + 2) then ([], 5) else
  (valsAt s at_.toNat (coverGetS s (at_ + wordAt s at_.toNat)).1, 0)

/-- Pairs and an error come back; nothing that was there has turned. -/
def RetPairs (w : World) (r : List (Int × Int) × Int) (e : Ending) (w' : World) : Prop :=
  ∃ A c, e = .returned (.tuple #[.slice A r.1.length c, .int .i64 r.2]) ∧ Prs w' A r.1 ∧ Below w.heap.size w w' ∧ Cap A r.1.length c

theorem rep_two2 : rep [2] 2 = [2, 2] := rfl
theorem repn_two (n : Nat) : ∀ x, x ∈ rep [-2, 2] n → x.natAbs = 2 := by
  intro x hx
  have := rep_mem hx
  simp at this
  rcases this with rfl | rfl <;> rfl
theorem repn_nth (n i : Nat) (h : i < n) : nth (rep [-2, 2] n) (2 * i) = -2 := by
  have : ∀ n i, i < n → nth (rep [-2, 2] n) (2 * i) = -2 := by
    intro n
    induction n with
    | zero => intro i hi; omega
    | succ n ih =>
      intro i hi
      rw [show n + 1 = 1 + n by omega, rep_add, rep_one]
      cases i with
      | zero => rfl
      | succ i =>
        have := ih i (by omega)
        rw [show 2 * (i + 1) = [(-2 : Int), 2].length + 2 * i by simp; omega, nth_right]
        exact this
  exact this n i h
theorem info_pair : (Try.prog.info? 35).map (fun i => (i.zero, i.size, i.bytes)) = some (some (.agg #[.int .i64 0, .int .i64 0]), 2, 16) := by kernel_rfl
theorem pairs_new (w : World) (T : TypeId) (x : Int × Int) (H : Nat) (hH : w.heap.size = H) : ∀ j u, [Value.int .i64 x.1, Value.int .i64 x.2][j]? = some u → (w.alloc (.cells #[.int .i64 x.1, .int .i64 x.2] T)).cell? ((⟨H, 0, none⟩ : Addr).add j) = some u := by
  subst hH
  intro j u hu
  rw [cells_new]
  simpa using hu

set_option maxRecDepth 100000 in
set_option maxHeartbeats 4000000 in
theorem infoGet_yes (s : ByteArray) (m n off : Nat) (g : List Int) (w : World) (hs : s.size ≤ 140737488355328) (hm : m + 4 + 4 * n ≤ s.size) (hn : wordAt s.data.toList (m + 2) = (n : Int)) (ho : wordAt s.data.toList m = (off : Int))
    (hcg : coverGetS s.data.toList ((m : Int) + (off : Int)) = (g, 0)) (hgn : g.length = n) :
    Calls Try.prog 6 #[.string s, .int .i64 (m : Int)] w (RetPairs w (valsAt s.data.toList m g, 0)) := by
  have hsl : s.data.toList.length = s.size := by simp
  have hn2 : n ≤ 65535 := by have := wordAt_range s.data.toList (m + 2); omega
  have ho2 : off ≤ 65535 := by have := wordAt_range s.data.toList m; omega
  have hn1 := numsS_in (s := s.data.toList) (m := m) (ns := [2, 2]) (by rw [hsl]; simp; omega)
  have hv1 := numsS_in (s := s.data.toList) (m := m) (ns := rep [-2, 2] (n + 1)) (by rw [hsl, rep_length]; simp; omega)
  have h2l : numsAt [2, 2] s.data.toList m = [(off : Int), (n : Int)] := by
    simp only [numsAt, numAt_pos, ho, hn]
  rw [h2l] at hn1
  have HN1 := Lib.hid hn1
  have HV1 := Lib.hid hv1
  have HCG := Lib.hid hcg
  have HGN := Lib.hid hgn
  clear hgn hn1 hv1 h2l hcg hn ho hsl
  go_enter Try.func6, Try.ntmps6
  go_wp2_with fail
  have hg1 := nums_any s (m : Int) (some ⟨w.heap.size, 0, none⟩) 2 [2, 2] (w.alloc (.cells #[.int .i64 2, .int .i64 2] 3)) (ints_pair_at w 3 2 2 (by unfold I64; omega) (by unfold I64; omega) _ rfl) hs (by simp) (by simp)
  rw [HN1.out] at hg1
  refine hg1.mono ?_
  rintro e w1 ⟨A1, c1, rfl, hi1, hb1, hc1⟩
  dsimp only at hi1 ⊢
  have hb1' : Below w.heap.size w w1 := (by (repeat (first | exact Below.refl _ _ | assumption | (refine Below.alloc ?_ (by first | omega | (simp; done) | (simp; omega)) _) | (refine Below.setCell ?_ (by first | omega | (simp; done) | (simp; omega)) _) | (refine Below.drew ?_))) : Below w.heap.size w _).trans (hb1.mono (by simp))
  obtain ⟨b1, o1, e1, k0⟩ := hi1.cells 0 (by simp)
  obtain ⟨_, _, e2, k1⟩ := hi1.cells 1 (by simp)
  cases e1
  cases e2
  simp only [Nat.add_zero] at k0
  have k0' : w1.cell? ⟨b1, o1, none⟩ = some (.int .i64 (off : Int)) := k0
  have k1' : w1.cell? ⟨b1, o1 + 1, none⟩ = some (.int .i64 (n : Int)) := k1
  have hsz1 := hb1'.size
  have k1a := (((Below.refl w1.heap.size w1).alloc (Nat.le_refl _) (.cells #[.int .i64 (-2), .int .i64 2] 3)).cell (p := ⟨b1, o1 + 1, none⟩) (World.block_lt_of_cell? w1 _ k1')).trans k1'
  clear hg1 hb1 k0 k1
  go_wp2_with fail
  refine (repeat_any _ 2 [-2, 2] (n + 1) _ (ints_pair_at w1 3 (-2) 2 (by unfold I64; omega) (by unfold I64; omega) _ rfl) (by simp) (by simp) (by omega)).mono ?_
  rintro e w2 ⟨A2, c2, rfl, hi2, hb2⟩
  have hb12 : Below w1.heap.size w1 w2 := (by (repeat (first | exact Below.refl _ _ | assumption | (refine Below.alloc ?_ (by first | omega | (simp; done) | (simp; omega)) _) | (refine Below.setCell ?_ (by first | omega | (simp; done) | (simp; omega)) _) | (refine Below.drew ?_))) : Below w1.heap.size w1 _).trans (hb2.mono (by simp))
  clear hb2
  go_wp2_with fail
  have hg2 := nums_any s (m : Int) A2 c2 (rep [-2, 2] (n + 1)) w2 hi2 hs (by rw [rep_length]; simp; omega) (repn_two _)
  rw [HV1.out] at hg2
  refine hg2.mono ?_
  rintro e w3 ⟨A3, c3, rfl, hi3, hb3, hc3⟩
  dsimp only at hi3 ⊢
  have hb13 : Below w1.heap.size w1 w3 := hb12.trans (hb3.mono hb12.size)
  have k0'' := (hb13.cell (p := ⟨b1, o1, none⟩) (World.block_lt_of_cell? w1 _ k0')).trans k0'
  have k1'' := (hb13.cell (p := ⟨b1, o1 + 1, none⟩) (World.block_lt_of_cell? w1 _ k1')).trans k1'
  clear hg2 hi2 hb12 hb3
  go_wp2_with fail
  have hg3 := coverGet_any s ((m : Int) + (off : Int)) w3 hs
  rw [HCG.out] at hg3
  refine hg3.mono ?_
  rintro e w4 ⟨A4, c4, rfl, hi4, hb4, hc4⟩
  dsimp only at hi4 ⊢
  have k1f := (hb4.cell (p := ⟨b1, o1 + 1, none⟩) (World.block_lt_of_cell? w3 _ k1'')).trans k1''
  have hb04 : Below w.heap.size w w4 := (hb1'.trans (hb13.mono hsz1)).trans (hb4.mono (Nat.le_trans hsz1 hb13.size))
  have hi3' := hi3.below hb4
  have hgd : ((g.length : Int) != (n : Int)) = false := by rw [bne_eq_false_iff_eq, HGN.out]
  have HVL := Lib.hid (show (numsAt (rep [-2, 2] (n + 1)) s.data.toList m).length = 2 * n + 2 by rw [numsAt_length, rep_length]; simp; omega)
  have HVN := Lib.hid (fun i (hi : i < n) => show nth (numsAt (rep [-2, 2] (n + 1)) s.data.toList m) (2 * i + 2) = swordAt s.data.toList (m + 4 + 4 * i) by
    rw [numsAt_nth _ _ _ _ (by rw [rep_length]; simp; omega), show 2 * i + 2 = 2 * (i + 1) by omega, repn_nth _ _ (by omega), numAt_neg]
    congr 1
    omega)
  generalize numsAt (rep [-2, 2] (n + 1)) s.data.toList m = vs at *
  have hvl : vs.length = vs.length := rfl
  have hvl1 : 2 * n + 2 ≤ vs.length := by rw [HVL.out]; omega
  have hgl1 : n ≤ g.length := by rw [HGN.out]; omega
  have hgl2 : g.length ≤ n := by rw [HGN.out]; omega
  clear hg3 k1a k0' k1' k0'' k1'' hi1 hi3 hb1' hb13 hb4 hvl
  obtain ⟨i0, hi0, hz0, hz1, hz2⟩ := info_parts info_pair
  go_wp2_with fail
  go_loopw [10, 11, 61] (fun ll _ i wr => ∃ (k : Nat) (v : Value), v = ll ∧ k ≤ n ∧ i = .int .i64 (k : Int) ∧ OwnS PairR 2 wr w4.heap.size 35 v ((valsAt s.data.toList m g).take k) ∧ Below w4.heap.size w4 wr) (fun _ _ i _ => n - (intOf i).toNat)
  case atStart => exact ⟨0, _, rfl, Nat.zero_le _, rfl, OwnS.nil _ _ _ _ _, Below.refl _ _⟩
  case round =>
    obtain ⟨k, v, rfl, hk, rfl, hown, hbw⟩ := hrel
    have HB := Lib.hid hbw
    have hsz := hbw.size
    by_cases hlt : k < n
    · obtain ⟨b4, o4, rfl, g4⟩ := hi4.cells k (by omega)
      obtain ⟨b3, o3, rfl, g3⟩ := hi3'.cells (2 * k + 2) (by omega)
      rw [HVN.out k hlt] at g3
      have d4 := (hbw.cell (p := ⟨b4, o4 + k, none⟩) (World.block_lt_of_cell? w4 _ g4)).trans g4
      have d3 := (hbw.cell (p := ⟨b3, o3 + (2 * k + 2), none⟩) (World.block_lt_of_cell? w4 _ g3)).trans g3
      have HSN := Lib.hid (show (valsAt s.data.toList m g).take (k + 1) = (valsAt s.data.toList m g).take k ++ [(nth g k, swordAt s.data.toList (m + 4 + 4 * k))] by
        rw [List.take_succ_eq_append_getElem (by rw [valsAt_length]; omega), valsAt_get])
      have HLN := Lib.hid (show ((valsAt s.data.toList m g).take k).length = k by rw [List.length_take, valsAt_length]; omega)
      have hwg := hi4.wf _ (nth_mem g k (by omega))
      have hws : I64 (swordAt s.data.toList (m + 4 + 4 * k)) := by have := swordAt_range s.data.toList (m + 4 + 4 * k); unfold I64; omega
      generalize (valsAt s.data.toList m g).take k = acc at *
      generalize swordAt s.data.toList (m + 4 + 4 * k) = y at *
      generalize nth g k = x at *
      obtain ⟨vss, k1, k2, k3, k4⟩ := hown
      have HK := Lib.hid (⟨k1, k2, k3⟩ : _ ∧ _ ∧ _)
      have HO := Lib.hid k4
      have hal : acc.length ≤ 65535 := by rw [HLN.out]; omega
      have hkl : (k : Int) < (g.length : Int) := by omega
      have hw1 : IntKind.i64.wrap (2 * (k : Int)) = 2 * (k : Int) := by rw [IntKind.wrap_i64]; omega
      have hw2 : IntKind.i64.wrap (2 * (k : Int) + 2) = 2 * (k : Int) + 2 := by rw [IntKind.wrap_i64]; omega
      have hw3 : (2 * (k : Int) + 2).toNat = 2 * k + 2 := by omega
      have hw4 : (0 : Int) ≤ 2 * (k : Int) + 2 := by omega
      have hw5 : 2 * (k : Int) + 2 < (vs.length : Int) := by omega
      have hw6 : ¬ 2 * (k : Int) + 2 < 0 := by omega
      clear hbw k1 k2 k3 k4
      go_wp2
      refine wp_region_any (by kernel_rfl) ?_
      change wpAny _ _ _ _ _ _ _ (World.drew _)
      refine wpAny_of_G (last := 14) (S := fun W => W.cell? ⟨b4, o4 + k, none⟩ = some (.int .i64 x) ∧ W.cell? ⟨b3, o3 + (2 * k + 2), none⟩ = some (.int .i64 y)) _ _ _ _ ?_
      (first | (refine wpAnyG_skipE (i := 0) rfl (by kernel_rfl) (by kernel_rfl) (by kernel_rfl) (by kernel_rfl) (by kernel_rfl) (fun _ _ _ _ h => h) (by rfl) ⟨d4, d3⟩ ?_) | (refine wpAnyG_takeE (i := 0) rfl (by kernel_rfl) (by kernel_rfl) (by kernel_rfl) (by kernel_rfl) (by kernel_rfl) (fun _ _ _ _ h => h) (by rfl) ⟨d4, d3⟩ ?_; apply Exists.intro; refine ⟨fun W hC => ?_, ?_⟩; (· (obtain ⟨hC1, hC2⟩ := hC; go_simp; try first | rfl | (rw [if_neg (by omega)]; first | done | rfl) | (rw [if_pos (by omega)]; first | done | rfl))))); (try simp only [put_lit, List.set])
      (first | (refine wpAnyG_skipE (i := 1) rfl (by kernel_rfl) (by kernel_rfl) (by kernel_rfl) (by kernel_rfl) (by kernel_rfl) (fun _ _ _ _ h => h) (by rfl) ⟨d4, d3⟩ ?_) | (refine wpAnyG_takeE (i := 1) rfl (by kernel_rfl) (by kernel_rfl) (by kernel_rfl) (by kernel_rfl) (by kernel_rfl) (fun _ _ _ _ h => h) (by rfl) ⟨d4, d3⟩ ?_; apply Exists.intro; refine ⟨fun W hC => ?_, ?_⟩; (· (obtain ⟨hC1, hC2⟩ := hC; go_simp; try first | rfl | (rw [if_neg (by omega)]; first | done | rfl) | (rw [if_pos (by omega)]; first | done | rfl))))); (try simp only [put_lit, List.set])
      (first | (refine wpAnyG_skipE (i := 2) rfl (by kernel_rfl) (by kernel_rfl) (by kernel_rfl) (by kernel_rfl) (by kernel_rfl) (fun _ _ _ _ h => h) (by rfl) ⟨d4, d3⟩ ?_) | (refine wpAnyG_takeE (i := 2) rfl (by kernel_rfl) (by kernel_rfl) (by kernel_rfl) (by kernel_rfl) (by kernel_rfl) (fun _ _ _ _ h => h) (by rfl) ⟨d4, d3⟩ ?_; apply Exists.intro; refine ⟨fun W hC => ?_, ?_⟩; (· (obtain ⟨hC1, hC2⟩ := hC; go_simp; try first | rfl | (rw [if_neg (by omega)]; first | done | rfl) | (rw [if_pos (by omega)]; first | done | rfl))))); (try simp only [put_lit, List.set])
      (first | (refine wpAnyG_skipE (i := 3) rfl (by kernel_rfl) (by kernel_rfl) (by kernel_rfl) (by kernel_rfl) (by kernel_rfl) (fun _ _ _ _ h => h) (by rfl) ⟨d4, d3⟩ ?_) | (refine wpAnyG_takeE (i := 3) rfl (by kernel_rfl) (by kernel_rfl) (by kernel_rfl) (by kernel_rfl) (by kernel_rfl) (fun _ _ _ _ h => h) (by rfl) ⟨d4, d3⟩ ?_; apply Exists.intro; refine ⟨fun W hC => ?_, ?_⟩; (· (obtain ⟨hC1, hC2⟩ := hC; go_simp; try first | rfl | (rw [if_neg (by omega)]; first | done | rfl) | (rw [if_pos (by omega)]; first | done | rfl))))); (try simp only [put_lit, List.set])
      (first | (refine wpAnyG_skipE (i := 4) rfl (by kernel_rfl) (by kernel_rfl) (by kernel_rfl) (by kernel_rfl) (by kernel_rfl) (fun _ _ _ _ h => h) (by rfl) ⟨d4, d3⟩ ?_) | (refine wpAnyG_takeE (i := 4) rfl (by kernel_rfl) (by kernel_rfl) (by kernel_rfl) (by kernel_rfl) (by kernel_rfl) (fun _ _ _ _ h => h) (by rfl) ⟨d4, d3⟩ ?_; apply Exists.intro; refine ⟨fun W hC => ?_, ?_⟩; (· (obtain ⟨hC1, hC2⟩ := hC; go_simp; try first | rfl | (rw [if_neg (by omega)]; first | done | rfl) | (rw [if_pos (by omega)]; first | done | rfl))))); (try simp only [put_lit, List.set])
      (first | (refine wpAnyG_skipE (i := 5) rfl (by kernel_rfl) (by kernel_rfl) (by kernel_rfl) (by kernel_rfl) (by kernel_rfl) (fun _ _ _ _ h => h) (by rfl) ⟨d4, d3⟩ ?_) | (refine wpAnyG_takeE (i := 5) rfl (by kernel_rfl) (by kernel_rfl) (by kernel_rfl) (by kernel_rfl) (by kernel_rfl) (fun _ _ _ _ h => h) (by rfl) ⟨d4, d3⟩ ?_; apply Exists.intro; refine ⟨fun W hC => ?_, ?_⟩; (· (obtain ⟨hC1, hC2⟩ := hC; go_simp; try first | rfl | (rw [if_neg (by omega)]; first | done | rfl) | (rw [if_pos (by omega)]; first | done | rfl))))); (try simp only [put_lit, List.set])
      (first | (refine wpAnyG_skipE (i := 6) rfl (by kernel_rfl) (by kernel_rfl) (by kernel_rfl) (by kernel_rfl) (by kernel_rfl) (fun _ _ _ _ h => h) (by rfl) ⟨d4, d3⟩ ?_) | (refine wpAnyG_takeE (i := 6) rfl (by kernel_rfl) (by kernel_rfl) (by kernel_rfl) (by kernel_rfl) (by kernel_rfl) (fun _ _ _ _ h => h) (by rfl) ⟨d4, d3⟩ ?_; apply Exists.intro; refine ⟨fun W hC => ?_, ?_⟩; (· (obtain ⟨hC1, hC2⟩ := hC; go_simp; try first | rfl | (rw [if_neg (by omega)]; first | done | rfl) | (rw [if_pos (by omega)]; first | done | rfl))))); (try simp only [put_lit, List.set])
      (first | (refine wpAnyG_skipE (i := 7) rfl (by kernel_rfl) (by kernel_rfl) (by kernel_rfl) (by kernel_rfl) (by kernel_rfl) (fun _ _ _ _ h => h) (by rfl) ⟨d4, d3⟩ ?_) | (refine wpAnyG_takeE (i := 7) rfl (by kernel_rfl) (by kernel_rfl) (by kernel_rfl) (by kernel_rfl) (by kernel_rfl) (fun _ _ _ _ h => h) (by rfl) ⟨d4, d3⟩ ?_; apply Exists.intro; refine ⟨fun W hC => ?_, ?_⟩; (· (obtain ⟨hC1, hC2⟩ := hC; go_simp; try first | rfl | (rw [if_neg (by omega)]; first | done | rfl) | (rw [if_pos (by omega)]; first | done | rfl))))); (try simp only [put_lit, List.set])
      (first | (refine wpAnyG_skipE (i := 8) rfl (by kernel_rfl) (by kernel_rfl) (by kernel_rfl) (by kernel_rfl) (by kernel_rfl) (fun _ _ _ _ h => h) (by rfl) ⟨d4, d3⟩ ?_) | (refine wpAnyG_takeE (i := 8) rfl (by kernel_rfl) (by kernel_rfl) (by kernel_rfl) (by kernel_rfl) (by kernel_rfl) (fun _ _ _ _ h => h) (by rfl) ⟨d4, d3⟩ ?_; apply Exists.intro; refine ⟨fun W hC => ?_, ?_⟩; (· (obtain ⟨hC1, hC2⟩ := hC; go_simp; try first | rfl | (rw [if_neg (by omega)]; first | done | rfl) | (rw [if_pos (by omega)]; first | done | rfl))))); (try simp only [put_lit, List.set])
      (first | (refine wpAnyG_skipE (i := 9) rfl (by kernel_rfl) (by kernel_rfl) (by kernel_rfl) (by kernel_rfl) (by kernel_rfl) (fun _ _ _ _ h => h) (by rfl) ⟨d4, d3⟩ ?_) | (refine wpAnyG_takeE (i := 9) rfl (by kernel_rfl) (by kernel_rfl) (by kernel_rfl) (by kernel_rfl) (by kernel_rfl) (fun _ _ _ _ h => h) (by rfl) ⟨d4, d3⟩ ?_; apply Exists.intro; refine ⟨fun W hC => ?_, ?_⟩; (· (obtain ⟨hC1, hC2⟩ := hC; go_simp; try first | rfl | (rw [if_neg (by omega)]; first | done | rfl) | (rw [if_pos (by omega)]; first | done | rfl))))); (try simp only [put_lit, List.set])
      (first | (refine wpAnyG_skipE (i := 10) rfl (by kernel_rfl) (by kernel_rfl) (by kernel_rfl) (by kernel_rfl) (by kernel_rfl) (fun _ _ _ _ h => h) (by rfl) ⟨d4, d3⟩ ?_) | (refine wpAnyG_takeE (i := 10) rfl (by kernel_rfl) (by kernel_rfl) (by kernel_rfl) (by kernel_rfl) (by kernel_rfl) (fun _ _ _ _ h => h) (by rfl) ⟨d4, d3⟩ ?_; apply Exists.intro; refine ⟨fun W hC => ?_, ?_⟩; (· (obtain ⟨hC1, hC2⟩ := hC; go_simp; try first | rfl | (rw [if_neg (by omega)]; first | done | rfl) | (rw [if_pos (by omega)]; first | done | rfl))))); (try simp only [put_lit, List.set])
      (first | (refine wpAnyG_skipE (i := 11) rfl (by kernel_rfl) (by kernel_rfl) (by kernel_rfl) (by kernel_rfl) (by kernel_rfl) (fun _ _ _ _ h => h) (by rfl) ⟨d4, d3⟩ ?_) | (refine wpAnyG_takeE (i := 11) rfl (by kernel_rfl) (by kernel_rfl) (by kernel_rfl) (by kernel_rfl) (by kernel_rfl) (fun _ _ _ _ h => h) (by rfl) ⟨d4, d3⟩ ?_; apply Exists.intro; refine ⟨fun W hC => ?_, ?_⟩; (· (obtain ⟨hC1, hC2⟩ := hC; go_simp; try first | rfl | (rw [if_neg (by omega)]; first | done | rfl) | (rw [if_pos (by omega)]; first | done | rfl))))); (try simp only [put_lit, List.set])
      refine wpAnyG_step (i := 12) (by kernel_rfl) rfl (fun K hK => ?_)
      go_simp
      have e4 := (((Below.refl _ _).alloc (Nat.le_refl _) (.cells #[.int .i64 x, .int .i64 y] 35)).cell (p := ⟨b4, o4 + k, none⟩) (World.block_lt_of_cell? wr _ d4)).trans d4
      have e3 := (((Below.refl _ _).alloc (Nat.le_refl _) (.cells #[.int .i64 x, .int .i64 y] 35)).cell (p := ⟨b3, o3 + (2 * k + 2), none⟩) (World.block_lt_of_cell? wr _ d3)).trans d3
      refine hK _ _ (fun _ => ⟨e4, e3⟩) ?_
      refine wpAnyG_step (i := 13) (by kernel_rfl) rfl (fun K hK => ?_)
      refine step_append_lies _ rfl _ _ _ rfl w4.heap.size 35 i0 _ 2 16 Try.underlying22 hi0 hz0 hz1 hz2 rfl (by omega) v acc.length _ rfl (HO.out.drew.alloc _)
          ⟨wr.heap.size, 0, none⟩ 1 1 [.int .i64 x, .int .i64 y] rfl rfl (pairs_new _ _ (x, y) _ rfl) (by simp [Value.oneCell']) (by omega) (by unfold maxLen; omega) (by omega) (by simp; omega) _ rfl ?_
      intro g1 cap1 w2 hown2 hgrow hat2 hlt2
      go_simp
      have hb5 : Below w4.heap.size w4 w2 := ((HB.out.drew).alloc (by rw [drew_size]; exact hsz) _).grown hgrow (by simp; omega) (own_base HO.out)
      have f4 := (hb5.cell (p := ⟨b4, o4 + k, none⟩) (World.block_lt_of_cell? w4 _ g4)).trans g4
      have f3 := (hb5.cell (p := ⟨b3, o3 + (2 * k + 2), none⟩) (World.block_lt_of_cell? w4 _ g3)).trans g3
      refine hK _ _ (fun _ => ⟨f4, f3⟩) ?_
      refine wpAnyG_step (i := 14) (by kernel_rfl) rfl (fun K hK => ?_)
      go_simp
      refine hK _ _ (fun h => absurd rfl h) ?_
      refine wpAnyG_done (by kernel_rfl) ?_ _
      have HOW := Lib.hid (own_grown_elems (R := PairR) (l := acc) (x := (x, y)) (w' := w2) (vs := [.int .i64 x, .int .i64 y]) HK.out.1 HK.out.2.1 (fun j us z h1 h2 => HK.out.2.2 j us z h1 h2) rfl ⟨rfl, hwg, hws⟩ hown2)
      have HB5 := Lib.hid hb5
      clear hown2 hgrow hat2 hb5 f4 f3 e4 e3 d4 d3
      rw [← HSN.out] at HOW
      go_wp2
      go_roundw
      case rel => exact ⟨k + 1, _, rfl, by omega, by go_num, HOW.out, HB5.out⟩
      case measure => simp [intOf]; omega
    · have hkn : k = n := by omega
      have hown := hown
      rw [List.take_of_length_le (by rw [valsAt_length]; omega)] at hown
      obtain ⟨A5, c5, rfl, hi5, hc5⟩ := hown.sls (by rw [valsAt_length]; omega)
      have HI5 := Lib.hid hi5
      have HC5 := Lib.hid hc5
      clear hkn hown hi5 hc5 hbw
      rw [valsAt_length]
      go_wp2
      go_ret2
      exact ⟨A5, c5, by rw [valsAt_length]; rfl, HI5.out, hb04.trans (HB.out.mono hb04.size), HC5.out⟩

set_option maxRecDepth 100000 in
set_option maxHeartbeats 4000000 in
theorem infoGet_any (s : ByteArray) (at_ : Int) (w : World) (hs : s.size ≤ 140737488355328) :
    Calls Try.prog 6 #[.string s, .int .i64 at_] w (RetPairs w (infoGetS s.data.toList at_)) := by
  have hsl : s.data.toList.length = s.size := by simp
  by_cases hr : (numsS s.data.toList at_ [2, 2]).2 ≠ 0
  · have HF := Lib.hid (show infoGetS s.data.toList at_ = ([], (numsS s.data.toList at_ [2, 2]).2) by
      unfold numsS at hr ⊢
      unfold infoGetS
      simp only [List.length_cons, List.length_nil] at hr ⊢
      by_cases h0 : at_ < 0
      · simp [h0]
      · rw [if_neg h0] at hr ⊢
        rw [if_neg h0]
        by_cases h1 : at_ > s.data.toList.length ∨ (s.data.toList.length : Int) - at_ < 4
        · rw [if_pos h1, if_pos (by simpa using h1)]
        · rw [if_neg (by simpa using h1)] at hr
          exact absurd rfl hr)
    have hno := numsS_no hr
    have hg1 := nums_any s at_ (some ⟨w.heap.size, 0, none⟩) 2 [2, 2] (w.alloc (.cells #[.int .i64 2, .int .i64 2] 3)) (ints_pair_at w 3 2 2 (by unfold I64; omega) (by unfold I64; omega) _ rfl) hs (by simp) (by simp)
    generalize numsS s.data.toList at_ [2, 2] = r at *
    obtain ⟨rl, re⟩ := r
    dsimp only at *
    subst hno
    have HR := Lib.hid hr
    clear hr hsl
    go_enter Try.func6, Try.ntmps6
    go_wp2_with fail
    refine hg1.mono ?_
    rintro e w1 ⟨A1, c1, rfl, hi1, hb1, hc1⟩
    have hb1' : Below w.heap.size w w1 := (by (repeat (first | exact Below.refl _ _ | assumption | (refine Below.alloc ?_ (by first | omega | (simp; done) | (simp; omega)) _) | (refine Below.setCell ?_ (by first | omega | (simp; done) | (simp; omega)) _) | (refine Below.drew ?_))) : Below w.heap.size w _).trans (hb1.mono (by simp))
    have hne : (re != 0) = true := by rw [bne_iff_ne]; exact HR.out
    clear hg1
    go_wp2
    go_ret2
    rw [HF.out]
    exact ⟨none, 0, rfl, Sls.nil _ _ _ _, hb1', Cap.nil⟩
  · have hr0 : (numsS s.data.toList at_ [2, 2]).2 = 0 := by omega
    obtain ⟨h0, h1, hn1⟩ := numsS_ok hr0
    obtain ⟨m, rfl⟩ := Int.eq_ofNat_of_zero_le h0
    rw [hsl] at h1
    simp only [List.length_cons, List.length_nil] at h1
    have hm : m + 4 ≤ s.size := by omega
    clear hr hr0 h0 h1
    rw [Int.toNat_natCast] at hn1
    obtain ⟨n, hn⟩ : ∃ n : Nat, wordAt s.data.toList (m + 2) = (n : Int) := ⟨(wordAt s.data.toList (m + 2)).toNat, by have := wordAt_range s.data.toList (m + 2); omega⟩
    obtain ⟨off, ho⟩ : ∃ off : Nat, wordAt s.data.toList m = (off : Int) := ⟨(wordAt s.data.toList m).toNat, by have := wordAt_range s.data.toList m; omega⟩
    have hn2 : n ≤ 65535 := by have := wordAt_range s.data.toList (m + 2); omega
    have ho2 : off ≤ 65535 := by have := wordAt_range s.data.toList m; omega
    have h2l : numsAt [2, 2] s.data.toList m = [(off : Int), (n : Int)] := by
      simp only [numsAt, numAt_pos, ho, hn]
    rw [h2l] at hn1
    have hspec : infoGetS s.data.toList (m : Int) = if (s.size : Int) - (m : Int) < 4 + 4 * (n : Int) then ([], 4) else
        if (coverGetS s.data.toList ((m : Int) + (off : Int))).2 ≠ 0 then ([], (coverGetS s.data.toList ((m : Int) + (off : Int))).2) else
        if ((coverGetS s.data.toList ((m : Int) + (off : Int))).1.length : Int) ≠ (n : Int) then ([], 5) else
        (valsAt s.data.toList m (coverGetS s.data.toList ((m : Int) + (off : Int))).1, 0) := by
      unfold infoGetS
      rw [if_neg (by omega), if_neg (by rw [hsl]; omega), Int.toNat_natCast, hn, ho, hsl]
    by_cases hroom : (s.size : Int) - (m : Int) < 4 + 4 * (n : Int)
    · rw [if_pos hroom] at hspec
      have hv1 := numsS_out (s := s.data.toList) (m := m) (ns := rep [-2, 2] (n + 1)) (by rw [hsl, rep_length]; simp; omega)
      have HF := Lib.hid hspec
      have HN1 := Lib.hid hn1
      have HV1 := Lib.hid hv1
      clear hspec hn1 hv1 h2l hn ho hsl hroom
      go_enter Try.func6, Try.ntmps6
      go_wp2_with fail
      have hg1 := nums_any s (m : Int) (some ⟨w.heap.size, 0, none⟩) 2 [2, 2] (w.alloc (.cells #[.int .i64 2, .int .i64 2] 3)) (ints_pair_at w 3 2 2 (by unfold I64; omega) (by unfold I64; omega) _ rfl) hs (by simp) (by simp)
      rw [HN1.out] at hg1
      refine hg1.mono ?_
      rintro e w1 ⟨A1, c1, rfl, hi1, hb1, hc1⟩
      dsimp only at hi1 ⊢
      have hb1' : Below w.heap.size w w1 := (by (repeat (first | exact Below.refl _ _ | assumption | (refine Below.alloc ?_ (by first | omega | (simp; done) | (simp; omega)) _) | (refine Below.setCell ?_ (by first | omega | (simp; done) | (simp; omega)) _) | (refine Below.drew ?_))) : Below w.heap.size w _).trans (hb1.mono (by simp))
      obtain ⟨b1, o1, e1, k1⟩ := hi1.cells 1 (by simp)
      cases e1
      have k1' : w1.cell? ⟨b1, o1 + 1, none⟩ = some (.int .i64 (n : Int)) := k1
      have hsz1 := hb1'.size
      have k1a := (((Below.refl w1.heap.size w1).alloc (Nat.le_refl _) (.cells #[.int .i64 (-2), .int .i64 2] 3)).cell (p := ⟨b1, o1 + 1, none⟩) (World.block_lt_of_cell? w1 _ k1')).trans k1'
      clear hg1 hb1 k1
      go_wp2_with fail
      refine (repeat_any _ 2 [-2, 2] (n + 1) _ (ints_pair_at w1 3 (-2) 2 (by unfold I64; omega) (by unfold I64; omega) _ rfl) (by simp) (by simp) (by omega)).mono ?_
      rintro e w2 ⟨A2, c2, rfl, hi2, hb2⟩
      have hb12 : Below w1.heap.size w1 w2 := (by (repeat (first | exact Below.refl _ _ | assumption | (refine Below.alloc ?_ (by first | omega | (simp; done) | (simp; omega)) _) | (refine Below.setCell ?_ (by first | omega | (simp; done) | (simp; omega)) _) | (refine Below.drew ?_))) : Below w1.heap.size w1 _).trans (hb2.mono (by simp))
      clear hb2
      go_wp2_with fail
      have hg2 := nums_any s (m : Int) A2 c2 (rep [-2, 2] (n + 1)) w2 hi2 hs (by rw [rep_length]; simp; omega) (repn_two _)
      rw [HV1.out] at hg2
      refine hg2.mono ?_
      rintro e w3 ⟨A3, c3, rfl, hi3, hb3, hc3⟩
      clear hg2
      go_wp2
      go_ret2
      rw [HF.out]
      exact ⟨none, 0, rfl, Sls.nil _ _ _ _, (hb1'.trans (hb12.mono hsz1)).trans (hb3.mono (Nat.le_trans hsz1 hb12.size)), Cap.nil⟩
    · rw [if_neg hroom] at hspec
      by_cases hok : (coverGetS s.data.toList ((m : Int) + (off : Int))).2 = 0 ∧ (coverGetS s.data.toList ((m : Int) + (off : Int))).1.length = n
      · obtain ⟨g, hcg⟩ : ∃ g, coverGetS s.data.toList ((m : Int) + (off : Int)) = (g, 0) := ⟨_, Prod.ext rfl hok.1⟩
        rw [hcg] at hspec hok
        rw [if_neg (by simp), if_neg (fun h => h (congrArg Nat.cast hok.2))] at hspec
        rw [hspec]
        exact infoGet_yes s m n off g w hs (by omega) hn ho hcg hok.2
      · have hv1 := numsS_in (s := s.data.toList) (m := m) (ns := rep [-2, 2] (n + 1)) (by rw [hsl, rep_length]; simp; omega)
        have hcno := @coverGet_no s.data.toList ((m : Int) + (off : Int))
        have hcg := fun W => coverGet_any s ((m : Int) + (off : Int)) W hs
        generalize coverGetS s.data.toList ((m : Int) + (off : Int)) = cg at *
        obtain ⟨g, ge⟩ := cg
        dsimp only at *
        have HF := Lib.hid hspec
        have HN1 := Lib.hid hn1
        have HV1 := Lib.hid hv1
        have HOK := Lib.hid hok
        have HCNO := Lib.hid hcno
        clear hspec hn1 hv1 h2l hn ho hsl hroom hok hcno
        go_enter Try.func6, Try.ntmps6
        go_wp2_with fail
        have hg1 := nums_any s (m : Int) (some ⟨w.heap.size, 0, none⟩) 2 [2, 2] (w.alloc (.cells #[.int .i64 2, .int .i64 2] 3)) (ints_pair_at w 3 2 2 (by unfold I64; omega) (by unfold I64; omega) _ rfl) hs (by simp) (by simp)
        rw [HN1.out] at hg1
        refine hg1.mono ?_
        rintro e w1 ⟨A1, c1, rfl, hi1, hb1, hc1⟩
        dsimp only at hi1 ⊢
        have hb1' : Below w.heap.size w w1 := (by (repeat (first | exact Below.refl _ _ | assumption | (refine Below.alloc ?_ (by first | omega | (simp; done) | (simp; omega)) _) | (refine Below.setCell ?_ (by first | omega | (simp; done) | (simp; omega)) _) | (refine Below.drew ?_))) : Below w.heap.size w _).trans (hb1.mono (by simp))
        obtain ⟨b1, o1, e1, k0⟩ := hi1.cells 0 (by simp)
        obtain ⟨_, _, e2, k1⟩ := hi1.cells 1 (by simp)
        cases e1
        cases e2
        simp only [Nat.add_zero] at k0
        have k0' : w1.cell? ⟨b1, o1, none⟩ = some (.int .i64 (off : Int)) := k0
        have k1' : w1.cell? ⟨b1, o1 + 1, none⟩ = some (.int .i64 (n : Int)) := k1
        have hsz1 := hb1'.size
        have k1a := (((Below.refl w1.heap.size w1).alloc (Nat.le_refl _) (.cells #[.int .i64 (-2), .int .i64 2] 3)).cell (p := ⟨b1, o1 + 1, none⟩) (World.block_lt_of_cell? w1 _ k1')).trans k1'
        clear hg1 hb1 k0 k1
        go_wp2_with fail
        refine (repeat_any _ 2 [-2, 2] (n + 1) _ (ints_pair_at w1 3 (-2) 2 (by unfold I64; omega) (by unfold I64; omega) _ rfl) (by simp) (by simp) (by omega)).mono ?_
        rintro e w2 ⟨A2, c2, rfl, hi2, hb2⟩
        have hb12 : Below w1.heap.size w1 w2 := (by (repeat (first | exact Below.refl _ _ | assumption | (refine Below.alloc ?_ (by first | omega | (simp; done) | (simp; omega)) _) | (refine Below.setCell ?_ (by first | omega | (simp; done) | (simp; omega)) _) | (refine Below.drew ?_))) : Below w1.heap.size w1 _).trans (hb2.mono (by simp))
        clear hb2
        go_wp2_with fail
        have hg2 := nums_any s (m : Int) A2 c2 (rep [-2, 2] (n + 1)) w2 hi2 hs (by rw [rep_length]; simp; omega) (repn_two _)
        rw [HV1.out] at hg2
        refine hg2.mono ?_
        rintro e w3 ⟨A3, c3, rfl, hi3, hb3, hc3⟩
        dsimp only at hi3 ⊢
        have hb13 : Below w1.heap.size w1 w3 := hb12.trans (hb3.mono hb12.size)
        have k0'' := (hb13.cell (p := ⟨b1, o1, none⟩) (World.block_lt_of_cell? w1 _ k0')).trans k0'
        have k1'' := (hb13.cell (p := ⟨b1, o1 + 1, none⟩) (World.block_lt_of_cell? w1 _ k1')).trans k1'
        clear hg2 hi2 hb12 hb3
        go_wp2_with fail
        refine (hcg w3).mono ?_
        rintro e w4 ⟨A4, c4, rfl, hi4, hb4, hc4⟩
        dsimp only at hi4 hc4 ⊢
        have k1f := (hb4.cell (p := ⟨b1, o1 + 1, none⟩) (World.block_lt_of_cell? w3 _ k1'')).trans k1''
        have hb04 : Below w.heap.size w w4 := (hb1'.trans (hb13.mono hsz1)).trans (hb4.mono (Nat.le_trans hsz1 hb13.size))
        clear hcg k1a k0' k1' k0'' k1'' hi1 hi3 hb1' hb13 hb4
        by_cases hge : ge = 0
        · have hln : ((g.length : Int) != (n : Int)) = true := by
            rw [bne_iff_ne]
            intro e
            exact HOK.out ⟨hge, by omega⟩
          subst hge
          have hF := HF.out
          rw [if_neg (by simp), if_pos (by rw [bne_iff_ne] at hln; exact hln)] at hF
          have HF2 := Lib.hid hF
          clear hF
          go_wp2
          go_ret2
          rw [HF2.out]
          exact ⟨none, 0, rfl, Sls.nil _ _ _ _, hb04, Cap.nil⟩
        · have hF := HF.out
          rw [if_pos hge] at hF
          have HF2 := Lib.hid hF
          have hne : (ge != 0) = true := by rw [bne_iff_ne]; exact hge
          clear hF hge
          go_wp2
          go_ret2
          rw [HF2.out]
          exact ⟨none, 0, rfl, Sls.nil _ _ _ _, hb04, Cap.nil⟩

end Go.Proofs.Ytigljfmbelaobaa
