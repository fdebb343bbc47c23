/- Layer 3 (bin): what Get comes to. -/
import Derived.Test.YtigljfmbelaobaaBin
import Derived.Test.YtigljfmbelaobaaKeep
import Derived.Recover
import Derived.Deep.AppendLies
import Derived.Maps.AppendAt
namespace Go.Proofs.Ytigljfmbelaobaa
open Go.RowKit

theorem assert_errno (v : Value) (w : World) : (Instr.typeAssert (.iface 23 v) 20 23 false).run Try.prog w = .ok v w := by kernel_rfl

set_option maxHeartbeats 400000 in
theorem get1_idle (p q : Addr) (w : World) :
    CallsD Try.prog 34 #[.pointer (some p), .pointer (some q)] .returning w fun e u' w' => e = .returned (.tuple #[]) ∧ u' = .returning ∧ w = w' := by
  refine callsD_of_wpS Try.func34 rfl fun c₀ cs hu => ?_
  apply wpS_seq
  apply wpS_region
  simp [wpOpsS, go_sem, recoverD, hu, Try.ntmps34, Exit.thenS]
  apply wpS_seq
  apply wpS_region
  simp [wpOpsS, go_sem, Exit.thenS]
  refine wpS_cond (t := false) (by simp [Act.eval, Array.replicate]) ?_
  simp only [Bool.false_eq_true, if_false]
  refine wpS_of_wp (wp_skip ?_)
  cases c₀
  simp_all [bodyPostS, results, Try.results34]

set_option maxHeartbeats 400000 in
theorem get1_catch (b1 b2 : Nat) (v0 v1 : Value) (n : Int) (older : List PanicEntry) (w : World) (hne : b1 ≠ b2)
    (h0 : w.cell? ⟨b1, 0, none⟩ = some v0) (f0 : w.frozen? ⟨b1, 0, none⟩ = false) (h1 : w.cell? ⟨b2, 0, none⟩ = some v1) (f1 : w.frozen? ⟨b2, 0, none⟩ = false) :
    CallsD Try.prog 34 #[.pointer (some ⟨b1, 0, none⟩), .pointer (some ⟨b2, 0, none⟩)] (.panicking ({ v := .iface 23 (.int .i64 n), recovered := false } :: older)) w fun e u' w' =>
      e = .returned (.tuple #[]) ∧ u' = .panicking ({ v := .iface 23 (.int .i64 n), recovered := true } :: older) ∧ ((w.setCell ⟨b1, 0, none⟩ (.slice none 0 0)).setCell ⟨b2, 0, none⟩ (.int .i64 n)).drew = w' := by
  refine callsD_of_wpS Try.func34 rfl fun c₀ cs hu => ?_
  apply wpS_seq
  apply wpS_region
  simp [wpOpsS, go_sem, recoverD, hu, Try.ntmps34, Exit.thenS]
  apply wpS_seq
  apply wpS_region
  simp [wpOpsS, go_sem, Exit.thenS]
  refine wpS_cond (t := true) (by simp [Act.eval, Array.replicate]) ?_
  simp only [if_true]
  refine wpS_of_wp ?_
  simp only [Array.replicate_succ, Array.replicate_zero, List.push_toArray, List.nil_append, List.cons_append]
  have hta := assert_errno
  go_region
  all_goals simp [bodyPostS, results, Try.results34]

/-- numbers off bytes -/
def takes : List Int → List UInt8 → Option (List Int)
  | [], _ => some []
  | n :: ns, s => if s.length < n.natAbs then none else (takes ns (s.drop n.natAbs)).map (numOf n (s.take n.natAbs) :: ·)
/-- what Get comes to: the numbers, and the error -/
def getS (s : List UInt8) (at_ : Int) (sizes : List Int) : List Int × Int :=
  if at_ < 0 ∨ rightB sizes = false then ([], 1) else if at_ > s.length then ([], 4) else
  match takes sizes (s.drop at_.toNat) with
  | none => ([], 4)
  | some l => (l, 0)

/-- Ints and an error come back; nothing that was there has turned. -/
def RetInts (w : World) (r : List Int × Int) (e : Ending) (w' : World) : Prop :=
  ∃ A c, e = .returned (.tuple #[.slice A r.1.length c, .int .i64 r.2]) ∧ Ints w' A r.1 ∧ Below w.heap.size w w' ∧ Cap A r.1.length c

theorem Ints.nil (w : World) : Ints w none [] := ⟨by simp, by simp, fun j hj => by simp at hj⟩

theorem make_func (fn : Fn) (first cap : Array Value) (w : World) : (Instr.makeFunc fn first cap).run Try.prog w = .ok (.func fn first cap) w := rfl

def getDefer (b1 b2 : Nat) : Deferred := { target := .fn (.func 34) #[.pointer (some ⟨b1, 0, none⟩), .pointer (some ⟨b2, 0, none⟩)], args := #[] }

theorem get_ret (b1 b2 : Nat) (v e : Value) (tmps : Array Value) (w : World) (R : Ending → World → Prop) (h6 : tmps.getD 6 undef = .pointer (some ⟨b1, 0, none⟩)) (h7 : tmps.getD 7 undef = .pointer (some ⟨b2, 0, none⟩))
    (hc1 : w.cell? ⟨b1, 0, none⟩ = some v) (hc2 : w.cell? ⟨b2, 0, none⟩ = some e) (hR : R (.returned (.tuple #[v, e])) w) :
    bodyPostD Try.prog Try.f16 R .ret { tmps := tmps, defers := [getDefer b1 b2] } w := by
  refine leaves_cons (f := 34) (args := #[.pointer (some ⟨b1, 0, none⟩), .pointer (some ⟨b2, 0, none⟩)]) (by simp) (by simp [go_sem]) ?_
  refine (get1_idle _ _ _).mono ?_
  rintro e' u' w'' ⟨rfl, rfl, rfl⟩
  simp only [Array.getD_eq_getD_getElem?] at h6 h7
  simp [Leaves, settle, results, Try.results16, go_sem, h6, h7, hc1, hc2, hR]

set_option maxHeartbeats 1000000 in
theorem get_arg (s : ByteArray) (at_ : Int) (A : Option Addr) (c : Nat) (sizes : List Int) (w : World) (h : Ints w A sizes) (hb : at_ < 0 ∨ rightB sizes = false) :
    Calls Try.prog 16 #[.string s, .int .i64 at_, .slice A sizes.length c] w (RetInts w ([], 1)) := by
  have hmf := make_func
  go_enter_defers Try.func16, Try.ntmps16
  rcases Int.lt_or_le at_ 0 with h0 | h0
  · go_wp2
    refine get_ret w.heap.size (w.heap.size + 1) (.slice none 0 0) (.int .i64 1) _ _ _ rfl rfl (by go_simp) (by go_simp) ?_
    exact ⟨none, 0, rfl, Ints.nil _, by (repeat (first | exact Below.refl _ _ | assumption | (refine Below.alloc ?_ (by first | omega | (simp; done) | (simp; omega)) _) | (refine Below.setCell ?_ (by first | omega | (simp; done) | (simp; omega)) _) | (refine Below.drew ?_))), Cap.nil⟩
  · have hr : Hid (rightB sizes = false) := by
      rcases hb with hb | hb
      · omega
      · exact hb
    clear hb
    have hI := h.below (w' := (w.alloc (.cells #[.slice none 0 0] 37)).alloc (.cells #[.int .i64 0] 23)) (((Below.refl _ _).alloc (Nat.le_refl _) _).alloc (by simp) _)
    have hx := right_any A c sizes _ hI
    rw [hr.out] at hx
    have hd : decide (at_ < 0) = false := by simp; omega
    go_wp2_with (go_at_call 35; refine hx.mono ?_; rintro e w' ⟨rfl, rfl⟩)
    refine get_ret w.heap.size (w.heap.size + 1) (.slice none 0 0) (.int .i64 1) _ _ _ rfl rfl (by go_simp) (by go_simp) ?_
    exact ⟨none, 0, rfl, Ints.nil _, by (repeat (first | exact Below.refl _ _ | assumption | (refine Below.alloc ?_ (by first | omega | (simp; done) | (simp; omega)) _) | (refine Below.setCell ?_ (by first | omega | (simp; done) | (simp; omega)) _) | (refine Below.drew ?_))), Cap.nil⟩

theorem get_panic (b1 b2 : Nat) (v0 v1 : Value) (n : Int) (tmps : Array Value) (w : World) (R : Ending → World → Prop) (hne : b1 ≠ b2) (h6 : tmps.getD 6 undef = .pointer (some ⟨b1, 0, none⟩)) (h7 : tmps.getD 7 undef = .pointer (some ⟨b2, 0, none⟩))
    (hc1 : w.cell? ⟨b1, 0, none⟩ = some v0) (f1 : w.frozen? ⟨b1, 0, none⟩ = false) (hc2 : w.cell? ⟨b2, 0, none⟩ = some v1) (f2 : w.frozen? ⟨b2, 0, none⟩ = false)
    (hR : R (.returned (.tuple #[.slice none 0 0, .int .i64 n])) ((w.setCell ⟨b1, 0, none⟩ (.slice none 0 0)).setCell ⟨b2, 0, none⟩ (.int .i64 n)).drew) :
    bodyPostD Try.prog Try.f16 R (.panic [{ v := .iface 23 (.int .i64 n), recovered := false }]) { tmps := tmps, defers := [getDefer b1 b2] } w := by
  refine leaves_cons (f := 34) (args := #[.pointer (some ⟨b1, 0, none⟩), .pointer (some ⟨b2, 0, none⟩)]) (by simp) (by simp [go_sem]) ?_
  refine (get1_catch b1 b2 v0 v1 n [] w hne hc1 f1 hc2 f2).mono ?_
  rintro e' u' w'' ⟨rfl, rfl, rfl⟩
  simp only [Array.getD_eq_getD_getElem?] at h6 h7
  have e1 : ((w.setCell ⟨b1, 0, none⟩ (.slice none 0 0)).setCell ⟨b2, 0, none⟩ (.int .i64 n)).drew.cell? ⟨b1, 0, none⟩ = some (.slice none 0 0) := by go_simp
  have e2 : ((w.setCell ⟨b1, 0, none⟩ (.slice none 0 0)).setCell ⟨b2, 0, none⟩ (.int .i64 n)).drew.cell? ⟨b2, 0, none⟩ = some (.int .i64 n) := by go_simp
  generalize ((w.setCell ⟨b1, 0, none⟩ (.slice none 0 0)).setCell ⟨b2, 0, none⟩ (.int .i64 n)).drew = W at *
  simp [Leaves, settle, results, Try.results16, go_sem, h6, h7, e1, e2, hR]

structure GetInv (w : World) (lv : Value) (done : List Int) (rest : ByteArray) (wr : World) : Prop where
  hl : Box wr w.heap.size 37 lv
  he : Box wr (w.heap.size + 1) 23 (.int .i64 0)
  hr : Box wr (w.heap.size + 2) 58 (.string rest)
  own : wr.ownsRow (w.heap.size + 3) 3 1 lv done.length (done.map (Value.int .i64))
  below : Below w.heap.size w wr
  size : w.heap.size + 3 ≤ wr.heap.size

theorem GetInv.step {w wr w1 w2 : World} {lv v' : Value} {done : List Int} {rest rest' : ByteArray} {x : Int} (hG : GetInv w lv done rest wr)
    (hb1 : Below wr.drew.heap.size (wr.drew.setCell ⟨w.heap.size + 2, 0, none⟩ (.string rest')) w1)
    (hown : w2.ownsRow (w.heap.size + 3) 3 1 v' (done.length + 1) (done.map (Value.int .i64) ++ [.int .i64 x])) (hg : (w1.alloc (.cells #[.int .i64 x] 3)).grownBy w2 lv.ownBlock) :
    GetInv w v' (done ++ [x]) rest' (w2.setCell ⟨w.heap.size, 0, none⟩ v') := by
  have hs := hG.size
  have hs1 : wr.heap.size ≤ w1.heap.size := by have := hb1.size; rwa [setCell_size] at this
  have hs2 : w1.heap.size + 1 ≤ w2.heap.size := by have := hg.size; simpa using this
  have hl := (((hG.hl.drew.other (p := ⟨w.heap.size + 2, 0, none⟩) (by simp) (.string rest')).below hb1 hG.hl.lt).alloc (.cells #[.int .i64 x] 3)).grown hg (own_ne hG.own (by omega))
  have he := (((hG.he.drew.other (p := ⟨w.heap.size + 2, 0, none⟩) (by simp) (.string rest')).below hb1 hG.he.lt).alloc (.cells #[.int .i64 x] 3)).grown hg (own_ne hG.own (by omega))
  have hr := (((hG.hr.drew.set (.string rest')).below hb1 hG.hr.lt).alloc (.cells #[.int .i64 x] 3)).grown hg (own_ne hG.own (by omega))
  refine ⟨hl.set v', he.other (by simp) v', hr.other (by simp) v', ?_, ?_, by rw [setCell_size]; omega⟩
  · have := ownsRow_setCell_below hown (a := ⟨w.heap.size, 0, none⟩) (by simp) v'
    simpa using this
  · have h1 : Below w.heap.size w (wr.drew.setCell ⟨w.heap.size + 2, 0, none⟩ (.string rest')) := hG.below.drew.setCell (by simp) _
    have h2 := h1.trans (hb1.mono (show w.heap.size ≤ wr.drew.heap.size by show w.heap.size ≤ wr.heap.size; omega))
    have h3 := (h2.alloc (by omega) (.cells #[.int .i64 x] 3)).grown hg (by simp; omega) (fun k hk => by have := own_base hG.own k hk; omega)
    exact h3.setCell (by simp) v'

theorem takes_none {n : Int} {ns : List Int} {s : List UInt8} (h : s.length < n.natAbs) : takes (n :: ns) s = none := by rw [takes, if_pos h]
theorem takes_some {n : Int} {ns : List Int} {s : List UInt8} (h : ¬ s.length < n.natAbs) : takes (n :: ns) s = (takes ns (s.drop n.natAbs)).map (numOf n (s.take n.natAbs) :: ·) := by rw [takes, if_neg h]
theorem info_int : (Try.prog.info? 3).map (fun i => (i.zero, i.size, i.bytes)) = some (some (.int .i64 0), 1, 8) := by kernel_rfl

/-- Stores below what a row lies in leave what it reads as. -/
theorem own_read2 {w : World} {base : Nat} {e : TypeId} {A : Option Addr} {c n : Nat} {xs : List Value} {l : List Int} (h : w.ownsRow base e 1 (.slice A n c) n xs) (hI : Ints w A l) {p q : Addr} (hp : p.block < base) (hq : q.block < base) {u v : Value} :
    Ints ((w.setCell p u).setCell q v) A l := by
  refine ⟨hI.len, hI.wf, fun j hj => ?_⟩
  obtain ⟨b, off, e1, hc⟩ := hI.cells j hj
  refine ⟨b, off, e1, ?_⟩
  have hb : base ≤ b := by
    rcases h.2 with ⟨h1, _⟩ | ⟨g, cap, cur, h1, hg, _⟩
    · cases h1; cases e1
    · cases h1; cases e1; exact hg
  rw [World.cell?_of_block (Below.heap_setCell _ q v b (by omega)), World.cell?_of_block (Below.heap_setCell _ p u b (by omega))]
  exact hc

/-- How far Get's loop has come behind k rounds. -/
def GetSo (s0 : List UInt8) (sizes : List Int) (k : Nat) (done : List Int) (rest : ByteArray) : Prop :=
  done.length = k ∧ (∀ x, x ∈ done → I64 x) ∧ takes sizes s0 = (takes (sizes.drop k) rest.data.toList).map (done ++ ·)

theorem extract_toList (s : ByteArray) (m : Nat) : (s.extract m s.size).data.toList = s.data.toList.drop m := by
  rw [ByteArray.data_extract]
  simp only [Array.toList_extract, List.extract_eq_take_drop]
  exact List.take_of_length_le (by simp)
theorem GetSo.start (s : ByteArray) (sizes : List Int) (m : Nat) : GetSo (s.data.toList.drop m) sizes 0 [] (s.extract m s.size) :=
  ⟨rfl, by simp, by rw [extract_toList]; simp⟩
theorem GetSo.fail {s0 : List UInt8} {sizes : List Int} {k : Nat} {done : List Int} {rest : ByteArray} (h : GetSo s0 sizes k done rest) (hk : k < sizes.length) (hm : rest.size < (nth sizes k).natAbs) : takes sizes s0 = none := by
  rw [h.2.2, nth_drop _ _ hk, takes_none (by simpa using hm)]
  rfl
theorem GetSo.step {s0 : List UInt8} {sizes : List Int} {k : Nat} {done : List Int} {rest : ByteArray} (h : GetSo s0 sizes k done rest) (hk : k < sizes.length) (hm : ¬ rest.size < (nth sizes k).natAbs) (hz : sizeB (nth sizes k) = true) :
    GetSo s0 sizes (k + 1) (done ++ [numOf (nth sizes k) (rest.data.toList.take (nth sizes k).natAbs)]) (rest.extract (nth sizes k).natAbs rest.size) := by
  refine ⟨by simp [h.1], fun x hx => ?_, ?_⟩
  · rcases List.mem_append.1 hx with hx | hx
    · exact h.2.1 x hx
    · obtain rfl := List.mem_singleton.1 hx
      refine numOf_i64 _ _ ?_
      have := size_cases hz
      obtain ⟨m, h1, h4, h5, _⟩ := this
      simp
      omega
  · rw [h.2.2, nth_drop _ _ hk, takes_some (by simpa using hm), extract_toList]
    cases takes (sizes.drop (k + 1)) (rest.data.toList.drop (nth sizes k).natAbs) with
    | none => rfl
    | some l => simp
theorem GetSo.done {s0 : List UInt8} {sizes : List Int} {done : List Int} {rest : ByteArray} (h : GetSo s0 sizes sizes.length done rest) : takes sizes s0 = some done := by
  rw [h.2.2, List.drop_length, takes]
  simp
theorem getS_none {s : List UInt8} {m : Nat} {sizes : List Int} (hr : rightB sizes = true) (hm : m ≤ s.length) (h : takes sizes (s.drop m) = none) : getS s m sizes = ([], 4) := by
  unfold getS
  rw [if_neg (by simp [hr]), if_neg (by omega)]
  simp [h]
theorem getS_some {s : List UInt8} {m : Nat} {sizes l : List Int} (hr : rightB sizes = true) (hm : m ≤ s.length) (h : takes sizes (s.drop m) = some l) : getS s m sizes = (l, 0) := by
  unfold getS
  rw [if_neg (by simp [hr]), if_neg (by omega)]
  simp [h]

set_option maxRecDepth 100000 in
set_option maxHeartbeats 2000000 in
theorem get_on (s : ByteArray) (m : Nat) (A : Option Addr) (c : Nat) (sizes : List Int) (w : World) (h : Ints w A sizes) (hs : s.size ≤ 140737488355328) (hr : rightB sizes = true) (hm : m ≤ s.size) (hn : sizes.length ≤ 1000000) :
    Calls Try.prog 16 #[.string s, .int .i64 (m : Int), .slice A sizes.length c] w (RetInts w (getS s.data.toList m sizes)) := by
  have hmf := make_func
  have hI := h.below (w' := (w.alloc (.cells #[.slice none 0 0] 37)).alloc (.cells #[.int .i64 0] 23)) (((Below.refl _ _).alloc (Nat.le_refl _) _).alloc (by simp) _)
  have hx := right_any A c sizes _ hI
  rw [hr] at hx
  have HR := Lib.hid hr
  have hd1 : decide ((m : Int) < 0) = false := by simp
  have hd2 : decide (s.size < m) = false := by simpa using hm
  have hml : m ≤ s.data.toList.length := hm
  clear hr
  go_enter_defers Try.func16, Try.ntmps16
  go_wp2_with (go_at_call 35; refine hx.mono ?_; rintro e w' ⟨rfl, rfl⟩)
  go_loopw [10, 32] (fun _ i wr => ∃ (k : Nat) (done : List Int) (lv : Value) (rest : ByteArray), k ≤ sizes.length ∧ i = .int .i64 k ∧ GetInv w lv done rest wr ∧ rest.size ≤ 140737488355328 ∧ GetSo (s.data.toList.drop m) sizes k done rest)
    (fun _ i _ => sizes.length - (intOf i).toNat)
  case atStart =>
    refine ⟨0, [], .slice none 0 0, s.extract m s.size, Nat.zero_le _, rfl, ⟨?_, ?_, ?_, ?_, ?_, ?_⟩, by simp; omega, GetSo.start s sizes m⟩
    · exact ((Box.new w _ _).alloc _).alloc _
    · have := (Box.new (w.alloc (.cells #[.slice none 0 0] 37)) 23 (.int .i64 0)).alloc (.cells #[.string (s.extract m s.size)] 58)
      simpa using this
    · have := Box.new ((w.alloc (.cells #[.slice none 0 0] 37)).alloc (.cells #[.int .i64 0] 23)) 58 (.string (s.extract m s.size))
      simpa using this
    · exact World.ownsRow_nil _ _ _ _
    · (repeat (first | exact Below.refl _ _ | assumption | (refine Below.alloc ?_ (by first | omega | (simp; done) | (simp; omega)) _) | (refine Below.setCell ?_ (by first | omega | (simp; done) | (simp; omega)) _) | (refine Below.drew ?_)))
    · simp
  case round =>
    obtain ⟨k, done, lv, rest, hk, rfl, hG, hrs, hso⟩ := hrel
    have hW := Ints.below h hG.below
    have cl : wr.cell? ⟨w.heap.size, 0, none⟩ = some lv := hG.hl.cell
    have ce : wr.cell? ⟨w.heap.size + 1, 0, none⟩ = some (.int .i64 0) := hG.he.cell
    have cr : wr.cell? ⟨w.heap.size + 2, 0, none⟩ = some (.string rest) := hG.hr.cell
    have fl := hG.hl.frozen
    have fe := hG.he.frozen
    have fr := hG.hr.frozen
    have HG := Lib.hid hG
    have HS := Lib.hid hso
    clear hG hso h hI hx
    by_cases hlt : k < sizes.length
    · obtain ⟨b, off, rfl, g⟩ := hW.cells k hlt
      clear hW
      have hsz := rightB_at HR.out hlt
      by_cases hmore : rest.size < (nth sizes k).natAbs
      · have ht := take_more (w.heap.size + 2) rest (nth sizes k) wr.drew hsz (by go_simp) hmore
        have HT := Lib.hid ht
        have HM := Lib.hid hmore
        have HZ := Lib.hid hsz
        clear ht hmore hsz
        go_wp2_with fail
        refine wp_region_any (by kernel_rfl) ?_
        change wpAny _ _ _ _ _ _ _ (World.drew _)
        refine wpAny_keep (PP := fun ch ds W => ch = [{ v := .iface 23 (.int .i64 4), recovered := false }] ∧ ds = [getDefer w.heap.size (w.heap.size + 1)] ∧ W = wr.drew) _
          (keep_two 6 7 (.pointer (some ⟨w.heap.size, 0, none⟩)) (.pointer (some ⟨w.heap.size + 1, 0, none⟩)) (by kernel_rfl)) ?_ _ _ _ _ ⟨rfl, rfl⟩ ?_
        · rintro ch ⟨tmps, ds⟩ W ⟨h6, h7⟩ ⟨rfl, rfl, rfl⟩
          refine get_panic w.heap.size (w.heap.size + 1) lv (.int .i64 0) 4 tmps wr.drew _ (by omega) h6 h7 (by go_simp) (by go_simp) (by go_simp) (by go_simp) ?_
          rw [getS_none HR.out hml (HS.out.fail hlt HM.out)]
          refine ⟨none, 0, rfl, Ints.nil _, ?_, Cap.nil⟩
          exact ((HG.out.below.drew.setCell (by simp) _).setCell (by simp <;> omega) _).drew
        · refine wpAny_take (i := 1) (v := .pointer (some ⟨w.heap.size + 2, 0, none⟩)) rfl (by kernel_rfl) (by kernel_rfl) (by kernel_rfl) (fun _ _ _ h => h) (Or.inl ⟨by rfl, ?_⟩) ?_
          · intro w; go_simp
          refine wpAny_take (i := 2) (v := .int .i64 (nth sizes k)) rfl (by kernel_rfl) (by kernel_rfl) (by kernel_rfl) (fun _ _ _ h => h) (Or.inl ⟨by rfl, ?_⟩) ?_
          · intro w; go_simp
          have hcall := HT.out
          refine wpAny_ready (rs := [0, 3]) (by kernel_rfl) (by simp) ?_
          refine AllReady.cons rfl (fun K hK => ?_) (AllReady.cons rfl (fun K hK => ?_) AllReady.nil)
          · go_simp
            refine hK _ _ ?_
            refine wpAny_ready (rs := [3]) (by kernel_rfl) (by simp) ?_
            refine AllReady.cons rfl (fun K hK => ?_) AllReady.nil
            go_simp
            refine hcall.mono ?_
            rintro e w' ⟨rfl, rfl⟩
            exact ⟨rfl, rfl, rfl⟩
          · go_simp
            refine hcall.mono ?_
            rintro e w' ⟨rfl, rfl⟩
            exact ⟨rfl, rfl, rfl⟩
      · have ht := take_some (w.heap.size + 2) rest (nth sizes k) wr.drew hsz (by go_simp) (by go_simp) hrs (by omega)
        have HT := Lib.hid ht
        have HM := Lib.hid hmore
        have HZ := Lib.hid hsz
        have hown := Lib.hid HG.out.own
        have hbelow := Lib.hid HG.out.below
        have hsize := Lib.hid HG.out.size
        clear ht hmore hsz
        obtain ⟨i0, hi0, hz0, hz1, hz2⟩ := info_parts info_int
        go_wp2_with fail
        refine wp_region_any (by kernel_rfl) ?_
        change wpAny _ _ _ _ _ _ _ (World.drew _)
        refine wpAny_keep (PP := fun _ _ _ => False) (fun _ => True) (fun _ _ _ _ _ _ _ _ => trivial) (fun _ _ _ _ h => h.elim) _ _ _ _ trivial ?_
        refine wpAny_of_G (last := 6) (S := fun W => W.cell? ⟨w.heap.size, 0, none⟩ = some lv) _ _ _ _ ?_
        refine wpAnyG_take (i := 0) (v := lv) rfl (by kernel_rfl) (by kernel_rfl) (by kernel_rfl) (by kernel_rfl) (by kernel_rfl) (fun _ _ _ h => h) (Or.inl ⟨by rfl, by (intro W hW; go_simp)⟩) (by go_simp) ?_
        refine wpAnyG_take (i := 1) (v := .pointer (some ⟨w.heap.size + 2, 0, none⟩)) rfl (by kernel_rfl) (by kernel_rfl) (by kernel_rfl) (by kernel_rfl) (by kernel_rfl) (fun _ _ _ h => h) (Or.inl ⟨by rfl, by (intro W hW; go_simp)⟩) (by go_simp) ?_
        refine wpAnyG_take (i := 2) (v := .int .i64 (nth sizes k)) rfl (by kernel_rfl) (by kernel_rfl) (by kernel_rfl) (by kernel_rfl) (by kernel_rfl) (fun _ _ _ h => h) (Or.inl ⟨by rfl, by (intro W hW; go_simp)⟩) (by go_simp) ?_
        refine wpAnyG_step (i := 3) (by kernel_rfl) rfl (fun K hK => ?_)
        go_simp
        refine HT.out.mono ?_
        rintro e w1 ⟨rfl, hb1⟩
        have hs1 : wr.heap.size ≤ w1.heap.size := by have := hb1.size; rwa [setCell_size] at this
        have hsz0 := HG.out.size
        have hdl : done.length ≤ 1000000 := by have := HS.out.1; omega
        have hB1 : Box w1 w.heap.size 37 lv := (HG.out.hl.drew.other (p := ⟨w.heap.size + 2, 0, none⟩) (by simp) _).below hb1 HG.out.hl.lt
        have hown1 := own_below (ownsRow_setCell_below hown.out.drew (a := ⟨w.heap.size + 2, 0, none⟩) (by simp) (.string (rest.extract (nth sizes k).natAbs rest.size))) (by rw [setCell_size]; exact hb1)
        refine hK _ _ (fun _ => hB1.cell) ?_
        refine wpAnyG_step (i := 4) (by kernel_rfl) rfl (fun K hK => ?_)
        go_simp
        refine hK _ _ (fun _ => (hB1.alloc _).cell) ?_
        refine wpAnyG_step (i := 5) (by kernel_rfl) rfl (fun K hK => ?_)
        refine step_append_lies _ rfl _ _ _ rfl (w.heap.size + 3) 3 i0 _ 1 8 Try.underlying37 hi0 hz0 hz1 hz2 rfl (by omega) lv done.length _ rfl (hown1.alloc _)
          ⟨w1.heap.size, 0, none⟩ 1 1 [.int .i64 (numOf (nth sizes k) (rest.data.toList.take (nth sizes k).natAbs))] rfl rfl (cell_one_new _ _ _) (by simp [Value.oneCell']) (by omega) (by unfold maxLen; omega) (by omega) (by simp; omega) _ rfl ?_
        intro g1 cap1 w2 hown2 hgrow hat2 hlt2
        go_simp
        have hB2 := (hB1.alloc (.cells #[.int .i64 (numOf (nth sizes k) (rest.data.toList.take (nth sizes k).natAbs))] 3)).grown hgrow (own_ne hown.out (by omega))
        have hB2c := hB2.cell
        have hB2f := hB2.frozen
        refine hK _ _ (fun _ => hB2c) ?_
        refine wpAnyG_step (i := 6) (by kernel_rfl) rfl (fun K hK => ?_)
        go_simp
        refine hK _ _ (fun h => absurd rfl h) ?_
        refine wpAnyG_done (by kernel_rfl) ?_ _
        simp only [Qk]
        have HF := Lib.hid (HG.out.step hb1 hown2 hgrow)
        clear hown2 hgrow hat2 hB2c hB2f hown1 hb1
        go_wp2
        go_roundw
        case rel => exact ⟨k + 1, _, _, _, by omega, by go_num, HF.out, by simp; omega, HS.out.step hlt HM.out HZ.out⟩
        case measure => simp [intOf]; omega
    · have hkn : k = sizes.length := by omega
      have HK := Lib.hid hkn
      clear hkn
      obtain ⟨A', c', rfl, hIn, hcap⟩ := own_ints HG.out.own HS.out.2.1 (by have := HS.out.1; omega)
      have HIn := Lib.hid hIn
      have HC := Lib.hid hcap
      clear hIn hcap
      go_wp2
      have hso := HS.out
      rw [HK.out] at hso
      rw [getS_some HR.out hml hso.done]
      refine get_ret w.heap.size (w.heap.size + 1) _ (.int .i64 0) _ _ _ rfl rfl ((HG.out.hl.set _).other (by simp) _).cell ((HG.out.he.other (by simp) _).set _).cell ?_
      refine ⟨A', c', rfl, ?_, (HG.out.below.setCell (by simp) _).setCell (by simp) _, HC.out⟩
      refine own_read2 HG.out.own HIn.out (by simp) (by simp)

set_option maxHeartbeats 1000000 in
theorem get_past (s : ByteArray) (at_ : Int) (A : Option Addr) (c : Nat) (sizes : List Int) (w : World) (h : Ints w A sizes) (hs : s.size ≤ 140737488355328) (hr : rightB sizes = true) (ha : (s.size : Int) < at_) :
    Calls Try.prog 16 #[.string s, .int .i64 at_, .slice A sizes.length c] w (RetInts w ([], 4)) := by
  have hmf := make_func
  have hI := h.below (w' := (w.alloc (.cells #[.slice none 0 0] 37)).alloc (.cells #[.int .i64 0] 23)) (by (repeat (first | exact Below.refl _ _ | assumption | (refine Below.alloc ?_ (by first | omega | (simp; done) | (simp; omega)) _) | (refine Below.setCell ?_ (by first | omega | (simp; done) | (simp; omega)) _) | (refine Below.drew ?_))))
  have hx := right_any A c sizes _ hI
  rw [hr] at hx
  have HR := Lib.hid hr
  have hd1 : decide (at_ < 0) = false := by simp; omega
  have h0 : 0 ≤ at_ := by omega
  clear hr
  go_enter_defers Try.func16, Try.ntmps16
  go_wp2_with (go_at_call 35; refine hx.mono ?_; rintro e w' ⟨rfl, rfl⟩)
  refine get_ret w.heap.size (w.heap.size + 1) (.slice none 0 0) (.int .i64 4) _ _ _ rfl rfl (by go_simp) (by go_simp) ?_
  exact ⟨none, 0, rfl, Ints.nil _, by (repeat (first | exact Below.refl _ _ | assumption | (refine Below.alloc ?_ (by first | omega | (simp; done) | (simp; omega)) _) | (refine Below.setCell ?_ (by first | omega | (simp; done) | (simp; omega)) _) | (refine Below.drew ?_))), Cap.nil⟩

theorem getS_arg {s : List UInt8} {at_ : Int} {sizes : List Int} (h : at_ < 0 ∨ rightB sizes = false) : getS s at_ sizes = ([], 1) := by unfold getS; rw [if_pos h]
theorem getS_past {s : List UInt8} {at_ : Int} {sizes : List Int} (h : ¬ (at_ < 0 ∨ rightB sizes = false)) (ha : (s.length : Int) < at_) : getS s at_ sizes = ([], 4) := by unfold getS; rw [if_neg h, if_pos ha]

/-- bin.Get -/
theorem get_any (s : ByteArray) (at_ : Int) (A : Option Addr) (c : Nat) (sizes : List Int) (w : World) (h : Ints w A sizes) (hs : s.size ≤ 140737488355328) (hn : sizes.length ≤ 1000000) :
    Calls Try.prog 16 #[.string s, .int .i64 at_, .slice A sizes.length c] w (RetInts w (getS s.data.toList at_ sizes)) := by
  by_cases hb : at_ < 0 ∨ rightB sizes = false
  · rw [getS_arg hb]
    exact get_arg s at_ A c sizes w h hb
  · have h0 : 0 ≤ at_ := by
      rcases Int.lt_or_le at_ 0 with h | h
      · exact absurd (.inl h) hb
      · exact h
    have hr : rightB sizes = true := by
      cases hx : rightB sizes
      · exact absurd (.inr hx) hb
      · rfl
    obtain ⟨m, rfl⟩ := Int.eq_ofNat_of_zero_le h0
    by_cases hm : m ≤ s.size
    · exact get_on s m A c sizes w h hs hr hm hn
    · have hm' : (s.size : Int) < (m : Int) := by omega
      rw [getS_past hb (by simpa using hm')]
      exact get_past s m A c sizes w h hs hr hm'

end Go.Proofs.Ytigljfmbelaobaa
