/- Layer 3 (bin): what Put comes to. -/
import Derived.Test.YtigljfmbelaobaaBin
import Derived.Test.YtigljfmbelaobaaBld
namespace Go.Proofs.Ytigljfmbelaobaa
open Go.RowKit

def byteOf (v : Int) (k : Nat) : UInt8 := UInt8.ofNat ((v / pow8 k) % 256).toNat
theorem byteOf_val (v : Int) (k : Nat) : v / 2 ^ (8 * k) % 256 = ((byteOf v k).toNat : Int) := by
  have h : (2 : Int) ^ (8 * k) = pow8 k := by unfold pow8; rw [Int.pow_mul]; rfl
  rw [h]
  unfold byteOf
  have h1 : 0 ≤ v / pow8 k % 256 := Int.emod_nonneg _ (by decide)
  have h2 : v / pow8 k % 256 < 256 := Int.emod_lt_of_pos _ (by decide)
  rw [UInt8.toNat_ofNat']
  omega
/-- n bytes of v, the highest first -/
def bytesOf (v : Int) : Nat → List UInt8
  | 0 => []
  | n + 1 => byteOf v n :: bytesOf v n
def putAll : List Int → List Int → Option (List UInt8)
  | n :: ns, v :: vs => if fitsB v n then (putAll ns vs).map (bytesOf v n.natAbs ++ ·) else none
  | _, _ => some []
/-- what Put comes to: the bytes, and the error -/
def putS (sizes values : List Int) : List UInt8 × Int :=
  if rightB sizes = false ∨ sizes.length ≠ values.length then ([], 1) else
  match putAll sizes values with
  | none => ([], 2)
  | some l => (l, 0)

/-- A text and an error come back; nothing that was there has turned. -/
def RetText (w : World) (r : List UInt8 × Int) (e : Ending) (w' : World) : Prop :=
  e = .returned (.tuple #[.string ⟨r.1.toArray⟩, .int .i64 r.2]) ∧ Below w.heap.size w w'

set_option maxHeartbeats 1000000 in
theorem put_arg (A1 A2 : Option Addr) (c1 c2 : Nat) (sizes values : List Int) (w : World) (h1 : Ints w A1 sizes) (h2 : Ints w A2 values) (hb : rightB sizes = false ∨ sizes.length ≠ values.length) :
    Calls Try.prog 21 #[.slice A1 sizes.length c1, .slice A2 values.length c2] w (RetText w ([], 1)) := by
  have hx := right_any A1 c1 sizes w h1
  have hl1 := h1.len
  have hl2 := h2.len
  clear h1 h2
  cases hr : rightB sizes with
  | false =>
    rw [hr] at hx
    clear hr hb
    go_enter Try.func21, Try.ntmps21
    go_wp2_with (go_at_call 35; refine hx.mono ?_; rintro e w' ⟨rfl, rfl⟩)
    go_ret2
    exact ⟨rfl, Below.refl _ _⟩
  | true =>
    rw [hr] at hx
    have hne : sizes.length ≠ values.length := by
      rcases hb with hb | hb
      · rw [hr] at hb; cases hb
      · exact hb
    have hd : ((sizes.length : Int) != (values.length : Int)) = true := by rw [bne_iff_ne]; omega
    clear hr hb hne
    go_enter Try.func21, Try.ntmps21
    go_wp2_with (go_at_call 35; refine hx.mono ?_; rintro e w' ⟨rfl, rfl⟩)
    go_ret2
    exact ⟨rfl, Below.refl _ _⟩

/-- How far Put's loop has come behind k rounds. -/
def PutSo (sizes values : List Int) (k : Nat) (done : List UInt8) : Prop := putAll sizes values = (putAll (sizes.drop k) (values.drop k)).map (done ++ ·)
theorem PutSo.start (sizes values : List Int) : PutSo sizes values 0 [] := by simp [PutSo]
theorem putS_none {sizes values : List Int} (hr : rightB sizes = true) (hl : sizes.length = values.length) (h : putAll sizes values = none) : putS sizes values = ([], 2) := by
  unfold putS
  rw [if_neg (by simp [hr, hl]), h]
theorem putS_some {sizes values : List Int} {l : List UInt8} (hr : rightB sizes = true) (hl : sizes.length = values.length) (h : putAll sizes values = some l) : putS sizes values = (l, 0) := by
  unfold putS
  rw [if_neg (by simp [hr, hl]), h]
theorem PutSo.fail {sizes values : List Int} {k : Nat} {done : List UInt8} (h : PutSo sizes values k done) (hr : rightB sizes = true) (hl : sizes.length = values.length) (hk : k < sizes.length) (hf : fitsB (nth values k) (nth sizes k) = false) : putS sizes values = ([], 2) := by
  refine putS_none hr hl ?_
  rw [h, nth_drop sizes k hk, nth_drop values k (hl ▸ hk), putAll, if_neg (by simp [hf])]
  rfl
theorem PutSo.step {sizes values : List Int} {k : Nat} {done : List UInt8} (h : PutSo sizes values k done) (hl : sizes.length = values.length) (hk : k < sizes.length) (hf : fitsB (nth values k) (nth sizes k) = true) : PutSo sizes values (k + 1) (done ++ bytesOf (nth values k) (nth sizes k).natAbs) := by
  unfold PutSo at *
  rw [h, nth_drop sizes k hk, nth_drop values k (hl ▸ hk), putAll, if_pos hf]
  cases putAll (sizes.drop (k + 1)) (values.drop (k + 1)) with
  | none => rfl
  | some l => simp
theorem PutSo.done {sizes values : List Int} {done : List UInt8} (h : PutSo sizes values sizes.length done) (hr : rightB sizes = true) (hl : sizes.length = values.length) : putS sizes values = (done, 0) := by
  refine putS_some hr hl ?_
  rw [h, List.drop_length, hl, List.drop_length, putAll]
  simp
  exact fun _ _ _ _ h => by cases h

set_option maxRecDepth 100000 in
set_option maxHeartbeats 2000000 in
theorem put_on (A1 A2 : Option Addr) (c1 c2 : Nat) (sizes values : List Int) (w : World) (h1 : Ints w A1 sizes) (h2 : Ints w A2 values) (hr : rightB sizes = true) (hl : sizes.length = values.length) (hn : sizes.length ≤ 1000000) :
    Calls Try.prog 21 #[.slice A1 sizes.length c1, .slice A2 values.length c2] w (RetText w (putS sizes values)) := by
  have hx := right_any A1 c1 sizes w h1
  rw [hr] at hx
  have HR := Lib.hid hr
  have HL := Lib.hid hl
  have hd : ((sizes.length : Int) != (values.length : Int)) = false := by rw [bne_eq_false_iff_eq]; omega
  have hvl : values.length ≤ sizes.length := by omega
  have hvl2 : sizes.length ≤ values.length := by omega
  clear hr hl
  go_enter Try.func21, Try.ntmps21
  go_wp2_with (go_at_call 35; refine hx.mono ?_; rintro e w' ⟨rfl, rfl⟩)
  go_loopw [7, 8, 9, 22] (fun _ _ _ i wr => ∃ (k : Nat) (done : List UInt8) (v : Value), k ≤ sizes.length ∧ i = .int .i64 k ∧ Bld w.heap.size w.heap.size v done wr ∧ Below w.heap.size w wr ∧ done.length ≤ 4 * k ∧ PutSo sizes values k done)
    (fun _ _ _ i _ => sizes.length - (intOf i).toNat)
  case atStart =>
    refine ⟨0, [], .slice none 0 0, Nat.zero_le _, rfl, Bld.fresh w _ (Nat.le_refl _), by (repeat (first | exact Below.refl _ _ | assumption | (refine Below.alloc ?_ (by first | omega | (simp; done) | (simp; omega)) _) | (refine Below.setCell ?_ (by first | omega | (simp; done) | (simp; omega)) _) | (refine Below.drew ?_))), by simp, PutSo.start _ _⟩
  case round =>
    obtain ⟨k, done, v, hk, rfl, hB, hW, hdl, hso⟩ := hrel
    have hsz := hW.size
    have HS := Lib.hid hso
    have HB := Lib.hid hB
    have HW := Lib.hid hW
    clear hso hB hW hx
    by_cases hlt : k < sizes.length
    · obtain ⟨b1, o1, rfl, gw1⟩ := h1.cells k hlt
      obtain ⟨b2, o2, rfl, gw2⟩ := h2.cells k (by omega)
      have hb1 := World.block_lt_of_cell? w _ gw1
      have hb2 := World.block_lt_of_cell? w _ gw2
      have g1 := (HW.out.cell (p := ⟨b1, o1 + k, none⟩) hb1).trans gw1
      have g2 := (HW.out.cell (p := ⟨b2, o2 + k, none⟩) hb2).trans gw2
      have GW2 := Lib.hid gw2
      clear h1 h2 gw1 gw2
      have hz := rightB_at HR.out hlt
      have HZ := Lib.hid hz
      clear hz
      generalize hxe : nth values k = x at *
      generalize hne : nth sizes k = n at *
      have HX := Lib.hid hxe
      have HN := Lib.hid hne
      clear hxe hne
      have hkv : k < values.length := by omega
      have hf := fits_any x n wr HZ.out
      cases hfb : fitsB x n with
      | false =>
        rw [hfb] at hf
        have HF := Lib.hid hfb
        clear hfb
        go_wp2_with (go_at_call 42; refine hf.mono ?_; rintro e w' ⟨rfl, rfl⟩)
        go_ret2
        exact ⟨by rw [HS.out.fail HR.out HL.out hlt (by rw [HX.out, HN.out]; exact HF.out)]; rfl, HW.out⟩
      | true =>
        rw [hfb] at hf
        have HF := Lib.hid hfb
        clear hfb
        obtain ⟨m, hm1, hm4, hm, hcase⟩ := size_cases HZ.out
        have HM := Lib.hid hm
        clear hm
        rcases hcase with rfl | rfl
        all_goals
          go_wp2_with (go_at_call 42; refine hf.mono ?_; rintro e w' ⟨rfl, rfl⟩)
          go_loopw [9] (fun t wi => ∃ (j : Nat) (d2 : List UInt8) (v2 : Value), j ≤ m ∧ t = .int .i64 ((j : Int) - 1) ∧ Bld w.heap.size w.heap.size v2 d2 wi ∧ Below w.heap.size w wi ∧ d2.length + j ≤ 4 * k + m ∧ d2 ++ bytesOf x j = done ++ bytesOf x m)
            (fun t _ => (intOf t + 1).toNat)
          case atStart => exact ⟨m, done, v, Nat.le_refl _, rfl, HB.out, HW.out, by omega, rfl⟩
          case round =>
            obtain ⟨j, d2, v2, hj, rfl, hB2, hW2, hd2, he2⟩ := hrel
            have hsz2 := hW2.size
            have g2' := (hW2.cell (p := ⟨b2, o2 + k, none⟩) hb2).trans GW2.out
            have HE2 := Lib.hid he2
            have HW2 := Lib.hid hW2
            have HBi := Lib.hid hB2
            clear he2 hW2 hB2
            cases j with
            | zero =>
              have hd : d2 = done ++ bytesOf x m := by have := HE2.out; simpa [bytesOf] using this
              have HD := Lib.hid hd
              clear hd
              go_wp2
              go_roundw
              case rel =>
                refine ⟨k + 1, d2, v2, by omega, by go_num, HBi.out, HW2.out, by omega, ?_⟩
                have h := HS.out.step HL.out hlt (by rw [HX.out, HN.out]; exact HF.out)
                rw [HX.out, HN.out, HM.out] at h
                rw [HD.out]
                exact h
              case measure => simp [intOf]; omega
            | succ j =>
              go_wp2_with fail
              rw [byteOf_val]
              refine (writeByte_any (byteOf x j) HBi.out (by omega) (by omega)).mono ?_
              rintro e w3 ⟨rfl, v3, hB3, ht3, _⟩
              have hW3 := below_touch HW2.out ht3 (by omega) (fun k _ h => HBi.out.above k h)
              have HB3 := Lib.hid hB3
              have HW3 := Lib.hid hW3
              clear hB3 hW3 ht3
              go_wp2
              go_roundw
              case rel =>
                refine ⟨j, _, v3, by omega, by go_num, HB3.out, HW3.out, by simp; omega, ?_⟩
                have := HE2.out
                rw [bytesOf] at this
                rw [← this, List.append_assoc]
                rfl
              case measure => simp [intOf]
    · have hkn : k = sizes.length := by omega
      have HK := Lib.hid hkn
      clear hkn
      go_wp2_with fail
      refine (string_any HB.out).mono ?_
      rintro e w3 ⟨rfl, ht3⟩
      have hso := HS.out
      rw [HK.out] at hso
      have hfin := hso.done HR.out HL.out
      have HFi := Lib.hid hfin
      have hW3 := Lib.hid (below_touch HW.out ht3 (by omega) (fun k _ h => HB.out.above k h))
      clear hso hfin ht3
      go_wp2
      go_ret2
      exact ⟨by rw [HFi.out]; rfl, hW3.out⟩

/-- bin.Put -/
theorem put_any (A1 A2 : Option Addr) (c1 c2 : Nat) (sizes values : List Int) (w : World) (h1 : Ints w A1 sizes) (h2 : Ints w A2 values) (hn : sizes.length ≤ 1000000) :
    Calls Try.prog 21 #[.slice A1 sizes.length c1, .slice A2 values.length c2] w (RetText w (putS sizes values)) := by
  by_cases hb : rightB sizes = false ∨ sizes.length ≠ values.length
  · have : putS sizes values = ([], 1) := by unfold putS; rw [if_pos hb]
    rw [this]
    exact put_arg A1 A2 c1 c2 sizes values w h1 h2 hb
  · have hr : rightB sizes = true := by
      cases hx : rightB sizes
      · exact absurd (.inl hx) hb
      · rfl
    have hl : sizes.length = values.length := by
      by_cases h : sizes.length = values.length
      · exact h
      · exact absurd (.inr h) hb
    exact put_on A1 A2 c1 c2 sizes values w h1 h2 hr hl hn

end Go.Proofs.Ytigljfmbelaobaa
