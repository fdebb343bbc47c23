/- Words that all walks of this seat share: a slice of ints that is read; small laws on worlds. -/
import Derived.Test.YtigljfmbelaobaaProg
import Derived.WalkKit
import Derived.WalkSpells
import Derived.WalkLawsBesides
import Derived.Lib.Hide
import Derived.Lib.ConvBytes
namespace Go.Proofs.Ytigljfmbelaobaa
open Go.RowKit

def nth (l : List Int) (k : Nat) : Int := l.getD k 0
theorem nth_eq (l : List Int) (k : Nat) (h : k < l.length) : nth l k = l[k] := by simp [nth, h]
theorem nth_mem (l : List Int) (k : Nat) (h : k < l.length) : nth l k ∈ l := by rw [nth_eq l k h]; exact List.getElem_mem h

def I64 (x : Int) : Prop := -9223372036854775808 ≤ x ∧ x ≤ 9223372036854775807

/-- The cells from A on hold l. -/
structure Ints (w : World) (A : Option Addr) (l : List Int) : Prop where
  len : l.length ≤ 140737488355328
  wf : ∀ x, x ∈ l → I64 x
  cells : ∀ j, j < l.length → ∃ b off, A = some ⟨b, off, none⟩ ∧ w.cell? ⟨b, off + j, none⟩ = some (.int .i64 (nth l j))

theorem Ints.below {w w' : World} {A : Option Addr} {l : List Int} (h : Ints w A l) (hb : Below w.heap.size w w') : Ints w' A l :=
  ⟨h.len, h.wf, fun j hj => by
    obtain ⟨b, off, e, hc⟩ := h.cells j hj
    exact ⟨b, off, e, (hb.cell (World.block_lt_of_cell? w _ hc)).trans hc⟩⟩

/-- The same store on both sides. -/
theorem below_setCell2 {B : Nat} {w w1 : World} (h : Below B w w1) (p : Addr) (v : Value) : Below B (w.setCell p v) (w1.setCell p v) := by
  refine ⟨h.os, h.tape, h.output, by simpa [World.setCell] using h.size, fun k hk => ?_⟩
  simp only [World.setCell, Array.getElem?_modify]
  rw [h.block k hk]

theorem bcell {W w1 : World} (hb : Below W.heap.size W w1) : (∀ b o, b < W.heap.size → w1.cell? ⟨b, o, none⟩ = W.cell? ⟨b, o, none⟩) ∧ (∀ b o, b < W.heap.size → w1.frozen? ⟨b, o, none⟩ = W.frozen? ⟨b, o, none⟩) :=
  ⟨fun b o h => hb.cell (p := ⟨b, o, none⟩) h, fun b o h => hb.frozen (p := ⟨b, o, none⟩) h⟩

theorem cell_of_heap {w : World} {b : Nat} {cs : Array Value} {T : TypeId} {f : Nat × Nat} (h : w.heap[b]? = some (.cells cs T f)) (j : Nat) : w.cell? ⟨b, j, none⟩ = cs[j]? := by
  simp [World.cell?, h]
theorem frozen_of_heap {w : World} {b : Nat} {cs : Array Value} {T : TypeId} (h : w.heap[b]? = some (.cells cs T (0, 0))) (j : Nat) : w.frozen? ⟨b, j, none⟩ = false := by
  simp [World.frozen?, h]

/-- A variable of one cell in a block of its own. -/
def Box (w : World) (b : Nat) (T : TypeId) (v : Value) : Prop := w.heap[b]? = some (.cells #[v] T (0, 0))
theorem Box.lt {w : World} {b : Nat} {T : TypeId} {v : Value} (h : Box w b T v) : b < w.heap.size := (Array.getElem?_eq_some_iff.1 h).1
theorem Box.cell {w : World} {b : Nat} {T : TypeId} {v : Value} (h : Box w b T v) : w.cell? ⟨b, 0, none⟩ = some v := cell_of_heap h 0
theorem Box.frozen {w : World} {b : Nat} {T : TypeId} {v : Value} (h : Box w b T v) : w.frozen? ⟨b, 0, none⟩ = false := frozen_of_heap h 0
theorem Box.below {w w' : World} {b B : Nat} {T : TypeId} {v : Value} (h : Box w b T v) (hb : Below B w w') (hlt : b < B) : Box w' b T v := (hb.block b hlt).trans h
theorem Box.below' {w w' : World} {b : Nat} {T : TypeId} {v : Value} (h : Box w b T v) (hb : Below w.heap.size w w') : Box w' b T v := h.below hb h.lt
theorem Box.alloc {w : World} {b : Nat} {T : TypeId} {v : Value} (h : Box w b T v) (o : Obj) : Box (w.alloc o) b T v := (Below.heap_alloc w o b h.lt).trans h
theorem Box.new (w : World) (T : TypeId) (v : Value) : Box (w.alloc (.cells #[v] T)) w.heap.size T v := by
  show (w.heap.push _)[w.heap.size]? = _
  simp
theorem Box.drew {w : World} {b : Nat} {T : TypeId} {v : Value} (h : Box w b T v) : Box w.drew b T v := h
theorem Box.set {w : World} {b : Nat} {T : TypeId} {v : Value} (h : Box w b T v) (u : Value) : Box (w.setCell ⟨b, 0, none⟩ u) b T u := by
  unfold Box at *
  simp [World.setCell, Array.getElem?_modify, h]
theorem Box.other {w : World} {b : Nat} {T : TypeId} {v : Value} (h : Box w b T v) {p : Addr} (hne : b ≠ p.block) (u : Value) : Box (w.setCell p u) b T v :=
  (Below.heap_setCell w p u b hne).trans h
theorem Box.grown {w w' : World} {b : Nat} {T : TypeId} {v : Value} (h : Box w b T v) {row : Option Nat} (hg : w.grownBy w' row) (hne : some b ≠ row) : Box w' b T v :=
  (hg.block b h.lt hne).trans h

theorem own_below {w w' : World} {base : Nat} {e : TypeId} {size : Nat} {v : Value} {n : Nat} {xs : List Value} (h : w.ownsRow base e size v n xs) (hb : Below w.heap.size w w') : w'.ownsRow base e size v n xs :=
  h.kept (row := none) ⟨hb.os, hb.tape, hb.output, hb.size, fun i hi _ => hb.block i hi⟩ (by cases v.ownBlock <;> simp)
theorem own_drew {w : World} {base : Nat} {e : TypeId} {size : Nat} {v : Value} {n : Nat} {xs : List Value} (h : w.ownsRow base e size v n xs) : w.drew.ownsRow base e size v n xs := h
theorem setCell_size (w : World) (p : Addr) (v : Value) : (w.setCell p v).heap.size = w.heap.size := by simp [World.setCell]
theorem drew_size (w : World) : w.drew.heap.size = w.heap.size := rfl
theorem own_ne {w : World} {base : Nat} {e : TypeId} {size : Nat} {v : Value} {n : Nat} {xs : List Value} (h : w.ownsRow base e size v n xs) {b : Nat} (hb : b < base) : some b ≠ v.ownBlock := by
  intro e'
  have := (h.lt b e'.symm).1
  omega
theorem own_base {w : World} {base : Nat} {e : TypeId} {size : Nat} {v : Value} {n : Nat} {xs : List Value} (h : w.ownsRow base e size v n xs) : ∀ k, v.ownBlock = some k → base ≤ k := fun k hk => (h.lt k hk).1

/-- What holds of a slice's capacity. -/
def Cap (A : Option Addr) (n c : Nat) : Prop := (A = none → c = 0) ∧ n ≤ c
theorem Cap.nil : Cap none 0 0 := ⟨fun _ => rfl, Nat.le_refl _⟩
/-- What a row of the call's own reads as. -/
theorem own_ints {w : World} {base : Nat} {e : TypeId} {v : Value} {l : List Int} (h : w.ownsRow base e 1 v l.length (l.map (Value.int .i64))) (hwf : ∀ x, x ∈ l → I64 x) (hlen : l.length ≤ 140737488355328) :
    ∃ A c, v = .slice A l.length c ∧ Ints w A l ∧ Cap A l.length c := by
  rcases h.2 with ⟨rfl, h0⟩ | ⟨g, cap, cur, rfl, _, _, hcl, _⟩
  · have hl : l = [] := List.eq_nil_of_length_eq_zero h0
    subst hl
    exact ⟨none, 0, rfl, ⟨by simp, hwf, fun j hj => by simp at hj⟩, Cap.nil⟩
  · refine ⟨_, cap, rfl, ⟨hlen, hwf, fun j hj => ⟨g, 0, rfl, ?_⟩⟩, ⟨fun h => (by cases h), hcl⟩⟩
    have hc := h.cells (g := g) rfl j (.int .i64 (nth l j)) (by simp [List.getElem?_eq_getElem hj, nth_eq l j hj])
    have ha : (⟨g, 0, none⟩ : Addr).add j = ⟨g, 0 + j, none⟩ := by unfold Addr.add; split <;> simp_all
    rwa [ha] at hc

theorem addr_add (b off j : Nat) : (⟨b, off, none⟩ : Addr).add j = ⟨b, off + j, none⟩ := by unfold Addr.add; split <;> simp_all
theorem Ints.alloc {w : World} {A : Option Addr} {l : List Int} (h : Ints w A l) (o : Obj) : Ints (w.alloc o) A l := h.below ((Below.refl _ _).alloc (Nat.le_refl _) o)
theorem Ints.empty (w : World) (A : Option Addr) : Ints w A [] := ⟨by simp, by simp, fun j hj => by simp at hj⟩
theorem Ints.drew {w : World} {A : Option Addr} {l : List Int} (h : Ints w A l) : Ints w.drew A l := h.below (Below.refl _ _).drew
/-- As a copy or an append asks for it. -/
theorem Ints.news {w : World} {A : Option Addr} {l : List Int} (h : Ints w A l) (h0 : 0 < l.length) : ∃ ad, A = some ad ∧ ∀ (j : Nat) (x : Int), l[j]? = some x → w.cell? (ad.add j) = some (.int .i64 x) := by
  obtain ⟨b, off, e, _⟩ := h.cells 0 h0
  refine ⟨⟨b, off, none⟩, e, fun j x hx => ?_⟩
  obtain ⟨hj, hx'⟩ := List.getElem?_eq_some_iff.1 hx
  obtain ⟨b', off', e', hc⟩ := h.cells j hj
  rw [e] at e'
  cases e'
  rw [addr_add, hc, nth_eq l j hj, hx']

/-! ### Which blocks may have turned -/
/-- Of the blocks that were there only those in S may have turned. -/
structure Touch (S : Nat → Prop) (w w' : World) : Prop where
  os : w'.os = w.os
  tape : w'.tape = w.tape
  output : w'.output = w.output
  size : w.heap.size ≤ w'.heap.size
  block : ∀ k, k < w.heap.size → ¬ S k → w'.heap[k]? = w.heap[k]?
theorem Touch.refl (S : Nat → Prop) (w : World) : Touch S w w := ⟨rfl, rfl, rfl, Nat.le_refl _, fun _ _ _ => rfl⟩
theorem Touch.mono {S S' : Nat → Prop} {w w' : World} (h : Touch S w w') (hs : ∀ k, k < w.heap.size → S k → S' k) : Touch S' w w' :=
  ⟨h.os, h.tape, h.output, h.size, fun k hk hn => h.block k hk fun h' => hn (hs k hk h')⟩
theorem Touch.trans {S T : Nat → Prop} {a b c : World} (h : Touch S a b) (k : Touch T b c) (hs : ∀ i, i < a.heap.size → T i → S i) : Touch S a c :=
  ⟨k.os.trans h.os, k.tape.trans h.tape, k.output.trans h.output, Nat.le_trans h.size k.size, fun i hi hn => (k.block i (Nat.lt_of_lt_of_le hi h.size) fun h' => hn (hs i hi h')).trans (h.block i hi hn)⟩
theorem Touch.alloc {S : Nat → Prop} {a w : World} (h : Touch S a w) (o : Obj) : Touch S a (w.alloc o) :=
  ⟨h.os, h.tape, h.output, Nat.le_trans h.size (by simp), fun k hk hn => (Below.heap_alloc w o k (Nat.lt_of_lt_of_le hk h.size)).trans (h.block k hk hn)⟩
theorem Touch.drew {S : Nat → Prop} {a w : World} (h : Touch S a w) : Touch S a w.drew := ⟨h.os, h.tape, h.output, h.size, h.block⟩
theorem Touch.setCell {S : Nat → Prop} {a w : World} (h : Touch S a w) {p : Addr} (hp : p.block < a.heap.size → S p.block) (v : Value) : Touch S a (w.setCell p v) :=
  ⟨h.os, h.tape, h.output, by rw [setCell_size]; exact h.size, fun k hk hn => by
    by_cases e : k = p.block
    · subst e; exact absurd (hp hk) hn
    · exact (Below.heap_setCell w p v k e).trans (h.block k hk hn)⟩
theorem Touch.grown {S : Nat → Prop} {a w w' : World} (h : Touch S a w) {row : Option Nat} (hg : w.grownBy w' row) (hr : ∀ k, row = some k → k < a.heap.size → S k) : Touch S a w' :=
  ⟨hg.os.trans h.os, hg.tape.trans h.tape, hg.output.trans h.output, Nat.le_trans h.size hg.size, fun k hk hn => by
    refine (hg.block k (Nat.lt_of_lt_of_le hk h.size) fun e => hn (hr k e.symm hk)).trans (h.block k hk hn)⟩
theorem Touch.of_below {S : Nat → Prop} {w w' : World} (h : Below w.heap.size w w') : Touch S w w' := ⟨h.os, h.tape, h.output, h.size, fun k hk _ => h.block k hk⟩
theorem Touch.thenBelow {S : Nat → Prop} {a w w' : World} (h : Touch S a w) (k : Below w.heap.size w w') : Touch S a w' := h.trans (Touch.of_below (S := S) k) fun _ _ h => h
theorem Touch.toBelow {S : Nat → Prop} {w w' : World} (h : Touch S w w') {B : Nat} (hB : B ≤ w.heap.size) (hs : ∀ k, k < w.heap.size → S k → B ≤ k) : Below B w w' :=
  ⟨h.os, h.tape, h.output, h.size, fun k hk => h.block k (Nat.lt_of_lt_of_le hk hB) fun h' => by have := hs k (Nat.lt_of_lt_of_le hk hB) h'; omega⟩
theorem below_touch {B : Nat} {a w w' : World} (h : Below B a w) {S : Nat → Prop} (k : Touch S w w') (hB : B ≤ w.heap.size) (hs : ∀ k, k < w.heap.size → S k → B ≤ k) : Below B a w' := h.trans (k.toBelow hB hs)
theorem Box.touch {w w' : World} {b : Nat} {T : TypeId} {v : Value} (h : Box w b T v) {S : Nat → Prop} (k : Touch S w w') (hn : ¬ S b) : Box w' b T v := (k.block b h.lt hn).trans h
theorem own_touch {w w' : World} {base : Nat} {e : TypeId} {size : Nat} {v : Value} {n : Nat} {xs : List Value} (h : w.ownsRow base e size v n xs) {S : Nat → Prop} (k : Touch S w w') (hn : ∀ b, v.ownBlock = some b → ¬ S b) : w'.ownsRow base e size v n xs := by
  obtain ⟨h1, h2⟩ := h
  refine ⟨h1, ?_⟩
  rcases h2 with h2 | ⟨g, cap, cur, hv, hg, hh, r⟩
  · exact .inl h2
  · refine .inr ⟨g, cap, cur, hv, hg, ?_, r⟩
    rw [k.block g (Array.getElem?_eq_some_iff.1 hh).1 (hn g (by rw [hv]; rfl))]
    exact hh
theorem Ints.touch {w w' : World} {A : Option Addr} {l : List Int} (h : Ints w A l) {S : Nat → Prop} (k : Touch S w w') (hn : ∀ a, A = some a → ¬ S a.block) : Ints w' A l :=
  ⟨h.len, h.wf, fun j hj => by
    obtain ⟨b, off, e, hc⟩ := h.cells j hj
    refine ⟨b, off, e, ?_⟩
    rw [World.cell?_of_block (a := ⟨b, off + j, none⟩) (k.block b (World.block_lt_of_cell? w _ hc) (hn _ e))]
    exact hc⟩
/-- The blocks of a slice that reads as something lie below the heap's end. -/
theorem Ints.lt {w : World} {A : Option Addr} {l : List Int} (h : Ints w A l) (h0 : l ≠ []) : ∀ a, A = some a → a.block < w.heap.size := by
  intro a ha
  obtain ⟨b, off, e, hc⟩ := h.cells 0 (by cases l; exact absurd rfl h0; simp)
  rw [ha] at e
  cases e
  exact World.block_lt_of_cell? w _ hc

/-- A slice value over cells that hold l (nil has no capacity). -/
def Sl (w : World) (v : Value) (l : List Int) : Prop := ∃ A c, v = .slice A l.length c ∧ Ints w A l ∧ Cap A l.length c

theorem ret_bool {a b : Bool} (h : a = b) : Ending.returned (.bool a) = .returned (.bool b) := by rw [h]
theorem ret_int {k : IntKind} {a b : Int} (h : a = b) : Ending.returned (.int k a) = .returned (.int k b) := by rw [h]
theorem ret_str {a b : ByteArray} (h : a = b) : Ending.returned (.string a) = .returned (.string b) := by rw [h]

theorem ints_cell (w : World) (T : TypeId) (x : Int) (hx : I64 x) : Ints (w.alloc (.cells #[.int .i64 x] T)) (some ⟨w.heap.size, 0, none⟩) [x] := by
  refine ⟨by simp, by simpa using hx, fun j hj => ⟨w.heap.size, 0, rfl, ?_⟩⟩
  simp only [List.length_cons, List.length_nil] at hj
  have : j = 0 := by omega
  subst this
  exact (Box.new w T (.int .i64 x)).cell

theorem Ints.ne_box {w : World} {A : Option Addr} {l : List Int} (h : Ints w A l) (h0 : 0 < l.length) {b : Nat} {T : TypeId} {X : Option Addr} {n c : Nat} (hb : Box w b T (.slice X n c)) : ∀ a, A = some a → ¬ a.block = b := by
  rintro a ha rfl
  obtain ⟨b', off, e, hc⟩ := h.cells 0 h0
  rw [ha] at e
  cases e
  dsimp only at hb
  rw [cell_of_heap hb (off + 0)] at hc
  match off, hc with
  | 0, hc => simp at hc
  | k + 1, hc => simp at hc

end Go.Proofs.Ytigljfmbelaobaa
