/- Slices of structs: what their cells hold; rows of structs of the call's own. -/
import Derived.Test.YtigljfmbelaobaaBase
import Derived.Maps.AppendAt
import Derived.Laws.AppendOwnNone
namespace Go.Proofs.Ytigljfmbelaobaa
open Go.RowKit

/-- How the cells of an element stand for it. -/
abbrev Rel (α : Type) := World → List Value → α → Prop
/-- It stays where old blocks stay. -/
def Keeps {α : Type} (R : Rel α) : Prop := ∀ w w' vs x, Below w.heap.size w w' → R w vs x → R w' vs x

section
variable {α : Type} {R : Rel α} {sz : Nat} {w w' : World} {A : Option Addr} {l : List α}

/-- The cells from A on hold l, sz of them for each element. -/
structure Sls (R : Rel α) (sz : Nat) (w : World) (A : Option Addr) (l : List α) : Prop where
  len : l.length ≤ 140737488355328
  cells : ∀ (j : Nat) (x : α), l[j]? = some x → ∃ b off vs, A = some ⟨b, off, none⟩ ∧ vs.length = sz ∧ (∀ i v, vs[i]? = some v → w.cell? ⟨b, off + j * sz + i, none⟩ = some v) ∧ R w vs x

theorem Sls.below (hR : Keeps R) (h : Sls R sz w A l) (hb : Below w.heap.size w w') : Sls R sz w' A l :=
  ⟨h.len, fun j x hj => by
    obtain ⟨b, off, vs, e, hl, hc, hr⟩ := h.cells j x hj
    exact ⟨b, off, vs, e, hl, fun i v hv => (hb.cell (World.block_lt_of_cell? w _ (hc i v hv))).trans (hc i v hv), hR _ _ _ _ hb hr⟩⟩
theorem Sls.alloc (hR : Keeps R) (h : Sls R sz w A l) (o : Obj) : Sls R sz (w.alloc o) A l := h.below hR ((Below.refl _ _).alloc (Nat.le_refl _) o)
theorem Sls.drew (hR : Keeps R) (h : Sls R sz w A l) : Sls R sz w.drew A l := h.below hR (Below.refl _ _).drew
theorem Sls.nil (R : Rel α) (sz : Nat) (w : World) (A : Option Addr) : Sls R sz w A [] := ⟨by simp, fun j x hj => by simp at hj⟩

/-- A slice value over cells that hold l (nil has no capacity). -/
def SlsV (R : Rel α) (sz : Nat) (w : World) (v : Value) (l : List α) : Prop := ∃ A c, v = .slice A l.length c ∧ Sls R sz w A l ∧ Cap A l.length c
theorem SlsV.below (hR : Keeps R) {v : Value} (h : SlsV R sz w v l) (hb : Below w.heap.size w w') : SlsV R sz w' v l := by
  obtain ⟨A, c, e, hs, hc⟩ := h
  exact ⟨A, c, e, hs.below hR hb, hc⟩

/-- A row of the call's own that holds l. -/
def OwnS (R : Rel α) (sz : Nat) (w : World) (base : Nat) (E : TypeId) (v : Value) (l : List α) : Prop :=
  ∃ vss : List (List Value), vss.length = l.length ∧ (∀ vs, vs ∈ vss → vs.length = sz) ∧ (∀ (j : Nat) vs x, vss[j]? = some vs → l[j]? = some x → R w vs x) ∧ w.ownsRow base E sz v l.length vss.flatten

theorem OwnS.nil (R : Rel α) (sz : Nat) (w : World) (base : Nat) (E : TypeId) : OwnS R sz w base E (.slice none 0 0) ([] : List α) :=
  ⟨[], rfl, by simp, by simp, World.ownsRow_nil _ _ _ _⟩
theorem OwnS.row {base : Nat} {E : TypeId} {v : Value} (h : OwnS R sz w base E v l) : ∃ xs, w.ownsRow base E sz v l.length xs := by
  obtain ⟨vss, _, _, _, h⟩ := h
  exact ⟨_, h⟩
theorem OwnS.base {base : Nat} {E : TypeId} {v : Value} (h : OwnS R sz w base E v l) : ∀ k, v.ownBlock = some k → base ≤ k := by
  obtain ⟨xs, h⟩ := h.row
  exact own_base h
/-- What does not turn the row, nor what its elements read, keeps it. -/
theorem OwnS.grown (hR : Keeps R) {base : Nat} {E : TypeId} {v : Value} (h : OwnS R sz w base E v l) (hb : Below w.heap.size w w') : OwnS R sz w' base E v l := by
  obtain ⟨vss, h1, h2, h3, h4⟩ := h
  exact ⟨vss, h1, h2, fun j vs x hv hx => hR _ _ _ _ hb (h3 j vs x hv hx), own_below h4 hb⟩

theorem flatten_at (vss : List (List Value)) (sz : Nat) (h : ∀ vs, vs ∈ vss → vs.length = sz) : ∀ (j : Nat) (vs : List Value), vss[j]? = some vs → ∀ i v, vs[i]? = some v → vss.flatten[j * sz + i]? = some v := by
  induction vss with
  | nil => intro j vs hj; simp at hj
  | cons us vss ih =>
    intro j vs hj i v hv
    have hu := h us (by simp)
    cases j with
    | zero =>
      simp only [List.getElem?_cons_zero, Option.some.injEq] at hj
      subst hj
      rw [List.flatten_cons, Nat.zero_mul, Nat.zero_add, List.getElem?_append_left (List.getElem?_eq_some_iff.1 hv).1]
      exact hv
    | succ j =>
      rw [List.getElem?_cons_succ] at hj
      have := ih (fun vs hvs => h vs (by simp [hvs])) j vs hj i v hv
      rw [List.flatten_cons, show (j + 1) * sz + i = us.length + (j * sz + i) by rw [hu, Nat.add_mul]; omega, List.getElem?_append_right (by omega), Nat.add_sub_cancel_left]
      exact this

/-- What a row of the call's own reads as. -/
theorem OwnS.sls {base : Nat} {E : TypeId} {v : Value} (h : OwnS R sz w base E v l) (hlen : l.length ≤ 140737488355328) : SlsV R sz w v l := by
  obtain ⟨vss, h1, h2, h3, h4⟩ := h
  rcases h4.2 with ⟨rfl, h0⟩ | ⟨g, cap, cur, rfl, _, _, hcl, _⟩
  · have hl : l = [] := List.eq_nil_of_length_eq_zero h0
    subst hl
    exact ⟨none, 0, rfl, Sls.nil _ _ _ _, Cap.nil⟩
  · refine ⟨_, cap, rfl, ⟨hlen, fun j x hj => ?_⟩, ⟨fun h => (by cases h), hcl⟩⟩
    have hjl := (List.getElem?_eq_some_iff.1 hj).1
    obtain ⟨vs, hvs⟩ : ∃ vs, vss[j]? = some vs := ⟨vss[j]'(by omega), List.getElem?_eq_getElem (by omega)⟩
    refine ⟨g, 0, vs, rfl, h2 vs (List.mem_of_getElem? hvs), fun i v hv => ?_, h3 j vs x hvs hj⟩
    have hc := h4.cells (g := g) rfl (j * sz + i) v (flatten_at vss sz h2 j vs hvs i v hv)
    have ha : (⟨g, 0, none⟩ : Addr).add (j * sz + i) = ⟨g, 0 + (j * sz + i), none⟩ := by unfold Addr.add; split <;> simp_all
    rw [ha] at hc
    rwa [Nat.add_assoc]

theorem own_grown_elems {base : Nat} {E : TypeId} {v' : Value} {vs : List Value} {x : α} {vss : List (List Value)} (h1 : vss.length = l.length) (h2 : ∀ vs, vs ∈ vss → vs.length = sz)
    (h3 : ∀ (j : Nat) vs x, vss[j]? = some vs → l[j]? = some x → R w' vs x) (hv : vs.length = sz) (hx : R w' vs x) (hown : w'.ownsRow base E sz v' (l.length + 1) (vss.flatten ++ vs)) : OwnS R sz w' base E v' (l ++ [x]) := by
  refine ⟨vss ++ [vs], by simp [h1], ?_, ?_, by simpa using hown⟩
  · intro us hus
    rcases List.mem_append.1 hus with h | h
    · exact h2 us h
    · rw [List.mem_singleton.1 h]; exact hv
  · intro j us y hus hy
    by_cases hj : j < l.length
    · rw [List.getElem?_append_left (by omega)] at hus
      rw [List.getElem?_append_left hj] at hy
      exact h3 j us y hus hy
    · have hj2 : j = l.length := by
        have := (List.getElem?_eq_some_iff.1 hy).1
        simp at this
        omega
      subst hj2
      rw [← h1, List.getElem?_append_right (by omega), Nat.sub_self] at hus
      rw [List.getElem?_append_right (by omega), Nat.sub_self] at hy
      simp only [List.getElem?_cons_zero, Option.some.injEq] at hus hy
      subst hus hy
      exact hx
end

section
variable {α : Type} {R : Rel α} {sz : Nat} {w : World}
/-- append(v, x) of a struct, v a row of the call's own, at the operation: the element's cells stand in a block of their own. -/
theorem wpList_append_elem {ops : Array Oper} {rest : List Oper} {o : Oper} {a : Act} {Q : Exit → Act → World → Prop} (hgd : o.guard = none) (s x : Operand) (t : TypeId)
    (ho : o.op = .call { callee := .builtin .append, args := #[s, x], argTypes := #[t, t] })
    (base : Nat) (e : TypeId) (i : TypeInfo) (z : Value) (bytes : Nat) (ht : Try.prog.underlying t = some (.slice e)) (hi : Try.prog.info? e = some i) (hz : i.zero = some z)
    (hsize : i.size = sz) (hby : i.bytes = bytes) (hzs : z.cells.size = sz) (hsz : 0 < sz)
    (v : Value) (l : List α) (hs : a.eval s = v) (hown : OwnS R sz w base e v l)
    (hR : ∀ w w' vs x, w.grownBy w' v.ownBlock → R w vs x → R w' vs x)
    (ad : Addr) (vs : List Value) (y : α) (hx : a.eval x = .slice (some ad) 1 1) (hl : vs.length = sz) (hnews : ∀ j u, vs[j]? = some u → w.cell? (ad.add j) = some u) (hy : R w vs y) (h1 : ∀ u ∈ vs, u.oneCell' = true)
    (h63 : l.length + 1 ≤ maxLen) (hbytes : (l.length + 1) * bytes ≤ 140737488355328) (hbase : base ≤ w.heap.size)
    (h : ∀ v' w', OwnS R sz w' base e v' (l ++ [y]) → w.grownBy w' v.ownBlock → (v'.ownBlock = v.ownBlock ∨ v'.ownBlock = some w.heap.size) → wpList Try.prog ops Q rest (a.put o.dst v') w') :
    wpList Try.prog ops Q (o :: rest) a w := by
  obtain ⟨vss, k1, k2, k3, k4⟩ := hown
  refine wpList_append_own_at w hgd s x t ho base e i z sz bytes ht hi hz hsize hby hzs hsz v l.length vss.flatten hs k4 ad 1 1 vs hx (by rw [hl, Nat.one_mul]) hnews h1 h63 hbytes hbase ?_
  intro v' w' r1 r2 _ r4
  refine h v' w' ?_ r2 r4
  have hk : ∀ (j : Nat) us y, vss[j]? = some us → l[j]? = some y → R w' us y := fun j us y hu hy => hR _ _ _ _ r2 (k3 j us y hu hy)
  refine ⟨vss ++ [vs], by simp [k1], ?_, ?_, by simpa using r1⟩
  · intro us hus
    rcases List.mem_append.1 hus with h | h
    · exact k2 us h
    · rw [List.mem_singleton.1 h]; exact hl
  · intro j us u hus hu
    by_cases hj : j < l.length
    · rw [List.getElem?_append_left (by omega)] at hus
      rw [List.getElem?_append_left hj] at hu
      exact hk j us u hus hu
    · have hj2 : j = l.length := by
        have := (List.getElem?_eq_some_iff.1 hu).1
        simp at this
        omega
      subst hj2
      rw [← k1, List.getElem?_append_right (by omega), Nat.sub_self] at hus
      rw [List.getElem?_append_right (by omega), Nat.sub_self] at hu
      simp only [List.getElem?_cons_zero, Option.some.injEq] at hus hu
      subst hus hu
      exact hR _ _ _ _ r2 hy
end

/-! ### Pairs of ints -/
/-- A struct of two ints. -/
def PairR : Rel (Int × Int) := fun _ vs x => vs = [.int .i64 x.1, .int .i64 x.2] ∧ I64 x.1 ∧ I64 x.2
theorem pairR_keeps : Keeps PairR := fun _ _ _ _ _ h => h
/-- A slice of structs of two ints. -/
abbrev Prs (w : World) (A : Option Addr) (l : List (Int × Int)) : Prop := Sls PairR 2 w A l
theorem Prs.at_ {w : World} {A : Option Addr} {l : List (Int × Int)} (h : Prs w A l) (j : Nat) (hj : j < l.length) :
    ∃ b off, A = some ⟨b, off, none⟩ ∧ w.cell? ⟨b, off + j * 2, none⟩ = some (.int .i64 l[j].1) ∧ w.cell? ⟨b, off + j * 2 + 1, none⟩ = some (.int .i64 l[j].2) ∧ I64 l[j].1 ∧ I64 l[j].2 := by
  obtain ⟨b, off, vs, e, _, hc, rfl, h1, h2⟩ := h.cells j l[j] (List.getElem?_eq_getElem hj)
  exact ⟨b, off, e, hc 0 _ rfl, hc 1 _ rfl, h1, h2⟩

end Go.Proofs.Ytigljfmbelaobaa
