/- Arguments opened, type by type: what a reading of them says of the cells. -/
import Derived.Test.YtigljfmbelaobaaRow
import Derived.Test.YtigljfmbelaobaaSls
import Derived.Deep.Slices
import Derived.Deep.Fields
namespace Go.Proofs.Ytigljfmbelaobaa
open Go.ChangeShapes Go.WideShapes Go.ChangeAt Go.RowKit Go.Deep

/-- A reading of the type t says R of the cells. -/
def Opens {α : Type} (t : TypeId) (R : Rel α) : Prop :=
  ∀ (H : Type) (enc : TypeId × Value → H) (W : World) (fuel : Nat) (cs : List Value) (d : DataW H) (p : List MemPlace),
    DataW.trod enc Try.prog W 0 (fun _ => true) true fuel t cs = some (d, p) → (∀ n, n ∈ d.weights Try.prog t → n ≤ reachBytes) → ∃ x : α, R W cs x

def IntR : Rel Int := fun _ vs x => vs = [.int .i64 x] ∧ I64 x
theorem intR_keeps : Keeps IntR := fun _ _ _ _ _ h => h
theorem opens_int : Opens 3 IntR := by
  intro H enc W fuel cs d p h _
  obtain ⟨n, rfl, _, hw⟩ := DataW.trod_int Try.underlying3 h
  have e1 : IntKind.i64.min = -9223372036854775808 := by decide
  have e2 : IntKind.i64.max = 9223372036854775807 := by decide
  simp [Lit.wf, e1, e2] at hw
  exact ⟨n, rfl, by unfold I64; omega⟩
def BoolR : Rel Bool := fun _ vs x => vs = [.bool x]
theorem boolR_keeps : Keeps BoolR := fun _ _ _ _ _ h => h
theorem opens_bool : Opens 4 BoolR := by
  intro H enc W fuel cs d p h _
  obtain ⟨b, rfl, _⟩ := DataW.trod_bool Try.underlying4 h
  exact ⟨b, rfl⟩

/-- A slice in a cell. -/
def SlR {α : Type} (R : Rel α) (sz : Nat) : Rel (List α) := fun w vs l => ∃ v, vs = [v] ∧ SlsV R sz w v l
theorem slR_keeps {α : Type} {R : Rel α} {sz : Nat} (h : Keeps R) : Keeps (SlR R sz) := by
  rintro w w' vs l hb ⟨v, e, hs⟩
  exact ⟨v, e, hs.below h hb⟩

theorem weights_all {H : Type} {e : TypeId} : ∀ {ds : List (DataW H)} {i : Nat} {d : DataW H}, ds[i]? = some d → ∀ n, n ∈ d.weights Try.prog e → n ∈ DataW.weightsAll Try.prog e ds
  | d0 :: ds, 0, d, h, n, hn => by
    simp only [List.getElem?_cons_zero, Option.some.injEq] at h
    subst h
    simp only [DataW.weightsAll, List.mem_append]
    exact .inl hn
  | d0 :: ds, i + 1, d, h, n, hn => by
    simp only [List.getElem?_cons_succ] at h
    simp only [DataW.weightsAll, List.mem_append]
    exact .inr (weights_all h n hn)
  | [], i, d, h, n, hn => by simp at h

theorem opens_slice {α : Type} {t e : TypeId} {R : Rel α} {sz bytes : Nat} (ht : Try.prog.underlying t = some (.slice e)) (hc : Try.prog.cellsOf e = sz) (h0 : 0 < sz) (hb : Try.prog.bytesOf e = bytes) (hb0 : 1 ≤ bytes) (hR : Opens e R) : Opens t (SlR R sz) := by
  intro H enc W fuel cs d p h hw
  rcases open_slice ht h with ⟨rfl, _⟩ | ⟨a, len, cap, m, n, D, Pl, rfl, _, hl, hm, hmm, hx, hi⟩
  · exact ⟨[], _, rfl, none, 0, rfl, Sls.nil _ _ _ _, Cap.nil⟩
  · simp only [if_true] at hmm
    simp only [Prod.mk.injEq] at hx
    obtain ⟨rfl, _⟩ := hx
    have hlen : len ≤ 140737488355328 := by
      have h1 := hw ((((List.range len).map D).length + ((List.range (m - len)).map fun j => D (len + j)).length) * Try.prog.bytesOf e) (by simp [DataW.weights, ht])
      rw [hb] at h1
      simp only [List.length_map, List.length_range, reachBytes] at h1
      have h2 : len ≤ (len + (m - len)) * bytes := Nat.le_trans (Nat.le_add_right _ _) (Nat.le_mul_of_pos_right _ hb0)
      omega
    have hel : ∀ i, i < len → ∃ cs' x, W.cells? 0 (a.add (i * sz)) sz = some cs' ∧ R W cs' x := by
      intro i hil
      obtain ⟨cs', h1, h2⟩ := hi i (by omega)
      rw [hc] at h1
      obtain ⟨x, hx⟩ := hR H enc W n cs' (D i) (Pl i) h2 (fun k hk => hw k (by
        simp only [DataW.weights, ht, List.mem_cons, List.mem_append]
        exact .inr (.inl (weights_all (i := i) (by simp [hil]) k hk))))
      exact ⟨cs', x, h1, hx⟩
    obtain ⟨l, hll, hlx⟩ : ∃ l : List α, l.length = len ∧ ∀ i x, l[i]? = some x → ∃ cs', W.cells? 0 (a.add (i * sz)) sz = some cs' ∧ R W cs' x := by
      clear h hw hi hlen hl hmm
      induction len with
      | zero => exact ⟨[], rfl, by simp⟩
      | succ k ih =>
        obtain ⟨l, h1, h2⟩ := ih (fun i hi => hel i (by omega))
        obtain ⟨cs', x, h3, h4⟩ := hel k (by omega)
        refine ⟨l ++ [x], by simp [h1], fun i y hy => ?_⟩
        by_cases hik : i < k
        · rw [List.getElem?_append_left (by omega)] at hy
          exact h2 i y hy
        · have hik2 : i = k := by
            have := (List.getElem?_eq_some_iff.1 hy).1
            simp [h1] at this
            omega
          subst hik2
          rw [List.getElem?_append_right (by omega), h1, Nat.sub_self] at hy
          simp only [List.getElem?_cons_zero, Option.some.injEq] at hy
          subst hy
          exact ⟨cs', h3, h4⟩
    subst hll
    refine ⟨l, _, rfl, some a, cap, rfl, ⟨hlen, fun j x hj => ?_⟩, ⟨fun h => (by cases h), hl⟩⟩
    obtain ⟨cs', h1, h2⟩ := hlx j x hj
    obtain ⟨_, h3, h4⟩ := World.cells?_some h1
    have hz := h4 0 h0
    rw [List.getElem?_eq_getElem (by omega)] at hz
    obtain ⟨b, off, spot⟩ := a
    have hspot : spot = none ∨ 0 < j * sz := by
      rcases Nat.eq_zero_or_pos (j * sz) with e | e
      · left
        rw [e] at hz
        simpa [Addr.add] using World.cell?_spot hz
      · exact .inr e
    have hj0 : spot = none := by
      have hl0 : 0 < l.length := Nat.lt_of_le_of_lt (Nat.zero_le _) (List.getElem?_eq_some_iff.1 hj).1
      obtain ⟨cs0, k1, _⟩ := hlx 0 l[0] (List.getElem?_eq_getElem hl0)
      obtain ⟨_, k3, k4⟩ := World.cells?_some k1
      have kz := k4 0 h0
      rw [List.getElem?_eq_getElem (by omega), Nat.zero_mul] at kz
      simpa [Addr.add] using World.cell?_spot kz
    subst hj0
    refine ⟨b, off, cs', rfl, h3, fun i v hv => ?_, h2⟩
    have hil := (List.getElem?_eq_some_iff.1 hv).1
    have := h4 i (by omega)
    rw [add_plain, add_plain] at this
    rw [this, hv]

/-- A struct of fields of one cell each. -/
theorem open_fields {H : Type} {enc : TypeId × Value → H} {W : World} {fuel : Nat} {t : TypeId} {fs : Array Field} {cs : List Value} {d : DataW H} {p : List MemPlace} (ht : Try.prog.underlying t = some (.struct fs)) (hone : oneCellFields Try.prog fs = true) (hC : Try.prog.cellsOf t = fs.size)
    (h : DataW.trod enc Try.prog W 0 (fun _ => true) true fuel t cs = some (d, p)) (hw : ∀ n, n ∈ d.weights Try.prog t → n ≤ reachBytes) :
    cs.length = fs.size ∧ ∀ (j : Nat) (f : Field), fs[j]? = some f → ∃ v n y q, cs[j]? = some v ∧ DataW.trod enc Try.prog W 0 (fun _ => true) true n f.type [v] = some (y, q) ∧ ∀ m, m ∈ y.weights Try.prog f.type → m ≤ reachBytes := by
  obtain ⟨xs, n, _, hx, hlen, hxl, hf⟩ := DataW.trod_struct ht h
  simp only [Prod.mk.injEq] at hx
  obtain ⟨rfl, _⟩ := hx
  rw [hC] at hlen
  refine ⟨hlen, fun j f hj => ?_⟩
  obtain ⟨ho, hk⟩ := hone_of hone j f hj
  have hjl : j < fs.size := (Array.getElem?_eq_some_iff.1 hj).1
  have h1 := hf j f hj
  rw [ho, hk, List.drop_eq_getElem_cons (by omega)] at h1
  have hys : xs[j]? = some (xs[j]'(by omega)) := List.getElem?_eq_getElem (by omega)
  refine ⟨cs[j]'(by omega), n, (xs[j]'(by omega)).1, (xs[j]'(by omega)).2, List.getElem?_eq_getElem (by omega), by rw [← hys, ← h1]; rfl, fun m hm => hw m ?_⟩
  simp only [DataW.weights, ht]
  exact DataW.weights_mem_each (j := j) (by rw [List.getElem?_map, Array.getElem?_toList, hj]; rfl) (by rw [List.getElem?_map, hys]; rfl) m hm

/-- An argument opened. -/
theorem open_arg {α : Type} {H : Type} {enc : TypeId × Value → H} {W : World} {v : Value} {d : DataW H} {p : List MemPlace} {ts : List TypeId} {ds : List (DataW H)} {j : Nat} {t : TypeId} {R : Rel α} (hR : Opens t R)
    (h0 : DataW.Trod enc Try.prog W 0 (fun _ => true) true t v d p) (hsz : (DataW.weightsEach Try.prog ts ds).all (· ≤ reachBytes) = true) (ht : ts[j]? = some t) (hd : ds[j]? = some d) : ∃ x : α, R W v.cells.toList x := by
  obtain ⟨fuel, hf⟩ := h0
  refine hR H enc W fuel _ d p hf fun n hn => ?_
  have := List.all_eq_true.1 hsz n (DataW.weights_mem_each ht hd n hn)
  simpa using this

end Go.Proofs.Ytigljfmbelaobaa
