/- A region that draws its order, in a function that defers, may panic: the post of a panic may lean on slots that the region does not write. -/
import Derived.Orders
import Derived.RegionTactic
import Derived.OrdersHeld
namespace Go.Proofs.Ytigljfmbelaobaa

/-- Q, but at a panic what hangs on the deferred calls and the world alone. -/
def Qk (PP : List PanicEntry → List Deferred → World → Prop) (Q : Exit → Act → World → Prop) : Exit → Act → World → Prop
  | .panic c, a, w => PP c a.defers w
  | e, a, w => Q e a w

theorem wpAny_keep {P : Program} {md : Region.Mode} {ops : Array Oper} {PP : List PanicEntry → List Deferred → World → Prop} {Q : Exit → Act → World → Prop} (K : Array Value → Prop)
    (hK : ∀ (i : Nat) (o : Oper), ops[i]? = some o → ∀ (d : Tmp) (t : Array Value) (v : Value), o.dst = some d → K t → K (t.setIfInBounds d v))
    (hP : ∀ c (a : Act) w, K a.tmps → PP c a.defers w → Q (.panic c) a w) :
    ∀ (fuel : Nat) (listed : Array Bool) (a : Act) (w : World), K a.tmps → wpAny P md ops (Qk PP Q) fuel listed a w → wpAny P md ops Q fuel listed a w := by
  have hput : ∀ (i : Nat) (o : Oper), ops[i]? = some o → ∀ (a : Act) (v : Value), K a.tmps → K (a.put o.dst v).tmps := by
    intro i o ho a v ha
    cases hd : o.dst with
    | none => exact ha
    | some d => exact hK i o ho d a.tmps v hd ha
  have hlet : LetsOut (Qk PP Q) → LetsOut Q := fun ⟨a, w, h⟩ => ⟨a, w, h⟩
  intro fuel
  induction fuel with
  | zero => exact fun listed a w ha h => h
  | succ fuel ih =>
    intro listed a w ha h
    refine ⟨fun hr => h.1 hr, fun i hi => ?_⟩
    have hi' := h.2 i hi
    unfold wpOp at hi' ⊢
    cases ho : ops[i]? with
    | none => simp only [ho] at hi' ⊢; exact ih _ _ _ ha hi'
    | some o =>
      simp only [ho] at hi' ⊢
      by_cases hw : Region.wanted o (yielded ops a.tmps) = true
      · rw [if_pos hw] at hi' ⊢
        rcases hi' with hi' | ⟨h1, h2⟩
        · left
          unfold Oper.wp at hi' ⊢
          generalize (execOp a.eval o).run P w = r at hi' ⊢
          cases r with
          | ok n w' =>
            cases n <;> simp only [Oper.upon] at hi' ⊢
            case value v => exact ih _ _ _ (hput i o ho a v ha) hi'
            case skip => exact ih _ _ _ (hput i o ho a undef ha) hi'
            case defer d => exact ih _ _ _ (hput i o ho { a with defers := d :: a.defers } undef ha) hi'
            case enter f args =>
              refine hi'.mono fun e w'' he => ?_
              cases e with
              | returned v => exact ih _ _ _ (hput i o ho a v ha) he
              | panicked c => exact hP c a w'' ha he
              | outgrown => exact hlet he
            case row row args => exact hi'.mono fun v w'' he => ih _ _ _ (hput i o ho a v ha) he
          | halt x w' =>
            cases x <;> simp only [Oper.upon] at hi' ⊢
            case panic v => exact hP _ a w' ha hi'
        · exact .inr ⟨h1, hlet h2⟩
      · rw [if_neg hw] at hi' ⊢
        exact ih _ _ _ (hput i o ho a undef ha) hi'

/-- What slots t and u hold is kept by a region that writes neither. -/
theorem keep_two {ops : Array Oper} (t u : Nat) (x y : Value) (h : ops.all (fun o => o.dst != some t && o.dst != some u) = true) :
    ∀ (i : Nat) (o : Oper), ops[i]? = some o → ∀ (d : Tmp) (a : Array Value) (v : Value), o.dst = some d → (a.getD t undef = x ∧ a.getD u undef = y) → ((a.setIfInBounds d v).getD t undef = x ∧ (a.setIfInBounds d v).getD u undef = y) := by
  intro i o ho d a v hd hk
  rw [Array.all_eq_true] at h
  obtain ⟨hi, rfl⟩ := Array.getElem?_eq_some_iff.1 ho
  have h' := h i hi
  simp [hd] at h'
  simp only [Array.getD_eq_getD_getElem?, Array.getElem?_setIfInBounds] at hk ⊢
  rw [if_neg h'.1, if_neg h'.2]
  exact hk

/-! ### Taking reads first where the region's last operation may write what they read -/
section
variable {P : Program} {md : Region.Mode} {ops : Array Oper} {Q : Exit → Act → World → Prop}

/-- What an operation waits for has come up wherever it has. -/
def Closed (md : Region.Mode) (ops : Array Oper) (listed : Array Bool) : Prop :=
  ∀ (j : Nat) (o : Oper), ops[j]? = some o → listed.getD j false = true → ∀ e ∈ o.after, Region.binds md e = true → listed.getD e.on false = true

def closedB (md : Region.Mode) (ops : Array Oper) (listed : Array Bool) : Bool :=
  (List.range ops.size).all fun j => match ops[j]? with
    | none => true
    | some o => !listed.getD j false || o.after.all fun e => !Region.binds md e || listed.getD e.on false
theorem closed_of_B {md : Region.Mode} {ops : Array Oper} {listed : Array Bool} (h : closedB md ops listed = true) : Closed md ops listed := by
  intro j o ho hj e he hb
  unfold closedB at h
  rw [List.all_eq_true] at h
  have h' := h j (List.mem_range.2 (Array.getElem?_eq_some_iff.1 ho).1)
  simp only [ho, hj, Bool.not_true, Bool.false_or, Array.all_eq_true_iff_forall_mem] at h'
  have h2 := h' e he
  simpa [hb] using h2

theorem closed_start (md : Region.Mode) (ops : Array Oper) (n : Nat) : Closed md ops (Array.replicate n false) := by
  intro j o _ hj
  simp [Array.getElem?_replicate] at hj
  split at hj <;> simp_all

theorem closed_set {listed : Array Bool} {i : Nat} (h : Closed md ops listed) (hi : i ∈ Region.ready md ops listed) : Closed md ops (listed.setIfInBounds i true) := by
  intro j o ho hj e he hb
  by_cases hij : i = j
  · subst hij
    obtain ⟨_, o', ho', hall⟩ := mem_ready.1 hi
    rw [ho] at ho'
    cases ho'
    exact getD_set_true (hall e he hb)
  · rw [getD_set_ne false hij] at hj
    exact getD_set_true (h j o ho hj e he hb)

/-- Does operation j wait for operation i (through others)? -/
def waitsB (md : Region.Mode) (ops : Array Oper) : Nat → Nat → Nat → Bool
  | 0, _, _ => false
  | n + 1, j, i => match ops[j]? with
    | none => false
    | some o => o.after.toList.any fun e => Region.binds md e && (e.on == i || waitsB md ops n e.on i)

theorem waits_listed {listed : Array Bool} (h : Closed md ops listed) (i : Nat) : ∀ (n j : Nat), waitsB md ops n j i = true → listed.getD j false = true → listed.getD i false = true := by
  intro n
  induction n with
  | zero => intro j hw; simp [waitsB] at hw
  | succ n ih =>
    intro j hw hj
    unfold waitsB at hw
    cases ho : ops[j]? with
    | none => simp [ho] at hw
    | some o =>
      simp only [ho, List.any_eq_true] at hw
      obtain ⟨e, he, hw⟩ := hw
      rw [Array.mem_toList_iff] at he
      simp only [Bool.and_eq_true, Bool.or_eq_true, beq_iff_eq] at hw
      have hon := h j o ho hj e he hw.1
      rcases hw.2 with rfl | h2
      · exact hon
      · exact ih _ h2 hon

/-- Whatever order is picked; S holds behind each operation, till the last one has come up. -/
def wpAnyG (P : Program) (md : Region.Mode) (ops : Array Oper) (Q : Exit → Act → World → Prop) (last : Nat) (S : World → Prop) : Nat → Array Bool → Act → World → Prop
  | 0, listed, a, w => Region.ready md ops listed = [] ∧ Q .normal a w
  | fuel + 1, listed, a, w =>
    (Region.ready md ops listed = [] → Q .normal a w) ∧
    ∀ i ∈ Region.ready md ops listed, wpOp P ops Q i (fun a' w' => ((listed.setIfInBounds i true).getD last false = false → S w') ∧ wpAnyG P md ops Q last S fuel (listed.setIfInBounds i true) a' w') a w

theorem wpAny_of_G {last : Nat} {S : World → Prop} : ∀ (fuel : Nat) (listed : Array Bool) (a : Act) (w : World), wpAnyG P md ops Q last S fuel listed a w → wpAny P md ops Q fuel listed a w
  | 0, _, _, _, h => h
  | fuel + 1, _, _, _, h => ⟨h.1, fun i hi => wpOp_mono (fun a' w' h' => wpAny_of_G fuel _ a' w' h'.2) (h.2 i hi)⟩

theorem wpAnyG_first {last : Nat} {S : World → Prop} {i : Nat} {oi : Oper} {v : Value} (hi : ops[i]? = some oi) (hsel : ∀ (j : Nat) (o : Oper) cs b, ops[j]? = some o → o.op ≠ .select cs b)
    (hQ : ∀ c a w, Q (.panic c) (a.put oi.dst v) w → Q (.panic c) a w) (hil : i ≠ last) (hwait : waitsB md ops ops.size last i = true) :
    ∀ (fuel : Nat) (listed : Array Bool) (a : Act) (w : World), Closed md ops listed →
      (∀ j oj, ops[j]? = some oj → j ≠ i → listed.getD j true = false → (∀ e ∈ oj.after, Region.binds md e = true → e.on ≠ i) → oi.apart ops oj = true) →
      i ∈ Region.ready md ops listed → YieldsIf P ops S oi v a → S w →
      wpAnyG P md ops Q last S fuel (listed.setIfInBounds i true) (a.put oi.dst v) w → wpAnyG P md ops Q last S (fuel + 1) listed a w := by
  intro fuel
  induction fuel with
  | zero =>
    intro listed a w hcl _ hr hy hS H
    refine ⟨fun h => (by rw [h] at hr; cases hr), fun j hj => ?_⟩
    by_cases hji : j = i
    · subst hji
      exact hy.wpOp hi hS ⟨fun _ => hS, H⟩
    · have hj' := ready_mono hj hji
      rw [H.1] at hj'
      cases hj'
  | succ fuel ih =>
    intro listed a w hcl hfree hr hy hS H
    refine ⟨fun h => (by rw [h] at hr; cases hr), fun j hj => ?_⟩
    by_cases hji : j = i
    · subst hji
      exact hy.wpOp hi hS ⟨fun _ => hS, H⟩
    · have hj' := ready_mono hj hji
      obtain ⟨hj0, oj, hoj, hall⟩ := mem_ready.1 hj
      obtain ⟨hi0, oi', hoi', halli⟩ := mem_ready.1 hr
      have hdep : ∀ e ∈ oj.after, Region.binds md e = true → e.on ≠ i := by
        intro e he hb heq
        have := hall e he hb
        rw [heq] at this
        simp only [Array.getD_eq_getD_getElem?] at this hi0
        cases hx : listed[i]? <;> simp [hx] at this hi0
        rw [this] at hi0
        cases hi0
      have hap := hfree j oj hoj hji hj0 hdep
      have hst := wpOp_putIf hoj hap (hsel i oi · · hi) (hsel j oj · · hoj) hQ hy (H.2 j hj')
      refine wpOp_mono ?_ hst
      rintro a' w' ⟨hy', hS', hrest⟩
      rw [Array.setIfInBounds_comm _ _ (Ne.symm hji)] at hS' hrest
      have hcl' := closed_set hcl hj
      have hi' : i ∈ Region.ready md ops (listed.setIfInBounds j true) := ready_mono hr (Ne.symm hji)
      have hlast : (listed.setIfInBounds j true).getD last false = false := by
        cases hl : (listed.setIfInBounds j true).getD last false with
        | false => rfl
        | true =>
          have h1 := waits_listed hcl' i _ _ hwait hl
          have h2 := (mem_ready.1 hi').1
          simp only [Array.getD_eq_getD_getElem?] at h1 h2
          cases hx : (listed.setIfInBounds j true)[i]? <;> simp [hx] at h1 h2
          rw [h1] at h2
          cases h2
      have hSw : S w' := hS' (by rw [getD_set_ne false hil]; exact hlast)
      refine ⟨fun _ => hSw, ih _ _ _ hcl' ?_ hi' hy' hSw hrest⟩
      intro k ok hok hki hk0 hkd
      refine hfree k ok hok hki ?_ hkd
      by_cases hjk : j = k
      · subst hjk; exact hj0
      · rw [getD_set_ne true hjk] at hk0; exact hk0

theorem wpAnyG_take {last : Nat} {S : World → Prop} {i : Nat} {oi : Oper} {v : Value} {fuel : Nat} {listed : Array Bool} {a : Act} {w : World} (hi : ops[i]? = some oi)
    (hs : Region.noSelect ops = true) (hf : Region.free md ops listed i = true) (hr : (Region.ready md ops listed).contains i = true) (hcl : closedB md ops listed = true)
    (hwait : (i != last && waitsB md ops ops.size last i) = true)
    (hQ : ∀ c a w, Q (.panic c) (a.put oi.dst v) w → Q (.panic c) a w) (hy : YieldsIf P ops S oi v a) (hS : S w)
    (h : wpAnyG P md ops Q last S fuel (listed.setIfInBounds i true) (a.put oi.dst v) w) : wpAnyG P md ops Q last S (fuel + 1) listed a w := by
  simp only [Bool.and_eq_true, bne_iff_ne, ne_eq] at hwait
  exact wpAnyG_first hi (Region.noSelect_spec hs) hQ hwait.1 hwait.2 fuel listed a w (closed_of_B hcl) (Region.free_spec hi hf) (by simpa using hr) hy hS h

theorem wpAnyG_step {last : Nat} {S : World → Prop} {i : Nat} {o : Oper} {fuel : Nat} {listed : Array Bool} {a : Act} {w : World} (hr : Region.ready md ops listed = [i]) (ho : ops[i]? = some o)
    (h : ∀ K' : Act → World → Prop, (∀ a w, (i ≠ last → S w) → wpAnyG P md ops Q last S fuel (listed.setIfInBounds i true) a w → K' a w) → if Region.wanted o (yielded ops a.tmps) = true then Oper.wp P o a w K' Q else K' (a.put o.dst undef) w) :
    wpAnyG P md ops Q last S (fuel + 1) listed a w := by
  refine ⟨fun h0 => (by rw [h0] at hr; cases hr), fun j hj => ?_⟩
  rw [hr] at hj
  obtain rfl : j = i := by simpa using hj
  refine wpOp_step ho fun K' hK' => ?_
  refine h K' fun a w hS hG => hK' a w ⟨fun hl => hS ?_, hG⟩
  intro e
  subst e
  have hmem : j ∈ Region.ready md ops listed := by rw [hr]; simp
  have h0 := (mem_ready.1 hmem).1
  simp only [Array.getD_eq_getD_getElem?] at h0 hl
  cases hx : listed[j]? with
  | none => simp [hx] at h0
  | some b =>
    have hlt := (Array.getElem?_eq_some_iff.1 hx).1
    simp [hlt] at hl

theorem wpAnyG_done {last : Nat} {S : World → Prop} {listed : Array Bool} {a : Act} {w : World} (hr : Region.ready md ops listed = []) (h : Q .normal a w) :
    ∀ fuel, wpAnyG P md ops Q last S fuel listed a w
  | 0 => ⟨hr, h⟩
  | _ + 1 => ⟨fun _ => h, by rw [hr]; simp⟩

end

end Go.Proofs.Ytigljfmbelaobaa
