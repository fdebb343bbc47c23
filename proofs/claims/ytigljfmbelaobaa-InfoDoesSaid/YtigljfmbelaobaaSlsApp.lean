/- append(v, l...) of structs: v a row of the call's own, l whatever slice. -/
import Derived.Test.YtigljfmbelaobaaSls
namespace Go.Proofs.Ytigljfmbelaobaa
open Go.RowKit

section
variable {α : Type} {R : Rel α} {sz : Nat} {w : World}
/-- The cells that a slice's elements lie in, one list of all. -/
theorem Sls.news {b off : Nat} {l : List α} (h : Sls R sz w (some ⟨b, off, none⟩) l) (hsz : 0 < sz) :
    ∃ vss : List (List Value), vss.length = l.length ∧ (∀ vs, vs ∈ vss → vs.length = sz) ∧ (∀ (j : Nat) vs x, vss[j]? = some vs → l[j]? = some x → R w vs x) ∧ ∀ j u, vss.flatten[j]? = some u → w.cell? ((⟨b, off, none⟩ : Addr).add j) = some u := by
  have hex : ∀ (k : Nat), k ≤ l.length → ∃ vss : List (List Value), vss.length = k ∧ (∀ vs, vs ∈ vss → vs.length = sz) ∧ (∀ (j : Nat) vs x, vss[j]? = some vs → l[j]? = some x → R w vs x) ∧ ∀ (j : Nat) vs, vss[j]? = some vs → ∀ i v, vs[i]? = some v → w.cell? ⟨b, off + j * sz + i, none⟩ = some v := by
    intro k
    induction k with
    | zero => exact fun _ => ⟨[], rfl, by simp, by simp, by simp⟩
    | succ k ih =>
      intro hk
      obtain ⟨vss, h1, h2, h3, h4⟩ := ih (by omega)
      obtain ⟨b', off', vs, e, hl, hc, hr⟩ := h.cells k l[k] (List.getElem?_eq_getElem (by omega))
      cases e
      refine ⟨vss ++ [vs], by simp [h1], ?_, ?_, ?_⟩
      · intro us hus
        rcases List.mem_append.1 hus with hus | hus
        · exact h2 us hus
        · rw [List.mem_singleton.1 hus]; exact hl
      · intro j us x hus hx
        by_cases hj : j < k
        · rw [List.getElem?_append_left (by omega)] at hus
          exact h3 j us x hus hx
        · have hjk : j = k := by
            have := (List.getElem?_eq_some_iff.1 hus).1
            simp [h1] at this
            omega
          subst hjk
          rw [List.getElem?_append_right (by omega), h1, Nat.sub_self] at hus
          simp only [List.getElem?_cons_zero, Option.some.injEq] at hus
          subst hus
          rw [List.getElem?_eq_getElem (by omega), Option.some.injEq] at hx
          subst hx
          exact hr
      · intro j us hus
        by_cases hj : j < k
        · rw [List.getElem?_append_left (by omega)] at hus
          exact h4 j us hus
        · have hjk : j = k := by
            have := (List.getElem?_eq_some_iff.1 hus).1
            simp [h1] at this
            omega
          subst hjk
          rw [List.getElem?_append_right (by omega), h1, Nat.sub_self] at hus
          simp only [List.getElem?_cons_zero, Option.some.injEq] at hus
          subst hus
          exact hc
  obtain ⟨vss, h1, h2, h3, h4⟩ := hex l.length (Nat.le_refl _)
  refine ⟨vss, h1, h2, h3, fun j u hu => ?_⟩
  have hfl : ∀ (vss : List (List Value)), (∀ vs, vs ∈ vss → vs.length = sz) → vss.flatten.length = vss.length * sz := by
    intro vss
    induction vss with
    | nil => intro _; simp
    | cons vs vss ih =>
      intro hv
      rw [List.flatten_cons, List.length_append, ih (fun x hx => hv x (by simp [hx])), hv vs (by simp), List.length_cons, Nat.add_mul]
      omega
  have hjl := (List.getElem?_eq_some_iff.1 hu).1
  rw [hfl vss h2] at hjl
  have hq : j / sz < vss.length := (Nat.div_lt_iff_lt_mul hsz).2 hjl
  have hm : j % sz < sz := Nat.mod_lt _ hsz
  have hvs : vss[j / sz]? = some vss[j / sz] := List.getElem?_eq_getElem hq
  have hvl := h2 _ (List.getElem_mem hq)
  have hvi : (vss[j / sz])[j % sz]? = some ((vss[j / sz])[j % sz]'(by omega)) := List.getElem?_eq_getElem (by omega)
  have e := flatten_at vss sz h2 _ _ hvs _ _ hvi
  have hdm : j / sz * sz + j % sz = j := by have := Nat.div_add_mod j sz; rw [Nat.mul_comm] at this; exact this
  rw [hdm, hu] at e
  cases e
  rw [addr_add]
  have := h4 _ _ hvs _ _ hvi
  rwa [show off + j / sz * sz + j % sz = off + j by omega] at this

theorem wpList_append_sls {ops : Array Oper} {rest : List Oper} {o : Oper} {a : Act} {Q : Exit → Act → World → Prop} (hgd : o.guard = none) (s x : Operand) (t : TypeId)
    (ho : o.op = .call { callee := .builtin .append, args := #[s, x], argTypes := #[t, t] })
    (base : Nat) (e : TypeId) (i : TypeInfo) (z : Value) (bytes : Nat) (ht : Try.prog.underlying t = some (.slice e)) (hi : Try.prog.info? e = some i) (hz : i.zero = some z)
    (hsize : i.size = sz) (hby : i.bytes = bytes) (hzs : z.cells.size = sz) (hsz : 0 < sz)
    (v : Value) (l : List α) (hs : a.eval s = v) (hown : OwnS R sz w base e v l)
    (hR : ∀ w w' vs x, w.grownBy w' v.ownBlock → R w vs x → R w' vs x) (hone : ∀ w vs x, R w vs x → ∀ u ∈ vs, u.oneCell' = true)
    (A : Option Addr) (c : Nat) (m : List α) (hx : a.eval x = .slice A m.length c) (hm : Sls R sz w A m) (hcap : A = none → c = 0)
    (h63 : l.length + m.length ≤ maxLen) (hbytes : (l.length + m.length) * bytes ≤ 140737488355328) (hbase : base ≤ w.heap.size)
    (h : ∀ v' w', OwnS R sz w' base e v' (l ++ m) → w.grownBy w' v.ownBlock → (v'.ownBlock = v.ownBlock ∨ v'.ownBlock = some w.heap.size) → wpList Try.prog ops Q rest (a.put o.dst v') w') :
    wpList Try.prog ops Q (o :: rest) a w := by
  obtain ⟨vss, k1, k2, k3, k4⟩ := hown
  by_cases hm0 : m = []
  · subst hm0
    cases A with
    | none =>
      obtain rfl := hcap rfl
      refine wpList_append_own_none hgd s x t ho base e i sz ht hi v _ _ hs k4 hx ?_
      exact h v w ⟨vss, by simpa using k1, k2, by simpa using k3, by simpa using k4⟩ (World.grownBy.refl _ _) (.inl rfl)
    | some ad =>
      refine wpList_append_own_at w hgd s x t ho base e i z sz bytes ht hi hz hsize hby hzs hsz v l.length vss.flatten hs k4 ad 0 c [] hx (by simp) (by simp) (by simp) (by simpa using h63) (by simpa using hbytes) hbase ?_
      intro v' w' r1 r2 _ r4
      refine h v' w' ⟨vss, by simpa using k1, k2, fun j us y hu hy => hR _ _ _ _ r2 (k3 j us y hu (by simpa using hy)), by simpa using r1⟩ r2 r4
  · obtain ⟨b, off, _, rfl, _⟩ := hm.cells 0 (m[0]'(List.length_pos_iff.2 hm0)) (List.getElem?_eq_getElem (List.length_pos_iff.2 hm0))
    obtain ⟨nss, n1, n2, n3, n4⟩ := hm.news hsz
    have hfl : nss.flatten.length = m.length * sz := by
      rw [← n1]
      clear n1 n3 n4
      induction nss with
      | nil => simp
      | cons vs nss ih =>
        rw [List.flatten_cons, List.length_append, ih (fun x hx => n2 x (by simp [hx])), n2 vs (by simp), List.length_cons, Nat.add_mul]
        omega
    refine wpList_append_own_at w hgd s x t ho base e i z sz bytes ht hi hz hsize hby hzs hsz v l.length vss.flatten hs k4 ⟨b, off, none⟩ m.length c nss.flatten hx hfl n4 ?_ h63 hbytes hbase ?_
    · intro u hu
      obtain ⟨vs, hvs, huv⟩ := List.mem_flatten.1 hu
      obtain ⟨j, hj, rfl⟩ := List.mem_iff_getElem.1 hvs
      exact hone _ _ _ (n3 j _ _ (List.getElem?_eq_getElem hj) (List.getElem?_eq_getElem (by omega))) u huv
    · intro v' w' r1 r2 _ r4
      refine h v' w' ⟨vss ++ nss, by simp [k1, n1], ?_, ?_, by simpa using r1⟩ r2 r4
      · intro us hus
        rcases List.mem_append.1 hus with hus | hus
        · exact k2 us hus
        · exact n2 us hus
      · intro j us y hus hy
        by_cases hj : j < l.length
        · rw [List.getElem?_append_left (by omega)] at hus
          rw [List.getElem?_append_left hj] at hy
          exact hR _ _ _ _ r2 (k3 j us y hus hy)
        · rw [List.getElem?_append_right (by omega), k1] at hus
          rw [List.getElem?_append_right (by omega)] at hy
          exact hR _ _ _ _ r2 (n3 _ us y hus hy)
end

end Go.Proofs.Ytigljfmbelaobaa
