/- A CALL THAT WORKS ON ITS CALLER'S ROWS, handed those rows alone that its arguments lead to. No program in sight. -/
import Derived.Test.YtablgkhmbcegkaaAvOps9
namespace Go.Av
open Go.RowKit

theorem renL_map (f : Nat → Nat) : ∀ l : List AV, renL f l = l.map (renA f)
  | [] => rfl
  | c :: l => by rw [renL, renL_map f l]; rfl

theorem rowsL_mem {l : List AV} {i : Nat} {c : AV} (h : l[i]? = some c) {r : Nat} (hr : r ∈ rowsA c) : r ∈ rowsL l := by
  induction l generalizing i with
  | nil => simp at h
  | cons x l ih =>
    simp only [rowsL, List.mem_append]
    cases i with
    | zero => simp at h; subst h; exact .inl hr
    | succ i => exact .inr (ih (by simpa using h))

theorem renL_same {f : Nat → Nat} {l : List AV} (h : ∀ (i : Nat) c, l[i]? = some c → renA f c = c) : renL f l = l := by
  rw [renL_map]
  apply List.ext_getElem?
  intro i
  rw [List.getElem?_map]
  cases hc : l[i]? with
  | none => rfl
  | some c => simp [h i c hc]

/-- Data that leads into no row. -/
theorem dren {S : St} {a : AV} {v : Value} (h : DRel S a v) (f : Nat → Nat) : renA f a = a := by
  induction h with
  | agg cs vs hl _ ih =>
    have : renL f cs = cs := renL_same fun i c hc => by
      have hi : i < vs.length := by rw [← hl]; exact (List.getElem?_eq_some_iff.1 hc).1
      exact ih i c _ hc (List.getElem?_eq_getElem hi)
    rw [renA, this]
  | tup cs vs hl _ ih =>
    have : renL f cs = cs := renL_same fun i c hc => by
      have hi : i < vs.length := by rw [← hl]; exact (List.getElem?_eq_some_iff.1 hc).1
      exact ih i c _ hc (List.getElem?_eq_getElem hi)
    rw [renA, this]
  | func fn a b va vb ha hb _ _ ih1 ih2 =>
    have h1 : renL f a = a := renL_same fun i c hc => by
      have hi : i < va.length := by rw [← ha]; exact (List.getElem?_eq_some_iff.1 hc).1
      exact ih1 i c _ hc (List.getElem?_eq_getElem hi)
    have h2 : renL f b = b := renL_same fun i c hc => by
      have hi : i < vb.length := by rw [← hb]; exact (List.getElem?_eq_some_iff.1 hc).1
      exact ih2 i c _ hc (List.getElem?_eq_getElem hi)
    rw [renA, h1, h2]
  | _ => rfl

/-- The relation goes over under renumbering. -/
theorem ren_rel {S S' : St} {f : Nat → Nat} {D : Nat → Prop}
    (hrow : ∀ (r : Nat) row info, D r → S.L[r]? = some row → S.β[r]? = some info → ∃ row', S'.L[f r]? = some row' ∧ S'.β[f r]? = some info ∧ row'.ver = row.ver ∧ row'.elems.length = row.elems.length)
    (hd : ∀ a v, DRel S a v → DRel S' a v) {a : AV} {v : Value} (h : Rel S a v) : (∀ r ∈ rowsA a, D r) → Rel S' (renA f a) v := by
  have get : ∀ {l : List AV} {i : Nat} {c : AV}, (renL f l)[i]? = some c → ∃ c0, l[i]? = some c0 ∧ c = renA f c0 := by
    intro l i c h
    rw [renL_map, List.getElem?_map] at h
    obtain ⟨c0, h1, h2⟩ := Option.map_eq_some_iff.1 h
    exact ⟨c0, h1, h2.symm⟩
  have len : ∀ l : List AV, (renL f l).length = l.length := fun l => by rw [renL_map]; simp
  induction h with
  | any v => exact fun _ => .any v
  | data a v h => intro _; rw [dren h f]; exact .data a v (hd a v h)
  | agg cs vs hl _ ih =>
    intro hD
    refine .agg _ vs ((len cs).trans hl) fun i c v hc hv => ?_
    obtain ⟨c0, h1, rfl⟩ := get hc
    exact ih i c0 v h1 hv fun r hr => hD r (by simp only [rowsA]; exact rowsL_mem h1 hr)
  | tup cs vs hl _ ih =>
    intro hD
    refine .tup _ vs ((len cs).trans hl) fun i c v hc hv => ?_
    obtain ⟨c0, h1, rfl⟩ := get hc
    exact ih i c0 v h1 hv fun r hr => hD r (by simp only [rowsA]; exact rowsL_mem h1 hr)
  | func fn a b va vb ha hb _ _ ih1 ih2 =>
    intro hD
    refine .func fn _ _ va vb ((len a).trans ha) ((len b).trans hb) (fun i c v hc hv => ?_) (fun i c v hc hv => ?_)
    · obtain ⟨c0, h1, rfl⟩ := get hc
      exact ih1 i c0 v h1 hv fun r hr => hD r (by simp only [rowsA, List.mem_append]; exact .inl (rowsL_mem h1 hr))
    · obtain ⟨c0, h1, rfl⟩ := get hc
      exact ih2 i c0 v h1 hv fun r hr => hD r (by simp only [rowsA, List.mem_append]; exact .inr (rowsL_mem h1 hr))
  | ptr r ver i j row info v h0 h1 h2 h3 h4 =>
    intro hD
    obtain ⟨row', k1, k2, k3, _⟩ := hrow r row info (hD r (by simp [rowsA])) h1 h2
    exact .ptr (f r) ver i j row' info v h0 k1 k2 (by rw [k3]; exact h3) (by rw [k3]; exact h4)
  | row r ver row info v h0 h1 h2 h3 h4 =>
    intro hD
    obtain ⟨row', k1, k2, k3, k4⟩ := hrow r row info (hD r (by simp [rowsA])) h1 h2
    exact .row (f r) ver row' info v h0 k1 k2 (by rw [k3]; exact h3) (by rw [k3, k4]; exact h4)
  | ref r ver lo len' row info v h0 h1 h2 h3 h4 =>
    intro hD
    obtain ⟨row', k1, k2, k3, k4⟩ := hrow r row info (hD r (by simp [rowsA])) h1 h2
    exact .ref (f r) ver lo len' row' info v h0 k1 k2 (by rw [k3]; exact h3) (by rw [k3, k4]; exact h4)
end Go.Av
