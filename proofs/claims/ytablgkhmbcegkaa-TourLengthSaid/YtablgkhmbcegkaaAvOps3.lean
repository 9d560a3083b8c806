/- EACH OPERATION of the evaluator against the model's own, part 3: values that are built, places, slices, lengths. No program in sight. -/
import Derived.Test.YtablgkhmbcegkaaAvOps2
namespace Go.Av
open Go.RowKit

/-- Cells, one by one. -/
def RelL (S : St) (cs : List AV) (vs : List Value) : Prop := cs.length = vs.length ∧ ∀ (i : Nat) c v, cs[i]? = some c → vs[i]? = some v → Rel S c v

theorem RelL.nil (S : St) : RelL S [] [] := ⟨rfl, by simp⟩
theorem RelL.cons {S : St} {c : AV} {v : Value} {cs : List AV} {vs : List Value} (h : Rel S c v) (k : RelL S cs vs) : RelL S (c :: cs) (v :: vs) := by
  refine ⟨by simp [k.1], fun i a b ha hb => ?_⟩
  cases i with
  | zero => simp at ha hb; subst ha; subst hb; exact h
  | succ i => simp at ha hb; exact k.2 i a b ha hb
theorem RelL.head {S : St} {c : AV} {v : Value} {cs : List AV} {vs : List Value} (h : RelL S (c :: cs) (v :: vs)) : Rel S c v := h.2 0 c v rfl rfl
theorem RelL.tail {S : St} {c : AV} {v : Value} {cs : List AV} {vs : List Value} (h : RelL S (c :: cs) (v :: vs)) : RelL S cs vs :=
  ⟨by simpa using h.1, fun i a b ha hb => h.2 (i + 1) a b (by simpa using ha) (by simpa using hb)⟩
theorem RelL.append {S : St} {cs ds : List AV} {vs us : List Value} (h : RelL S cs vs) (k : RelL S ds us) : RelL S (cs ++ ds) (vs ++ us) := by
  refine ⟨by simp [h.1, k.1], fun i a b ha hb => ?_⟩
  by_cases hi : i < cs.length
  · rw [List.getElem?_append_left hi] at ha
    rw [List.getElem?_append_left (by rw [← h.1]; exact hi)] at hb
    exact h.2 i a b ha hb
  · rw [List.getElem?_append_right (by omega)] at ha
    rw [List.getElem?_append_right (by rw [← h.1]; omega), ← h.1] at hb
    exact k.2 _ a b ha hb
theorem RelL.take {S : St} {cs : List AV} {vs : List Value} (h : RelL S cs vs) (n : Nat) : RelL S (cs.take n) (vs.take n) := by
  refine ⟨by simp [h.1], fun i a b ha hb => ?_⟩
  rw [List.getElem?_take] at ha hb
  split at ha
  · rename_i hlt; simp only [hlt, if_true] at hb; exact h.2 i a b ha hb
  · simp at ha
theorem RelL.drop {S : St} {cs : List AV} {vs : List Value} (h : RelL S cs vs) (n : Nat) : RelL S (cs.drop n) (vs.drop n) := by
  refine ⟨by simp [h.1], fun i a b ha hb => ?_⟩
  rw [List.getElem?_drop] at ha hb
  exact h.2 _ a b ha hb
theorem RelL.mono {S S' : St} (he : Ext S S') {cs : List AV} {vs : List Value} (h : RelL S cs vs) : RelL S' cs vs :=
  ⟨h.1, fun i a b ha hb => (h.2 i a b ha hb).mono he⟩
theorem RelL.map {S : St} {l : List Operand} {ρ : Operand → AV} {ρc : Operand → Value} (h : ∀ x, Rel S (ρ x) (ρc x)) : RelL S (l.map ρ) (l.map ρc) := by
  induction l with
  | nil => exact .nil S
  | cons x l ih => exact .cons (h x) ih

theorem relL_cells {S : St} {a : AV} {v : Value} (h : Rel S a v) (ha : a ≠ .any) : RelL S a.cells v.cells.toList := by
  obtain ⟨h1, h2⟩ := cells_of_rel h ha
  exact ⟨by simpa using h1, fun k c cv hc hv => h2 k c cv hc (by simpa using hv)⟩

/-- Where the length is no 1, or all is plain, it is not the value of which nothing is known. -/
theorem not_any_of_plain {a : AV} (h : a.cells.all AV.plain = true) : a ≠ .any := by
  rintro rfl; simp [AV.cells, AV.plain] at h

section
variable {P : Unit → Program}

theorem not_any_of_known {a : AV} (h : a.known = true) : a ≠ .any := by
  rintro rfl; simp [AV.known] at h

theorem zero_rel (S : St) {T : TypeId} {z : AV} (h : zeroA P T = some z) : ∃ zv, (zeroValue T).run (P ()) S.w = .ok zv S.w ∧ Rel S z zv := by
  unfold zeroA at h
  split at h
  · rename_i i hi
    cases hz : i.zero with
    | none => simp [hz] at h
    | some zv =>
      simp only [hz, Option.map_some, Option.some.injEq] at h
      subst h
      exact ⟨zv, by simp [zeroValue, run_info hi, hz], rel_ofC S zv⟩
  · simp at h

theorem foldl_set (off : Nat) : ∀ (l : List Value) (k : Nat) (cells : Array Value), off + k + l.length ≤ cells.size →
    ((l.zipIdx k).foldl (fun cs (x : Value × Nat) => cs.setIfInBounds (off + x.2) x.1) cells).toList = cells.toList.take (off + k) ++ l ++ cells.toList.drop (off + k + l.length)
  | [], k, cells, _ => by simp
  | v :: rest, k, cells, h => by
    simp only [List.zipIdx_cons, List.foldl_cons]
    rw [foldl_set off rest (k + 1) _ (by simp at h ⊢; omega)]
    have := list_seg_step cells.toList (off + k) v rest (by simp at h ⊢; omega)
    simpa [Array.toList_setIfInBounds, Nat.add_assoc] using this

theorem fill_sound {S : St} {place : Nat → Option (Nat × Nat)} : ∀ (parts : List (Nat × AV)) (vparts : List (Nat × Value)) (cells : List AV) (vcells : Array Value) (r : List AV),
    parts.length = vparts.length → (∀ (i : Nat) p q, parts[i]? = some p → vparts[i]? = some q → p.1 = q.1 ∧ Rel S p.2 q.2) → RelL S cells vcells.toList →
    fillA place cells parts = some r → ∃ rv, Instr.fill place vcells vparts = some rv ∧ RelL S r rv.toList := by
  intro parts
  induction parts with
  | nil =>
    intro vparts cells vcells r hl _ hc h
    have : vparts = [] := List.eq_nil_of_length_eq_zero (by simpa using hl.symm)
    subst this
    simp only [fillA, Option.some.injEq] at h; subst h
    exact ⟨vcells, rfl, hc⟩
  | cons p parts ih =>
    intro vparts cells vcells r hl hp hc h
    cases vparts with
    | nil => simp at hl
    | cons q vparts =>
      obtain ⟨i, v⟩ := p
      obtain ⟨i', u⟩ := q
      obtain ⟨e1, e2⟩ := hp 0 _ _ rfl rfl
      simp only at e1 e2
      subst e1
      simp only [fillA] at h
      split at h
      · simp at h
      · rename_i off size hpl
        split at h
        · rename_i hcond
          have hcl := relL_cells e2 (not_any_of_known hcond.1)
          have hsz : u.cells.size = size := by have := hcl.1; simp at this; omega
          have hcs : cells.length = vcells.size := by simpa using hc.1
          have hfit : off + u.cells.toList.length ≤ vcells.size := by simp; omega
          have hfold : (u.cells.zipIdx.foldl (fun cs (x : Value × Nat) => cs.setIfInBounds (off + x.2) x.1) vcells).toList = vcells.toList.take off ++ u.cells.toList ++ vcells.toList.drop (off + u.cells.toList.length) := by
            rw [← Array.foldl_toList, Array.toList_zipIdx]
            simpa using foldl_set off u.cells.toList 0 vcells (by simpa using hfit)
          obtain ⟨rv, h1, h2⟩ := ih vparts (cells.take off ++ (v.cells ++ cells.drop (off + size)))
            (u.cells.zipIdx.foldl (fun cs (x : Value × Nat) => cs.setIfInBounds (off + x.2) x.1) vcells) r (by simpa using hl)
            (fun k p q hp' hq' => hp (k + 1) p q (by simpa using hp') (by simpa using hq'))
            (by
              rw [hfold, List.append_assoc]
              have : u.cells.toList.length = size := by simpa using hsz
              rw [this]
              exact (hc.take off).append (hcl.append (hc.drop (off + size))))
            h
          refine ⟨rv, ?_, h2⟩
          simp only [Instr.fill, hpl, hsz]
          rw [if_neg (by simp; omega)]
          exact h1
        · simp at h

theorem places_sound {w : World} : ∀ (fs : List Field) {pl : List (Nat × Nat)}, places P fs = some pl →
    (fs.mapM fun f => (do pure (f.offset, ← sizeOf f.type) : Sem (Nat × Nat))).run (P ()) w = .ok pl w := by
  intro fs
  induction fs with
  | nil => intro pl h; simp only [places, Option.some.injEq] at h; subst h; simp
  | cons f fs ih =>
    intro pl h
    simp only [places] at h
    split at h
    · rename_i i q hi hq
      simp only [Option.some.injEq] at h; subst h
      simp only [List.mapM_cons, Sem.run_bind, run_size hi, Result.andThen_ok, Sem.run_pure, ih hq]
    · simp at h

theorem parts_map {S : St} {ρ : Operand → AV} {ρc : Operand → Value} (h : ∀ x, Rel S (ρ x) (ρc x)) (parts : List (Nat × Operand)) :
    (parts.map fun (i, x) => (i, ρ x)).length = (parts.map fun (i, x) => (i, ρc x)).length ∧
    ∀ (i : Nat) p q, (parts.map fun (i, x) => (i, ρ x))[i]? = some p → (parts.map fun (i, x) => (i, ρc x))[i]? = some q → p.1 = q.1 ∧ Rel S p.2 q.2 := by
  refine ⟨by simp, fun i p q hp hq => ?_⟩
  simp only [List.getElem?_map] at hp hq
  cases hx : parts[i]? with
  | none => simp [hx] at hp
  | some x =>
    simp only [hx, Option.map_some, Option.some.injEq] at hp hq
    subst hp; subst hq
    exact ⟨rfl, h _⟩

theorem build_sound {S : St} {T : TypeId} {parts : Array (Nat × Operand)} {v : AV} {ρ : Operand → AV} {ρc : Operand → Value} (hρ : ∀ x, Rel S (ρ x) (ρc x))
    (h : buildA P T (parts.toList.map fun (i, x) => (i, ρ x)) = some v) : ∃ vv, (Instr.build T (parts.map fun (i, x) => (i, ρc x))).run (P ()) S.w = .ok vv S.w ∧ Rel S v vv := by
  obtain ⟨hl, hp⟩ := parts_map hρ parts.toList
  have hpt : (parts.map fun (i, x) => (i, ρc x)).toList = parts.toList.map fun (i, x) => (i, ρc x) := by simp
  unfold buildA at h
  split at h
  · rename_i z fs hz hu
    split at h
    · rename_i pl hkn hpl
      cases hf : fillA (pl[·]?) z.cells (parts.toList.map fun (i, x) => (i, ρ x)) with
      | none => simp [hf] at h
      | some r =>
        simp only [hf, Option.map_some, Option.some.injEq] at h; subst h
        obtain ⟨zv, e1, e2⟩ := zero_rel S hz
        obtain ⟨rv, e3, e4⟩ := fill_sound (S := S) _ _ z.cells zv.cells r hl hp (relL_cells e2 (not_any_of_known hkn)) hf
        refine ⟨.agg rv, ?_, ?_⟩
        · have hm := places_sound (P := P) (w := S.w) fs.toList hpl
          simp only [Instr.build, Sem.run_bind, e1, Result.andThen_ok, run_underlying hu, Array.mapM_eq_mapM_toList, Sem.run_map, hm, hpt]
          have : (fun k : Nat => (pl.toArray : Array (Nat × Nat))[k]?) = (fun k : Nat => pl[k]?) := by funext k; simp
          simp only [this, e3]
          rfl
        · obtain ⟨l⟩ := rv
          exact .agg r _ e4.1 e4.2
    · simp at h
  · rename_i z n e hz hu
    split at h
    · rename_i i hkn hi
      cases hf : fillA (fun k => some (k * i.size, i.size)) z.cells (parts.toList.map fun (i, x) => (i, ρ x)) with
      | none => simp [hf] at h
      | some r =>
        simp only [hf, Option.map_some, Option.some.injEq] at h; subst h
        obtain ⟨zv, e1, e2⟩ := zero_rel S hz
        obtain ⟨rv, e3, e4⟩ := fill_sound (S := S) _ _ z.cells zv.cells r hl hp (relL_cells e2 (not_any_of_known hkn)) hf
        refine ⟨.agg rv, ?_, ?_⟩
        · simp only [Instr.build, Sem.run_bind, e1, Result.andThen_ok, run_underlying hu, run_size hi, hpt, e3]
          rfl
        · obtain ⟨l⟩ := rv
          exact .agg r _ e4.1 e4.2
    · simp at h
  · simp at h
end
end Go.Av
