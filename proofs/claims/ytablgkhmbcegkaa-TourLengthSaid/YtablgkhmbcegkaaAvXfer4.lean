/- RENUMBERING TWICE; rows of a called function that has changed nothing. No program in sight. -/
import Derived.Test.YtablgkhmbcegkaaAvXfer3
namespace Go.Av
open Go.RowKit

mutual
theorem renA_ext {f g : Nat → Nat} : ∀ (a : AV), (∀ r ∈ rowsA a, f r = g r) → renA f a = renA g a
  | .any, _ => rfl
  | .bool _, _ => rfl
  | .int _ _, _ => rfl
  | .str _, _ => rfl
  | .nilp, _ => rfl
  | .nilf, _ => rfl
  | .vnil, _ => rfl
  | .eptr .., _ => rfl
  | .vec .., _ => rfl
  | .row r v, h => by simp only [renA]; rw [h r (by simp [rowsA])]
  | .ref r v lo n, h => by simp only [renA]; rw [h r (by simp [rowsA])]
  | .ptr r v i j, h => by simp only [renA]; rw [h r (by simp [rowsA])]
  | .agg cs, h => by simp only [renA]; rw [renL_ext cs (by simpa [rowsA] using h)]
  | .tup cs, h => by simp only [renA]; rw [renL_ext cs (by simpa [rowsA] using h)]
  | .func fn a b, h => by
    simp only [renA]
    rw [renL_ext a (fun r hr => h r (by simp [rowsA, hr])), renL_ext b (fun r hr => h r (by simp [rowsA, hr]))]
theorem renL_ext {f g : Nat → Nat} : ∀ (l : List AV), (∀ r ∈ rowsL l, f r = g r) → renL f l = renL g l
  | [], _ => rfl
  | c :: l, h => by
    simp only [renL]
    rw [renA_ext c (fun r hr => h r (by simp [rowsL, hr])), renL_ext l (fun r hr => h r (by simp [rowsL, hr]))]
end

mutual
theorem renA_id : ∀ (a : AV), renA (fun r => r) a = a
  | .any => rfl
  | .bool _ => rfl
  | .int _ _ => rfl
  | .str _ => rfl
  | .nilp => rfl
  | .nilf => rfl
  | .vnil => rfl
  | .eptr .. => rfl
  | .vec .. => rfl
  | .row r v => rfl
  | .ref r v lo n => rfl
  | .ptr r v i j => rfl
  | .agg cs => by simp only [renA]; rw [renL_id cs]
  | .tup cs => by simp only [renA]; rw [renL_id cs]
  | .func fn a b => by simp only [renA]; rw [renL_id a, renL_id b]
theorem renL_id : ∀ (l : List AV), renL (fun r => r) l = l
  | [] => rfl
  | c :: l => by simp only [renL]; rw [renA_id c, renL_id l]
end

mutual
theorem renA_renA (f g : Nat → Nat) : ∀ (a : AV), renA g (renA f a) = renA (fun r => g (f r)) a
  | .any => rfl
  | .bool _ => rfl
  | .int _ _ => rfl
  | .str _ => rfl
  | .nilp => rfl
  | .nilf => rfl
  | .vnil => rfl
  | .eptr .. => rfl
  | .vec .. => rfl
  | .row r v => rfl
  | .ref r v lo n => rfl
  | .ptr r v i j => rfl
  | .agg cs => by simp only [renA]; rw [renL_renL f g cs]
  | .tup cs => by simp only [renA]; rw [renL_renL f g cs]
  | .func fn a b => by simp only [renA]; rw [renL_renL f g a, renL_renL f g b]
theorem renL_renL (f g : Nat → Nat) : ∀ (l : List AV), renL g (renL f l) = renL (fun r => g (f r)) l
  | [] => rfl
  | c :: l => by simp only [renL]; rw [renA_renA f g c, renL_renL f g l]
end

mutual
theorem rowsA_ren (f : Nat → Nat) : ∀ (a : AV), rowsA (renA f a) = (rowsA a).map f
  | .any => rfl
  | .bool _ => rfl
  | .int _ _ => rfl
  | .str _ => rfl
  | .nilp => rfl
  | .nilf => rfl
  | .vnil => rfl
  | .eptr .. => rfl
  | .vec .. => rfl
  | .row r v => rfl
  | .ref r v lo n => rfl
  | .ptr r v i j => rfl
  | .agg cs => by simp only [renA, rowsA]; exact rowsL_ren f cs
  | .tup cs => by simp only [renA, rowsA]; exact rowsL_ren f cs
  | .func fn a b => by simp only [renA, rowsA, List.map_append]; rw [rowsL_ren f a, rowsL_ren f b]
theorem rowsL_ren (f : Nat → Nat) : ∀ (l : List AV), rowsL (renL f l) = (rowsL l).map f
  | [] => rfl
  | c :: l => by simp only [renL, rowsL, List.map_append]; rw [rowsA_ren f c, rowsL_ren f l]
end

theorem refs_ren (f : Nat → Nat) (row : Row) : rowRefs (renRow f row) = (rowRefs row).map f := by
  unfold rowRefs renRow
  cases hc : row.clean with
  | true => simp [hc]
  | false => simp [rowsL_ren]

theorem renRow_back {f g : Nat → Nat} {row : Row} (h : ∀ r ∈ rowRefs row, g (f r) = r) : renRow g (renRow f row) = row := by
  unfold renRow
  unfold rowRefs at h
  cases hc : row.clean with
  | true => simp [hc]
  | false =>
    rw [hc] at h
    simp only [cond_false] at h ⊢
    rw [renL_renL, renL_ext row.elems (g := fun r => r) h, renL_id, ← hc]

theorem getRows_all (l : List Row) : getRows l (List.range l.length) = some l := by
  have : ∀ (n k : Nat), n + k = l.length → getRows l (List.range' k n) = some (l.drop k) := by
    intro n
    induction n with
    | zero => intro k hk; simp [getRows]; omega
    | succ n ih =>
      intro k hk
      have hlt : k < l.length := by omega
      rw [List.range'_succ, getRows, List.getElem?_eq_getElem hlt, ih (k + 1) (by omega), List.drop_eq_getElem_cons hlt]
  have h := this l.length 0 (by omega)
  rw [← List.range_eq_range'] at h
  simpa using h

theorem put_same {α : Type} {l : List α} : ∀ (rs : List Nat) (xs : List α), (∀ (j : Nat) r x, rs[j]? = some r → xs[j]? = some x → l[r]? = some x) → putAt l rs xs = l
  | [], xs, _ => by cases xs <;> rfl
  | r :: rs, [], _ => rfl
  | r :: rs, x :: xs, h => by
    have h0 := h 0 r x rfl rfl
    have hs : l.set r x = l := set_self h0
    rw [putAt, hs]
    exact put_same rs xs fun j q y hj hy => h (j + 1) q y (by simpa using hj) (by simpa using hy)

/-- The called function's view, and back: what it is handed is closed. -/
theorem own_in {L Lc : Heap} {args args' : List AV} {rs : List Nat} (h : ownIn L args = some (rs, args', Lc)) :
    ∃ rows, getRows L rs = some rows ∧ rs.Nodup ∧ (∀ r ∈ rowsL args, r ∈ rs) ∧ (∀ row ∈ rows, ∀ r ∈ rowRefs row, r ∈ rs) ∧ args' = renL (posOf rs) args ∧ Lc = rows.map (renRow (posOf rs)) := by
  unfold ownIn at h
  simp only at h
  split at h
  · rename_i rows hr
    split at h
    · rename_i hc
      simp only [Option.some.injEq, Prod.mk.injEq] at h
      obtain ⟨rfl, rfl, rfl⟩ := h
      simp only [Bool.and_eq_true, List.all_eq_true, List.contains_iff_mem] at hc
      exact ⟨rows, hr, (noDup_iff _).1 hc.1, hc.2.1, hc.2.2, rfl, rfl⟩
    · simp at h
  · simp at h
end Go.Av
