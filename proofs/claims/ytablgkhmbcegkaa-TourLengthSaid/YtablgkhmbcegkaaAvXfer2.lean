/- A CALL THAT WORKS ON ITS CALLER'S ROWS: the view of the called function, and the way back. No program in sight. -/
import Derived.Test.YtablgkhmbcegkaaAvXfer
namespace Go.Av
open Go.RowKit

theorem noDup_iff : ∀ rs : List Nat, noDup rs = true ↔ rs.Nodup
  | [] => by simp [noDup]
  | r :: rs => by simp [noDup, noDup_iff rs]

theorem getRows_spec {L : Heap} : ∀ {rs : List Nat} {rows : List Row}, getRows L rs = some rows → rows.length = rs.length ∧ ∀ (j : Nat) r, rs[j]? = some r → ∃ row, L[r]? = some row ∧ rows[j]? = some row
  | [], rows, h => by simp only [getRows, Option.some.injEq] at h; subst h; simp
  | r :: rs, rows, h => by
    simp only [getRows] at h
    split at h
    · rename_i row l h1 h2
      simp only [Option.some.injEq] at h; subst h
      obtain ⟨k1, k2⟩ := getRows_spec h2
      refine ⟨by simp [k1], fun j q hj => ?_⟩
      cases j with
      | zero => simp at hj; subst hj; exact ⟨row, h1, rfl⟩
      | succ j => obtain ⟨row', m1, m2⟩ := k2 j q (by simpa using hj); exact ⟨row', m1, by simpa using m2⟩
    · simp at h

theorem posOf_get : ∀ {rs : List Nat} {r : Nat}, r ∈ rs → rs[posOf rs r]? = some r
  | x :: rs, r, h => by
    simp only [posOf]
    cases hx : x == r with
    | true => have : x = r := by simpa using hx
              subst this; rfl
    | false =>
      have hne : x ≠ r := by simpa using hx
      have : r ∈ rs := by
        rcases List.mem_cons.1 h with h | h
        · exact absurd h.symm hne
        · exact h
      simpa using posOf_get this

theorem posOf_at : ∀ {rs : List Nat}, rs.Nodup → ∀ {j r : Nat}, rs[j]? = some r → posOf rs r = j
  | [], _, j, r, h => by simp at h
  | x :: rs, hnd, 0, r, h => by
    simp at h; subst h
    simp [posOf]
  | x :: rs, hnd, j + 1, r, h => by
    obtain ⟨n1, n2⟩ := List.nodup_cons.1 hnd
    have h' : rs[j]? = some r := by simpa using h
    have hm : r ∈ rs := List.mem_of_getElem? h'
    have hx : (x == r) = false := by simpa using fun e : x = r => n1 (e ▸ hm)
    simp only [posOf, hx, cond_false]
    rw [posOf_at n2 h']

theorem putAt_len {α : Type} : ∀ (rs : List Nat) (l xs : List α), (putAt l rs xs).length = l.length
  | [], l, xs => by cases xs <;> rfl
  | r :: rs, l, [] => rfl
  | r :: rs, l, x :: xs => by rw [putAt, putAt_len rs]; simp

theorem putAt_other {α : Type} : ∀ (rs : List Nat) (l xs : List α) (q : Nat), q ∉ rs → (putAt l rs xs)[q]? = l[q]?
  | [], l, xs, q, _ => by cases xs <;> rfl
  | r :: rs, l, [], q, _ => rfl
  | r :: rs, l, x :: xs, q, h => by
    rw [putAt, putAt_other rs _ _ q (fun hm => h (List.mem_cons_of_mem _ hm)), List.getElem?_set]
    have : r ≠ q := fun e => h (by rw [e]; exact List.mem_cons_self ..)
    simp [this]

theorem putAt_at {α : Type} : ∀ (rs : List Nat) (l xs : List α), rs.Nodup → ∀ (j r : Nat) (x : α), rs[j]? = some r → xs[j]? = some x → r < l.length → (putAt l rs xs)[r]? = some x
  | [], l, xs, _, j, r, x, h, _, _ => by simp at h
  | r0 :: rs, l, [], _, j, r, x, _, h, _ => by simp at h
  | r0 :: rs, l, x0 :: xs, hnd, j, r, x, hj, hx, hr => by
    obtain ⟨n1, n2⟩ := List.nodup_cons.1 hnd
    cases j with
    | zero =>
      simp at hj hx; subst hj; subst hx
      rw [putAt, putAt_other rs _ _ _ n1, List.getElem?_set]
      simp [hr]
    | succ j =>
      rw [putAt]
      exact putAt_at rs _ xs n2 j r x (by simpa using hj) (by simpa using hx) (by simpa using hr)

theorem ren_cells (f : Nat → Nat) (a : AV) : (renA f a).cells = a.cells.map (renA f) := by
  cases a <;> first | rfl | (simp [renA, AV.cells, renL_map])
theorem ren_plain (f : Nat → Nat) (a : AV) : (renA f a).plain = a.plain := by
  cases a <;> rfl

theorem ren_ok {f : Nat → Nat} {es : Nat} {xs : List AV} (h : okElems es xs) : okElems es (renL f xs) := by
  intro i x hx
  rw [renL_map, List.getElem?_map] at hx
  obtain ⟨x0, h1, rfl⟩ := Option.map_eq_some_iff.1 hx
  obtain ⟨h2, h3⟩ := h i x0 h1
  rw [ren_cells]
  refine ⟨by simpa using h2, ?_⟩
  simp only [List.all_map, List.all_eq_true] at h3 ⊢
  intro c hc
  show (renA f c).plain = true
  rw [ren_plain]; exact h3 c hc

theorem renRow_spec (f : Nat → Nat) (row : Row) : (renRow f row).es = row.es ∧ (renRow f row).ver = row.ver ∧ (renRow f row).frozen = row.frozen ∧ (renRow f row).clean = row.clean ∧ (renRow f row).elems.length = row.elems.length := by
  unfold renRow
  cases hc : row.clean with
  | true => simp [hc]
  | false => simp [renL_map]

theorem cell_refs {row : Row} {i k : Nat} {x c : AV} (hc : row.clean = false) (hx : row.elems[i]? = some x) (hk : x.cells[k]? = some c) {r : Nat} (hr : r ∈ rowsA c) : r ∈ rowRefs row := by
  unfold rowRefs
  rw [hc]
  refine rowsL_mem hx ?_
  cases x with
  | agg cs => simp only [rowsA]; exact rowsL_mem (by simpa [AV.cells] using hk) hr
  | _ => cases k with
    | zero => simp [AV.cells] at hk; subst hk; exact hr
    | succ k => simp [AV.cells] at hk

/-- How a row's elements go over. -/
theorem row_over {S S' : St} {f : Nat → Nat} {D : Nat → Prop}
    (hrow : ∀ (r : Nat) row info, D r → S.L[r]? = some row → S.β[r]? = some info → ∃ row', S'.L[f r]? = some row' ∧ S'.β[f r]? = some info ∧ row'.ver = row.ver ∧ row'.elems.length = row.elems.length)
    (hd : ∀ a v, DRel S a v → DRel S' a v) {row : Row} (href : ∀ r ∈ rowRefs row, D r) {cellv : Nat → Nat → Option Value}
    (hrel : ∀ (i : Nat) x (k : Nat) c cv, row.elems[i]? = some x → x.cells[k]? = some c → cellv i k = some cv → Rel S c cv)
    (hcl : row.clean = true → ∀ (i : Nat) x (k : Nat) c cv, row.elems[i]? = some x → x.cells[k]? = some c → cellv i k = some cv → DRel S c cv) :
    (∀ (i : Nat) x (k : Nat) c cv, (renRow f row).elems[i]? = some x → x.cells[k]? = some c → cellv i k = some cv → Rel S' c cv) ∧
    ((renRow f row).clean = true → ∀ (i : Nat) x (k : Nat) c cv, (renRow f row).elems[i]? = some x → x.cells[k]? = some c → cellv i k = some cv → DRel S' c cv) := by
  unfold renRow
  cases hc : row.clean with
  | true =>
    simp only [cond_true]
    refine ⟨fun i x k c cv hx hk hcv => .data _ _ (hd _ _ (hcl hc i x k c cv hx hk hcv)), fun _ i x k c cv hx hk hcv => hd _ _ (hcl hc i x k c cv hx hk hcv)⟩
  | false =>
    simp only [cond_false]
    refine ⟨fun i x k c cv hx hk hcv => ?_, fun h => by simp at h⟩
    rw [renL_map, List.getElem?_map] at hx
    obtain ⟨x0, h1, rfl⟩ := Option.map_eq_some_iff.1 hx
    rw [ren_cells, List.getElem?_map] at hk
    obtain ⟨c0, h2, rfl⟩ := Option.map_eq_some_iff.1 hk
    exact ren_rel hrow hd (hrel i x0 k c0 cv h1 h2 hcv) fun r hr => href r (cell_refs hc h1 h2 hr)

def subβ (β : List BI) (rs : List Nat) : List BI := rs.map fun r => β.getD r ⟨0, 0, 0, 0⟩

/-- What the called function may read: new blocks, those of the rows handed over, and what does not change for its caller. -/
def accOf (S : St) (rs : List Nat) (b off : Nat) : Prop := S.w.heap.size ≤ b ∨ (∃ (r : Nat) (info : BI), r ∈ rs ∧ S.β[r]? = some info ∧ info.blk = b) ∨ Imm S b off

/-- The called function's view. -/
theorem sub_ok {S : St} (hS : HeapOk S) {rs : List Nat} {rows : List Row} (hrows : getRows S.L rs = some rows) (hnd : rs.Nodup) (hcl : ∀ row ∈ rows, ∀ r ∈ rowRefs row, r ∈ rs) :
    HeapOk ⟨S.base, accOf S rs, rows.map (renRow (posOf rs)), subβ S.β rs, S.w⟩ ∧
    (∀ b off, Imm S b off → Imm ⟨S.base, accOf S rs, rows.map (renRow (posOf rs)), subβ S.β rs, S.w⟩ b off) ∧
    ∀ a v, Rel S a v → (∀ r ∈ rowsA a, r ∈ rs) → Rel ⟨S.base, accOf S rs, rows.map (renRow (posOf rs)), subβ S.β rs, S.w⟩ (renA (posOf rs) a) v := by
  obtain ⟨hl, hg⟩ := getRows_spec hrows
  have hβ : ∀ (j : Nat) info, (subβ S.β rs)[j]? = some info → ∃ r row, rs[j]? = some r ∧ S.L[r]? = some row ∧ S.β[r]? = some info ∧ rows[j]? = some row := by
    intro j info h
    unfold subβ at h
    rw [List.getElem?_map] at h
    obtain ⟨r, h1, rfl⟩ := Option.map_eq_some_iff.1 h
    obtain ⟨row, h2, h3⟩ := hg j r h1
    have hlt : r < S.β.length := by rw [← hS.len]; exact lt_of_get h2
    exact ⟨r, row, h1, h2, by simp [hlt], h3⟩
  have hL : ∀ (j : Nat) row', (rows.map (renRow (posOf rs)))[j]? = some row' → ∃ row, rows[j]? = some row ∧ row' = renRow (posOf rs) row := by
    intro j row' h
    rw [List.getElem?_map] at h
    obtain ⟨row, h1, rfl⟩ := Option.map_eq_some_iff.1 h
    exact ⟨row, h1, rfl⟩
  have himm : ∀ b off, Imm S b off → Imm ⟨S.base, accOf S rs, rows.map (renRow (posOf rs)), subβ S.β rs, S.w⟩ b off := by
    rintro b off ⟨h1, h2⟩
    · refine ⟨.inr (.inr ⟨h1, h2⟩), fun j info hj he => ?_⟩
      obtain ⟨r, row, k1, k2, k3, k4⟩ := hβ j info hj
      obtain ⟨row0, m1, m2, m3, m4⟩ := h2 r info k3 he
      rw [k2] at m1
      simp only [Option.some.injEq] at m1; subst m1
      obtain ⟨_, _, s3, _, s5⟩ := renRow_spec (posOf rs) row
      exact ⟨renRow (posOf rs) row, by show (rows.map _)[j]? = _; rw [List.getElem?_map, k4]; rfl, by rw [s3]; exact m2, m3, by rw [s5]; exact m4⟩
  have hd : ∀ a v, DRel S a v → DRel ⟨S.base, accOf S rs, rows.map (renRow (posOf rs)), subβ S.β rs, S.w⟩ a v := fun a v h => DRel.shift (S := S) (S' := ⟨S.base, accOf S rs, rows.map (renRow (posOf rs)), subβ S.β rs, S.w⟩) rfl (fun b off hi _ => himm b off hi) h
  have hrow : ∀ (r : Nat) row info, r ∈ rs → S.L[r]? = some row → S.β[r]? = some info →
      ∃ row', (rows.map (renRow (posOf rs)))[posOf rs r]? = some row' ∧ (subβ S.β rs)[posOf rs r]? = some info ∧ row'.ver = row.ver ∧ row'.elems.length = row.elems.length := by
    intro r row info hr h1 h2
    have hp := posOf_get hr
    obtain ⟨row0, k1, k2⟩ := hg _ r hp
    rw [h1] at k1
    simp only [Option.some.injEq] at k1; subst k1
    obtain ⟨_, s2, _, _, s5⟩ := renRow_spec (posOf rs) row
    refine ⟨renRow (posOf rs) row, by rw [List.getElem?_map, k2]; rfl, ?_, s2, s5⟩
    unfold subβ
    rw [List.getElem?_map, hp]
    have hlt : r < S.β.length := lt_of_get h2
    have h3 := (List.getElem?_eq_some_iff.1 h2).2
    simp [hlt, h3]
  refine ⟨?_, himm, fun a v h hr => ren_rel hrow hd h hr⟩
  have hover : ∀ (j : Nat) row' info, (rows.map (renRow (posOf rs)))[j]? = some row' → (subβ S.β rs)[j]? = some info → ∃ r row, rs[j]? = some r ∧ S.L[r]? = some row ∧ S.β[r]? = some info ∧ row' = renRow (posOf rs) row ∧ ∀ q ∈ rowRefs row, q ∈ rs := by
    intro j row' info h1 h2
    obtain ⟨r, row, k1, k2, k3, k4⟩ := hβ j info h2
    obtain ⟨row0, m1, m2⟩ := hL j row' h1
    rw [k4] at m1
    simp only [Option.some.injEq] at m1; subst m1
    exact ⟨r, row, k1, k2, k3, m2, hcl row (List.mem_of_getElem? k4)⟩
  refine ⟨hS.base, by simp [subβ, hl], fun j info h => ?_, fun j j' info info' h h' he => ?_, fun j row' info h1 h2 => ?_, fun j row' h1 => ?_, fun j row' info i x k c cv h1 h2 hx hk hcv => ?_, fun j row' info i x k c cv h1 h2 hc hx hk hcv => ?_, fun j info off h => ?_, fun b off h => .inl h⟩
  · obtain ⟨r, row, k1, k2, k3, k4⟩ := hβ j info h
    exact hS.blk r info k3
  · obtain ⟨r, row, k1, k2, k3, k4⟩ := hβ j info h
    obtain ⟨r', row', k1', k2', k3', k4'⟩ := hβ j' info' h'
    have := hS.inj r r' info info' k3 k3' he
    subst this
    rw [← posOf_at hnd k1, ← posOf_at hnd k1']
  · obtain ⟨r, row, k1, k2, k3, rfl, _⟩ := hover j row' info h1 h2
    obtain ⟨s1, _, _, _, s5⟩ := renRow_spec (posOf rs) row
    rw [s1, s5]
    exact hS.cells r row info k2 k3
  · obtain ⟨row, m1, rfl⟩ := hL j row' h1
    have hj : j < rs.length := by rw [← hl]; exact lt_of_get m1
    obtain ⟨row0, k2, k4⟩ := hg j rs[j] (List.getElem?_eq_getElem hj)
    rw [m1] at k4
    simp only [Option.some.injEq] at k4; subst k4
    have := hS.elems _ row k2
    unfold renRow
    cases row.clean with
    | true => exact this
    | false => exact ren_ok this
  · obtain ⟨r, row, k1, k2, k3, rfl, k5⟩ := hover j row' info h1 h2
    exact (row_over (S := S) (S' := ⟨S.base, accOf S rs, rows.map (renRow (posOf rs)), subβ S.β rs, S.w⟩) (cellv := fun i k => S.w.cell? ⟨info.blk, info.off + i * info.es + k, none⟩) hrow hd k5 (fun i x k c cv hx hk hcv => hS.rel r row info i x k c cv k2 k3 hx hk hcv)
      (fun hc i x k c cv hx hk hcv => hS.clean r row info i x k c cv k2 k3 hc hx hk hcv)).1 i x k c cv hx hk hcv
  · obtain ⟨r, row, k1, k2, k3, rfl, k5⟩ := hover j row' info h1 h2
    exact (row_over (S := S) (S' := ⟨S.base, accOf S rs, rows.map (renRow (posOf rs)), subβ S.β rs, S.w⟩) (cellv := fun i k => S.w.cell? ⟨info.blk, info.off + i * info.es + k, none⟩) hrow hd k5 (fun i x k c cv hx hk hcv => hS.rel r row info i x k c cv k2 k3 hx hk hcv)
      (fun hc i x k c cv hx hk hcv => hS.clean r row info i x k c cv k2 k3 hc hx hk hcv)).2 hc i x k c cv hx hk hcv
  · obtain ⟨r, row, k1, k2, k3, k4⟩ := hβ j info h
    exact .inr (.inl ⟨r, info, List.mem_of_getElem? k1, k3, rfl⟩)
end Go.Av
