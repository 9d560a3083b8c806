/- ROWS AND BLOCKS: a new row; a row that changes in place or is laid anew; rows that are frozen. No program in sight. -/
import Derived.Test.YtablgkhmbcegkaaAvOps4
namespace Go.Av
open Go.RowKit

theorem getElem?_push_lt {α : Type} {a : Array α} {x : α} {k : Nat} (h : k < a.size) : (a.push x)[k]? = a[k]? := by
  rw [Array.getElem?_push, if_neg (by omega)]
theorem getElem?_push_eq' {α : Type} {a : Array α} {x : α} : (a.push x)[a.size]? = some x := by simp

theorem cell_of_heap {w w' : World} {b o : Nat} (h : w'.heap[b]? = w.heap[b]?) : w'.cell? ⟨b, o, none⟩ = w.cell? ⟨b, o, none⟩ :=
  World.cell?_of_block (a := ⟨b, o, none⟩) h

theorem cell_at {w : World} {b o : Nat} {cs : Array Value} {T : TypeId} {f : Nat × Nat} (h : w.heap[b]? = some (.cells cs T f)) : w.cell? ⟨b, o, none⟩ = cs[o]? := by
  simp [World.cell?, h]

/-- A new row in a new block. -/
theorem new_row {S : St} (hS : HeapOk S) {elems : List AV} {es cap : Nat} {cl : Bool} {cs : Array Value} {T : TypeId} {w' : World}
    (hw : w'.heap = S.w.heap.push (.cells cs T (0, 0))) (hb : Below S.base S.w w') (ho : okElems es elems) (hle : elems.length ≤ cap) (hsz : cap * es ≤ cs.size)
    (hr : ∀ (i : Nat) x (k : Nat) c cv, elems[i]? = some x → x.cells[k]? = some c → cs[i * es + k]? = some cv → Rel S c cv)
    (hd : cl = true → ∀ (i : Nat) x (k : Nat) c cv, elems[i]? = some x → x.cells[k]? = some c → cs[i * es + k]? = some cv → DRel S c cv) :
    HeapOk ⟨S.base, S.acc, S.L ++ [⟨elems, es, 0, false, cl⟩], S.β ++ [⟨S.w.heap.size, 0, es, cap⟩], w'⟩ ∧
    Ext S ⟨S.base, S.acc, S.L ++ [⟨elems, es, 0, false, cl⟩], S.β ++ [⟨S.w.heap.size, 0, es, cap⟩], w'⟩ := by
  have hold : ∀ b, b < S.w.heap.size → w'.heap[b]? = S.w.heap[b]? := fun b h => by rw [hw, getElem?_push_lt h]
  have hnew : w'.heap[S.w.heap.size]? = some (.cells cs T (0, 0)) := by rw [hw, getElem?_push_eq']
  have hβ : ∀ (r : Nat) info, (S.β ++ [⟨S.w.heap.size, 0, es, cap⟩])[r]? = some info → (S.β[r]? = some info ∧ r < S.β.length) ∨ (r = S.β.length ∧ info = ⟨S.w.heap.size, 0, es, cap⟩) := by
    intro r info h
    by_cases hlt : r < S.β.length
    · rw [List.getElem?_append_left hlt] at h; exact .inl ⟨h, hlt⟩
    · rw [List.getElem?_append_right (by omega)] at h
      have : r - S.β.length = 0 := by
        have := lt_of_get h; simp at this; omega
      rw [this] at h
      simp at h
      exact .inr ⟨by omega, h.symm⟩
  have hL : ∀ (r : Nat) row, (S.L ++ [(⟨elems, es, 0, false, cl⟩ : Row)])[r]? = some row → (S.L[r]? = some row ∧ r < S.L.length) ∨ (r = S.L.length ∧ row = ⟨elems, es, 0, false, cl⟩) := by
    intro r row h
    by_cases hlt : r < S.L.length
    · rw [List.getElem?_append_left hlt] at h; exact .inl ⟨h, hlt⟩
    · rw [List.getElem?_append_right (by omega)] at h
      have : r - S.L.length = 0 := by
        have := lt_of_get h; simp at this; omega
      rw [this] at h
      simp at h
      exact .inr ⟨by omega, h.symm⟩
  have hex : Ext S ⟨S.base, S.acc, S.L ++ [⟨elems, es, 0, false, cl⟩], S.β ++ [⟨S.w.heap.size, 0, es, cap⟩], w'⟩ := by
    refine ⟨rfl, rfl, fun b off hi hlt => ⟨?_, cell_of_heap (hold b hlt)⟩, fun r row info h1 h2 => ⟨row, info, ?_, ?_, Nat.le_refl _, fun _ => ⟨rfl, rfl⟩⟩, hb, fun r info h => ?_, fun b _ hlt _ => hold b hlt⟩
    · obtain ⟨h1, h2⟩ := hi
      refine ⟨h1, fun r info hr' he => ?_⟩
      rcases hβ r info hr' with ⟨h3, h4⟩ | ⟨_, rfl⟩
      · obtain ⟨row, a1, a2⟩ := h2 r info h3 he
        exact ⟨row, by show (S.L ++ _)[r]? = _; rw [List.getElem?_append_left (lt_of_get a1)]; exact a1, a2⟩
      · simp at he; omega
    · show (S.L ++ _)[r]? = _; rw [List.getElem?_append_left (lt_of_get h1)]; exact h1
    · show (S.β ++ _)[r]? = _; rw [List.getElem?_append_left (lt_of_get h2)]; exact h2
    · rcases hβ r info h with ⟨h3, _⟩ | ⟨_, rfl⟩
      · exact .inl ⟨r, info, h3, rfl⟩
      · exact .inr (Nat.le_refl _)
  refine ⟨⟨Nat.le_trans hS.base hb.size, by simp [hS.len], ?_, ?_, ?_, ?_, ?_, ?_, ?_, fun b off h => hS.anew b off (Nat.le_trans hb.size h)⟩, hex⟩
  · intro r info h
    rcases hβ r info h with ⟨h3, _⟩ | ⟨_, rfl⟩
    · obtain ⟨a, b⟩ := hS.blk r info h3
      exact ⟨a, Nat.lt_of_lt_of_le b hb.size⟩
    · exact ⟨hS.base, by show S.w.heap.size < w'.heap.size; rw [hw]; simp⟩
  · intro r r' info info' h h' he
    rcases hβ r info h with ⟨h3, h4⟩ | ⟨e1, rfl⟩
    · rcases hβ r' info' h' with ⟨h3', _⟩ | ⟨_, rfl⟩
      · exact hS.inj r r' info info' h3 h3' he
      · have := (hS.blk r info h3).2; simp at he; omega
    · rcases hβ r' info' h' with ⟨h3', _⟩ | ⟨e2, rfl⟩
      · have := (hS.blk r' info' h3').2; simp at he; omega
      · omega
  · intro r row info h h'
    rcases hβ r info h' with ⟨h3, h4⟩ | ⟨e1, rfl⟩
    · rcases hL r row h with ⟨g3, _⟩ | ⟨e2, _⟩
      · obtain ⟨a1, a2, cs', T', a3, a4⟩ := hS.cells r row info g3 h3
        exact ⟨a1, a2, cs', T', (hold _ (hS.blk r info h3).2).trans a3, a4⟩
      · have := hS.len; omega
    · rcases hL r row h with ⟨_, g4⟩ | ⟨_, rfl⟩
      · have := hS.len; omega
      · exact ⟨rfl, hle, cs, T, hnew, by simpa using hsz⟩
  · intro r row h
    rcases hL r row h with ⟨g3, _⟩ | ⟨_, rfl⟩
    · exact hS.elems r row g3
    · exact ho
  · intro r row info i x k c cv h h' hx hk hcv
    rcases hβ r info h' with ⟨h3, h4⟩ | ⟨e1, rfl⟩
    · rcases hL r row h with ⟨g3, _⟩ | ⟨e2, _⟩
      · refine (hS.rel r row info i x k c cv g3 h3 hx hk ?_).mono hex
        rw [← cell_of_heap (hold _ (hS.blk r info h3).2)]; exact hcv
      · have := hS.len; omega
    · rcases hL r row h with ⟨_, g4⟩ | ⟨_, rfl⟩
      · have := hS.len; omega
      · refine (hr i x k c cv hx hk ?_).mono hex
        rw [cell_at hnew] at hcv
        simpa using hcv
  · intro r row info i x k c cv h h' hcl hx hk hcv
    rcases hβ r info h' with ⟨h3, h4⟩ | ⟨e1, rfl⟩
    · rcases hL r row h with ⟨g3, _⟩ | ⟨e2, _⟩
      · refine (hS.clean r row info i x k c cv g3 h3 hcl hx hk ?_).mono hex
        rw [← cell_of_heap (hold _ (hS.blk r info h3).2)]; exact hcv
      · have := hS.len; omega
    · rcases hL r row h with ⟨_, g4⟩ | ⟨_, rfl⟩
      · have := hS.len; omega
      · refine (hd hcl i x k c cv hx hk ?_).mono hex
        rw [cell_at hnew] at hcv
        simpa using hcv
  · intro r info off h
    rcases hβ r info h with ⟨h3, _⟩ | ⟨_, rfl⟩
    · exact hS.acq r info off h3
    · exact hS.anew _ off (Nat.le_refl _)

/-- A row that changes where it lies, or that is laid anew in a new block. -/
theorem set_row {S : St} (hS : HeapOk S) {r : Nat} {row row' : Row} {info info' : BI} {cs : Array Value} {T : TypeId} {w' : World} (hr : S.L[r]? = some row) (hi : S.β[r]? = some info)
    (hver : row.ver ≤ row'.ver) (hsame : row'.ver = row.ver → info' = info ∧ row'.elems.length = row.elems.length) (hes : info'.es = row'.es)
    (hblk : info'.blk = info.blk ∨ info'.blk = S.w.heap.size) (hheap : ∀ b, b < S.w.heap.size → b ≠ info.blk → w'.heap[b]? = S.w.heap[b]?)
    (hnew : w'.heap[info'.blk]? = some (.cells cs T (0, 0))) (hfit : info'.off + info'.cap * info'.es ≤ cs.size) (hle : row'.elems.length ≤ info'.cap)
    (hfz : row.frozen = true → row'.frozen = true ∧ (info'.blk = info.blk → info'.off = info.off ∧ info'.es = info.es ∧ row.elems.length ≤ row'.elems.length) ∧
      ∀ off, info.off ≤ off → off < info.off + row.elems.length * info.es → w'.cell? ⟨info.blk, off, none⟩ = S.w.cell? ⟨info.blk, off, none⟩)
    (ho : okElems row'.es row'.elems) (hb : Below S.base S.w w')
    (hrel : ∀ (i : Nat) x (k : Nat) c cv, row'.elems[i]? = some x → x.cells[k]? = some c → cs[info'.off + i * info'.es + k]? = some cv → Rel S c cv)
    (hcl : row'.clean = true → ∀ (i : Nat) x (k : Nat) c cv, row'.elems[i]? = some x → x.cells[k]? = some c → cs[info'.off + i * info'.es + k]? = some cv → DRel S c cv) :
    HeapOk ⟨S.base, S.acc, S.L.set r row', S.β.set r info', w'⟩ ∧ Ext S ⟨S.base, S.acc, S.L.set r row', S.β.set r info', w'⟩ := by
  have hrl := lt_of_get hr
  have hil := lt_of_get hi
  obtain ⟨hb1, hb2⟩ := hS.blk r info hi
  have hL : ∀ (q : Nat) x, (S.L.set r row')[q]? = some x → (q ≠ r ∧ S.L[q]? = some x) ∨ (q = r ∧ x = row') := by
    intro q x h
    rw [List.getElem?_set] at h
    by_cases e : r = q
    · subst e; simp [hrl] at h; exact .inr ⟨rfl, h.symm⟩
    · simp [e] at h; exact .inl ⟨fun e' => e e'.symm, h⟩
  have hβ : ∀ (q : Nat) x, (S.β.set r info')[q]? = some x → (q ≠ r ∧ S.β[q]? = some x) ∨ (q = r ∧ x = info') := by
    intro q x h
    rw [List.getElem?_set] at h
    by_cases e : r = q
    · subst e; simp [hil] at h; exact .inr ⟨rfl, h.symm⟩
    · simp [e] at h; exact .inl ⟨fun e' => e e'.symm, h⟩
  have hLr : (S.L.set r row')[r]? = some row' := by simp [hrl]
  have hβr : (S.β.set r info')[r]? = some info' := by simp [hil]
  have hLo : ∀ (q : Nat), q ≠ r → (S.L.set r row')[q]? = S.L[q]? := fun q e => by rw [List.getElem?_set, if_neg (fun e' => e e'.symm)]
  have hβo : ∀ (q : Nat), q ≠ r → (S.β.set r info')[q]? = S.β[q]? := fun q e => by rw [List.getElem?_set, if_neg (fun e' => e e'.symm)]
  have other : ∀ (q : Nat) x, q ≠ r → S.β[q]? = some x → w'.heap[x.blk]? = S.w.heap[x.blk]? := fun q x e h =>
    hheap x.blk (hS.blk q x h).2 (fun e' => e (hS.inj q r x info h hi e'))
  have hex : Ext S ⟨S.base, S.acc, S.L.set r row', S.β.set r info', w'⟩ := by
    refine ⟨rfl, rfl, fun b off him hlt => ?_, fun q x y h1 h2 => ?_, hb, fun q x h => ?_, fun b _ hlt hno => hheap b hlt fun e => hno r info hi e.symm⟩
    · have hcell : w'.cell? ⟨b, off, none⟩ = S.w.cell? ⟨b, off, none⟩ := by
        by_cases e : b = info.blk
        · subst e
          obtain ⟨row0, a1, a2, a3, a4⟩ := him.2 r info hi rfl
          rw [hr] at a1
          simp only [Option.some.injEq] at a1; subst a1
          exact (hfz a2).2.2 off a3 a4
        · exact cell_of_heap (hheap b hlt e)
      refine ⟨?_, hcell⟩
      obtain ⟨h1, h2⟩ := him
      refine ⟨h1, fun q x hq he => ?_⟩
      rcases hβ q x hq with ⟨e, h⟩ | ⟨rfl, rfl⟩
      · obtain ⟨row0, a1, a2⟩ := h2 q x h he
        exact ⟨row0, (hLo q e).trans a1, a2⟩
      · rcases hblk with e | e
        · obtain ⟨row0, a1, a2, a3, a4⟩ := h2 q info hi (by omega)
          rw [hr] at a1
          simp only [Option.some.injEq] at a1; subst a1
          obtain ⟨f1, f2, _⟩ := hfz a2
          obtain ⟨g1, g2, g3⟩ := f2 e
          refine ⟨row', hLr, f1, by omega, ?_⟩
          rw [g1, g2]
          exact Nat.lt_of_lt_of_le a4 (Nat.add_le_add_left (Nat.mul_le_mul_right _ g3) _)
        · omega
    · by_cases e : q = r
      · subst e
        rw [hr] at h1; rw [hi] at h2
        simp only [Option.some.injEq] at h1 h2; subst h1; subst h2
        exact ⟨row', info', hLr, hβr, hver, hsame⟩
      · exact ⟨x, y, (hLo q e).trans h1, (hβo q e).trans h2, Nat.le_refl _, fun _ => ⟨rfl, rfl⟩⟩
    · rcases hβ q x h with ⟨_, h3⟩ | ⟨_, h3⟩
      · exact .inl ⟨q, x, h3, rfl⟩
      · subst h3
        rcases hblk with e | e
        · exact .inl ⟨r, info, hi, e.symm⟩
        · exact .inr (Nat.le_of_eq e.symm)
  refine ⟨⟨Nat.le_trans hS.base hb.size, by simp [hS.len], ?_, ?_, ?_, ?_, ?_, ?_, ?_, fun b off h => hS.anew b off (Nat.le_trans hb.size h)⟩, hex⟩
  · intro q x h
    rcases hβ q x h with ⟨e, h⟩ | ⟨rfl, rfl⟩
    · obtain ⟨a, b⟩ := hS.blk q x h
      exact ⟨a, Nat.lt_of_lt_of_le b hb.size⟩
    · refine ⟨?_, ?_⟩
      · show S.base ≤ x.blk
        have := hS.base; rcases hblk with e | e <;> omega
      · exact (Array.getElem?_eq_some_iff.1 hnew).1
  · intro q q' x x' h h' he
    rcases hβ q x h with ⟨e, g⟩ | ⟨e, e1⟩
    · rcases hβ q' x' h' with ⟨e', g'⟩ | ⟨e', e1'⟩
      · exact hS.inj q q' x x' g g' he
      · rw [e1'] at he
        rw [e']
        rcases hblk with e2 | e2
        · exact hS.inj q r x info g hi (by omega)
        · have := (hS.blk q x g).2; omega
    · rcases hβ q' x' h' with ⟨e', g'⟩ | ⟨e', _⟩
      · rw [e1] at he
        rw [e]
        rcases hblk with e2 | e2
        · exact hS.inj r q' info x' hi g' (by omega)
        · have := (hS.blk q' x' g').2; omega
      · rw [e, e']
  · intro q x y h h'
    rcases hL q x h with ⟨e, h⟩ | ⟨rfl, rfl⟩
    · rcases hβ q y h' with ⟨_, h'⟩ | ⟨e', _⟩
      · obtain ⟨a1, a2, cs', T', a3, a4⟩ := hS.cells q x y h h'
        exact ⟨a1, a2, cs', T', (other q y e h').trans a3, a4⟩
      · exact absurd e' e
    · rw [hβr] at h'
      simp only [Option.some.injEq] at h'; subst h'
      exact ⟨hes, hle, cs, T, hnew, hfit⟩
  · intro q x h
    rcases hL q x h with ⟨e, h⟩ | ⟨rfl, rfl⟩
    · exact hS.elems q x h
    · exact ho
  · intro q x y i z k c cv h h' hz hk hcv
    rcases hL q x h with ⟨e, h⟩ | ⟨rfl, rfl⟩
    · rcases hβ q y h' with ⟨_, h'⟩ | ⟨e', _⟩
      · exact (hS.rel q x y i z k c cv h h' hz hk ((cell_of_heap (other q y e h')).symm.trans hcv)).mono hex
      · exact absurd e' e
    · rw [hβr] at h'
      simp only [Option.some.injEq] at h'; subst h'
      exact (hrel i z k c cv hz hk (by rw [← cell_at hnew]; exact hcv)).mono hex
  · intro q x y i z k c cv h h' hc hz hk hcv
    rcases hL q x h with ⟨e, h⟩ | ⟨rfl, rfl⟩
    · rcases hβ q y h' with ⟨_, h'⟩ | ⟨e', _⟩
      · exact (hS.clean q x y i z k c cv h h' hc hz hk ((cell_of_heap (other q y e h')).symm.trans hcv)).mono hex
      · exact absurd e' e
    · rw [hβr] at h'
      simp only [Option.some.injEq] at h'; subst h'
      exact (hcl hc i z k c cv hz hk (by rw [← cell_at hnew]; exact hcv)).mono hex
  · intro q x off h
    rcases hβ q x h with ⟨_, h3⟩ | ⟨_, h3⟩
    · exact hS.acq q x off h3
    · subst h3
      rcases hblk with e | e
      · show S.acc x.blk off
        rw [e]; exact hS.acq r info off hi
      · exact hS.anew _ off (Nat.le_of_eq e.symm)
end Go.Av
