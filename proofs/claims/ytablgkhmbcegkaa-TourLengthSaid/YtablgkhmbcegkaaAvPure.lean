/- ROWS READ AS MEMORY THAT DOES NOT CHANGE. No program in sight. -/
import Derived.Test.YtablgkhmbcegkaaAvHeap
namespace Go.Av
open Go.RowKit

/-- The same world, seen with at least as many cells that do not change. -/
theorem DRel.shift {S S' : St} (hw : S'.w = S.w) (hi : ∀ b off, Imm S b off → b < S.w.heap.size → Imm S' b off) {a : AV} {v : Value} (h : DRel S a v) : DRel S' a v := by
  induction h with
  | bool b => exact .bool b
  | int k n => exact .int k n
  | str s => exact .str s
  | nilp => exact .nilp
  | nilf => exact .nilf
  | agg cs vs hl _ ih => exact .agg cs vs hl ih
  | tup cs vs hl _ ih => exact .tup cs vs hl ih
  | func fn a b va vb ha hb _ _ ih1 ih2 => exact .func fn a b va vb ha hb ih1 ih2
  | eptr es xs i j b off ho hc _ ih =>
    refine .eptr es xs i j b off ho (fun i x k c hx hk => ?_) (fun i x k c cv hx hk hcv => ih i x k c cv hx hk (by rw [← hw]; exact hcv))
    obtain ⟨⟨cv, h1⟩, h2⟩ := hc i x k c hx hk
    exact ⟨⟨cv, by rw [hw]; exact h1⟩, hi _ _ h2 (cell_lt h1)⟩
  | vnil => exact .vnil
  | vecE f es a cap hf => exact .vecE f es a cap hf
  | vec f es xs b off cap ho hf hl hc _ ih =>
    refine .vec f es xs b off cap ho hf hl (fun i x k c hx hk => ?_) (fun i x k c cv hx hk hcv => ih i x k c cv hx hk (by rw [← hw]; exact hcv))
    obtain ⟨⟨cv, h1⟩, h2⟩ := hc i x k c hx hk
    exact ⟨⟨cv, by rw [hw]; exact h1⟩, hi _ _ h2 (cell_lt h1)⟩

theorem cleanL_get {l : List AV} (h : cleanL l = true) : ∀ (i : Nat) c, l[i]? = some c → c.clean = true := by
  induction l with
  | nil => intro i c hc; simp at hc
  | cons x l ih =>
    simp only [cleanL, Bool.and_eq_true] at h
    intro i c hc
    cases i with
    | zero => simp at hc; subst hc; exact h.1
    | succ i => exact ih h.2 i c (by simpa using hc)

theorem clean_cells {a : AV} (h : a.clean = true) : ∀ (i : Nat) c, a.cells[i]? = some c → c.clean = true := by
  have one : a.cells = [a] → ∀ (i : Nat) c, a.cells[i]? = some c → c.clean = true := by
    intro e i c hc
    rw [e] at hc
    cases i with
    | zero => simp at hc; subst hc; exact h
    | succ i => simp at hc
  cases a with
  | agg cs => exact cleanL_get (by simpa [AV.clean, AV.cells] using h)
  | _ => exact one rfl

theorem rel_clean {S : St} {a : AV} {v : Value} (h : Rel S a v) : a.clean = true → DRel S a v := by
  induction h with
  | any v => intro h; simp [AV.clean] at h
  | data a v h => exact fun _ => h
  | agg cs vs hl _ ih => intro h; exact .agg cs vs hl fun i c v hc hv => ih i c v hc hv (cleanL_get (by simpa [AV.clean] using h) i c hc)
  | tup cs vs hl _ ih => intro h; exact .tup cs vs hl fun i c v hc hv => ih i c v hc hv (cleanL_get (by simpa [AV.clean] using h) i c hc)
  | func fn a b va vb ha hb _ _ ih1 ih2 =>
    intro h
    have h' : cleanL a = true ∧ cleanL b = true := by simpa [AV.clean] using h
    exact .func fn a b va vb ha hb (fun i c v hc hv => ih1 i c v hc hv (cleanL_get h'.1 i c hc)) (fun i c v hc hv => ih2 i c v hc hv (cleanL_get h'.2 i c hc))
  | ptr r ver i j row info v h0 h1 h2 h3 h4 => intro h; simp [AV.clean] at h
  | row r ver row info v h0 h1 h2 h3 h4 => intro h; simp [AV.clean] at h
  | ref r ver lo len row info v h0 h1 h2 h3 h4 => intro h; simp [AV.clean] at h

/-- The rows 'rs', as far as they go, are among the cells that do not change. -/
def Holds (S S' : St) (rs : List Nat) : Prop := ∀ (r : Nat), r ∈ rs → ∀ (row : Row) (info : BI), S.L[r]? = some row → S.β[r]? = some info →
  ∀ off, info.off ≤ off → off < info.off + row.elems.length * info.es → Imm S' info.blk off

theorem Holds.sub {S S' : St} {rs qs : List Nat} (h : Holds S S' rs) (hq : ∀ r, r ∈ qs → r ∈ rs) : Holds S S' qs := fun r hr => h r (hq r hr)

/-- A part of a clean row, as a slice. -/
theorem row_data {S S' : St} (hS : HeapOk S) (hw : S'.w = S.w) (hi : ∀ b off, Imm S b off → b < S.w.heap.size → Imm S' b off) {r : Nat} {row : Row} {info : BI} (hr : S.L[r]? = some row) (hb : S.β[r]? = some info)
    (hcl : row.clean = true) (hh : Holds S S' [r]) (lo len cap : Nat) (hle : lo + len ≤ row.elems.length) (hc : len ≤ cap) :
    DRel S' (.vec false row.es ((row.elems.drop lo).take len)) (.slice (some ⟨info.blk, info.off + lo * info.es, none⟩) len cap) := by
  have hes := (hS.cells r row info hr hb).1
  have hlen : ((row.elems.drop lo).take len).length = len := by simp; omega
  have hget : ∀ (i : Nat) x, ((row.elems.drop lo).take len)[i]? = some x → row.elems[lo + i]? = some x ∧ i < len := by
    intro i x hx
    rw [List.getElem?_take] at hx
    split at hx
    · rw [List.getElem?_drop] at hx; exact ⟨hx, by assumption⟩
    · simp at hx
  have := DRel.vec (S := S') false row.es ((row.elems.drop lo).take len) info.blk (info.off + lo * info.es) cap
    (fun i x hx => hS.elems r row hr _ x (hget i x hx).1) (by simp) (by rw [hlen]; exact hc)
    (fun i x k c hx hk => by
      obtain ⟨h1, h2⟩ := hget i x hx
      have hk2 : k < info.es := by rw [hes, ← (hS.elems r row hr _ x h1).1]; exact lt_of_get hk
      obtain ⟨cv, h3⟩ := row_cell hS hr hb h1 hk2
      have e : info.off + lo * info.es + i * row.es + k = info.off + (lo + i) * info.es + k := by rw [hes, Nat.add_mul]; omega
      rw [e]
      refine ⟨⟨cv, by rw [hw]; exact h3⟩, hh r (by simp) row info hr hb _ (by omega) ?_⟩
      have := idx_lt (lt_of_get h1) (Nat.le_refl row.elems.length) hk2
      omega)
    (fun i x k c cv hx hk hcv => by
      obtain ⟨h1, h2⟩ := hget i x hx
      have e : info.off + lo * info.es + i * row.es + k = info.off + (lo + i) * info.es + k := by rw [hes, Nat.add_mul]; omega
      rw [e, hw] at hcv
      exact (hS.clean r row info _ x k c cv hr hb hcl h1 hk hcv).shift hw hi)
  rw [hlen] at this
  exact this

mutual
theorem pure_rel {S S' : St} (hS : HeapOk S) (hw : S'.w = S.w) (hi : ∀ b off, Imm S b off → b < S.w.heap.size → Imm S' b off) : ∀ (a : AV) {d : AV} {v : Value}, Rel S a v → pureA S.L a = some d →
    (∀ b ∈ versA S.L a, b = true) → Holds S S' (rowsA a) → DRel S' d v
  | .any, _, _, _, h, _, _ => by simp [pureA] at h
  | .bool b, _, _, hr, h, _, _ => by simp only [pureA, Option.some.injEq] at h; subst h; exact (rel_clean hr rfl).shift hw hi
  | .int k n, _, _, hr, h, _, _ => by simp only [pureA, Option.some.injEq] at h; subst h; exact (rel_clean hr rfl).shift hw hi
  | .str s, _, _, hr, h, _, _ => by simp only [pureA, Option.some.injEq] at h; subst h; exact (rel_clean hr rfl).shift hw hi
  | .nilp, _, _, hr, h, _, _ => by simp only [pureA, Option.some.injEq] at h; subst h; exact (rel_clean hr rfl).shift hw hi
  | .nilf, _, _, hr, h, _, _ => by simp only [pureA, Option.some.injEq] at h; subst h; exact (rel_clean hr rfl).shift hw hi
  | .vnil, _, _, hr, h, _, _ => by simp only [pureA, Option.some.injEq] at h; subst h; exact (rel_clean hr rfl).shift hw hi
  | .vec f es xs, _, _, hr, h, _, _ => by simp only [pureA, Option.some.injEq] at h; subst h; exact (rel_clean hr rfl).shift hw hi
  | .eptr es xs i j, _, _, hr, h, _, _ => by simp only [pureA, Option.some.injEq] at h; subst h; exact (rel_clean hr rfl).shift hw hi
  | .agg cs, _, _, hr, h, hv, hh => by
    simp only [pureA] at h
    split at h
    · rename_i ds hd
      simp only [Option.some.injEq] at h; subst h
      obtain ⟨vs, rfl, l1, r1⟩ := rel_agg hr
      obtain ⟨l2, r2⟩ := pure_relL hS hw hi cs ⟨l1, r1⟩ hd (by simpa [versA] using hv) (by simpa [rowsA] using hh)
      exact .agg ds vs l2 r2
    · simp at h
  | .tup cs, _, _, hr, h, hv, hh => by
    simp only [pureA] at h
    split at h
    · rename_i ds hd
      simp only [Option.some.injEq] at h; subst h
      obtain ⟨vs, rfl, l1, r1⟩ := rel_tup hr
      obtain ⟨l2, r2⟩ := pure_relL hS hw hi cs ⟨l1, r1⟩ hd (by simpa [versA] using hv) (by simpa [rowsA] using hh)
      exact .tup ds vs l2 r2
    · simp at h
  | .func fn a b, _, _, hr, h, hv, hh => by
    simp only [pureA] at h
    split at h
    · rename_i a' b' ha hb
      simp only [Option.some.injEq] at h; subst h
      obtain ⟨va, vb, rfl, l1, l2, r1, r2⟩ := rel_func hr
      obtain ⟨x1, x2⟩ := pure_relL hS hw hi a ⟨l1, r1⟩ ha (fun b hb => hv b (by simp [versA, hb])) (hh.sub fun r hr => by simp [rowsA, hr])
      obtain ⟨y1, y2⟩ := pure_relL hS hw hi b ⟨l2, r2⟩ hb (fun b hb => hv b (by simp [versA, hb])) (hh.sub fun r hr => by simp [rowsA, hr])
      exact .func fn a' b' va vb x1 y1 x2 y2
    · simp at h
  | .ptr r ver i j, _, _, hr, h, hv, hh => by
    simp only [pureA] at h
    split at h
    · rename_i row hrow
      split at h
      · rename_i x hx
        split at h
        · rename_i hcl
          simp only [Option.some.injEq] at h; subst h
          obtain ⟨row', info, a1, a2, a3⟩ := rel_ptr hr
          rw [hrow] at a1
          simp only [Option.some.injEq] at a1; subst a1
          have hver : row.ver = ver := by
            have := hv (verOk S.L r ver) (by simp [versA])
            simpa [verOk, hrow] using this
          rw [a3 hver]
          have hes := (hS.cells r row info hrow a2).1
          have hget : ∀ (q : Nat) y, [x][q]? = some y → q = 0 ∧ y = x ∧ row.elems[q]? = some x := by
            intro q y hy
            cases q with
            | zero => simp at hy; subst hy; exact ⟨rfl, rfl, by rw [hx]; rfl⟩
            | succ q => simp at hy
          rw [hes]
          refine .eptr row.es [x] i j info.blk info.off (fun q y hy => ?_) (fun q y k c hy hk => ?_) (fun q y k c cv hy hk hcv => ?_)
          · obtain ⟨_, rfl, h3⟩ := hget q y hy
            exact hS.elems r row hrow q y h3
          · obtain ⟨rfl, rfl, h3⟩ := hget q y hy
            have hk2 : k < info.es := by rw [hes, ← (hS.elems r row hrow _ y h3).1]; exact lt_of_get hk
            obtain ⟨cv, h4⟩ := row_cell hS hrow a2 h3 hk2
            rw [hes] at h4
            refine ⟨⟨cv, by rw [hw]; exact h4⟩, hh r (by simp [rowsA]) row info hrow a2 _ (by omega) ?_⟩
            have := idx_lt (lt_of_get h3) (Nat.le_refl row.elems.length) hk2
            rw [hes] at this ⊢
            omega
          · obtain ⟨rfl, rfl, h3⟩ := hget q y hy
            rw [hw, ← hes] at hcv
            exact (rel_clean (hS.rel r row info 0 y k c cv hrow a2 h3 hk hcv) (clean_cells hcl k c hk)).shift hw hi
        · simp at h
      · simp at h
    · simp at h
  | .row r ver, _, _, hr, h, hv, hh => by
    simp only [pureA] at h
    split at h
    · rename_i row hrow
      split at h
      · rename_i hcl
        simp only [Option.some.injEq] at h; subst h
        obtain ⟨row', info, a1, a2, a3⟩ := rel_row hr
        rw [hrow] at a1
        simp only [Option.some.injEq] at a1; subst a1
        have hver : row.ver = ver := by
          have := hv (verOk S.L r ver) (by simp [versA])
          simpa [verOk, hrow] using this
        rw [a3 hver]
        have := row_data hS hw hi hrow a2 hcl (hh.sub (by simp [rowsA])) 0 row.elems.length info.cap (by omega) (hS.cells r row info hrow a2).2.1
        simpa using this
      · simp at h
    · simp at h
  | .ref r ver lo len, _, _, hr, h, hv, hh => by
    simp only [pureA] at h
    split at h
    · rename_i row hrow
      split at h
      · rename_i hcl
        simp only [Option.some.injEq] at h; subst h
        obtain ⟨row', info, a1, a2, a3⟩ := rel_ref hr
        rw [hrow] at a1
        simp only [Option.some.injEq] at a1; subst a1
        have hver : row.ver = ver := by
          have := hv (verOk S.L r ver) (by simp [versA])
          simpa [verOk, hrow] using this
        obtain ⟨a, cap, rfl, b1, b2, b3⟩ := a3 hver
        rcases b3 with ⟨rfl, b4⟩ | b4
        · exact row_data hS hw hi hrow a2 hcl (hh.sub (by simp [rowsA])) lo len cap b2 b1
        · have : len = 0 := Nat.le_zero.1 (b4 ▸ b1)
          subst this
          simp only [List.take_zero]
          exact .vecE _ _ _ _ (by simp)
      · simp at h
    · simp at h
theorem pure_relL {S S' : St} (hS : HeapOk S) (hw : S'.w = S.w) (hi : ∀ b off, Imm S b off → b < S.w.heap.size → Imm S' b off) : ∀ (l : List AV) {ds : List AV} {vs : List Value}, RelL S l vs → pureL S.L l = some ds →
    (∀ b ∈ versL S.L l, b = true) → Holds S S' (rowsL l) → ds.length = vs.length ∧ ∀ (i : Nat) c v, ds[i]? = some c → vs[i]? = some v → DRel S' c v
  | [], _, vs, hr, h, _, _ => by
    simp only [pureL, Option.some.injEq] at h; subst h
    exact ⟨by simpa using hr.1, by simp⟩
  | c :: l, _, [], hr, h, _, _ => by have := hr.1; simp at this
  | c :: l, _, u :: vs, hr, h, hv, hh => by
    simp only [pureL] at h
    split at h
    · rename_i d ds hd hds
      simp only [Option.some.injEq] at h; subst h
      have h1 := pure_rel hS hw hi c hr.head hd (fun b hb => hv b (by simp [versL, hb])) (hh.sub fun r hr => by simp [rowsL, hr])
      obtain ⟨l2, r2⟩ := pure_relL hS hw hi l hr.tail hds (fun b hb => hv b (by simp [versL, hb])) (hh.sub fun r hr => by simp [rowsL, hr])
      refine ⟨by simp [l2], fun i a b ha hb => ?_⟩
      cases i with
      | zero => simp at ha hb; subst ha; subst hb; exact h1
      | succ i => exact r2 i a b (by simpa using ha) (by simpa using hb)
    · simp at h
end

theorem set_self {α : Type} {l : List α} {r : Nat} {x : α} (h : l[r]? = some x) : l.set r x = l := by
  apply List.ext_getElem?
  intro i
  rw [List.getElem?_set]
  by_cases e : r = i
  · subst e; simp [lt_of_get h]; exact ((List.getElem?_eq_some_iff.1 h).2).symm
  · simp [e]

/-- One row is frozen. -/
theorem freeze_one {S : St} (hS : HeapOk S) {r : Nat} {row : Row} (hr : S.L[r]? = some row) :
    HeapOk ⟨S.base, S.acc, S.L.set r { row with frozen := true }, S.β, S.w⟩ ∧ Ext S ⟨S.base, S.acc, S.L.set r { row with frozen := true }, S.β, S.w⟩ := by
  have hlt : r < S.β.length := by rw [← hS.len]; exact lt_of_get hr
  obtain ⟨info, hi⟩ : ∃ info, S.β[r]? = some info := ⟨_, List.getElem?_eq_getElem hlt⟩
  obtain ⟨a1, a2, cs, T, a3, a4⟩ := hS.cells r row info hr hi
  have := set_row (row' := { row with frozen := true }) (info' := info) (w' := S.w) hS hr hi (Nat.le_refl _) (fun _ => ⟨rfl, rfl⟩) a1 (.inl rfl) (fun _ _ _ => rfl) a3 a4 a2
    (fun _ => ⟨rfl, fun _ => ⟨rfl, rfl, Nat.le_refl _⟩, fun _ _ _ => rfl⟩) (hS.elems r row hr) (Below.refl _ _)
    (fun i x k c cv hx hk hcv => hS.rel r row info i x k c cv hr hi hx hk (by rw [cell_at a3]; exact hcv))
    (fun hc i x k c cv hx hk hcv => hS.clean r row info i x k c cv hr hi hc hx hk (by rw [cell_at a3]; exact hcv))
  rw [set_self hi] at this
  exact this

theorem freeze_get : ∀ (rs : List Nat) (L : Heap) (r : Nat) (row : Row), L[r]? = some row → ∃ f, (freeze rs L)[r]? = some { row with frozen := f } ∧ (row.frozen = true → f = true) ∧ (r ∈ rs → f = true)
  | [], L, r, row, h => ⟨row.frozen, by simpa [freeze] using h, id, by simp⟩
  | q :: rs, L, r, row, h => by
    simp only [freeze, List.foldl_cons]
    have e0 : ∀ M : Heap, rs.foldl (fun L r => match L[r]? with | some row => L.set r { row with frozen := true } | none => L) M = freeze rs M := fun _ => rfl
    cases hq : L[q]? with
    | none =>
      obtain ⟨f, h1, h2, h3⟩ := freeze_get rs L r row h
      refine ⟨f, h1, h2, fun hm => ?_⟩
      rcases List.mem_cons.1 hm with e | e
      · subst e; rw [h] at hq; cases hq
      · exact h3 e
    | some rw' =>
      by_cases e : q = r
      · subst e
        rw [h] at hq; simp only [Option.some.injEq] at hq; subst hq
        have : (L.set q { row with frozen := true })[q]? = some { row with frozen := true } := by simp [lt_of_get h]
        obtain ⟨f, h1, h2, h3⟩ := freeze_get rs _ q _ this
        exact ⟨f, h1, fun _ => h2 rfl, fun _ => h2 rfl⟩
      · have : (L.set q { rw' with frozen := true })[r]? = some row := by rw [List.getElem?_set, if_neg e]; exact h
        obtain ⟨f, h1, h2, h3⟩ := freeze_get rs _ r row this
        refine ⟨f, h1, h2, fun hm => ?_⟩
        rcases List.mem_cons.1 hm with e' | e'
        · exact absurd e'.symm e
        · exact h3 e'

theorem freeze_ok : ∀ (rs : List Nat) {S : St}, HeapOk S → HeapOk ⟨S.base, S.acc, freeze rs S.L, S.β, S.w⟩ ∧ Ext S ⟨S.base, S.acc, freeze rs S.L, S.β, S.w⟩
  | [], S, hS => ⟨hS, Ext.refl S⟩
  | q :: rs, S, hS => by
    simp only [freeze, List.foldl_cons]
    have e0 : ∀ M : Heap, rs.foldl (fun L r => match L[r]? with | some row => L.set r { row with frozen := true } | none => L) M = freeze rs M := fun _ => rfl
    cases hq : S.L[q]? with
    | none => exact freeze_ok rs hS
    | some row =>
      obtain ⟨h1, h2⟩ := freeze_one hS hq
      obtain ⟨h3, h4⟩ := freeze_ok rs h1
      exact ⟨h3, h2.trans h4⟩

/-- Rows that are frozen do not change. -/
theorem freeze_holds {S : St} (hS : HeapOk S) (rs : List Nat) : Holds S ⟨S.base, S.acc, freeze rs S.L, S.β, S.w⟩ rs := by
  intro r hr row info h1 h2 off h3 h4
  refine ⟨hS.acq r info off h2, fun q info' hq he => ?_⟩
  have := hS.inj q r info' info hq h2 he
  subst this
  rw [h2] at hq; simp only [Option.some.injEq] at hq; subst hq
  obtain ⟨f, g1, _, g3⟩ := freeze_get rs S.L q row h1
  exact ⟨_, g1, g3 hr, h3, h4⟩
end Go.Av
