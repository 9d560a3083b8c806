/- WHAT A TREE MEANS IN A WORLD of the model: the relation between trees and values, rows and blocks, and what keeps it. No program in sight. -/
import Derived.Test.YtablgkhmbcegkaaAvWp
import Derived.Below
namespace Go.Av
open Go.RowKit

/-- Where a row lies: its block, the first cell, cells of an element, room in elements. -/
structure BI where
  blk : Nat
  off : Nat
  es : Nat
  cap : Nat

/-- A call's own view of a world: blocks below 'base' were there before it; it may read what 'acc' names. -/
structure St where
  base : Nat
  acc : Nat → Nat → Prop
  L : Heap
  β : List BI
  w : World

/-- A cell that does not change while the call runs. -/
def Imm (S : St) (b off : Nat) : Prop :=
  S.acc b off ∧ ∀ (r : Nat) (info : BI), S.β[r]? = some info → info.blk = b →
    ∃ row, S.L[r]? = some row ∧ row.frozen = true ∧ info.off ≤ off ∧ off < info.off + row.elems.length * info.es

def okElems (es : Nat) (xs : List AV) : Prop := ∀ (i : Nat) (x : AV), xs[i]? = some x → x.cells.length = es ∧ x.cells.all AV.plain = true

/-- Data that leads into no row of the call's own. -/
inductive DRel (S : St) : AV → Value → Prop
  | bool (b : Bool) : DRel S (.bool b) (.bool b)
  | int (k : IntKind) (n : Int) : DRel S (.int k n) (.int k n)
  | str (s : List UInt8) : DRel S (.str s) (.string ⟨⟨s⟩⟩)
  | nilp : DRel S .nilp (.pointer none)
  | nilf : DRel S .nilf .nilFunc
  | agg (cs : List AV) (vs : List Value) : cs.length = vs.length → (∀ (i : Nat) c v, cs[i]? = some c → vs[i]? = some v → DRel S c v) → DRel S (.agg cs) (.agg ⟨vs⟩)
  | tup (cs : List AV) (vs : List Value) : cs.length = vs.length → (∀ (i : Nat) c v, cs[i]? = some c → vs[i]? = some v → DRel S c v) → DRel S (.tup cs) (.tuple ⟨vs⟩)
  | func (fn : Fn) (a b : List AV) (va vb : List Value) : a.length = va.length → b.length = vb.length →
      (∀ (i : Nat) c v, a[i]? = some c → va[i]? = some v → DRel S c v) → (∀ (i : Nat) c v, b[i]? = some c → vb[i]? = some v → DRel S c v) → DRel S (.func fn a b) (.func fn ⟨va⟩ ⟨vb⟩)
  | eptr (es : Nat) (xs : List AV) (i j b off : Nat) : okElems es xs →
      (∀ (i : Nat) x (k : Nat) c, xs[i]? = some x → x.cells[k]? = some c → (∃ cv, S.w.cell? ⟨b, off + i * es + k, none⟩ = some cv) ∧ Imm S b (off + i * es + k)) →
      (∀ (i : Nat) x (k : Nat) c cv, xs[i]? = some x → x.cells[k]? = some c → S.w.cell? ⟨b, off + i * es + k, none⟩ = some cv → DRel S c cv) →
      DRel S (.eptr es xs i j) (.pointer (some ⟨b, off + i * es + j, none⟩))
  | vnil : DRel S .vnil (.slice none 0 0)
  | vecE (f : Bool) (es : Nat) (a : Option Addr) (cap : Nat) : (f = true → cap = 0) → DRel S (.vec f es []) (.slice a 0 cap)
  | vec (f : Bool) (es : Nat) (xs : List AV) (b off cap : Nat) : okElems es xs → (f = true → cap = xs.length) → xs.length ≤ cap →
      (∀ (i : Nat) x (k : Nat) c, xs[i]? = some x → x.cells[k]? = some c → (∃ cv, S.w.cell? ⟨b, off + i * es + k, none⟩ = some cv) ∧ Imm S b (off + i * es + k)) →
      (∀ (i : Nat) x (k : Nat) c cv, xs[i]? = some x → x.cells[k]? = some c → S.w.cell? ⟨b, off + i * es + k, none⟩ = some cv → DRel S c cv) →
      DRel S (.vec f es xs) (.slice (some ⟨b, off, none⟩) xs.length cap)

inductive Rel (S : St) : AV → Value → Prop
  | any (v : Value) : Rel S .any v
  | data (a : AV) (v : Value) : DRel S a v → Rel S a v
  | agg (cs : List AV) (vs : List Value) : cs.length = vs.length → (∀ (i : Nat) c v, cs[i]? = some c → vs[i]? = some v → Rel S c v) → Rel S (.agg cs) (.agg ⟨vs⟩)
  | tup (cs : List AV) (vs : List Value) : cs.length = vs.length → (∀ (i : Nat) c v, cs[i]? = some c → vs[i]? = some v → Rel S c v) → Rel S (.tup cs) (.tuple ⟨vs⟩)
  | func (fn : Fn) (a b : List AV) (va vb : List Value) : a.length = va.length → b.length = vb.length →
      (∀ (i : Nat) c v, a[i]? = some c → va[i]? = some v → Rel S c v) → (∀ (i : Nat) c v, b[i]? = some c → vb[i]? = some v → Rel S c v) → Rel S (.func fn a b) (.func fn ⟨va⟩ ⟨vb⟩)
  | ptr (r ver i j : Nat) (row : Row) (info : BI) (v : Value) : (∃ a, v = .pointer (some a)) → S.L[r]? = some row → S.β[r]? = some info → ver ≤ row.ver →
      (row.ver = ver → v = .pointer (some ⟨info.blk, info.off + i * info.es + j, none⟩)) → Rel S (.ptr r ver i j) v
  | row (r ver : Nat) (row : Row) (info : BI) (v : Value) : (∃ a n c, v = .slice (some a) n c) → S.L[r]? = some row → S.β[r]? = some info → ver ≤ row.ver →
      (row.ver = ver → v = .slice (some ⟨info.blk, info.off, none⟩) row.elems.length info.cap) → Rel S (.row r ver) v
  | ref (r ver lo len : Nat) (row : Row) (info : BI) (v : Value) : (∃ a n c, v = .slice (some a) n c) → S.L[r]? = some row → S.β[r]? = some info → ver ≤ row.ver →
      (row.ver = ver → ∃ a cap, v = .slice (some a) len cap ∧ len ≤ cap ∧ lo + len ≤ row.elems.length ∧ ((a = ⟨info.blk, info.off + lo * info.es, none⟩ ∧ lo + cap = info.cap) ∨ cap = 0)) →
      Rel S (.ref r ver lo len) v

structure HeapOk (S : St) : Prop where
  base : S.base ≤ S.w.heap.size
  len : S.L.length = S.β.length
  blk : ∀ (r : Nat) info, S.β[r]? = some info → S.base ≤ info.blk ∧ info.blk < S.w.heap.size
  inj : ∀ (r r' : Nat) info info', S.β[r]? = some info → S.β[r']? = some info' → info.blk = info'.blk → r = r'
  cells : ∀ (r : Nat) row info, S.L[r]? = some row → S.β[r]? = some info → info.es = row.es ∧ row.elems.length ≤ info.cap ∧
    ∃ cs T, S.w.heap[info.blk]? = some (.cells cs T (0, 0)) ∧ info.off + info.cap * info.es ≤ cs.size
  elems : ∀ (r : Nat) row, S.L[r]? = some row → okElems row.es row.elems
  rel : ∀ (r : Nat) row info (i : Nat) x (k : Nat) c cv, S.L[r]? = some row → S.β[r]? = some info → row.elems[i]? = some x → x.cells[k]? = some c →
    S.w.cell? ⟨info.blk, info.off + i * info.es + k, none⟩ = some cv → Rel S c cv
  clean : ∀ (r : Nat) row info (i : Nat) x (k : Nat) c cv, S.L[r]? = some row → S.β[r]? = some info → row.clean = true → row.elems[i]? = some x → x.cells[k]? = some c →
    S.w.cell? ⟨info.blk, info.off + i * info.es + k, none⟩ = some cv → DRel S c cv
  acq : ∀ (r : Nat) info off, S.β[r]? = some info → S.acc info.blk off
  anew : ∀ b off, S.w.heap.size ≤ b → S.acc b off

/-- From one view to a later one of the same call. -/
structure Ext (S S' : St) : Prop where
  base : S'.base = S.base
  acc : S'.acc = S.acc
  imm : ∀ b off, Imm S b off → b < S.w.heap.size → Imm S' b off ∧ S'.w.cell? ⟨b, off, none⟩ = S.w.cell? ⟨b, off, none⟩
  rows : ∀ (r : Nat) row info, S.L[r]? = some row → S.β[r]? = some info → ∃ row' info', S'.L[r]? = some row' ∧ S'.β[r]? = some info' ∧ row.ver ≤ row'.ver ∧
    (row'.ver = row.ver → info' = info ∧ row'.elems.length = row.elems.length)
  below : Below S.base S.w S'.w
  fresh : ∀ (r : Nat) info', S'.β[r]? = some info' → (∃ (q : Nat) (info : BI), S.β[q]? = some info ∧ info.blk = info'.blk) ∨ S.w.heap.size ≤ info'.blk
  other : ∀ b, S.base ≤ b → b < S.w.heap.size → (∀ (r : Nat) info, S.β[r]? = some info → info.blk ≠ b) → S'.w.heap[b]? = S.w.heap[b]?

theorem Ext.refl (S : St) : Ext S S := ⟨rfl, rfl, fun _ _ h _ => ⟨h, rfl⟩, fun _ row info h1 h2 => ⟨row, info, h1, h2, Nat.le_refl _, fun _ => ⟨rfl, rfl⟩⟩, Below.refl _ _, fun r info h => .inl ⟨r, info, h, rfl⟩, fun _ _ _ _ => rfl⟩

theorem Ext.trans {S S' S'' : St} (h : Ext S S') (k : Ext S' S'') : Ext S S'' where
  base := k.base.trans h.base
  acc := k.acc.trans h.acc
  imm b off hi hb := by
    obtain ⟨h1, h2⟩ := h.imm b off hi hb
    obtain ⟨k1, k2⟩ := k.imm b off h1 (Nat.lt_of_lt_of_le hb h.below.size)
    exact ⟨k1, k2.trans h2⟩
  rows r row info hr hi := by
    obtain ⟨row', info', a1, a2, a3, a4⟩ := h.rows r row info hr hi
    obtain ⟨row'', info'', b1, b2, b3, b4⟩ := k.rows r row' info' a1 a2
    refine ⟨row'', info'', b1, b2, Nat.le_trans a3 b3, fun e => ?_⟩
    have e1 : row'.ver = row.ver := Nat.le_antisymm (e ▸ b3) a3
    have e2 : row''.ver = row'.ver := e.trans e1.symm
    obtain ⟨c1, c2⟩ := a4 e1
    obtain ⟨d1, d2⟩ := b4 e2
    exact ⟨d1.trans c1, d2.trans c2⟩
  below := h.below.trans (h.base ▸ k.below)
  fresh r info'' hi := by
    rcases k.fresh r info'' hi with ⟨q, info', h1, h2⟩ | h1
    · rcases h.fresh q info' h1 with ⟨q', info, h3, h4⟩ | h3
      · exact .inl ⟨q', info, h3, h4.trans h2⟩
      · exact .inr (h2 ▸ h3)
    · exact .inr (Nat.le_trans h.below.size h1)
  other b hb hlt hno := by
    rw [k.other b (h.base ▸ hb) (Nat.lt_of_lt_of_le hlt h.below.size) fun r info' hi he => ?_]
    · exact h.other b hb hlt hno
    · rcases h.fresh r info' hi with ⟨q, info, h1, h2⟩ | h1
      · exact hno q info h1 (h2.trans he)
      · omega

theorem one_cells {v : Value} (h : v.oneCell' = true) : v.cells = #[v] := by
  cases v <;> first | rfl | simp [Value.oneCell'] at h

theorem cell_lt {w : World} {b off : Nat} {cv : Value} (h : w.cell? ⟨b, off, none⟩ = some cv) : b < w.heap.size := World.block_lt_of_cell? (a := ⟨b, off, none⟩) (w := w) h

theorem DRel.mono {S S' : St} (he : Ext S S') {a : AV} {v : Value} (h : DRel S a v) : DRel S' a v := by
  induction h with
  | bool b => exact .bool b
  | int k n => exact .int k n
  | str s => exact .str s
  | nilp => exact .nilp
  | nilf => exact .nilf
  | agg cs vs hl _ ih => exact .agg cs vs hl ih
  | tup cs vs hl _ ih => exact .tup cs vs hl ih
  | func fn a b va vb ha hb _ _ ih1 ih2 => exact .func fn a b va vb ha hb ih1 ih2
  | eptr es xs i j b off ho hc _ ih =>
    refine .eptr es xs i j b off ho (fun i x k c hx hk => ?_) (fun i x k c cv hx hk hcv => ?_)
    · obtain ⟨⟨cv, h1⟩, h2⟩ := hc i x k c hx hk
      obtain ⟨h3, h4⟩ := he.imm _ _ h2 (cell_lt h1)
      exact ⟨⟨cv, h4.trans h1⟩, h3⟩
    · obtain ⟨⟨cv', h1⟩, h2⟩ := hc i x k c hx hk
      obtain ⟨_, h4⟩ := he.imm _ _ h2 (cell_lt h1)
      exact ih i x k c cv hx hk (h4.symm.trans hcv)
  | vnil => exact .vnil
  | vecE f es a cap hf => exact .vecE f es a cap hf
  | vec f es xs b off cap ho hf hl hc _ ih =>
    refine .vec f es xs b off cap ho hf hl (fun i x k c hx hk => ?_) (fun i x k c cv hx hk hcv => ?_)
    · obtain ⟨⟨cv, h1⟩, h2⟩ := hc i x k c hx hk
      obtain ⟨h3, h4⟩ := he.imm _ _ h2 (cell_lt h1)
      exact ⟨⟨cv, h4.trans h1⟩, h3⟩
    · obtain ⟨⟨cv', h1⟩, h2⟩ := hc i x k c hx hk
      obtain ⟨_, h4⟩ := he.imm _ _ h2 (cell_lt h1)
      exact ih i x k c cv hx hk (h4.symm.trans hcv)

theorem Rel.mono {S S' : St} (he : Ext S S') {a : AV} {v : Value} (h : Rel S a v) : Rel S' a v := by
  induction h with
  | any v => exact .any v
  | data a v h => exact .data a v (h.mono he)
  | agg cs vs hl _ ih => exact .agg cs vs hl ih
  | tup cs vs hl _ ih => exact .tup cs vs hl ih
  | func fn a b va vb ha hb _ _ ih1 ih2 => exact .func fn a b va vb ha hb ih1 ih2
  | ptr r ver i j row info v h0 h1 h2 h3 h4 =>
    obtain ⟨row', info', a1, a2, a3, a4⟩ := he.rows r row info h1 h2
    refine .ptr r ver i j row' info' v h0 a1 a2 (Nat.le_trans h3 a3) fun e => ?_
    have e1 : row.ver = ver := Nat.le_antisymm (e ▸ a3) h3
    obtain ⟨c1, _⟩ := a4 (e.trans e1.symm)
    rw [c1]; exact h4 e1
  | row r ver row info v h0 h1 h2 h3 h4 =>
    obtain ⟨row', info', a1, a2, a3, a4⟩ := he.rows r row info h1 h2
    refine .row r ver row' info' v h0 a1 a2 (Nat.le_trans h3 a3) fun e => ?_
    have e1 : row.ver = ver := Nat.le_antisymm (e ▸ a3) h3
    obtain ⟨c1, c2⟩ := a4 (e.trans e1.symm)
    rw [c1, c2]; exact h4 e1
  | ref r ver lo len row info v h0 h1 h2 h3 h4 =>
    obtain ⟨row', info', a1, a2, a3, a4⟩ := he.rows r row info h1 h2
    refine .ref r ver lo len row' info' v h0 a1 a2 (Nat.le_trans h3 a3) fun e => ?_
    have e1 : row.ver = ver := Nat.le_antisymm (e ▸ a3) h3
    obtain ⟨c1, c2⟩ := a4 (e.trans e1.symm)
    rw [c1, c2]; exact h4 e1

/-- Constants read as they are. -/
theorem rel_ofC0 (S : St) (v : Value) : Rel S (ofC0 v) v := by
  unfold ofC0
  split
  · exact .data _ _ (.bool _)
  · exact .data _ _ (.int _ _)
  · exact .data _ _ (.str _)
  · exact .data _ _ .nilp
  · exact .data _ _ .vnil
  · exact .data _ _ .nilf
  · exact .any _
theorem rel_ofC (S : St) (v : Value) : Rel S (ofC v) v := by
  unfold ofC
  split
  · rename_i cs
    refine .agg _ cs.toList (by simp) fun i c v hc hv => ?_
    simp only [List.getElem?_map, hv, Option.map_some, Option.some.injEq] at hc
    subst hc
    exact rel_ofC0 S v
  · rename_i vs
    split
    · rename_i h
      have : vs = ⟨[]⟩ := Array.eq_empty_of_size_eq_zero h
      subst this
      exact .tup [] [] rfl (by simp)
    · exact .any _
  · exact rel_ofC0 S v
end Go.Av
