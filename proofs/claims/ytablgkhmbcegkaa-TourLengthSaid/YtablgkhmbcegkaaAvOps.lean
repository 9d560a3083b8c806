/- EACH OPERATION of the evaluator against the model's own, part 1: values, loads, arithmetic. No program in sight. -/
import Derived.Test.YtablgkhmbcegkaaAvRel
namespace Go.Av
open Go.RowKit

/-- What an operation of the model came to, seen by the evaluator. -/
def Done (S : St) (v : AV) (L' : Heap) (out : Result Next) : Prop :=
  ∃ β' w' cv, HeapOk ⟨S.base, S.acc, L', β', w'⟩ ∧ Ext S ⟨S.base, S.acc, L', β', w'⟩ ∧ Rel ⟨S.base, S.acc, L', β', w'⟩ v cv ∧
    (out = .ok (.value cv) w' ∨ (out = .ok .skip w' ∧ cv = undef))

theorem done_quiet {S : St} (hS : HeapOk S) {v : AV} {cv : Value} {out : Result Next} (hv : Rel S v cv) (ho : out = .ok (.value cv) S.w) : Done S v S.L out :=
  ⟨S.β, S.w, cv, hS, Ext.refl S, hv, .inl ho⟩

theorem addr_add (b o k : Nat) : (⟨b, o, none⟩ : Addr).add k = ⟨b, o + k, none⟩ := by
  unfold Addr.add; split <;> simp_all

theorem cells_of_rel {S : St} {a : AV} {v : Value} (h : Rel S a v) (ha : a ≠ .any) :
    a.cells.length = v.cells.size ∧ ∀ (k : Nat) c cv, a.cells[k]? = some c → v.cells[k]? = some cv → Rel S c cv := by
  have one : ∀ {a : AV} {v : Value}, a.cells = [a] → v.cells = #[v] → Rel S a v → a.cells.length = v.cells.size ∧ ∀ (k : Nat) c cv, a.cells[k]? = some c → v.cells[k]? = some cv → Rel S c cv := by
    intro a v h1 h2 h
    rw [h1, h2]
    refine ⟨rfl, fun k c cv hc hv => ?_⟩
    cases k with
    | zero => simp at hc hv; subst hc; subst hv; exact h
    | succ k => simp at hc
  cases h with
  | any v => exact absurd rfl ha
  | data a v hd =>
    cases hd with
    | agg cs vs hl hr => exact ⟨by simpa [AV.cells, Value.cells] using hl, fun k c cv hc hv => .data _ _ (hr k c cv hc (by simpa [Value.cells] using hv))⟩
    | bool b => exact one rfl rfl (.data _ _ (.bool b))
    | int k n => exact one rfl rfl (.data _ _ (.int k n))
    | str s => exact one rfl rfl (.data _ _ (.str s))
    | nilp => exact one rfl rfl (.data _ _ .nilp)
    | nilf => exact one rfl rfl (.data _ _ .nilf)
    | tup cs vs hl hr => exact one rfl rfl (.data _ _ (.tup cs vs hl hr))
    | func fn a b va vb hx hy h1 h2 => exact one rfl rfl (.data _ _ (.func fn a b va vb hx hy h1 h2))
    | eptr es xs i j b off h1 h2 h3 => exact one rfl rfl (.data _ _ (.eptr es xs i j b off h1 h2 h3))
    | vnil => exact one rfl rfl (.data _ _ .vnil)
    | vecE f es a cap h1 => exact one rfl rfl (.data _ _ (.vecE f es a cap h1))
    | vec f es xs b off cap h1 h2 h3 h4 h5 => exact one rfl rfl (.data _ _ (.vec f es xs b off cap h1 h2 h3 h4 h5))
  | agg cs vs hl hr => exact ⟨by simpa [AV.cells, Value.cells] using hl, fun k c cv hc hv => hr k c cv hc (by simpa [Value.cells] using hv)⟩
  | tup cs vs hl hr => exact one rfl rfl (.tup cs vs hl hr)
  | func fn a b va vb hx hy h1 h2 => exact one rfl rfl (.func fn a b va vb hx hy h1 h2)
  | ptr r ver i j row info v h0 h1 h2 h3 h4 => exact one rfl (one_cells (by obtain ⟨a, rfl⟩ := h0; rfl)) (.ptr r ver i j row info _ h0 h1 h2 h3 h4)
  | row r ver row info v h0 h1 h2 h3 h4 => exact one rfl (one_cells (by obtain ⟨a, n, c, rfl⟩ := h0; rfl)) (.row r ver row info _ h0 h1 h2 h3 h4)
  | ref r ver lo len row info v h0 h1 h2 h3 h4 => exact one rfl (one_cells (by obtain ⟨a, n, c, rfl⟩ := h0; rfl)) (.ref r ver lo len row info _ h0 h1 h2 h3 h4)

section
variable {P : Unit → Program}

def aggD : TypeDesc → Bool
  | .struct _ | .array _ _ => true
  | _ => false

theorem run_isAgg {t : TypeId} {d : TypeDesc} {w : World} (h : (P ()).underlying t = some d) : (isAgg t).run (P ()) w = .ok (aggD d) w := by
  cases d <;> simp [isAgg, run_underlying h, aggD]
theorem run_info {t : TypeId} {i : TypeInfo} {w : World} (h : (P ()).info? t = some i) : (typeInfo t).run (P ()) w = .ok i w := by
  simp [typeInfo, h]
theorem run_size {t : TypeId} {i : TypeInfo} {w : World} (h : (P ()).info? t = some i) : (sizeOf t).run (P ()) w = .ok i.size w := by
  simp [sizeOf, run_info h]

/-- A variable is loaded, cell by cell. -/
theorem load_part {S : St} {b o : Nat} {cs : List AV} {T : TypeId} {j : Nat} {v : AV}
    (hc : ∀ (k : Nat) c, cs[k]? = some c → ∃ cv, S.w.cell? ⟨b, o + k, none⟩ = some cv ∧ Rel S c cv)
    (h : partA P T cs j = some v) : ∃ vv, (loadVar T ⟨b, o + j, none⟩).run (P ()) S.w = .ok vv S.w ∧ Rel S v vv := by
  unfold partA at h
  split at h
  · simp at h
  · rename_i i hi
    have agg : ∀ d, (P ()).underlying T = some d → aggD d = true →
        (if j + i.size ≤ cs.length then some (AV.agg ((cs.drop j).take i.size)) else none) = some v → ∃ vv, (loadVar T ⟨b, o + j, none⟩).run (P ()) S.w = .ok vv S.w ∧ Rel S v vv := by
      intro d hd hagg h
      split at h
      · rename_i hle
        simp only [Option.some.injEq] at h
        subst h
        have hx : ∀ k, k < i.size → ∃ cv, S.w.cell? ⟨b, o + j + k, none⟩ = some cv ∧ Rel S (cs.getD (j + k) .any) cv := by
          intro k hk
          obtain ⟨cv, h1, h2⟩ := hc (j + k) cs[j + k] (by rw [List.getElem?_eq_getElem (by omega)])
          exact ⟨cv, by rw [Nat.add_assoc]; exact h1, by rw [List.getD_eq_getElem?_getD, List.getElem?_eq_getElem (by omega)]; exact h2⟩
        have hf : ∃ f : Nat → Value, ∀ k, k < i.size → S.w.cell? ⟨b, o + j + k, none⟩ = some (f k) ∧ Rel S (cs.getD (j + k) .any) (f k) :=
          ⟨fun k => if hk : k < i.size then (hx k hk).choose else undef, fun k hk => by simp only [hk, dif_pos]; exact (hx k hk).choose_spec⟩
        obtain ⟨f, hf⟩ := hf
        refine ⟨.agg ((List.range i.size).map f).toArray, ?_, ?_⟩
        · have := run_loadCells (P := P ()) S.w ⟨b, o + j, none⟩ i.size f (fun k hk => by rw [addr_add]; exact (hf k hk).1)
          simp [loadVar, run_isAgg hd, hagg, run_size hi, this]
        · refine .agg _ ((List.range i.size).map f) (by simp; omega) fun k c cv hk hv => ?_
          have hlt : k < i.size := by
            have := (List.getElem?_eq_some_iff.1 hv).1
            simpa using this
          simp only [List.getElem?_map, List.getElem?_range hlt, Option.map_some, Option.some.injEq] at hv
          subst hv
          have h2 := (hf k hlt).2
          rw [List.getElem?_take_of_lt hlt, List.getElem?_drop] at hk
          rw [List.getD_eq_getElem?_getD, hk] at h2
          exact h2
      · simp at h
    split at h
    · rename_i d hd; exact agg _ hd rfl h
    · rename_i d e hd; exact agg _ hd rfl h
    · rename_i d hd1 hd2 hd
      obtain ⟨cv, h1, h2⟩ := hc j v h
      refine ⟨cv, ?_, h2⟩
      have : aggD d = false := by
        cases d <;> first | rfl | exact absurd rfl (hd1 _) | exact absurd rfl (hd2 _ _)
      simp [loadVar, run_isAgg hd, this, h1]
    · simp at h

theorem idx_lt {i n es k cap : Nat} (hi : i < n) (hn : n ≤ cap) (hk : k < es) : i * es + k < cap * es := by
  have h1 : (i + 1) * es ≤ cap * es := Nat.mul_le_mul_right _ (by omega)
  rw [Nat.add_mul] at h1
  omega

theorem lt_of_get {α : Type} {l : List α} {i : Nat} {x : α} (h : l[i]? = some x) : i < l.length := (List.getElem?_eq_some_iff.1 h).1

/-- A cell of a row is there. -/
theorem row_cell {S : St} (hS : HeapOk S) {r : Nat} {row : Row} {info : BI} (hr : S.L[r]? = some row) (hi : S.β[r]? = some info) {i : Nat} {x : AV} (hx : row.elems[i]? = some x) {k : Nat} (hk : k < info.es) :
    ∃ cv, S.w.cell? ⟨info.blk, info.off + i * info.es + k, none⟩ = some cv := by
  obtain ⟨_, h2, cs, T, h3, h4⟩ := hS.cells r row info hr hi
  have := idx_lt (lt_of_get hx) h2 hk
  refine ⟨cs[info.off + i * info.es + k]'(by omega), ?_⟩
  simp [World.cell?, h3]


theorem row_cells {S : St} (hS : HeapOk S) {r : Nat} {row : Row} {info : BI} (hr : S.L[r]? = some row) (hi : S.β[r]? = some info) {i : Nat} {x : AV} (hx : row.elems[i]? = some x) :
    ∀ (k : Nat) c, x.cells[k]? = some c → ∃ cv, S.w.cell? ⟨info.blk, info.off + i * info.es + k, none⟩ = some cv ∧ Rel S c cv := by
  intro k c hk
  have he := hS.elems r row hr i x hx
  have h1 := (hS.cells r row info hr hi).1
  obtain ⟨cv, hcv⟩ := row_cell hS hr hi hx (k := k) (by have := lt_of_get hk; omega)
  exact ⟨cv, hcv, hS.rel r row info i x k c cv hr hi hx hk hcv⟩

theorem elem_of {el : Option AV} {xs : List AV} {i : Nat} {x : AV} {q : List Prop} (h : elemA el xs i = some (x, q)) (hq : ∀ p ∈ q, p) : xs[i]? = some x := by
  unfold elemA at h
  split at h
  · simp only [Option.some.injEq, Prod.mk.injEq] at h
    obtain ⟨rfl, rfl⟩ := h
    exact hq _ (by simp)
  · split at h
    · rename_i y hy
      simp only [Option.some.injEq, Prod.mk.injEq] at h
      obtain ⟨rfl, rfl⟩ := h
      exact hy
    · simp at h

theorem rel_ptr' {S : St} {r ver i j : Nat} {v : Value} (h : Rel S (.ptr r ver i j) v) :
    (∃ a, v = .pointer (some a)) ∧ ∃ row info, S.L[r]? = some row ∧ S.β[r]? = some info ∧ ver ≤ row.ver ∧ (row.ver = ver → v = .pointer (some ⟨info.blk, info.off + i * info.es + j, none⟩)) := by
  cases h with
  | data _ _ h => cases h
  | ptr _ _ _ _ row info _ h0 h1 h2 h3 h4 => exact ⟨h0, row, info, h1, h2, h3, h4⟩
theorem rel_ref_slice {S : St} {r ver lo len : Nat} {v : Value} (h : Rel S (.ref r ver lo len) v) : ∃ a n c, v = .slice (some a) n c := by
  cases h with
  | data _ _ h => cases h
  | ref _ _ _ _ row info _ h0 h1 h2 _ h4 => exact h0
theorem rel_ptr {S : St} {r ver i j : Nat} {v : Value} (h : Rel S (.ptr r ver i j) v) :
    ∃ row info, S.L[r]? = some row ∧ S.β[r]? = some info ∧ (row.ver = ver → v = .pointer (some ⟨info.blk, info.off + i * info.es + j, none⟩)) := by
  cases h with
  | data _ _ h => cases h
  | ptr _ _ _ _ row info _ _ h1 h2 _ h4 => exact ⟨row, info, h1, h2, h4⟩
theorem rel_row_slice {S : St} {r ver : Nat} {v : Value} (h : Rel S (.row r ver) v) : ∃ a n c, v = .slice (some a) n c := by
  cases h with
  | data _ _ h => cases h
  | row _ _ row info _ h0 h1 h2 _ h4 => exact h0
theorem rel_row {S : St} {r ver : Nat} {v : Value} (h : Rel S (.row r ver) v) :
    ∃ row info, S.L[r]? = some row ∧ S.β[r]? = some info ∧ (row.ver = ver → v = .slice (some ⟨info.blk, info.off, none⟩) row.elems.length info.cap) := by
  cases h with
  | data _ _ h => cases h
  | row _ _ row info _ _ h1 h2 _ h4 => exact ⟨row, info, h1, h2, h4⟩
theorem rel_ref {S : St} {r ver lo len : Nat} {v : Value} (h : Rel S (.ref r ver lo len) v) :
    ∃ row info, S.L[r]? = some row ∧ S.β[r]? = some info ∧ (row.ver = ver → ∃ a cap, v = .slice (some a) len cap ∧ len ≤ cap ∧ lo + len ≤ row.elems.length ∧ ((a = ⟨info.blk, info.off + lo * info.es, none⟩ ∧ lo + cap = info.cap) ∨ cap = 0)) := by
  cases h with
  | data _ _ h => cases h
  | ref _ _ _ _ row info _ _ h1 h2 _ h4 => exact ⟨row, info, h1, h2, h4⟩
theorem rel_eptr {S : St} {es i j : Nat} {xs : List AV} {v : Value} (h : Rel S (.eptr es xs i j) v) : DRel S (.eptr es xs i j) v := by
  cases h with
  | data _ _ h => exact h
theorem rel_vec {S : St} {f : Bool} {es : Nat} {xs : List AV} {v : Value} (h : Rel S (.vec f es xs) v) : DRel S (.vec f es xs) v := by
  cases h with
  | data _ _ h => exact h
theorem rel_int {S : St} {k : IntKind} {n : Int} {v : Value} (h : Rel S (.int k n) v) : v = .int k n := by
  cases h with
  | data _ _ h => cases h; rfl
theorem rel_bool {S : St} {b : Bool} {v : Value} (h : Rel S (.bool b) v) : v = .bool b := by
  cases h with
  | data _ _ h => cases h; rfl
theorem rel_str {S : St} {t : List UInt8} {v : Value} (h : Rel S (.str t) v) : v = .string ⟨⟨t⟩⟩ := by
  cases h with
  | data _ _ h => cases h; rfl
theorem rel_vnil {S : St} {v : Value} (h : Rel S .vnil v) : v = .slice none 0 0 := by
  cases h with
  | data _ _ h => cases h; rfl
theorem rel_nilp {S : St} {v : Value} (h : Rel S .nilp v) : v = .pointer none := by
  cases h with
  | data _ _ h => cases h; rfl
theorem rel_nilf {S : St} {v : Value} (h : Rel S .nilf v) : v = .nilFunc := by
  cases h with
  | data _ _ h => cases h; rfl
theorem rel_func {S : St} {fn : Fn} {a b : List AV} {v : Value} (h : Rel S (.func fn a b) v) :
    ∃ va vb : List Value, v = .func fn ⟨va⟩ ⟨vb⟩ ∧ a.length = va.length ∧ b.length = vb.length ∧ (∀ (i : Nat) c v, a[i]? = some c → va[i]? = some v → Rel S c v) ∧ (∀ (i : Nat) c v, b[i]? = some c → vb[i]? = some v → Rel S c v) := by
  cases h with
  | data _ _ h => cases h with
    | func _ _ _ va vb h1 h2 h3 h4 => exact ⟨va, vb, rfl, h1, h2, fun i c v x y => .data _ _ (h3 i c v x y), fun i c v x y => .data _ _ (h4 i c v x y)⟩
  | func _ _ _ va vb h1 h2 h3 h4 => exact ⟨va, vb, rfl, h1, h2, h3, h4⟩
theorem rel_agg {S : St} {cs : List AV} {v : Value} (h : Rel S (.agg cs) v) : ∃ vs : List Value, v = .agg ⟨vs⟩ ∧ cs.length = vs.length ∧ (∀ (i : Nat) c v, cs[i]? = some c → vs[i]? = some v → Rel S c v) := by
  cases h with
  | data _ _ h => cases h with
    | agg _ vs h1 h2 => exact ⟨vs, rfl, h1, fun i c v x y => .data _ _ (h2 i c v x y)⟩
  | agg _ vs h1 h2 => exact ⟨vs, rfl, h1, h2⟩
theorem rel_tup {S : St} {cs : List AV} {v : Value} (h : Rel S (.tup cs) v) : ∃ vs : List Value, v = .tuple ⟨vs⟩ ∧ cs.length = vs.length ∧ (∀ (i : Nat) c v, cs[i]? = some c → vs[i]? = some v → Rel S c v) := by
  cases h with
  | data _ _ h => cases h with
    | tup _ vs h1 h2 => exact ⟨vs, rfl, h1, fun i c v x y => .data _ _ (h2 i c v x y)⟩
  | tup _ vs h1 h2 => exact ⟨vs, rfl, h1, h2⟩

theorem load_sound {S : St} (hS : HeapOk S) {el : Option AV} {T : TypeId} {p : AV} {pv : Value} {r : SR} (hp : Rel S p pv) (h : loadA P el S.L T p = some r)
    (hA : ∀ b ∈ r.asm, b = true) (hQ : ∀ q ∈ r.eqs, q) : r.L' = none ∧ r.calls = [] ∧ ∃ vv, (Instr.loadAt T pv).run (P ()) S.w = .ok vv S.w ∧ Rel S r.v vv := by
  unfold loadA at h
  split at h
  · rename_i q ver i j
    obtain ⟨row, info, h1, h2, h3⟩ := rel_ptr hp
    rw [h1] at h
    simp only at h
    split at h
    · rename_i x qs he
      split at h
      · rename_i v hv
        simp only [Option.some.injEq] at h
        subst h
        have hx := elem_of he hQ
        have hver : row.ver = ver := by simpa using hA (row.ver == ver) (by simp)
        rw [h3 hver]
        obtain ⟨vv, a1, a2⟩ := load_part (P := P) (S := S) (b := info.blk) (o := info.off + i * info.es) (row_cells hS h1 h2 hx) hv
        exact ⟨rfl, rfl, vv, by simpa [Instr.loadAt, Instr.sureAddr] using a1, a2⟩
      · simp at h
    · simp at h
  · rename_i es xs i j
    split at h
    · rename_i x qs he
      split at h
      · rename_i v hv
        simp only [Option.some.injEq] at h
        subst h
        have hx := elem_of he hQ
        have hd := rel_eptr hp
        cases hd with
        | eptr _ _ _ _ b off ho hc hr =>
          obtain ⟨vv, a1, a2⟩ := load_part (P := P) (S := S) (b := b) (o := off + i * es) (cs := x.cells) (fun k c hk => by
            obtain ⟨⟨cv, e1⟩, _⟩ := hc i x k c hx hk
            exact ⟨cv, e1, .data _ _ (hr i x k c cv hx hk e1)⟩) hv
          exact ⟨rfl, rfl, vv, by simpa [Instr.loadAt, Instr.sureAddr] using a1, a2⟩
      · simp at h
    · simp at h
  · simp at h
end
end Go.Av
