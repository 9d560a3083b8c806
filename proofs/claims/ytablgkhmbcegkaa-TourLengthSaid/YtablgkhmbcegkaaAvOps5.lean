/- EACH OPERATION of the evaluator against the model's own, part 5: what changes memory. No program in sight. -/
import Derived.Test.YtablgkhmbcegkaaAvPure
namespace Go.Av
open Go.RowKit

theorem below_setRow {B : Nat} {w : World} {g : Nat} {cs : Array Value} (h : B ≤ g) : Below B w (w.setRow g cs) :=
  ⟨rfl, rfl, rfl, by simp, fun k hk => setRow_other w g k cs (by omega)⟩

theorem plain_one {S : St} {c : AV} {v : Value} (h : Rel S c v) (hp : c.plain = true) : v.oneCell' = true := by
  cases h with
  | any v => simp [AV.plain] at hp
  | data a v hd => cases hd <;> first | rfl | simp [AV.plain] at hp
  | agg cs vs hl hr => simp [AV.plain] at hp
  | tup cs vs hl hr => simp [AV.plain] at hp
  | func fn a b va vb hx hy h1 h2 => rfl
  | ptr r ver i j row info v h0 h1 h2 h3 h4 => obtain ⟨a, rfl⟩ := h0; rfl
  | row r ver row info v h0 h1 h2 h3 h4 => obtain ⟨a, n, c, rfl⟩ := h0; rfl
  | ref r ver lo len row info v h0 h1 h2 h3 h4 => obtain ⟨a, n, c, rfl⟩ := h0; rfl

/-- The cells of a list of elements, one behind the other. -/
structure Flat (S : St) (es : Nat) (xs : List AV) (us : List Value) (cl : Bool) : Prop where
  len : us.length = xs.length * es
  ok : okElems es xs
  rel : ∀ (i : Nat) x (k : Nat) c cv, xs[i]? = some x → x.cells[k]? = some c → us[i * es + k]? = some cv → Rel S c cv ∧ (cl = true → DRel S c cv)
  one : ∀ u ∈ us, u.oneCell' = true

theorem split_idx {n es p : Nat} (h : p < n * es) : p / es < n ∧ p % es < es ∧ p / es * es + p % es = p := by
  have hes : 0 < es := by
    rcases Nat.eq_zero_or_pos es with e | e
    · subst e; simp at h
    · exact e
  refine ⟨Nat.div_lt_of_lt_mul (by rw [Nat.mul_comm]; exact h), Nat.mod_lt _ hes, ?_⟩
  have := Nat.div_add_mod p es
  rw [Nat.mul_comm] at this
  exact this

theorem Flat.nil (S : St) (es : Nat) (cl : Bool) : Flat S es [] [] cl := ⟨by simp, by intro i x h; simp at h, by simp, by simp⟩

theorem Flat.cell {S : St} {es : Nat} {xs : List AV} {us : List Value} {cl : Bool} (h : Flat S es xs us cl) {i : Nat} {x : AV} {k : Nat} {c : AV} (hx : xs[i]? = some x) (hk : x.cells[k]? = some c) : i * es + k < us.length := by
  rw [h.len]
  refine idx_lt (lt_of_get hx) (Nat.le_refl _) ?_
  rw [← (h.ok i x hx).1]; exact lt_of_get hk

theorem Flat.append {S : St} {es : Nat} {xs ys : List AV} {us vs : List Value} {cl cl' : Bool} (h : Flat S es xs us cl) (k : Flat S es ys vs cl') : Flat S es (xs ++ ys) (us ++ vs) (cl && cl') := by
  refine ⟨by simp [h.len, k.len, Nat.add_mul], fun i x hx => ?_, fun i x q c cv hx hq hcv => ?_, fun u hu => ?_⟩
  · by_cases hi : i < xs.length
    · rw [List.getElem?_append_left hi] at hx; exact h.ok i x hx
    · rw [List.getElem?_append_right (by omega)] at hx; exact k.ok _ x hx
  · by_cases hi : i < xs.length
    · rw [List.getElem?_append_left hi] at hx
      rw [List.getElem?_append_left (h.cell hx hq)] at hcv
      obtain ⟨a, b⟩ := h.rel i x q c cv hx hq hcv
      exact ⟨a, fun e => b (by simp at e; exact e.1)⟩
    · rw [List.getElem?_append_right (by omega)] at hx
      have e : us.length ≤ i * es + q := by
        rw [h.len]; exact Nat.le_trans (Nat.mul_le_mul_right _ (by omega)) (Nat.le_add_right _ _)
      rw [List.getElem?_append_right e] at hcv
      have e2 : i * es + q - us.length = (i - xs.length) * es + q := by
        rw [h.len, Nat.sub_mul]
        have : xs.length * es ≤ i * es := Nat.mul_le_mul_right _ (by omega)
        omega
      rw [e2] at hcv
      obtain ⟨a, b⟩ := k.rel _ x q c cv hx hq hcv
      exact ⟨a, fun e => b (by simp at e; exact e.2)⟩
  · rcases List.mem_append.1 hu with e | e
    · exact h.one u e
    · exact k.one u e

theorem Flat.mono {S S' : St} (he : Ext S S') {es : Nat} {xs : List AV} {us : List Value} {cl : Bool} (h : Flat S es xs us cl) : Flat S' es xs us cl :=
  ⟨h.len, h.ok, fun i x k c cv hx hk hcv => let ⟨a, b⟩ := h.rel i x k c cv hx hk hcv; ⟨a.mono he, fun e => (b e).mono he⟩, h.one⟩

theorem Flat.weaken {S : St} {es : Nat} {xs : List AV} {us : List Value} {cl cl' : Bool} (h : Flat S es xs us cl) (hc : cl' = true → cl = true) : Flat S es xs us cl' :=
  ⟨h.len, h.ok, fun i x k c cv hx hk hcv => let ⟨a, b⟩ := h.rel i x k c cv hx hk hcv; ⟨a, fun e => b (hc e)⟩, h.one⟩

/-- Elements that stand in memory are loaded. -/
theorem flat_load {S : St} {P : Program} {es : Nat} {xs : List AV} {b off : Nat} {cl : Bool} (ho : okElems es xs)
    (hc : ∀ (i : Nat) x (k : Nat) c, xs[i]? = some x → x.cells[k]? = some c → ∃ cv, S.w.cell? ⟨b, off + i * es + k, none⟩ = some cv ∧ Rel S c cv ∧ (cl = true → DRel S c cv)) :
    ∃ us, Flat S es xs us cl ∧ ∀ w', w'.heap = S.w.heap → (loadCells ⟨b, off, none⟩ (xs.length * es)).run P w' = .ok ⟨us⟩ w' := by
  have hall : ∀ p, p < xs.length * es → ∃ x c cv, xs[p / es]? = some x ∧ x.cells[p % es]? = some c ∧ S.w.cell? ⟨b, off + p, none⟩ = some cv ∧ Rel S c cv ∧ (cl = true → DRel S c cv) ∧ c.plain = true := by
    intro p hp
    obtain ⟨h1, h2, h3⟩ := split_idx hp
    have hx : xs[p / es]? = some xs[p / es] := List.getElem?_eq_getElem h1
    obtain ⟨l1, l2⟩ := ho _ _ hx
    have hk : (xs[p / es]).cells[p % es]? = some ((xs[p / es]).cells[p % es]'(by omega)) := List.getElem?_eq_getElem _
    obtain ⟨cv, a1, a2, a3⟩ := hc _ _ _ _ hx hk
    refine ⟨_, _, cv, hx, hk, ?_, a2, a3, ?_⟩
    · rw [Nat.add_assoc, h3] at a1; exact a1
    · exact List.all_eq_true.1 l2 _ (List.mem_of_getElem? hk)
  let f : Nat → Value := fun p => (S.w.cell? ⟨b, off + p, none⟩).getD undef
  have hf : ∀ p, p < xs.length * es → S.w.cell? ⟨b, off + p, none⟩ = some (f p) := by
    intro p hp
    obtain ⟨_, _, cv, _, _, h, _⟩ := hall p hp
    simp [f, h]
  refine ⟨(List.range (xs.length * es)).map f, ⟨by simp, ho, fun i x k c cv hx hk hcv => ?_, fun u hu => ?_⟩, fun w' hw => ?_⟩
  · have hlt : i * es + k < xs.length * es := idx_lt (lt_of_get hx) (Nat.le_refl _) (by rw [← (ho i x hx).1]; exact lt_of_get hk)
    rw [List.getElem?_map, List.getElem?_range hlt] at hcv
    simp only [Option.map_some, Option.some.injEq] at hcv
    subst hcv
    obtain ⟨cv, a1, a2, a3⟩ := hc i x k c hx hk
    have := hf _ hlt
    rw [← Nat.add_assoc, a1] at this
    simp only [Option.some.injEq] at this
    rw [← this]
    exact ⟨a2, a3⟩
  · obtain ⟨p, hp, rfl⟩ := List.mem_map.1 hu
    obtain ⟨x, c, cv, _, _, h1, h2, _, h3⟩ := hall p (by simpa using hp)
    have : f p = cv := by simp [f, h1]
    rw [this]
    exact plain_one h2 h3
  · have := run_loadCells (P := P) w' ⟨b, off, none⟩ (xs.length * es) f (fun p hp => by
      rw [addr_add]
      have e : w'.cell? ⟨b, off + p, none⟩ = S.w.cell? ⟨b, off + p, none⟩ := cell_of_heap (by rw [hw])
      rw [e]; exact hf p hp)
    exact this

section
variable {P : Unit → Program}

/-- What append reads of its second argument. -/
def Content (P : Program) (w : World) (size : Nat) (v : Value) (n : Nat) (us : List Value) : Prop :=
  ∀ w', w'.heap = w.heap → (Builtin.lenOf v).run P w' = .ok n w' ∧ (Builtin.firstCells size n v).run P w' = .ok ⟨us⟩ w'

theorem content_sound {S : St} (hS : HeapOk S) {size : Nat} {x : AV} {xv : Value} {ys : List AV} {cl : Bool} {q : List Bool} (hx : Rel S x xv) (h : contentA S.L size x = some (ys, cl, q)) (hq : ∀ b ∈ q, b = true) :
    ∃ us, Flat S size ys us cl ∧ Content (P ()) S.w size xv ys.length us := by
  unfold contentA at h
  split at h
  · simp only [Option.some.injEq, Prod.mk.injEq] at h; obtain ⟨rfl, rfl, rfl⟩ := h
    rw [rel_vnil hx]
    exact ⟨[], .nil S size true, fun w' _ => ⟨by simp [Builtin.lenOf], by simp [Builtin.firstCells]⟩⟩
  · rename_i f es xs
    split at h
    · rename_i hes
      simp only [Option.some.injEq, Prod.mk.injEq] at h; obtain ⟨rfl, rfl, rfl⟩ := h
      subst hes
      have hd := rel_vec hx
      cases hd with
      | vecE _ _ a cap hf =>
        refine ⟨[], .nil S es true, fun w' _ => ⟨by simp [Builtin.lenOf], ?_⟩⟩
        cases a <;> simp [Builtin.firstCells, loadCells, loadCellsFrom]
      | vec _ _ _ b off cap ho hf hl hc hr =>
        obtain ⟨us, h1, h2⟩ := flat_load (S := S) (P := P ()) (cl := true) (b := b) (off := off) ho (fun i x k c hx hk => by
          obtain ⟨⟨cv, e1⟩, _⟩ := hc i x k c hx hk
          have := hr i x k c cv hx hk e1
          exact ⟨cv, e1, .data _ _ this, fun _ => this⟩)
        exact ⟨us, h1, fun w' hw => ⟨by simp [Builtin.lenOf], by simpa [Builtin.firstCells] using h2 w' hw⟩⟩
    · simp at h
  · rename_i r ver
    split at h
    · rename_i row hrow
      split at h
      · rename_i hes
        simp only [Option.some.injEq, Prod.mk.injEq] at h; obtain ⟨rfl, rfl, rfl⟩ := h
        obtain ⟨row', info, a1, a2, a3⟩ := rel_row hx
        rw [hrow] at a1
        simp only [Option.some.injEq] at a1; subst a1
        have hver : row.ver = ver := by simpa using hq (row.ver == ver) (by simp)
        rw [a3 hver]
        have hie := (hS.cells r row info hrow a2).1
        subst hes
        obtain ⟨us, h1, h2⟩ := flat_load (S := S) (P := P ()) (cl := row.clean) (b := info.blk) (off := info.off) (hS.elems r row hrow) (fun i x k c hx hk => by
          obtain ⟨cv, e1, e2⟩ := row_cells hS hrow a2 hx k c hk
          refine ⟨cv, by rw [← hie]; exact e1, e2, fun e => hS.clean r row info i x k c cv hrow a2 e hx hk e1⟩)
        exact ⟨us, h1, fun w' hw => ⟨by simp [Builtin.lenOf], by simpa [Builtin.firstCells] using h2 w' hw⟩⟩
      · simp at h
    · simp at h
  · rename_i r ver lo len
    split at h
    · rename_i row hrow
      split at h
      · rename_i hes
        simp only [Option.some.injEq, Prod.mk.injEq] at h; obtain ⟨rfl, rfl, rfl⟩ := h
        obtain ⟨row', info, a1, a2, a3⟩ := rel_ref hx
        rw [hrow] at a1
        simp only [Option.some.injEq] at a1; subst a1
        have hver : row.ver = ver := by simpa using hq (row.ver == ver) (by simp)
        obtain ⟨a, cap, rfl, b1, b2, b3⟩ := a3 hver
        have hie := (hS.cells r row info hrow a2).1
        subst hes
        have hlen : ((row.elems.drop lo).take len).length = len := by simp; omega
        rcases b3 with ⟨rfl, b4⟩ | b4
        · obtain ⟨us, h1, h2⟩ := flat_load (S := S) (P := P ()) (cl := row.clean) (b := info.blk) (off := info.off + lo * info.es) (es := row.es) (xs := (row.elems.drop lo).take len)
            (fun i x hx => by
              rw [List.getElem?_take] at hx
              split at hx
              · rw [List.getElem?_drop] at hx; exact hS.elems r row hrow _ x hx
              · simp at hx) (fun i x k c hx hk => by
            rw [List.getElem?_take] at hx
            split at hx
            · rw [List.getElem?_drop] at hx
              obtain ⟨cv, e1, e2⟩ := row_cells hS hrow a2 hx k c hk
              refine ⟨cv, ?_, e2, fun e => hS.clean r row info _ x k c cv hrow a2 e hx hk e1⟩
              rw [Nat.add_mul, ← Nat.add_assoc] at e1
              rw [← hie]; exact e1
            · simp at hx)
          rw [hlen]
          rw [hlen] at h2
          exact ⟨us, h1, fun w' hw => ⟨by simp [Builtin.lenOf], by simpa [Builtin.firstCells] using h2 w' hw⟩⟩
        · have : len = 0 := Nat.le_zero.1 (b4 ▸ b1)
          subst this
          refine ⟨[], by simpa using Flat.nil S row.es row.clean, fun w' _ => ⟨by simp [Builtin.lenOf], by simp [Builtin.firstCells, loadCells, loadCellsFrom]⟩⟩
      · simp at h
    · simp at h
  · rename_i s
    split at h
    · rename_i hsz
      simp only [Option.some.injEq, Prod.mk.injEq] at h; obtain ⟨rfl, rfl, rfl⟩ := h
      subst hsz
      rw [rel_str hx]
      refine ⟨s.map fun b => .int .u8 b.toNat, ⟨by simp, fun i x hx => ?_, fun i x k c cv hx hk hcv => ?_, fun u hu => ?_⟩, fun w' _ => ⟨?_, ?_⟩⟩
      · rw [List.getElem?_map] at hx
        cases hs : s[i]? with
        | none => simp [hs] at hx
        | some b => simp [hs] at hx; subst hx; simp [AV.cells, AV.plain]
      · rw [List.getElem?_map] at hx
        cases hs : s[i]? with
        | none => simp [hs] at hx
        | some b =>
          simp [hs] at hx; subst hx
          have : k = 0 := by have := lt_of_get hk; simp [AV.cells] at this; exact this
          subst this
          simp [AV.cells] at hk; subst hk
          rw [List.getElem?_map] at hcv
          simp [hs] at hcv; subst hcv
          exact ⟨data_int S _ _, fun _ => .int _ _⟩
      · obtain ⟨b, _, rfl⟩ := List.mem_map.1 hu; rfl
      · simp [Builtin.lenOf]; rfl
      · have : (⟨⟨s⟩⟩ : ByteArray).extract 0 (s.map fun b => AV.int .u8 b.toNat).length = ⟨⟨s⟩⟩ := by
          rw [extract_mk]; simp
        simp only [Builtin.firstCells, this, Sem.run_pure]
        simp
    · simp at h
  · simp at h
end
end Go.Av
