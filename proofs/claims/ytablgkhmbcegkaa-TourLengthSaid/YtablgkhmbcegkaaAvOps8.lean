/- EACH OPERATION of the evaluator against the model's own, part 8: clear, slices that are written out. No program in sight. -/
import Derived.Test.YtablgkhmbcegkaaAvOps7
namespace Go.Av
open Go.RowKit

/-- Blocks that no row lies in are added. -/
theorem more_heap {S : St} (hS : HeapOk S) {w' : World} (hb : Below S.base S.w w') (hold : ∀ b, b < S.w.heap.size → w'.heap[b]? = S.w.heap[b]?) :
    HeapOk ⟨S.base, S.acc, S.L, S.β, w'⟩ ∧ Ext S ⟨S.base, S.acc, S.L, S.β, w'⟩ := by
  have hex : Ext S ⟨S.base, S.acc, S.L, S.β, w'⟩ :=
    ⟨rfl, rfl, fun b off hi hlt => ⟨hi, cell_of_heap (hold b hlt)⟩, fun r row info h1 h2 => ⟨row, info, h1, h2, Nat.le_refl _, fun _ => ⟨rfl, rfl⟩⟩, hb, fun r info h => .inl ⟨r, info, h, rfl⟩, fun b _ hlt _ => hold b hlt⟩
  refine ⟨⟨Nat.le_trans hS.base hb.size, hS.len, fun r info h => ?_, hS.inj, fun r row info h1 h2 => ?_, hS.elems, fun r row info i x k c cv h1 h2 hx hk hcv => ?_, fun r row info i x k c cv h1 h2 hc hx hk hcv => ?_, hS.acq, fun b off h => hS.anew b off (Nat.le_trans hb.size h)⟩, hex⟩
  · exact ⟨(hS.blk r info h).1, Nat.lt_of_lt_of_le (hS.blk r info h).2 hb.size⟩
  · obtain ⟨a1, a2, cs, T, a3, a4⟩ := hS.cells r row info h1 h2
    exact ⟨a1, a2, cs, T, (hold _ (hS.blk r info h2).2).trans a3, a4⟩
  · exact (hS.rel r row info i x k c cv h1 h2 hx hk ((cell_of_heap (hold _ (hS.blk r info h2).2)).symm.trans hcv)).mono hex
  · exact (hS.clean r row info i x k c cv h1 h2 hc hx hk ((cell_of_heap (hold _ (hS.blk r info h2).2)).symm.trans hcv)).mono hex

section
variable {P : Unit → Program}

/-- Elements of a row overwritten in place. -/
theorem overwrite_place {S : St} (hS : HeapOk S) {r : Nat} {row : Row} {info : BI} {lo : Nat} {zs : List AV} {us : List Value} {cl : Bool} (hr : S.L[r]? = some row) (hi : S.β[r]? = some info) (hf : Flat S row.es zs us cl)
    (hle : lo + zs.length ≤ row.elems.length) (hfz : row.frozen = false) (hcl : row.clean = true → cl = true) :
    ∃ w', (storeCells (⟨info.blk, info.off + lo * info.es, none⟩ : Addr) us).run (P ()) S.w = .ok () w' ∧
      HeapOk ⟨S.base, S.acc, S.L.set r { row with elems := row.elems.take lo ++ (zs ++ row.elems.drop (lo + zs.length)) }, S.β, w'⟩ ∧
      Ext S ⟨S.base, S.acc, S.L.set r { row with elems := row.elems.take lo ++ (zs ++ row.elems.drop (lo + zs.length)) }, S.β, w'⟩ := by
  obtain ⟨a1, a2, cs, T0, a3, a4⟩ := hS.cells r row info hr hi
  have hlen : (row.elems.take lo).length = lo := by simp; omega
  let o := info.off + lo * info.es
  have hend : o + us.length ≤ cs.size := by
    rw [hf.len]
    have : (lo + zs.length) * info.es ≤ info.cap * info.es := Nat.mul_le_mul_right _ (by omega)
    rw [Nat.add_mul] at this
    show info.off + lo * info.es + _ ≤ _
    rw [← a1]; omega
  let cs' : Array Value := (cs.toList.take o ++ us ++ cs.toList.drop (o + us.length)).toArray
  have hst := run_storeCells_at (P ()) info.blk o T0 us 0 cs S.w a3 (by simpa using hend) hf.one
  simp only [Nat.add_zero] at hst
  have hnew := setRow_heap S.w info.blk cs cs' T0 (0, 0) a3
  have hcs' : ∀ p, cs'[p]? = if p < o then cs[p]? else if p < o + us.length then us[p - o]? else cs[p]? := by
    intro p
    have e : cs'[p]? = (cs.toList.take o ++ us ++ cs.toList.drop (o + us.length))[p]? := by simp [cs']
    rw [e]
    by_cases c1 : p < o
    · rw [if_pos c1, List.append_assoc, List.getElem?_append_left (by simp; omega), List.getElem?_take, if_pos c1]; simp
    · rw [if_neg c1, List.append_assoc, List.getElem?_append_right (by simp; omega)]
      have e1 : (cs.toList.take o).length = o := by simp; omega
      rw [e1]
      by_cases c2 : p < o + us.length
      · rw [if_pos c2, List.getElem?_append_left (by omega)]
      · rw [if_neg c2, List.getElem?_append_right (by omega), List.getElem?_drop]
        have : o + us.length + (p - o - us.length) = p := by omega
        rw [this]; simp
  have hcell : ∀ (q : Nat) x (k : Nat) c cv, (row.elems.take lo ++ (zs ++ row.elems.drop (lo + zs.length)))[q]? = some x → x.cells[k]? = some c → cs'[info.off + q * info.es + k]? = some cv →
      (row.elems[q]? = some x ∧ cs[info.off + q * info.es + k]? = some cv) ∨ (zs[q - lo]? = some x ∧ us[(q - lo) * row.es + k]? = some cv) := by
    intro q x k c cv hx hk hcv
    rw [hcs'] at hcv
    by_cases hq : q < lo
    · left
      rw [List.getElem?_append_left (by omega), List.getElem?_take, if_pos hq] at hx
      have hk2 : k < info.es := by rw [a1, ← (hS.elems r row hr _ x hx).1]; exact lt_of_get hk
      have := idx_lt (k := k) hq (Nat.le_refl lo) hk2
      rw [if_pos (by show _ < info.off + lo * info.es; omega)] at hcv
      exact ⟨hx, hcv⟩
    · rw [List.getElem?_append_right (by omega), hlen] at hx
      have e : q * info.es = lo * info.es + (q - lo) * info.es := by rw [← Nat.add_mul]; congr 1; omega
      by_cases hq2 : q - lo < zs.length
      · right
        rw [List.getElem?_append_left hq2] at hx
        have h1 := hf.cell hx hk
        rw [← a1] at h1
        rw [if_neg (by show ¬ _ < info.off + lo * info.es; omega), if_pos (by show _ < info.off + lo * info.es + _; omega)] at hcv
        have e2 : info.off + q * info.es + k - o = (q - lo) * row.es + k := by show _ - (info.off + lo * info.es) = _; rw [← a1]; omega
        rw [e2] at hcv
        exact ⟨hx, hcv⟩
      · left
        rw [List.getElem?_append_right (by omega), List.getElem?_drop] at hx
        have e3 : lo + zs.length + (q - lo - zs.length) = q := by omega
        rw [e3] at hx
        have h2 : zs.length * info.es ≤ (q - lo) * info.es := Nat.mul_le_mul_right _ (by omega)
        have h3 := hf.len
        rw [← a1] at h3
        rw [if_neg (by show ¬ _ < info.off + lo * info.es; omega), if_neg (by show ¬ _ < info.off + lo * info.es + _; omega)] at hcv
        exact ⟨hx, hcv⟩
  obtain ⟨g1, g2⟩ := set_row (row' := { row with elems := row.elems.take lo ++ (zs ++ row.elems.drop (lo + zs.length)) }) (info' := info) (T := T0) (cs := cs') (w' := S.w.setRow info.blk cs') hS hr hi
    (Nat.le_refl _) (fun _ => ⟨rfl, by simp; omega⟩) a1 (.inl rfl) (fun b _ hb => setRow_other S.w info.blk b cs' hb) hnew
    (by
      have : cs'.size = cs.size := by simp only [cs']; simp; omega
      rw [this]; exact a4)
    (by simp; omega) (fun e => by rw [hfz] at e; cases e)
    (by
      intro q x hx
      by_cases hq : q < lo
      · rw [List.getElem?_append_left (by omega), List.getElem?_take, if_pos hq] at hx
        exact hS.elems r row hr _ x hx
      · rw [List.getElem?_append_right (by omega), hlen] at hx
        by_cases hq2 : q - lo < zs.length
        · rw [List.getElem?_append_left hq2] at hx; exact hf.ok _ x hx
        · rw [List.getElem?_append_right (by omega), List.getElem?_drop] at hx
          exact hS.elems r row hr _ x hx)
    (below_setRow (hS.blk r info hi).1)
    (fun q x k c cv hx hk hcv => by
      rcases hcell q x k c cv hx hk hcv with ⟨b1, b2⟩ | ⟨b1, b2⟩
      · exact hS.rel r row info _ x k c cv hr hi b1 hk (by rw [cell_at a3]; exact b2)
      · exact (hf.rel _ x k c cv b1 hk b2).1)
    (fun hc q x k c cv hx hk hcv => by
      rcases hcell q x k c cv hx hk hcv with ⟨b1, b2⟩ | ⟨b1, b2⟩
      · exact hS.clean r row info _ x k c cv hr hi hc b1 hk (by rw [cell_at a3]; exact b2)
      · exact (hf.rel _ x k c cv b1 hk b2).2 (hcl hc))
  rw [set_self hi] at g1 g2
  exact ⟨_, hst, g1, g2⟩

/-- The zero elements of a row. -/
theorem zero_flat {S : St} {i : TypeInfo} {z0 : Value} {n : Nat} (h1 : (ofC z0).cells.length = i.size) (h2 : z0.cells.size = i.size) (h3 : (ofC z0).cells.all AV.plain = true) (h4 : cleanL (ofC z0).cells = true) :
    Flat S i.size (List.replicate n (ofC z0)) (Builtin.zeroCells z0.cells n).toList true := by
  have hzc := relL_cells (rel_ofC S z0) (not_any_of_plain h3)
  have hrep : ∀ (q : Nat) x, (List.replicate n (ofC z0))[q]? = some x → x = ofC z0 ∧ q < n := by
    intro q x hx
    have hlt : q < n := by have := lt_of_get hx; rwa [List.length_replicate] at this
    rw [List.getElem?_replicate, if_pos hlt] at hx
    simp only [Option.some.injEq] at hx; exact ⟨hx.symm, hlt⟩
  have hget : ∀ p, p < n * i.size → (Builtin.zeroCells z0.cells n).toList[p]? = z0.cells.toList[p % i.size]? := by
    intro p hp
    have h0 : 0 < i.size := by
      rcases Nat.eq_zero_or_pos i.size with e | e
      · rw [e] at hp; simp at hp
      · exact e
    have hlt : p % i.size < z0.cells.size := by rw [h2]; exact Nat.mod_lt _ h0
    have hp' : p < n * z0.cells.size := by rw [h2]; exact hp
    rw [Array.getElem?_toList]
    simp only [Builtin.zeroCells, Array.getElem?_map, Array.getElem?_range, h2, hp, if_true, Option.map_some]
    rw [getElem!_pos z0.cells (p % i.size) hlt]
    simp [hlt]
  refine ⟨by simp [size_zeroCells, h2], fun q x hx => ?_, fun q x k c cv hx hk hcv => ?_, fun u hu => ?_⟩
  · obtain ⟨rfl, _⟩ := hrep q x hx; exact ⟨h1, h3⟩
  · obtain ⟨rfl, hq⟩ := hrep q x hx
    have hk2 : k < i.size := by rw [← h1]; exact lt_of_get hk
    rw [hget _ (idx_lt hq (Nat.le_refl _) hk2), Nat.add_comm, Nat.add_mul_mod_self_right, Nat.mod_eq_of_lt hk2] at hcv
    have := hzc.2 k c cv hk hcv
    exact ⟨this, fun _ => rel_clean this (cleanL_get h4 k c hk)⟩
  · obtain ⟨p, hp⟩ := List.mem_iff_getElem?.1 hu
    have hlt : p < n * i.size := by
      have := lt_of_get hp
      simpa [size_zeroCells, h2] using this
    rw [hget p hlt] at hp
    have hk : p % i.size < (ofC z0).cells.length := by
      rw [h1]
      refine Nat.mod_lt _ ?_
      rcases Nat.eq_zero_or_pos i.size with e | e
      · rw [e] at hlt; simp at hlt
      · exact e
    exact plain_one (hzc.2 _ _ u (List.getElem?_eq_getElem hk) hp) (List.all_eq_true.1 h3 _ (List.getElem_mem hk))

theorem clear_made {S : St} (hS : HeapOk S) {T ty : TypeId} {ts : Array TypeId} {d : AV} {dv : Value} {r : SR} (ht : ts[0]? = some T) (hd : Rel S d dv) (h : clearA P S.L T d = some r) (hA : ∀ b ∈ r.asm, b = true) :
    r.eqs = [] ∧ r.calls = [] ∧ Made S r.v (r.L'.getD S.L) ((Builtin.clear_ ts ty #[dv]).run (P ()) S.w) := by
  unfold clearA at h
  split at h
  · rename_i e hu
    split at h
    · rename_i i hi
      split at h
      · rename_i z0 r' ver lo len hz hsp
        split at h
        · rename_i hcond
          obtain ⟨c1, c2, c3, c4⟩ := hcond
          split at h
          · rename_i L' hov
            simp only [Option.some.injEq] at h; subst h
            have hvk : verOk S.L r' ver = true := hA _ (by simp)
            unfold overwrite at hov
            split at hov
            · rename_i row hrow
              split at hov
              · rename_i hc2
                obtain ⟨hfz, hes, hcl⟩ := hc2
                simp only [Option.some.injEq] at hov; subst hov
                have hver : row.ver = ver := by simpa [verOk, hrow] using hvk
                -- what the value is
                have hval : ∃ info a cap, S.β[r']? = some info ∧ dv = .slice (some a) len cap ∧ lo + len ≤ row.elems.length ∧ (a = ⟨info.blk, info.off + lo * info.es, none⟩ ∨ len = 0) := by
                  unfold spanA at hsp
                  split at hsp
                  · rename_i q v
                    split at hsp
                    · rename_i row0 hrow0
                      simp only [Option.some.injEq, Prod.mk.injEq] at hsp
                      obtain ⟨rfl, rfl, rfl, rfl⟩ := hsp
                      obtain ⟨row1, info, a1, a2, a3⟩ := rel_row hd
                      rw [hrow] at a1 hrow0
                      simp only [Option.some.injEq] at a1 hrow0; subst a1; subst hrow0
                      exact ⟨info, _, _, a2, a3 hver, by omega, .inl (by simp)⟩
                    · simp at hsp
                  · rename_i q v lo' len'
                    simp only [Option.some.injEq, Prod.mk.injEq] at hsp
                    obtain ⟨rfl, rfl, rfl, rfl⟩ := hsp
                    obtain ⟨row1, info, a1, a2, a3⟩ := rel_ref hd
                    rw [hrow] at a1
                    simp only [Option.some.injEq] at a1; subst a1
                    obtain ⟨a, cap, rfl, b1, b2, b3⟩ := a3 hver
                    rcases b3 with ⟨rfl, _⟩ | b3
                    · exact ⟨info, _, _, a2, rfl, b2, .inl rfl⟩
                    · exact ⟨info, _, _, a2, rfl, b2, .inr (Nat.le_zero.1 (b3 ▸ b1))⟩
                  · simp at hsp
                obtain ⟨info, a, cap, b1, rfl, b3, b4⟩ := hval
                have hzf := zero_flat (S := S) (n := len) c1 c2 c3 c4
                rw [← hes] at hzf
                obtain ⟨w', g1, g2, g3⟩ := overwrite_place (P := P) (lo := lo) hS hrow b1 hzf (by simpa using b3) hfz (fun _ => rfl)
                refine ⟨rfl, rfl, _, w', .tuple #[], g2, g3, .tup [] [] rfl (by simp), ?_⟩
                by_cases hl : len = 0
                · subst hl
                  have : w' = S.w := by
                    simp [Builtin.zeroCells, storeCells] at g1
                    exact g1.symm
                  subst this
                  simp [Builtin.clear_, ht, run_underlying hu]
                · rcases b4 with rfl | b4
                  · obtain ⟨n, rfl⟩ : ∃ n, len = n + 1 := ⟨len - 1, by omega⟩
                    simp [Builtin.clear_, ht, run_underlying hu, zeroValue, run_info hi, hz, g1]
                  · exact absurd b4 hl
              · simp at hov
            · simp at hov
          · simp at h
        · simp at h
      · simp at h
    · simp at h
  · simp at h

mutual
theorem vers_nil (L : Heap) : ∀ (a : AV), rowsA a = [] → versA L a = []
  | .agg cs, h => by simp only [versA]; exact versL_nil L cs (by simpa [rowsA] using h)
  | .tup cs, h => by simp only [versA]; exact versL_nil L cs (by simpa [rowsA] using h)
  | .func _ a b, h => by
    have h' : rowsL a = [] ∧ rowsL b = [] := by simpa [rowsA] using h
    simp only [versA, versL_nil L a h'.1, versL_nil L b h'.2, List.append_nil]
  | .any, _ => rfl
  | .bool _, _ => rfl
  | .int _ _, _ => rfl
  | .str _, _ => rfl
  | .nilp, _ => rfl
  | .nilf, _ => rfl
  | .vnil, _ => rfl
  | .vec _ _ _, _ => rfl
  | .eptr _ _ _ _, _ => rfl
  | .ptr _ _ _ _, h => by simp [rowsA] at h
  | .row _ _, h => by simp [rowsA] at h
  | .ref _ _ _ _, h => by simp [rowsA] at h
theorem versL_nil (L : Heap) : ∀ (l : List AV), rowsL l = [] → versL L l = []
  | [], _ => rfl
  | c :: r, h => by
    have h' : rowsA c = [] ∧ rowsL r = [] := by simpa [rowsL] using h
    simp only [versL, vers_nil L c h'.1, versL_nil L r h'.2, List.append_nil]
end

theorem pureL_get {L : Heap} : ∀ {xs ys : List AV}, pureL L xs = some ys → xs.length = ys.length ∧ ∀ (i : Nat) y, ys[i]? = some y → ∃ x, xs[i]? = some x ∧ pureA L x = some y
  | [], ys, h => by simp only [pureL, Option.some.injEq] at h; subst h; exact ⟨rfl, by simp⟩
  | x :: xs, ys, h => by
    simp only [pureL] at h
    split at h
    · rename_i d ds hd hds
      simp only [Option.some.injEq] at h; subst h
      obtain ⟨h1, h2⟩ := pureL_get hds
      refine ⟨by simp [h1], fun i y hy => ?_⟩
      cases i with
      | zero => simp at hy; subst hy; exact ⟨x, rfl, hd⟩
      | succ i => exact h2 i y (by simpa using hy)
    · simp at h

theorem pure_cells {L : Heap} {x y : AV} (h : pureA L x = some y) : pureL L x.cells = some y.cells := by
  cases x with
  | agg cs =>
    simp only [pureA] at h
    split at h
    · rename_i ds hd
      simp only [Option.some.injEq] at h; subst h
      exact hd
    · simp at h
  | tup cs =>
    have h0 := h
    simp only [pureA] at h
    split at h
    · simp only [Option.some.injEq] at h; subst h
      simp only [AV.cells, pureL, h0]
    · simp at h
  | func fn a b =>
    have h0 := h
    simp only [pureA] at h
    split at h
    · simp only [Option.some.injEq] at h; subst h
      simp only [AV.cells, pureL, h0]
    · simp at h
  | any => simp [pureA] at h
  | ptr r v i j =>
    have h0 := h
    simp only [pureA] at h
    split at h
    · split at h
      · split at h
        · simp only [Option.some.injEq] at h; subst h
          simp only [AV.cells, pureL, h0]
        · simp at h
      · simp at h
    · simp at h
  | row r v =>
    have h0 := h
    simp only [pureA] at h
    split at h
    · split at h
      · simp only [Option.some.injEq] at h; subst h
        simp only [AV.cells, pureL, h0]
      · simp at h
    · simp at h
  | ref r v lo len =>
    have h0 := h
    simp only [pureA] at h
    split at h
    · split at h
      · simp only [Option.some.injEq] at h; subst h
        simp only [AV.cells, pureL, h0]
      · simp at h
    · simp at h
  | _ => simp only [pureA, Option.some.injEq] at h; subst h; rfl

theorem pure_plain {L : Heap} {x y : AV} (h : pureA L x = some y) (hp : x.plain = true) : y.plain = true := by
  cases x <;> simp only [pureA] at h <;> (first | (simp [AV.plain] at hp; done) | skip)
  all_goals (repeat' (split at h)) <;> (first | (simp at h; done) | (simp only [Option.some.injEq] at h; subst h; rfl))

theorem vers_mem {L : Heap} : ∀ {xs : List AV} {i : Nat} {x : AV}, xs[i]? = some x → ∀ b ∈ versA L x, b ∈ versL L xs
  | [], i, x, h => by simp at h
  | y :: xs, 0, x, h => by
    simp only [List.getElem?_cons_zero, Option.some.injEq] at h; subst h
    intro b hb; simp [versL, hb]
  | y :: xs, i + 1, x, h => by
    simp only [List.getElem?_cons_succ] at h
    intro b hb
    have := vers_mem h b hb
    simp [versL, this]
theorem rows_mem : ∀ {xs : List AV} {i : Nat} {x : AV}, xs[i]? = some x → ∀ b ∈ rowsA x, b ∈ rowsL xs
  | [], i, x, h => by simp at h
  | y :: xs, 0, x, h => by
    simp only [List.getElem?_cons_zero, Option.some.injEq] at h; subst h
    intro b hb; simp [rowsL, hb]
  | y :: xs, i + 1, x, h => by
    simp only [List.getElem?_cons_succ] at h
    intro b hb
    have := rows_mem h b hb
    simp [rowsL, this]

theorem vers_cells (L : Heap) (x : AV) : versL L x.cells = versA L x := by
  cases x <;> simp [AV.cells, versL, versA]
theorem rows_cells (x : AV) : rowsL x.cells = rowsA x := by
  cases x <;> simp [AV.cells, rowsL, rowsA]

/-- Elements laid into a flat row of cells. -/
theorem setAll_sound {S : St} {size : Nat} : ∀ (parts : List (Nat × AV)) (vparts : List (Nat × Value)) (xs : List AV) (vcells : Array Value) (r : List AV),
    parts.length = vparts.length → (∀ (i : Nat) p q, parts[i]? = some p → vparts[i]? = some q → p.1 = q.1 ∧ Rel S p.2 q.2) → Flat S size xs vcells.toList false →
    setAll size xs parts = some r → ∃ rv, Instr.fill (fun i => some (i * size, size)) vcells vparts = some rv ∧ Flat S size r rv.toList false ∧ r.length = xs.length := by
  intro parts
  induction parts with
  | nil =>
    intro vparts xs vcells r hl _ hc h
    have : vparts = [] := List.eq_nil_of_length_eq_zero (by simpa using hl.symm)
    subst this
    simp only [setAll, Option.some.injEq] at h; subst h
    exact ⟨vcells, rfl, hc, rfl⟩
  | cons p parts ih =>
    intro vparts xs vcells r hl hp hc h
    cases vparts with
    | nil => simp at hl
    | cons q vparts =>
      obtain ⟨i, v⟩ := p
      obtain ⟨i', u⟩ := q
      obtain ⟨e1, e2⟩ := hp 0 _ _ rfl rfl
      simp only at e1 e2
      subst e1
      simp only [setAll] at h
      split at h
      · rename_i hcond
        obtain ⟨c1, c2, c3⟩ := hcond
        have hcl := relL_cells e2 (not_any_of_plain c3)
        have hsz : u.cells.toList.length = size := by rw [← hcl.1]; exact c1
        have hlen : vcells.toList.length = xs.length * size := hc.len
        have hfit : i * size + size ≤ xs.length * size := by
          have := Nat.mul_le_mul_right size (show i + 1 ≤ xs.length by omega)
          rw [Nat.add_mul] at this; omega
        have hvs : vcells.size = xs.length * size := by simpa using hlen
        have hfold : (u.cells.zipIdx.foldl (fun cs (x : Value × Nat) => cs.setIfInBounds (i * size + x.2) x.1) vcells).toList = vcells.toList.take (i * size) ++ u.cells.toList ++ vcells.toList.drop (i * size + size) := by
          rw [← Array.foldl_toList, Array.toList_zipIdx]
          have := foldl_set (i * size) u.cells.toList 0 vcells (by rw [hsz]; omega)
          rw [hsz] at this
          simpa using this
        have hnewflat : Flat S size (xs.set i v) (u.cells.zipIdx.foldl (fun cs (x : Value × Nat) => cs.setIfInBounds (i * size + x.2) x.1) vcells).toList false := by
          rw [hfold]
          have htl : (vcells.toList.take (i * size)).length = i * size := by rw [List.length_take, hlen]; omega
          refine ⟨by simp [hsz]; omega, fun q x hx => ?_, fun q x k c cv hx hk hcv => ?_, fun w hw => ?_⟩
          · rw [List.getElem?_set] at hx
            by_cases e : i = q
            · subst e; simp [c2] at hx; subst hx; exact ⟨c1, c3⟩
            · rw [if_neg e] at hx; exact hc.ok q x hx
          · refine ⟨?_, by simp⟩
            rw [List.getElem?_set] at hx
            by_cases e : i = q
            · subst e; simp [c2] at hx; subst hx
              have hk2 : k < size := by rw [← c1]; exact lt_of_get hk
              rw [List.append_assoc, List.getElem?_append_right (by omega), htl, List.getElem?_append_left (by omega)] at hcv
              have : i * size + k - i * size = k := by omega
              rw [this] at hcv
              exact hcl.2 k c cv hk hcv
            · rw [if_neg e] at hx
              have hk2 : k < size := by rw [← (hc.ok q x hx).1]; exact lt_of_get hk
              refine (hc.rel q x k c cv hx hk ?_).1
              rcases Nat.lt_or_gt_of_ne (fun e' => e e'.symm : q ≠ i) with c4 | c4
              · have := idx_lt (k := k) c4 (Nat.le_refl i) hk2
                rw [List.append_assoc, List.getElem?_append_left (by omega), List.getElem?_take, if_pos this] at hcv
                exact hcv
              · have := Nat.mul_le_mul_right size (show i + 1 ≤ q by omega)
                rw [Nat.add_mul] at this
                rw [List.append_assoc, List.getElem?_append_right (by omega), htl, List.getElem?_append_right (by omega), hsz, List.getElem?_drop] at hcv
                have e3 : i * size + size + (q * size + k - i * size - size) = q * size + k := by omega
                rw [e3] at hcv
                exact hcv
          · rcases List.mem_append.1 hw with e | e
            · rcases List.mem_append.1 e with e | e
              · exact hc.one w (List.mem_of_mem_take e)
              · obtain ⟨k, hk⟩ := List.mem_iff_getElem?.1 e
                have hk2 : k < v.cells.length := by rw [hcl.1]; exact lt_of_get hk
                exact plain_one (hcl.2 k _ w (List.getElem?_eq_getElem hk2) hk) (List.all_eq_true.1 c3 _ (List.getElem_mem hk2))
            · exact hc.one w (List.mem_of_mem_drop e)
        obtain ⟨rv, h1, h2, h3⟩ := ih vparts (xs.set i v) _ r (by simpa using hl) (fun k p q hp' hq' => hp (k + 1) p q (by simpa using hp') (by simpa using hq')) hnewflat h
        refine ⟨rv, ?_, h2, by simpa using h3⟩
        have hus : u.cells.size = size := by simpa using hsz
        simp only [Instr.fill, hus]
        rw [if_neg (by simp; omega)]
        exact h1
      · simp at h
end
end Go.Av
