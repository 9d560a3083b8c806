/- EACH OPERATION of the evaluator against the model's own, part 7: append. No program in sight. -/
import Derived.Test.YtablgkhmbcegkaaAvOps6
namespace Go.Av
open Go.RowKit
section
variable {P : Unit → Program}

/-- append where a new row is laid for s = us (nil, or without room). -/
theorem append_new {S : St} (hS : HeapOk S) {e : TypeId} {i : TypeInfo} {z : Value} {xs : List AV} {us : List Value} {cl : Bool} (hz : i.zero = some z) (hzs : (i.zero.map fun z => z.cells.size) = some i.size) (hf : Flat S i.size xs us cl)
    (n old : Nat) (hn : xs.length = n) :
    Made S (.row S.L.length 0) (S.L ++ [⟨xs, i.size, 0, false, cl⟩])
      (.ok (.slice (some ⟨S.w.heap.size, 0, none⟩) n (grownCap S.w n old e)) (S.w.drew.alloc (.cells ((⟨us⟩ : Array Value) ++ Builtin.zeroCells z.cells (grownCap S.w n old e - n)) e))) := by
  have hge := grownCap_ge S.w n old e
  obtain ⟨c1, c2⟩ := grown_cells (cap := grownCap S.w n old e) hf hn (zero_cells_size hzs hz _) hge
  obtain ⟨g1, g2⟩ := new_row (S := S) (elems := xs) (es := i.size) (cap := grownCap S.w n old e) (cl := cl) (T := e) hS rfl (below_grown hS _) hf.ok (by omega) c1
    (fun q x k c cv hx hk hcv => (c2 q x k c cv hx hk hcv).1) (fun e q x k c cv hx hk hcv => (c2 q x k c cv hx hk hcv).2 e)
  refine ⟨_, _, _, g1, g2, ?_, rfl⟩
  refine .row S.L.length 0 ⟨xs, i.size, 0, false, cl⟩ ⟨S.w.heap.size, 0, i.size, grownCap S.w n old e⟩ _ ⟨_, _, _, rfl⟩ (by simp) ?_ (Nat.le_refl _) fun _ => by simp [hn]
  show (S.β ++ _)[S.L.length]? = _
  rw [hS.len]; simp

/-- append to a row of the call's own that is laid anew. -/
theorem append_regrow {S : St} (hS : HeapOk S) {e : TypeId} {i : TypeInfo} {z : Value} {xs : List AV} {us : List Value} {cl : Bool} {r : Nat} {row : Row} {info : BI} (hz : i.zero = some z) (hzs : (i.zero.map fun z => z.cells.size) = some i.size) (hf : Flat S i.size xs us cl)
    (hr : S.L[r]? = some row) (hi : S.β[r]? = some info) (n old : Nat) (hn : xs.length = n) :
    Made S (.row r (row.ver + 1)) (S.L.set r ⟨xs, i.size, row.ver + 1, row.frozen, cl⟩)
      (.ok (.slice (some ⟨S.w.heap.size, 0, none⟩) n (grownCap S.w n old e)) (S.w.drew.alloc (.cells ((⟨us⟩ : Array Value) ++ Builtin.zeroCells z.cells (grownCap S.w n old e - n)) e))) := by
  have hge := grownCap_ge S.w n old e
  obtain ⟨c1, c2⟩ := grown_cells (cap := grownCap S.w n old e) hf hn (zero_cells_size hzs hz _) hge
  have hblk := (hS.blk r info hi).2
  have hold : ∀ b, b < S.w.heap.size → ∀ o : Obj, (S.w.drew.alloc o).heap[b]? = S.w.heap[b]? := fun b hb o => by
    show (S.w.heap.push o)[b]? = _
    rw [getElem?_push_lt hb]
  obtain ⟨g1, g2⟩ := set_row (row' := ⟨xs, i.size, row.ver + 1, row.frozen, cl⟩) (info' := ⟨S.w.heap.size, 0, i.size, grownCap S.w n old e⟩) (T := e)
    (cs := (⟨us⟩ : Array Value) ++ Builtin.zeroCells z.cells (grownCap S.w n old e - n)) (w' := S.w.drew.alloc (.cells ((⟨us⟩ : Array Value) ++ Builtin.zeroCells z.cells (grownCap S.w n old e - n)) e)) hS hr hi
    (by simp) (by intro h; simp at h) rfl (.inr rfl) (fun b hb _ => hold b hb _) (by show (S.w.heap.push _)[S.w.heap.size]? = _; rw [getElem?_push_eq']) (by simpa using c1) (by simp; omega)
    (fun e => ⟨e, fun h => by simp at h; omega, fun off _ _ => cell_of_heap (hold _ hblk _)⟩) hf.ok (below_grown hS _)
    (fun q x k c cv hx hk hcv => (c2 q x k c cv hx hk (by simpa using hcv)).1) (fun e q x k c cv hx hk hcv => (c2 q x k c cv hx hk (by simpa using hcv)).2 e)
  refine ⟨_, _, _, g1, g2, ?_, rfl⟩
  refine .row r (row.ver + 1) ⟨xs, i.size, row.ver + 1, row.frozen, cl⟩ ⟨S.w.heap.size, 0, i.size, grownCap S.w n old e⟩ _ ⟨_, _, _, rfl⟩ (by simp [lt_of_get hr]) (by simp [lt_of_get hi]) (Nat.le_refl _) fun _ => by simp [hn]

/-- append in place: elements 'xs' stand from element lo on; ys are laid behind them. -/
theorem append_place {S : St} (hS : HeapOk S) {r : Nat} {row : Row} {info : BI} {lo n cap : Nat} {ys : List AV} {us : List Value} {cl : Bool} (hr : S.L[r]? = some row) (hi : S.β[r]? = some info) (hf : Flat S row.es ys us cl)
    (hle : lo + n ≤ row.elems.length) (hcap : lo + cap = info.cap) (hroom : n + ys.length ≤ cap) (hfz : row.frozen = true → lo = 0 ∧ n = row.elems.length) :
    ∃ w', (storeCells ((⟨info.blk, info.off + lo * info.es, none⟩ : Addr).add (n * row.es)) us).run (P ()) S.w = .ok () w' ∧
      Made S (.row r (row.ver + 1)) (S.L.set r ⟨(row.elems.drop lo).take n ++ ys, row.es, row.ver + 1, row.frozen, row.clean && cl⟩)
        (.ok (.slice (some ⟨info.blk, info.off + lo * info.es, none⟩) (n + ys.length) cap) w') := by
  obtain ⟨a1, a2, cs, T0, a3, a4⟩ := hS.cells r row info hr hi
  have hlen : ((row.elems.drop lo).take n).length = n := by simp; omega
  let o := info.off + lo * info.es + n * row.es
  have hend : o + us.length ≤ cs.size := by
    rw [hf.len]
    have : (lo + (n + ys.length)) * info.es ≤ info.cap * info.es := Nat.mul_le_mul_right _ (by omega)
    rw [Nat.add_mul, Nat.add_mul] at this
    show info.off + lo * info.es + n * row.es + _ ≤ _
    rw [← a1]; omega
  let cs' : Array Value := (cs.toList.take o ++ us ++ cs.toList.drop (o + us.length)).toArray
  have hst := run_storeCells_at (P ()) info.blk o T0 us 0 cs S.w a3 (by simpa using hend) hf.one
  simp only [Nat.add_zero] at hst
  have hnew := setRow_heap S.w info.blk cs cs' T0 (0, 0) a3
  have hcs' : ∀ p, cs'[p]? = if p < o then cs[p]? else if p < o + us.length then us[p - o]? else cs[p]? := by
    intro p
    have e : cs'[p]? = (cs.toList.take o ++ us ++ cs.toList.drop (o + us.length))[p]? := by simp [cs']
    rw [e]
    by_cases c1 : p < o
    · rw [if_pos c1, List.append_assoc, List.getElem?_append_left (by simp; omega), List.getElem?_take, if_pos c1]; simp
    · rw [if_neg c1, List.append_assoc, List.getElem?_append_right (by simp; omega)]
      have e1 : (cs.toList.take o).length = o := by simp; omega
      rw [e1]
      by_cases c2 : p < o + us.length
      · rw [if_pos c2, List.getElem?_append_left (by omega)]
      · rw [if_neg c2, List.getElem?_append_right (by omega), List.getElem?_drop]
        have : o + us.length + (p - o - us.length) = p := by omega
        rw [this]; simp
  have hcell : ∀ (q : Nat) x (k : Nat) c cv, ((row.elems.drop lo).take n ++ ys)[q]? = some x → x.cells[k]? = some c → cs'[info.off + lo * info.es + q * info.es + k]? = some cv →
      (q < n ∧ row.elems[lo + q]? = some x ∧ cs[info.off + (lo + q) * info.es + k]? = some cv) ∨ (ys[q - n]? = some x ∧ us[(q - n) * row.es + k]? = some cv) := by
    intro q x k c cv hx hk hcv
    rw [hcs'] at hcv
    by_cases hq : q < n
    · left
      rw [List.getElem?_append_left (by omega), List.getElem?_take, if_pos hq, List.getElem?_drop] at hx
      have hk2 : k < info.es := by rw [a1, ← (hS.elems r row hr _ x hx).1]; exact lt_of_get hk
      have := idx_lt (k := k) hq (Nat.le_refl n) hk2
      rw [if_pos (by show _ < info.off + lo * info.es + n * row.es; rw [← a1]; omega)] at hcv
      refine ⟨hq, hx, ?_⟩
      have e : info.off + (lo + q) * info.es + k = info.off + lo * info.es + q * info.es + k := by rw [Nat.add_mul]; omega
      rw [e]; exact hcv
    · right
      rw [List.getElem?_append_right (by omega), hlen] at hx
      have h1 := hf.cell hx hk
      have e : q * info.es = n * row.es + (q - n) * row.es := by rw [a1, ← Nat.add_mul]; congr 1; omega
      rw [if_neg (by show ¬ _ < info.off + lo * info.es + n * row.es; omega), if_pos (by show _ < info.off + lo * info.es + n * row.es + _; omega)] at hcv
      have e2 : info.off + lo * info.es + q * info.es + k - o = (q - n) * row.es + k := by show _ - (info.off + lo * info.es + n * row.es) = _; omega
      rw [e2] at hcv
      exact ⟨hx, hcv⟩
  obtain ⟨g1, g2⟩ := set_row (row' := ⟨(row.elems.drop lo).take n ++ ys, row.es, row.ver + 1, row.frozen, row.clean && cl⟩) (info' := ⟨info.blk, info.off + lo * info.es, info.es, cap⟩) (T := T0) (cs := cs') (w' := S.w.setRow info.blk cs') hS hr hi
    (by simp) (by intro h; simp at h) a1 (.inl rfl) (fun b _ hb => setRow_other S.w info.blk b cs' hb) hnew
    (by
      have : cs'.size = cs.size := by simp only [cs']; simp; omega
      rw [this]
      have e : info.cap * info.es = lo * info.es + cap * info.es := by rw [← hcap, Nat.add_mul]
      simp only
      omega)
    (by simp only [List.length_append, hlen]; exact hroom)
    (fun e => by
      obtain ⟨e1, e2⟩ := hfz e
      subst e1
      refine ⟨e, fun _ => ⟨by simp, rfl, by simp; omega⟩, fun off h1 h2 => ?_⟩
      rw [cell_at a3, cell_at hnew, hcs', if_pos]
      show off < info.off + 0 * info.es + n * row.es
      rw [e2, ← a1]; omega)
    (by
      intro q x hx
      by_cases hq : q < n
      · rw [List.getElem?_append_left (by omega), List.getElem?_take, if_pos hq, List.getElem?_drop] at hx
        exact hS.elems r row hr _ x hx
      · rw [List.getElem?_append_right (by omega)] at hx
        exact hf.ok _ x hx)
    (below_setRow (hS.blk r info hi).1)
    (fun q x k c cv hx hk hcv => by
      rcases hcell q x k c cv hx hk hcv with ⟨_, b1, b2⟩ | ⟨b1, b2⟩
      · exact hS.rel r row info _ x k c cv hr hi b1 hk (by rw [cell_at a3]; exact b2)
      · exact (hf.rel _ x k c cv b1 hk b2).1)
    (fun hc q x k c cv hx hk hcv => by
      simp only [Bool.and_eq_true] at hc
      rcases hcell q x k c cv hx hk hcv with ⟨_, b1, b2⟩ | ⟨b1, b2⟩
      · exact hS.clean r row info _ x k c cv hr hi hc.1 b1 hk (by rw [cell_at a3]; exact b2)
      · exact (hf.rel _ x k c cv b1 hk b2).2 hc.2)
  refine ⟨_, by rw [addr_add]; exact hst, _, _, _, g1, g2, ?_, rfl⟩
  refine .row r (row.ver + 1) ⟨(row.elems.drop lo).take n ++ ys, row.es, row.ver + 1, row.frozen, row.clean && cl⟩ ⟨info.blk, info.off + lo * info.es, info.es, cap⟩ _ ⟨_, _, _, rfl⟩ (by simp [lt_of_get hr]) (by simp [lt_of_get hi]) (Nat.le_refl _) fun _ => by simp; omega

theorem made_quiet {S : St} (hS : HeapOk S) {v : AV} {cv : Value} {out : Result Value} (hv : Rel S v cv) (ho : out = .ok cv S.w) : Made S v S.L out := ⟨S.β, S.w, cv, hS, Ext.refl S, hv, ho⟩

theorem append_made {S : St} (hS : HeapOk S) {T X ty : TypeId} {s x : AV} {sv xv : Value} {r : SR} (hs : Rel S s sv) (hx : Rel S x xv) (hX : (∃ e', (P ()).underlying X = some (.slice e')) ∨ (P ()).underlying X = some .string)
    (h : appendA P S.L T s x = some r) (hA : ∀ b ∈ r.asm, b = true) :
    r.eqs = [] ∧ r.calls = [] ∧ Made S r.v (r.L'.getD S.L) ((Builtin.append_ #[T, X] ty #[sv, xv]).run (P ()) S.w) := by
  unfold appendA at h
  split at h
  · rename_i e hu
    split at h
    · rename_i i hi
      split at h
      · rename_i hcond
        obtain ⟨c1, c2, c3⟩ := hcond
        obtain ⟨z, hz⟩ : ∃ z, i.zero = some z := by
          cases hz : i.zero with
          | none => rw [hz] at c3; simp at c3
          | some z => exact ⟨z, rfl⟩
        split at h
        · rename_i ys cl q hcx
          -- the checks of the content
          have key : (∀ b ∈ q, b = true) → ∃ us, Flat S i.size ys us cl ∧ Content (P ()) S.w i.size xv ys.length us := fun hq => content_sound hS hx hcx hq
          split at h
          · rw [rel_vnil hs]
            split at h
            · simp only [Option.some.injEq] at h; subst h
              obtain ⟨us, hf, hc⟩ := key hA
              refine ⟨rfl, rfl, made_quiet hS (.data _ _ .vnil) ?_⟩
              exact app_room hu hX hi hc (by simp) rfl
            · rename_i y ys'
              simp only [Option.some.injEq] at h; subst h
              obtain ⟨us, hf, hc⟩ := key (fun b hb => hA b (by simp [hb]))
              have hsz : ((y :: ys').length * i.bytes) ≤ 1099511627776 := alld hA (by simp)
              have hrun := app_grow (P := P) (ty := ty) (base := none) (sLen := 0) (sCap := 0) (olds := []) hu hX hi hz hc (fun w' _ => ⟨by simp [Builtin.lenOf], by simp [Builtin.firstCells]⟩) (by simp) c2 (by simpa using hsz)
              have := append_new (e := e) hS hz c3 hf (y :: ys').length 0 rfl
              refine ⟨rfl, rfl, ?_⟩
              rw [hrun]
              simpa using this
          · rename_i es xs
            split at h
            · rename_i hes
              subst hes
              have hd := rel_vec hs
              have hcont := content_sound (P := P) hS hs (x := .vec true i.size xs) (size := i.size) (ys := xs) (cl := true) (q := []) (by simp [contentA]) (by simp)
              obtain ⟨olds, hfo, hco⟩ := hcont
              obtain ⟨a, hsv⟩ : ∃ a, sv = .slice a xs.length xs.length := by
                cases hd with
                | vecE _ _ a cap hf => have := hf rfl; subst this; exact ⟨a, rfl⟩
                | vec _ _ _ b off cap ho hf => have := hf rfl; subst this; exact ⟨_, rfl⟩
              split at h
              · simp only [Option.some.injEq] at h; subst h
                obtain ⟨us, hf, hc⟩ := key hA
                refine ⟨rfl, rfl, made_quiet hS hs ?_⟩
                rw [hsv]
                refine app_room hu hX hi hc (by simp) ?_
                have : us = [] := List.eq_nil_of_length_eq_zero (by rw [hf.len]; simp)
                subst this
                cases a <;> simp [storeCells]
              · rename_i y ys'
                simp only [Option.some.injEq] at h; subst h
                obtain ⟨us, hf, hc⟩ := key (fun b hb => hA b (by simp [hb]))
                have hsz : ((xs.length + (y :: ys').length) * i.bytes) ≤ 1099511627776 := alld hA (by simp)
                rw [hsv] at hco
                have hrun := app_grow (P := P) (ty := ty) (base := a) (sLen := xs.length) (sCap := xs.length) hu hX hi hz hc hco (by simp) c2 hsz
                have hff := (hfo.append hf).weaken (cl' := cl) (by simp)
                have := append_new (e := e) hS hz c3 hff (xs.length + (y :: ys').length) xs.length (by simp)
                refine ⟨rfl, rfl, ?_⟩
                rw [hsv, hrun]
                simpa using this
            · simp at h
          · rename_i r' ver
            split at h
            · rename_i row hrow
              split at h
              · rename_i hes
                simp only [Option.some.injEq] at h; subst h
                obtain ⟨us, hf, hc⟩ := key (fun b hb => hA b (by simp [hb]))
                have hver : row.ver = ver := by simpa using hA (row.ver == ver) (by simp)
                have hsz : ((row.elems.length + ys.length) * i.bytes) ≤ 1099511627776 := alld hA (by simp)
                obtain ⟨row', info, a1, a2, a3⟩ := rel_row hs
                rw [hrow] at a1
                simp only [Option.some.injEq] at a1; subst a1
                have hcont := content_sound (P := P) hS hs (x := .row r' ver) (size := i.size) (ys := row.elems) (cl := row.clean) (q := [row.ver == ver]) (by simp [contentA, hrow, hes]) (by simp [hver])
                obtain ⟨olds, hfo, hco⟩ := hcont
                rw [a3 hver]
                rw [a3 hver] at hco
                subst hver
                refine ⟨rfl, rfl, ?_⟩
                simp only [Option.getD_some]
                by_cases hroom : row.elems.length + ys.length ≤ info.cap
                · rw [← hes] at hf
                  obtain ⟨w', h1, h2⟩ := append_place (P := P) (lo := 0) (n := row.elems.length) (cap := info.cap) hS hrow a2 hf (by omega) (by omega) hroom (fun _ => ⟨rfl, rfl⟩)
                  simp only [Nat.zero_mul, Nat.add_zero, List.drop_zero, List.take_length] at h1 h2
                  rw [hes] at h1 h2
                  rw [app_room hu hX hi hc hroom h1, hes]
                  exact h2
                · have hrun := app_grow (P := P) (ty := ty) hu hX hi hz hc hco (by omega) c2 hsz
                  have := append_regrow (e := e) hS hz c3 (hfo.append hf) hrow a2 (row.elems.length + ys.length) info.cap (by simp)
                  rw [hrun, hes]
                  simpa using this
              · simp at h
            · simp at h
          · rename_i r' ver lo len
            split at h
            · rename_i row hrow
              split at h
              · rename_i hes
                obtain ⟨hes, hfz⟩ := hes
                obtain ⟨row', info, a1, a2, a3⟩ := rel_ref hs
                rw [hrow] at a1
                simp only [Option.some.injEq] at a1; subst a1
                split at h
                · simp only [Option.some.injEq] at h; subst h
                  obtain ⟨us, hf, hc⟩ := key (fun b hb => hA b (by simp [hb]))
                  have hver : row.ver = ver := by simpa using hA (row.ver == ver) (by simp)
                  obtain ⟨a, cap, rfl, b1, b2, b3⟩ := a3 hver
                  refine ⟨rfl, rfl, made_quiet hS hs ?_⟩
                  refine app_room hu hX hi hc (by simpa using b1) ?_
                  have : us = [] := List.eq_nil_of_length_eq_zero (by rw [hf.len]; simp)
                  subst this
                  simp [storeCells]
                · rename_i y ys'
                  simp only [Option.some.injEq] at h; subst h
                  obtain ⟨us, hf, hc⟩ := key (fun b hb => hA b (by simp [hb]))
                  have hver : row.ver = ver := by simpa using hA (row.ver == ver) (by simp)
                  have hsz : ((len + (y :: ys').length) * i.bytes) ≤ 1099511627776 := alld hA (by simp)
                  have hcont := content_sound (P := P) hS hs (x := .ref r' ver lo len) (size := i.size) (ys := (row.elems.drop lo).take len) (cl := row.clean) (q := [row.ver == ver]) (by simp [contentA, hrow, hes]) (by simp [hver])
                  obtain ⟨olds, hfo, hco⟩ := hcont
                  obtain ⟨a, cap, rfl, b1, b2, b3⟩ := a3 hver
                  have hlen : ((row.elems.drop lo).take len).length = len := by simp; omega
                  rw [hlen] at hco
                  subst hver
                  refine ⟨rfl, rfl, ?_⟩
                  simp only [Option.getD_some]
                  by_cases hroom : len + (y :: ys').length ≤ cap
                  · rcases b3 with ⟨rfl, b4⟩ | b4
                    · rw [← hes] at hf
                      obtain ⟨w', h1, h2⟩ := append_place (P := P) (lo := lo) (n := len) (cap := cap) hS hrow a2 hf b2 b4 hroom (fun e => by rw [hfz] at e; cases e)
                      rw [hes] at h1 h2
                      rw [app_room hu hX hi hc hroom h1, hes]
                      rw [hfz] at h2
                      exact h2
                    · have := hroom; rw [b4] at this; simp at this
                  · have hrun := app_grow (P := P) (ty := ty) hu hX hi hz hc hco (by omega) c2 hsz
                    have := append_regrow (e := e) hS hz c3 (hfo.append hf) hrow a2 (len + (y :: ys').length) cap (by simp [hlen])
                    rw [hfz] at this
                    rw [hrun, hes]
                    simpa using this
              · simp at h
            · simp at h
          · simp at h
        · simp at h
      · simp at h
    · simp at h
  · simp at h
end
end Go.Av
