/- EACH OPERATION of the evaluator against the model's own, part 9: slices that are written out; the operations together, but for calls. No program in sight. -/
import Derived.Test.YtablgkhmbcegkaaAvOps8
namespace Go.Av
open Go.RowKit
section
variable {P : Unit → Program}

theorem build_run {T e : TypeId} {i : TypeInfo} {z0 : Value} {len : Nat} {w : World} {vparts : Array (Nat × Value)} {rv : Array Value} (hu : (P ()).underlying T = some (.slice e)) (hi : (P ()).info? e = some i) (hz : i.zero = some z0) (hzs : z0.cells.size = i.size)
    (hlen : len * i.size ≤ 16777216) (h0 : 0 < len * i.size) (hf : Instr.fill (fun k => some (k * i.size, i.size)) (Builtin.zeroCells z0.cells len) vparts.toList = some rv) :
    (Instr.buildSlice T len vparts).run (P ()) w = .ok (.slice (some ⟨w.heap.size, 0, none⟩) len len) (w.alloc (.cells rv e)) := by
  have h1 : ¬ (len * i.size > 2 ^ 24) := by omega
  have h2 : ¬ (len * i.size = 0) := by omega
  have h3 : (Array.range (len * i.size)).map (fun x => z0.cells[x % z0.cells.size]!) = Builtin.zeroCells z0.cells len := by simp [Builtin.zeroCells, hzs]
  simp only [Instr.buildSlice, Sem.run_bind, run_underlying hu, Result.andThen_ok, run_size hi, h1, if_false, h2, zeroValue, run_info hi, hz, Sem.run_pure, h3, hf, newRow, run_newObj]
  rfl

theorem buildSlice_made {S : St} (hS : HeapOk S) {keep : Bool} {T : TypeId} {len : Nat} {parts : Array (Nat × Operand)} {r : SR} {ρ : Operand → AV} {ρc : Operand → Value} (hρ : ∀ x, Rel S (ρ x) (ρc x))
    (h : buildSliceA P keep S.L T len (parts.toList.map fun (i, x) => (i, ρ x)) = some r) (hA : ∀ b ∈ r.asm, b = true) :
    r.eqs = [] ∧ r.calls = [] ∧ Made S r.v (r.L'.getD S.L) ((Instr.buildSlice T len (parts.map fun (i, x) => (i, ρc x))).run (P ()) S.w) := by
  obtain ⟨hl, hp⟩ := parts_map hρ parts.toList
  have hpt : (parts.map fun (i, x) => (i, ρc x)).toList = parts.toList.map fun (i, x) => (i, ρc x) := by simp
  unfold buildSliceA at h
  split at h
  · rename_i e hu
    split at h
    · rename_i i hi
      split at h
      · rename_i hlen0
        subst hlen0
        split at h
        · rename_i hnil
          simp only [Option.some.injEq] at h; subst h
          have hpn : (parts.map fun (i, x) => (i, ρc x)).toList = [] := by
            rw [hpt]
            exact List.eq_nil_of_length_eq_zero (by rw [← hl, hnil]; rfl)
          obtain ⟨g1, g2⟩ := more_heap hS (w' := S.w.alloc (.cells #[] e)) (below_alloc hS _) (fun b hb => by show (S.w.heap.push _)[b]? = _; rw [getElem?_push_lt hb])
          refine ⟨rfl, rfl, S.β, _, .slice (some ⟨S.w.heap.size, 0, none⟩) 0 0, g1, g2, .data _ _ (.vecE true i.size _ 0 fun _ => rfl), ?_⟩
          simp only [Instr.buildSlice, Sem.run_bind, run_underlying hu, Result.andThen_ok, run_size hi, hpn]
          simp [Instr.fill, newRow, Array.range_zero']
        · simp at h
      · rename_i hlen0
        split at h
        · rename_i z0 hz
          split at h
          · rename_i hcond
            obtain ⟨c1, c2, c3, c4, c5, c6⟩ := hcond
            have hzf := (zero_flat (S := S) (n := len) c2 c3 c5 c6).weaken (cl' := false) (by simp)
            have h0 : 0 < len * i.size := Nat.mul_pos (by omega) c4
            split at h
            · rename_i xs hxs
              obtain ⟨rv, f1, f2, f3⟩ := setAll_sound (S := S) _ _ _ (Builtin.zeroCells z0.cells len) _ hl hp hzf hxs
              rw [List.length_replicate] at f3
              have hrun := build_run (P := P) (w := S.w) (vparts := parts.map fun (i, x) => (i, ρc x)) hu hi hz c3 c1 h0 (by rw [hpt]; exact f1)
              have hrvs : rv.size = len * i.size := by have := f2.len; simpa [f3] using this
              cases keep with
              | true =>
                simp only [cond_true, Option.some.injEq] at h; subst h
                obtain ⟨g1, g2⟩ := new_row (S := S) (elems := xs) (es := i.size) (cap := len) (cl := cleanL xs) (cs := rv) (T := e) (w' := S.w.alloc (.cells rv e)) hS rfl (below_alloc hS _) f2.ok (by omega) (by omega)
                  (fun q x k c cv hx hk hcv => (f2.rel q x k c cv hx hk (by simpa using hcv)).1)
                  (fun hc q x k c cv hx hk hcv => rel_clean (f2.rel q x k c cv hx hk (by simpa using hcv)).1 (clean_cells (cleanL_get hc q x hx) k c hk))
                refine ⟨rfl, rfl, _, _, _, g1, g2, ?_, hrun⟩
                refine .row S.L.length 0 ⟨xs, i.size, 0, false, cleanL xs⟩ ⟨S.w.heap.size, 0, i.size, len⟩ _ ⟨_, _, _, rfl⟩ (by simp) ?_ (Nat.le_refl _) fun _ => by simp [f3]
                show (S.β ++ _)[S.L.length]? = _
                rw [hS.len]; simp
              | false =>
                simp only [cond_false] at h
                split at h
                · rename_i ys hys
                  -- the state behind, with rows frozen or not
                  have fin : ∀ (L' : Heap), HeapOk ⟨S.base, S.acc, L', S.β, S.w⟩ → Ext S ⟨S.base, S.acc, L', S.β, S.w⟩ → Holds S ⟨S.base, S.acc, L', S.β, S.w⟩ (rowsL xs) → (∀ b ∈ versL S.L xs, b = true) →
                      Made S (.vec true i.size ys) L' ((Instr.buildSlice T len (parts.map fun (i, x) => (i, ρc x))).run (P ()) S.w) := by
                    intro L' k1 k2 k3 k4
                    obtain ⟨g1, g2⟩ := more_heap k1 (w' := S.w.alloc (.cells rv e)) (below_alloc hS _) (fun b hb => by show (S.w.heap.push _)[b]? = _; rw [getElem?_push_lt hb])
                    have g3 := k2.trans g2
                    have hnew : (S.w.alloc (.cells rv e)).heap[S.w.heap.size]? = some (.cells rv e (0, 0)) := getElem?_push_eq'
                    obtain ⟨l1, l2⟩ := pureL_get hys
                    have hlen' : ys.length = len := by omega
                    -- an element's cells as data
                    have hel : ∀ (q : Nat) y (k : Nat) c cv, ys[q]? = some y → y.cells[k]? = some c → rv[q * i.size + k]? = some cv → DRel ⟨S.base, S.acc, L', S.β, S.w⟩ c cv := by
                      intro q y k c cv hy hk hcv
                      obtain ⟨x, hx, hxy⟩ := l2 q y hy
                      have hpc := pure_cells hxy
                      have hxl := (f2.ok q x hx).1
                      have hsl : RelL S x.cells ((rv.toList.drop (q * i.size)).take i.size) := by
                        refine ⟨?_, fun k' c' v' hc' hv' => ?_⟩
                        · have := idx_lt (k := i.size - 1) (lt_of_get hx) (Nat.le_refl _) (show i.size - 1 < i.size by omega)
                          rw [List.length_take, List.length_drop, f2.len]; omega
                        · rw [List.getElem?_take] at hv'
                          split at hv'
                          · rw [List.getElem?_drop] at hv'
                            exact (f2.rel q x k' c' v' hx hc' hv').1
                          · simp at hv'
                      obtain ⟨_, p2⟩ := pure_relL (S' := ⟨S.base, S.acc, L', S.β, S.w⟩) hS rfl (fun b off him hlt => (k2.imm b off him hlt).1) x.cells hsl hpc
                        (by rw [vers_cells]; exact fun b hb => k4 b (vers_mem hx b hb)) (by rw [rows_cells]; exact k3.sub fun r hr => rows_mem hx r hr)
                      refine p2 k c cv hk ?_
                      have hk2 : k < i.size := by
                        have := lt_of_get hk
                        rw [← (pureL_get hpc).1, hxl] at this; exact this
                      rw [List.getElem?_take, if_pos hk2, List.getElem?_drop]
                      simpa using hcv
                    have hok : okElems i.size ys := by
                      intro q y hy
                      obtain ⟨x, hx, hxy⟩ := l2 q y hy
                      obtain ⟨o1, o2⟩ := f2.ok q x hx
                      have hpc := pure_cells hxy
                      obtain ⟨m1, m2⟩ := pureL_get hpc
                      refine ⟨by omega, List.all_eq_true.2 fun c hc => ?_⟩
                      obtain ⟨k, hk⟩ := List.mem_iff_getElem?.1 hc
                      obtain ⟨c0, hc0, hcc⟩ := m2 k c hk
                      exact pure_plain hcc (List.all_eq_true.1 o2 c0 (List.mem_of_getElem? hc0))
                    refine ⟨S.β, _, _, g1, g3, ?_, hrun⟩
                    have := DRel.vec (S := ⟨S.base, S.acc, L', S.β, S.w.alloc (.cells rv e)⟩) true i.size ys S.w.heap.size 0 len hok (fun _ => hlen'.symm) (by omega)
                      (fun q y k c hy hk => by
                        have hk2 : k < i.size := by rw [← (hok q y hy).1]; exact lt_of_get hk
                        have hlt := idx_lt (k := k) (lt_of_get hy) (Nat.le_of_eq hlen') hk2
                        refine ⟨⟨rv[q * i.size + k]'(by omega), ?_⟩, ⟨hS.anew _ _ (Nat.le_refl _), fun r' info' h1 h2 => ?_⟩⟩
                        · show (S.w.alloc (.cells rv e)).cell? _ = _
                          rw [cell_at hnew, Nat.zero_add]; exact Array.getElem?_eq_getElem _
                        · have := (hS.blk r' info' h1).2; omega)
                      (fun q y k c cv hy hk hcv => by
                        have hcv' : (S.w.alloc (.cells rv e)).cell? ⟨S.w.heap.size, 0 + q * i.size + k, none⟩ = some cv := hcv
                        rw [cell_at hnew, Nat.zero_add] at hcv'
                        exact (hel q y k c cv hy hk hcv').mono g2)
                    rw [hlen'] at this
                    exact .data _ _ this
                  split at h
                  · rename_i hrs
                    simp only [Option.some.injEq] at h; subst h
                    refine ⟨rfl, rfl, fin S.L hS (Ext.refl S) (by rw [hrs]; intro r hr; simp at hr) (by rw [versL_nil S.L xs hrs]; simp)⟩
                  · rename_i rs hrs
                    simp only [Option.some.injEq] at h; subst h
                    obtain ⟨k1, k2⟩ := freeze_ok (rowsL xs) hS
                    exact ⟨rfl, rfl, fin _ k1 k2 (freeze_holds hS _) hA⟩
                · simp at h
            · simp at h
          · simp at h
        · simp at h
    · simp at h
  · simp at h
end
end Go.Av
