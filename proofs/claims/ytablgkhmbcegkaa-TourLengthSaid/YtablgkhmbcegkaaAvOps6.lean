/- EACH OPERATION of the evaluator against the model's own, part 6: stores, new variables, append, copy, clear, make. No program in sight. -/
import Derived.Test.YtablgkhmbcegkaaAvOps5
namespace Go.Av
open Go.RowKit
section
variable {P : Unit → Program}

/-- What an operation of the model came to that changed memory. -/
def Made (S : St) (v : AV) (L' : Heap) (out : Result Value) : Prop :=
  ∃ β' w' cv, HeapOk ⟨S.base, S.acc, L', β', w'⟩ ∧ Ext S ⟨S.base, S.acc, L', β', w'⟩ ∧ Rel ⟨S.base, S.acc, L', β', w'⟩ v cv ∧ out = .ok cv w'

theorem below_alloc {S : St} (hS : HeapOk S) (o : Obj) : Below S.base S.w (S.w.alloc o) := (Below.refl _ _).alloc hS.base o

/-- A new variable that holds x. -/
theorem box_made {S : St} (hS : HeapOk S) {T : TypeId} {x : AV} {xv : Value} {r : SR} (hx : Rel S x xv) (h : boxA S.L x = some r) :
    r.asm = [] ∧ r.eqs = [] ∧ r.calls = [] ∧ ∃ L', r.L' = some L' ∧ Made S r.v L' ((newVar T xv >>= fun a => pure (Value.pointer (some a)) : Sem Value).run (P ()) S.w) := by
  unfold boxA at h
  split at h
  · rename_i hp
    simp only [Option.some.injEq] at h; subst h
    have hc := relL_cells hx (not_any_of_plain hp)
    have hget : ∀ (i : Nat) y, [x][i]? = some y → i = 0 ∧ y = x := by
      intro i y hy
      cases i with
      | zero => simp at hy; exact ⟨rfl, hy.symm⟩
      | succ i => simp at hy
    have hsz : x.cells.length = xv.cells.size := by simpa using hc.1
    obtain ⟨h1, h2⟩ := new_row (S := S) (elems := [x]) (es := x.cells.length) (cap := 1) (cl := false) (cs := xv.cells) (T := T) (w' := S.w.alloc (.cells xv.cells T)) hS rfl (below_alloc hS _)
      (fun i y hy => by obtain ⟨_, rfl⟩ := hget i y hy; exact ⟨rfl, hp⟩) (by simp) (by omega)
      (fun i y k c cv hy hk hcv => by
        obtain ⟨rfl, rfl⟩ := hget i y hy
        simp only [Nat.zero_mul, Nat.zero_add] at hcv
        exact hc.2 k c cv hk (by simpa using hcv)) (by simp)
    refine ⟨rfl, rfl, rfl, _, rfl, _, _, .pointer (some ⟨S.w.heap.size, 0, none⟩), h1, h2, ?_, ?_⟩
    · refine .ptr S.L.length 0 0 0 ⟨[x], x.cells.length, 0, false, false⟩ ⟨S.w.heap.size, 0, x.cells.length, 1⟩ _ ⟨_, rfl⟩ (by simp) ?_ (Nat.le_refl _) fun _ => by simp
      show (S.β ++ _)[S.L.length]? = _
      rw [hS.len]; simp
    · simp [newVar, newRow]
  · simp at h

theorem store_made {S : St} (hS : HeapOk S) {el : Option AV} {T : TypeId} {p v : AV} {pv vv : Value} {r : SR} (hp : Rel S p pv) (hv : Rel S v vv) (h : storeA P el S.L T p v = some r)
    (hA : ∀ b ∈ r.asm, b = true) (hQ : ∀ q ∈ r.eqs, q) : r.v = .tup [] ∧ r.calls = [] ∧ ∃ L' β' w', r.L' = some L' ∧ HeapOk ⟨S.base, S.acc, L', β', w'⟩ ∧ Ext S ⟨S.base, S.acc, L', β', w'⟩ ∧
      (Instr.storeAt T pv vv).run (P ()) S.w = .ok () w' := by
  unfold storeA at h
  split at h
  · rename_i q ver i j
    obtain ⟨row, info, h1, h2, h3⟩ := rel_ptr hp
    rw [h1] at h
    simp only at h
    split at h
    · rename_i hfz
      split at h
      · rename_i x qs he
        split at h
        · rename_i hcond
          obtain ⟨hpl, hsz, hin, hcln⟩ := hcond
          split at h
          · rename_i y hy
            simp only [Option.some.injEq] at h; subst h
            have hx := elem_of he hQ
            have hver : row.ver = ver := by simpa using hA (row.ver == ver) (by simp)
            have hvc := relL_cells hv (not_any_of_plain hpl)
            have hvl : v.cells.length = vv.cells.toList.length := hvc.1
            obtain ⟨a1, a2, cs, T0, a3, a4⟩ := hS.cells q row info h1 h2
            obtain ⟨x1, x2⟩ := hS.elems q row h1 i x hx
            -- the new element's cells
            have hyc : y.cells = x.cells.take j ++ (v.cells ++ x.cells.drop (j + v.cells.length)) ∧ j + v.cells.length ≤ x.cells.length := by
              unfold putCells at hy
              split at hy
              · rename_i cs'
                split at hy
                · rename_i hle
                  simp only [Option.some.injEq] at hy; subst hy
                  exact ⟨rfl, hle⟩
                · simp at hy
              · rename_i hna
                split at hy
                · rename_i u hvu
                  simp only [Option.some.injEq] at hy; subst hy
                  have hxc : x.cells = [x] := by
                    cases x <;> first | rfl | exact absurd rfl (hna _)
                  have hu : u.plain = true := List.all_eq_true.1 hpl u (by rw [hvu]; simp)
                  have huc : u.cells = [u] := by cases u <;> first | rfl | simp [AV.plain] at hu
                  rw [huc, hvu, hxc]; simp
                · simp at hy
            obtain ⟨hyc, hjle⟩ := hyc
            have hyl : y.cells.length = row.es := by rw [hyc]; simp; omega
            have hyp : y.cells.all AV.plain = true := by
              rw [hyc, List.all_append, List.all_append, hpl]
              simp only [Bool.and_eq_true]
              refine ⟨List.all_eq_true.2 fun c hc => List.all_eq_true.1 x2 c (List.mem_of_mem_take hc), trivial, List.all_eq_true.2 fun c hc => List.all_eq_true.1 x2 c (List.mem_of_mem_drop hc)⟩
            have hilt := lt_of_get hx
            -- the cells that are written
            let o := info.off + i * info.es + j
            have hend : o + vv.cells.toList.length ≤ cs.size := by
              have := idx_lt (k := j + v.cells.length - 1) hilt a2 (es := info.es)
              rcases Nat.eq_zero_or_pos v.cells.length with e | e
              · have h0 : i * info.es ≤ info.cap * info.es := Nat.mul_le_mul_right _ (by omega)
                have h1' : (i + 1) * info.es ≤ info.cap * info.es := Nat.mul_le_mul_right _ (by omega)
                rw [Nat.add_mul] at h1'
                show info.off + i * info.es + j + _ ≤ _
                omega
              · have := this (by omega)
                show info.off + i * info.es + j + _ ≤ _
                omega
            let cs' : Array Value := (cs.toList.take o ++ vv.cells.toList ++ cs.toList.drop (o + vv.cells.toList.length)).toArray
            have hone : ∀ u ∈ vv.cells.toList, u.oneCell' = true := by
              intro u hu
              obtain ⟨k, hk⟩ := List.mem_iff_getElem?.1 hu
              have hk2 : k < v.cells.length := by rw [hvl]; exact lt_of_get hk
              exact plain_one (hvc.2 k _ u (List.getElem?_eq_getElem hk2) hk) (List.all_eq_true.1 hpl _ (List.getElem_mem hk2))
            have hst := run_storeCells_at (P ()) info.blk o T0 vv.cells.toList 0 cs S.w a3 (by simpa using hend) hone
            simp only [Nat.add_zero] at hst
            have hnew := setRow_heap S.w info.blk cs cs' T0 (0, 0) a3
            have hcs' : ∀ p, cs'[p]? = if p < o then cs[p]? else if p < o + v.cells.length then vv.cells.toList[p - o]? else cs[p]? := by
              intro p
              have ho : o ≤ cs.size := by omega
              have e : cs'[p]? = (cs.toList.take o ++ vv.cells.toList ++ cs.toList.drop (o + vv.cells.toList.length))[p]? := by simp [cs']
              rw [e, hvl]
              by_cases c1 : p < o
              · rw [if_pos c1, List.append_assoc, List.getElem?_append_left (by simp; omega), List.getElem?_take, if_pos c1]; simp
              · rw [if_neg c1, List.append_assoc, List.getElem?_append_right (by simp; omega)]
                have e1 : (cs.toList.take o).length = o := by simp; omega
                rw [e1]
                by_cases c2 : p < o + vv.cells.toList.length
                · rw [if_pos c2, List.getElem?_append_left (by omega)]
                · rw [if_neg c2, List.getElem?_append_right (by omega), List.getElem?_drop]
                  have : o + vv.cells.toList.length + (p - o - vv.cells.toList.length) = p := by omega
                  rw [this]; simp
            have helem : ∀ (i' : Nat) z (k : Nat) c cv, (row.elems.set i y)[i']? = some z → z.cells[k]? = some c → cs'[info.off + i' * info.es + k]? = some cv →
                (i' ≠ i ∧ row.elems[i']? = some z ∧ cs[info.off + i' * info.es + k]? = some cv) ∨ (i' = i ∧ z = y ∧ ((∃ k' : Nat, v.cells[k']? = some c ∧ vv.cells.toList[k']? = some cv) ∨ (x.cells[k]? = some c ∧ cs[info.off + i * info.es + k]? = some cv))) := by
              intro i' z k c cv hz hk hcv
              rw [List.getElem?_set] at hz
              rw [hcs'] at hcv
              by_cases e : i = i'
              · subst e
                simp [hilt] at hz
                subst hz
                right
                refine ⟨rfl, rfl, ?_⟩
                rw [hyc] at hk
                by_cases c1 : k < j
                · right
                  rw [List.getElem?_append_left (by simp; omega), List.getElem?_take, if_pos c1] at hk
                  rw [if_pos (by show info.off + i * info.es + k < info.off + i * info.es + j; omega)] at hcv
                  exact ⟨hk, hcv⟩
                · rw [List.getElem?_append_right (by simp; omega)] at hk
                  have e1 : (x.cells.take j).length = j := by simp; omega
                  rw [e1] at hk
                  rw [if_neg (by show ¬ info.off + i * info.es + k < info.off + i * info.es + j; omega)] at hcv
                  by_cases c2 : k - j < v.cells.length
                  · left
                    rw [List.getElem?_append_left c2] at hk
                    rw [if_pos (by show info.off + i * info.es + k < info.off + i * info.es + j + _; omega)] at hcv
                    have : info.off + i * info.es + k - o = k - j := by show info.off + i * info.es + k - (info.off + i * info.es + j) = _; omega
                    rw [this] at hcv
                    exact ⟨k - j, hk, hcv⟩
                  · right
                    rw [List.getElem?_append_right (by omega), List.getElem?_drop] at hk
                    rw [if_neg (by show ¬ info.off + i * info.es + k < info.off + i * info.es + j + _; omega)] at hcv
                    have : j + v.cells.length + (k - j - v.cells.length) = k := by omega
                    rw [this] at hk
                    exact ⟨hk, hcv⟩
              · rw [if_neg e] at hz
                left
                refine ⟨fun e' => e e'.symm, hz, ?_⟩
                have hk2 : k < info.es := by rw [a1, ← (hS.elems q row h1 i' z hz).1]; exact lt_of_get hk
                have hout : info.off + i' * info.es + k < o ∨ o + v.cells.length ≤ info.off + i' * info.es + k := by
                  rcases Nat.lt_or_gt_of_ne (fun e' => e e'.symm : i' ≠ i) with c1 | c1
                  · left
                    have := idx_lt (k := k) c1 (Nat.le_refl i) hk2
                    show _ < info.off + i * info.es + j; omega
                  · right
                    have h1' : (i + 1) * info.es ≤ i' * info.es := Nat.mul_le_mul_right _ c1
                    rw [Nat.add_mul] at h1'
                    show info.off + i * info.es + j + _ ≤ _; omega
                rcases hout with c1 | c1
                · rw [if_pos c1] at hcv; exact hcv
                · rw [if_neg (by omega), if_neg (by omega)] at hcv; exact hcv
            obtain ⟨g1, g2⟩ := set_row (row' := { row with elems := row.elems.set i y }) (info' := info) (cs := cs') (T := T0) (w' := S.w.setRow info.blk cs') hS h1 h2 (Nat.le_refl _) (fun _ => ⟨rfl, by simp⟩) a1 (.inl rfl)
              (fun b _ hb => setRow_other S.w info.blk b cs' hb) hnew (by simp only [cs']; simp; omega) (by simpa using a2) (fun e => by rw [hfz] at e; cases e)
              (fun i' z hz => by
                rw [List.getElem?_set] at hz
                by_cases e : i = i'
                · subst e; simp [hilt] at hz; subst hz; exact ⟨hyl, hyp⟩
                · rw [if_neg e] at hz; exact hS.elems q row h1 i' z hz)
              (below_setRow (hS.blk q info h2).1)
              (fun i' z k c cv hz hk hcv => by
                rcases helem i' z k c cv hz hk hcv with ⟨_, b1, b2⟩ | ⟨rfl, rfl, ⟨k', b1, b2⟩ | ⟨b1, b2⟩⟩
                · exact hS.rel q row info i' z k c cv h1 h2 b1 hk (by rw [cell_at a3]; exact b2)
                · exact hvc.2 k' c cv b1 b2
                · exact hS.rel q row info i' x k c cv h1 h2 hx b1 (by rw [cell_at a3]; exact b2))
              (fun hc i' z k c cv hz hk hcv => by
                rcases helem i' z k c cv hz hk hcv with ⟨_, b1, b2⟩ | ⟨rfl, rfl, ⟨k', b1, b2⟩ | ⟨b1, b2⟩⟩
                · exact hS.clean q row info i' z k c cv h1 h2 hc b1 hk (by rw [cell_at a3]; exact b2)
                · exact rel_clean (hvc.2 k' c cv b1 b2) (cleanL_get (hcln hc) k' c b1)
                · exact hS.clean q row info i' x k c cv h1 h2 hc hx b1 (by rw [cell_at a3]; exact b2))
            rw [set_self h2] at g1 g2
            refine ⟨rfl, rfl, _, _, _, rfl, g1, g2, ?_⟩
            rw [h3 hver]
            obtain ⟨ti, hti⟩ := Option.ne_none_iff_exists'.1 hin
            have hcells : (P ()).cellsOf T = ti.size := by simp [Program.cellsOf, hti]
            have hs2 : vv.cells.size = ti.size := by rw [← hcells, hsz, hvl]; simp
            simp only [Instr.storeAt, Instr.sureAddr, storeVar, Sem.run_bind, Sem.run_pure, Result.andThen_ok, run_size hti, hs2, ne_eq, not_true_eq_false, if_false]
            exact hst
          · simp at h
        · simp at h
      · simp at h
    · simp at h
  · simp at h

/-- make([]T, n). -/
theorem make_made {S : St} (hS : HeapOk S) {T : TypeId} {l c : AV} {lv cv : Value} {r : SR} (hl : Rel S l lv) (hc : Rel S c cv) (h : makeSliceA P S.L T l c = some r) (hA : ∀ b ∈ r.asm, b = true) :
    r.eqs = [] ∧ r.calls = [] ∧ ∃ L', r.L' = some L' ∧ Made S r.v L' ((Instr.makeSlice T lv cv).run (P ()) S.w) := by
  unfold makeSliceA at h
  split at h
  · rename_i e k n k' m hu
    split at h
    · rename_i i hi
      split at h
      · rename_i z0 hz
        split at h
        · rename_i hcond
          obtain ⟨c1, c2, c3, c4, c5⟩ := hcond
          simp only [Option.some.injEq] at h; subst h
          have h0 : 0 ≤ n := alld hA (p := 0 ≤ n) (by simp)
          have h1 : n ≤ m := alld hA (p := n ≤ m) (by simp)
          have h2 : m * i.bytes ≤ 1099511627776 := alld hA (p := m * i.bytes ≤ 1099511627776) (by simp)
          have h3 : m ≤ 1099511627776 := alld hA (p := m ≤ 1099511627776) (by simp)
          rw [rel_int hl, rel_int hc]
          have hm : 0 ≤ m := by omega
          have hrun := run_make (P := P ()) S.w T e i z0 hu hi hz k k' n m h0 h1 (by rw [Int.mul_comm]; omega) (by omega)
          have hzc := relL_cells (rel_ofC S z0) (not_any_of_plain c3)
          have hzsz : z0.cells.toList.length = i.size := by simpa using c2
          have hmade : ∀ p, p < m.toNat * i.size → (madeCells z0.cells (m.toNat * i.size))[p]? = z0.cells.toList[p % i.size]? := by
            intro p hp
            have hlt : p % i.size < z0.cells.size := by rw [c2]; exact Nat.mod_lt _ c5
            simp only [madeCells, Array.getElem?_map, Array.getElem?_range, hp, if_true, Option.map_some, c2]
            rw [getElem!_pos z0.cells (p % i.size) hlt]
            simp [hlt]
          have hrep : ∀ (q : Nat) x, (List.replicate n.toNat (ofC z0))[q]? = some x → x = ofC z0 ∧ q < n.toNat := by
            intro q x hx
            have hlt : q < n.toNat := by have := lt_of_get hx; rwa [List.length_replicate] at this
            rw [List.getElem?_replicate, if_pos hlt] at hx
            simp only [Option.some.injEq] at hx; exact ⟨hx.symm, hlt⟩
          have hcell : ∀ (q : Nat) x (k : Nat) c cv, (List.replicate n.toNat (ofC z0))[q]? = some x → x.cells[k]? = some c → (madeCells z0.cells (m.toNat * i.size))[q * i.size + k]? = some cv → (ofC z0).cells[k]? = some c ∧ z0.cells.toList[k]? = some cv := by
            intro q x k c cv hx hk hcv
            obtain ⟨rfl, hq⟩ := hrep q x hx
            have hk2 : k < i.size := by rw [← c1]; exact lt_of_get hk
            rw [hmade _ (idx_lt hq (by omega) hk2)] at hcv
            rw [Nat.add_comm, Nat.add_mul_mod_self_right, Nat.mod_eq_of_lt hk2] at hcv
            exact ⟨hk, hcv⟩
          obtain ⟨g1, g2⟩ := new_row (S := S) (elems := List.replicate n.toNat (ofC z0)) (es := i.size) (cap := m.toNat) (cl := true) (cs := madeCells z0.cells (m.toNat * i.size)) (T := e)
            (w' := S.w.alloc (.cells (madeCells z0.cells (m.toNat * i.size)) e)) hS rfl (below_alloc hS _)
            (fun q x hx => by obtain ⟨rfl, _⟩ := hrep q x hx; exact ⟨c1, c3⟩) (by simp; omega) (by rw [size_madeCells]; exact Nat.le_refl _)
            (fun q x k c cv hx hk hcv => by obtain ⟨b1, b2⟩ := hcell q x k c cv hx hk hcv; exact hzc.2 k c cv b1 b2)
            (fun _ q x k c cv hx hk hcv => by obtain ⟨b1, b2⟩ := hcell q x k c cv hx hk hcv; exact rel_clean (hzc.2 k c cv b1 b2) (cleanL_get c4 k c b1))
          refine ⟨rfl, rfl, _, rfl, _, _, _, g1, g2, ?_, hrun⟩
          refine .row S.L.length 0 ⟨List.replicate n.toNat (ofC z0), i.size, 0, false, true⟩ ⟨S.w.heap.size, 0, i.size, m.toNat⟩ _ ⟨_, _, _, rfl⟩ (by simp) ?_ (Nat.le_refl _) fun _ => by simp
          show (S.β ++ _)[S.L.length]? = _
          rw [hS.len]; simp
        · simp at h
      · simp at h
    · simp at h
  · simp at h

/-- The model's append where there is room. -/
theorem app_room {t X ty e : TypeId} {i : TypeInfo} {w w' : World} {base : Option Addr} {sLen sCap m : Nat} {xv : Value} {news : List Value} (ht : (P ()).underlying t = some (.slice e)) (hX : (∃ e', (P ()).underlying X = some (.slice e')) ∨ (P ()).underlying X = some .string)
    (hi : (P ()).info? e = some i) (hx : Content (P ()) w i.size xv m news) (hroom : sLen + m ≤ sCap)
    (hst : match base with | some a => (storeCells (a.add (sLen * i.size)) news).run (P ()) w = .ok () w' | none => w' = w) :
    (Builtin.append_ #[t, X] ty #[.slice base sLen sCap, xv]).run (P ()) w = .ok (.slice base (sLen + m) sCap) w' := by
  obtain ⟨h1, h2⟩ := hx w rfl
  rcases hX with ⟨e', hX⟩ | hX
  · cases base with
    | none => simp only at hst; subst hst; simp [Builtin.append_, run_underlying ht, run_underlying hX, run_size hi, h1, hroom, h2]
    | some a => simp only at hst; simp [Builtin.append_, run_underlying ht, run_underlying hX, run_size hi, h1, hroom, h2, hst]
  · cases base with
    | none => simp only at hst; subst hst; simp [Builtin.append_, run_underlying ht, run_underlying hX, run_size hi, h1, hroom, h2]
    | some a => simp only at hst; simp [Builtin.append_, run_underlying ht, run_underlying hX, run_size hi, h1, hroom, h2, hst]

/-- The model's append where a new row is laid. -/
theorem app_grow {t X ty e : TypeId} {i : TypeInfo} {z : Value} {w : World} {base : Option Addr} {sLen sCap m : Nat} {xv : Value} {olds news : List Value} (ht : (P ()).underlying t = some (.slice e)) (hX : (∃ e', (P ()).underlying X = some (.slice e')) ∨ (P ()).underlying X = some .string)
    (hi : (P ()).info? e = some i) (hz : i.zero = some z) (hx : Content (P ()) w i.size xv m news) (hold : Content (P ()) w i.size (.slice base sLen sCap) sLen olds) (hroom : sCap < sLen + m)
    (hb : 0 < i.bytes) (hsz : (sLen + m) * i.bytes ≤ 1099511627776) :
    (Builtin.append_ #[t, X] ty #[.slice base sLen sCap, xv]).run (P ()) w = .ok (.slice (some ⟨w.heap.size, 0, none⟩) (sLen + m) (grownCap w (sLen + m) sCap e))
      (w.drew.alloc (.cells ((⟨olds⟩ : Array Value) ++ ⟨news⟩ ++ Builtin.zeroCells z.cells (grownCap w (sLen + m) sCap e - (sLen + m))) e)) := by
  obtain ⟨h1, h2⟩ := hx w rfl
  obtain ⟨_, g2⟩ := hx w.drew rfl
  obtain ⟨_, o2⟩ := hold w.drew rfl
  have hn : ¬ (sLen + m ≤ sCap) := by omega
  have hle : sLen + m ≤ (sLen + m) * i.bytes := Nat.le_mul_of_pos_right _ hb
  have h63 : ¬ (9223372036854775807 < ((sLen : Int) + (m : Int))) := by omega
  have h48 := growslice_fits (need := sLen + m) (old := sCap) (bytes := i.bytes) (by omega) (by omega)
  have h48' : ¬ (281474976710656 < Builtin.nextslicecap (sLen + m) sCap * i.bytes) := by omega
  have ea : ∀ zs : Array Value, (⟨olds⟩ : Array Value) ++ ((⟨news⟩ : Array Value) ++ zs) = (olds ++ news).toArray ++ zs := by
    intro zs; apply Array.ext'; simp
  rcases hX with ⟨e', hX⟩ | hX
  · simp [Builtin.append_, run_underlying ht, run_underlying hX, run_size hi, run_info hi, zeroValue, hz, h1, hn, h63, h48', Question.forced, g2, o2, newRow, grownCap, ea]
  · simp [Builtin.append_, run_underlying ht, run_underlying hX, run_size hi, run_info hi, zeroValue, hz, h1, hn, h63, h48', Question.forced, g2, o2, newRow, grownCap, ea]

theorem zero_cells_size {z : Value} {i : TypeInfo} (hz : (i.zero.map fun z => z.cells.size) = some i.size) (h : i.zero = some z) (n : Nat) : (Builtin.zeroCells z.cells n).size = n * i.size := by
  rw [h] at hz
  simp only [Option.map_some, Option.some.injEq] at hz
  rw [size_zeroCells, hz]

/-- The cells of a row that append lays anew. -/
theorem grown_cells {S : St} {es n cap : Nat} {xs : List AV} {us : List Value} {zs : Array Value} {cl : Bool} (h : Flat S es xs us cl) (hn : xs.length = n) (hz : zs.size = (cap - n) * es) (hc : n ≤ cap) :
    cap * es ≤ ((⟨us⟩ : Array Value) ++ zs).size ∧ ∀ (i : Nat) x (k : Nat) c cv, xs[i]? = some x → x.cells[k]? = some c → ((⟨us⟩ : Array Value) ++ zs)[i * es + k]? = some cv → Rel S c cv ∧ (cl = true → DRel S c cv) := by
  refine ⟨?_, fun i x k c cv hx hk hcv => ?_⟩
  · have : (⟨us⟩ : Array Value).size = n * es := by rw [← hn]; exact h.len
    rw [Array.size_append, this, hz, ← Nat.add_mul]
    exact Nat.mul_le_mul_right _ (by omega)
  · have hlt := h.cell hx hk
    rw [Array.getElem?_append_left (by simpa using hlt)] at hcv
    exact h.rel i x k c cv hx hk (by simpa using hcv)

theorem below_grown {S : St} (hS : HeapOk S) (o : Obj) : Below S.base S.w (S.w.drew.alloc o) := (Below.refl _ _).drew.alloc hS.base o
end
end Go.Av
