/- ROWS THAT ARE NO LONGER LED TO: a run goes on without them. No program in sight. -/
import Derived.Test.YtablgkhmbcegkaaAvUse
import Derived.Test.YtablgkhmbcegkaaAvXfer4
namespace Go.Av

/-- A result that leads to no row: what is read off at the end. -/
def PureQ (d : AV) : AV → Heap → Prop := fun v L => ∃ d0, pureA L v = some d0 ∧ allB (versA L v) ∧ d0.clean = true ∧ Weak d0 d

theorem pq_of {L : Heap} {v d dq : AV} {bs : List Bool} (h1 : pureA L v = some d) (h2 : versA L v = bs) (h3 : allB bs) (h4 : d.clean = true) (h : d = dq) : PureQ dq v L := ⟨d, h1, by rw [h2]; exact h3, h4, by rw [h]; exact .refl _⟩
theorem pq_weak {L : Heap} {v d dq : AV} {bs : List Bool} (h1 : pureA L v = some d) (h2 : versA L v = bs) (h3 : allB bs) (h4 : d.clean = true) (h : Weak d dq) : PureQ dq v L := ⟨d, h1, by rw [h2]; exact h3, h4, h⟩
theorem pure_pq {M : Mach} {f : FuncId} {args : List AV} {d : AV} (fn : Func) (fi : Fi) (hf : (M.P ()).funcs[f]? = some fn) (hb : fn.body = some (cd fn)) (hn : (fn.name == "runtime.NumGoroutine") = false)
    (hi : (⟨fn.ntmps, fn.results.toList⟩ : Fi) = fi) (h : Wp M (.run fi [.code (cd fn)] (argVars 0 args) []) (PureQ d)) : Ev M (.pure f args) d [] :=
  .pure (.mono (own_wp fn fi hf hb hn hi h) fun _ _ ⟨d0, h1, h2, h3, h4⟩ => ⟨d0, d, h1, (allB_iff _).1 h2, h3, h4, rfl, rfl⟩)

mutual
theorem clean_ren (f : Nat → Nat) : ∀ (a : AV), a.clean = true → renA f a = a
  | .any, h => by simp [AV.clean] at h
  | .bool _, _ => rfl
  | .int _ _, _ => rfl
  | .str _, _ => rfl
  | .nilp, _ => rfl
  | .nilf, _ => rfl
  | .vnil, _ => rfl
  | .eptr .., _ => rfl
  | .vec .., _ => rfl
  | .ptr .., h => by simp [AV.clean] at h
  | .row .., h => by simp [AV.clean] at h
  | .ref .., h => by simp [AV.clean] at h
  | .agg cs, h => by simp only [renA, cleanL_ren f cs (by simpa [AV.clean] using h)]
  | .tup cs, h => by simp only [renA, cleanL_ren f cs (by simpa [AV.clean] using h)]
  | .func fn a b, h => by
    simp only [AV.clean, Bool.and_eq_true] at h
    simp only [renA, cleanL_ren f a h.1, cleanL_ren f b h.2]
theorem cleanL_ren (f : Nat → Nat) : ∀ (l : List AV), cleanL l = true → renL f l = l
  | [], _ => rfl
  | c :: l, h => by
    simp only [cleanL, Bool.and_eq_true] at h
    simp only [renL, clean_ren f c h.1, cleanL_ren f l h.2]
end

mutual
theorem pureA_ren {L K : Heap} {f : Nat → Nat} (hb : ∀ (r : Nat) row, L[r]? = some row → K[f r]? = some (renRow f row)) : ∀ (a : AV) {d : AV}, pureA L a = some d → pureA K (renA f a) = some d ∧ versA K (renA f a) = versA L a
  | .any, _, h => by simp [pureA] at h
  | .bool b, _, h => ⟨h, rfl⟩
  | .int k n, _, h => ⟨h, rfl⟩
  | .str s, _, h => ⟨h, rfl⟩
  | .nilp, _, h => ⟨h, rfl⟩
  | .nilf, _, h => ⟨h, rfl⟩
  | .vnil, _, h => ⟨h, rfl⟩
  | .eptr .., _, h => ⟨h, rfl⟩
  | .vec .., _, h => ⟨h, rfl⟩
  | .row r v, _, h => by
    cases hr : L[r]? with
    | none => simp [pureA, hr] at h
    | some row =>
      have h2 := hb r row hr
      obtain ⟨_, s2, _, _, _⟩ := renRow_spec f row
      simp only [pureA, hr] at h
      split at h
      · rename_i hc
        have e : renRow f row = row := by simp [renRow, hc]
        exact ⟨by simp only [renA, pureA, h2, e, hc, if_true]; exact h, by simp only [renA, versA, verOk, h2, hr, s2]⟩
      · simp at h
  | .ref r v lo len, _, h => by
    cases hr : L[r]? with
    | none => simp [pureA, hr] at h
    | some row =>
      have h2 := hb r row hr
      obtain ⟨_, s2, _, _, _⟩ := renRow_spec f row
      simp only [pureA, hr] at h
      split at h
      · rename_i hc
        have e : renRow f row = row := by simp [renRow, hc]
        exact ⟨by simp only [renA, pureA, h2, e, hc, if_true]; exact h, by simp only [renA, versA, verOk, h2, hr, s2]⟩
      · simp at h
  | .ptr r v i j, _, h => by
    cases hr : L[r]? with
    | none => simp [pureA, hr] at h
    | some row =>
      have h2 := hb r row hr
      obtain ⟨s1, s2, _, _, _⟩ := renRow_spec f row
      simp only [pureA, hr] at h
      split at h
      · rename_i x hx
        split at h
        · rename_i hcx
          have e : (renRow f row).elems = [x] := by
            unfold renRow
            cases hc : row.clean with
            | true => simpa using hx
            | false => simp only [cond_false, hx, renL, clean_ren f x hcx]
          exact ⟨by simp only [renA, pureA, h2, e, hcx, s1, if_true]; exact h, by simp only [renA, versA, verOk, h2, hr, s2]⟩
        · simp at h
      · simp at h
  | .agg cs, _, h => by
    cases hr : pureL L cs with
    | none => simp [pureA, hr] at h
    | some ds =>
      obtain ⟨h1, h2⟩ := pureL_ren hb cs hr
      exact ⟨by simpa only [renA, pureA, h1, hr] using h, by simp only [renA, versA, h2]⟩
  | .tup cs, _, h => by
    cases hr : pureL L cs with
    | none => simp [pureA, hr] at h
    | some ds =>
      obtain ⟨h1, h2⟩ := pureL_ren hb cs hr
      exact ⟨by simpa only [renA, pureA, h1, hr] using h, by simp only [renA, versA, h2]⟩
  | .func fn a b, _, h => by
    cases hr : pureL L a with
    | none => simp [pureA, hr] at h
    | some ds =>
      cases hr2 : pureL L b with
      | none => simp [pureA, hr, hr2] at h
      | some ds2 =>
        obtain ⟨h1, h2⟩ := pureL_ren hb a hr
        obtain ⟨h3, h4⟩ := pureL_ren hb b hr2
        exact ⟨by simpa only [renA, pureA, h1, h3, hr, hr2] using h, by simp only [renA, versA, h2, h4]⟩
theorem pureL_ren {L K : Heap} {f : Nat → Nat} (hb : ∀ (r : Nat) row, L[r]? = some row → K[f r]? = some (renRow f row)) : ∀ (l : List AV) {ds : List AV}, pureL L l = some ds → pureL K (renL f l) = some ds ∧ versL K (renL f l) = versL L l
  | [], _, h => ⟨h, rfl⟩
  | c :: l, _, h => by
    cases hr : pureA L c with
    | none => simp [pureL, hr] at h
    | some d =>
      cases hr2 : pureL L l with
      | none => simp [pureL, hr, hr2] at h
      | some ds2 =>
        obtain ⟨h1, h2⟩ := pureA_ren hb c hr
        obtain ⟨h3, h4⟩ := pureL_ren hb l hr2
        exact ⟨by simpa only [renL, pureL, h1, h3, hr, hr2] using h, by simp only [renL, versL, h2, h4]⟩
end

theorem back_at {L L1 : Heap} {rs : List Nat} {rows : List Row} (hrows : getRows L rs = some rows) (hnd : rs.Nodup) (r : Nat) (row : Row) (h : L1[r]? = some row) :
    (backAll L rs L1)[backAt L.length rs r]? = some (renRow (backAt L.length rs) row) := by
  obtain ⟨g1, g2⟩ := getRows_spec hrows
  unfold backAll
  by_cases hlt : r < rs.length
  · have hb : Nat.blt r rs.length = true := Nat.blt_eq.mpr hlt
    have e : backAt L.length rs r = rs[r] := by simp [backAt, hb, hlt]
    obtain ⟨row0, k1, _⟩ := g2 r _ (List.getElem?_eq_getElem hlt)
    have hin : rs[r] < L.length := (List.getElem?_eq_some_iff.1 k1).1
    rw [e, List.getElem?_append_left (by rw [putAt_len]; exact hin)]
    exact putAt_at rs _ _ hnd r _ _ (List.getElem?_eq_getElem hlt) (by rw [List.getElem?_map, List.getElem?_take_of_lt hlt, h]; rfl) hin
  · have hb : Nat.blt r rs.length = false := by
      cases hb : Nat.blt r rs.length with
      | false => rfl
      | true => have := Nat.blt_eq.mp hb; omega
    have e : backAt L.length rs r = L.length + (r - rs.length) := by simp [backAt, hb]
    rw [e, List.getElem?_append_right (by rw [putAt_len]; omega), putAt_len, List.getElem?_map, List.getElem?_drop]
    have e2 : rs.length + (L.length + (r - rs.length) - L.length) = r := by omega
    rw [e2, h]; rfl

/-- A run goes on with some of the rows, where the result leads to none. -/
theorem wp_narrow {M : Mach} {fi : Fi} {k : List Item} {env env' : Vars} {L Lc : Heap} {d : AV} (rs : List Nat) (hn : narrowIn L rs env = some (env', Lc)) (h : Wp M (.run fi k env' Lc) (PureQ d)) : Wp M (.run fi k env L) (PureQ d) := by
  refine .narrow rs env' Lc hn (.mono h fun v L1 ⟨d0, hq1, hq2, hq3, hq4⟩ => ?_)
  unfold narrowIn at hn
  split at hn
  · rename_i rows hrows
    split at hn
    · rename_i hc
      simp only [Bool.and_eq_true] at hc
      obtain ⟨p1, p2⟩ := pureA_ren (back_at (L1 := L1) hrows ((noDup_iff rs).1 hc.1)) v hq1
      exact ⟨d0, p1, by rw [p2]; exact hq2, hq3, hq4⟩
    · simp at hn
  · simp at hn
end Go.Av
