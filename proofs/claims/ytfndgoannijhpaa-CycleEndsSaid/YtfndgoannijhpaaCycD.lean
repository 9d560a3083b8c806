/- WHAT 'Travel' ANSWERS, of the program and of the reference. -/
import Derived.Test.YtfndgoannijhpaaVcC
namespace Go.Av
open Go.Proofs

theorem drop_getD {α : Type} [Inhabited α] {d : List α} {i : Nat} (h : i < d.length) : d.drop i = d.getD i default :: d.drop (i + 1) := by
  rw [List.drop_eq_getElem_cons h]; simp [h]
theorem getD_mem {α : Type} [Inhabited α] {d : List α} {i : Nat} (h : i < d.length) : d.getD i default ∈ d := by
  simp [h]

def Sp.trav (r : Int) : List Int → Int
  | [] => 0
  | x :: l => 2 * (r - x) + Sp.trav r l
def Sp.travel (code r z q rate ini : Int) (high : Bool) : Int :=
  if validE code r z q rate ini = 0 then (if high = true then (ini - r) * 2 else ini - r) + Sp.trav r (Sp.depths code r z q rate ini) else 0

theorem Sp.peck_spec (q z : Int) (hq : 1 ≤ q) : ∀ (m : Nat) (h : Int), (Sp.peck q z m h).length ≤ m ∧ ∀ x ∈ Sp.peck q z m h, z < x ∧ x ≤ h
  | 0, _ => by simp [Sp.peck]
  | m + 1, h => by
    unfold Sp.peck
    split
    · obtain ⟨h1, h2⟩ := Sp.peck_spec q z hq m (h - q)
      refine ⟨by simp; omega, fun x hx => ?_⟩
      rcases List.mem_cons.1 hx with rfl | hx
      · omega
      · have := h2 x hx; omega
    · simp

theorem Sp.depths_spec {code r z q rate ini : Int} (hv : validE code r z q rate ini = 0) :
    (Sp.depths code r z q rate ini).length ≤ 1001 ∧ Sp.depths code r z q rate ini ≠ [] ∧ ∀ x ∈ Sp.depths code r z q rate ini, z ≤ x ∧ x < r := by
  obtain ⟨f1, f2, f3, f4, f5, f6, f7, f8, f9⟩ := valid_facts hv
  unfold Sp.depths
  rw [if_pos hv]
  split
  · rename_i hc
    obtain ⟨g1, g2, g3⟩ := f8 hc
    obtain ⟨p1, p2⟩ := Sp.peck_spec q z g1 1000 (r - q)
    refine ⟨by simp; omega, by simp, fun x hx => ?_⟩
    rcases List.mem_append.1 hx with hx | hx
    · have := p2 x hx; omega
    · simp at hx; omega
  · refine ⟨by simp, by simp, fun x hx => ?_⟩
    simp at hx; omega

theorem loop19 (code r z q rate ini : Int) (high : Bool) (d : List Int) (hr : -10000000 ≤ r ∧ r ≤ 10000000) (hd : ∀ x ∈ d, -10000000 ≤ x ∧ x ≤ 10000000) (hl : d.length ≤ 1001) {dq : AV} : ∀ (m i : Nat) (s : Int), i + m = d.length →
    -100000000000 + m * 40000000 ≤ s → s + m * 40000000 ≤ 100000000000 →
    AV.tup [.int .i64 (s + Sp.trav r (d.drop i)), .int .i64 0] = dq → v19a_at code r z q rate ini high d s d.length i (PureQ dq) := by
  intro m
  induction m with
  | zero =>
    intro i s hi h1 h2 hQ
    refine v19a _ _ _ _ _ _ _ _ _ _ _ dq ⟨fun h => by omega, fun _ => ?_⟩
    rwa [List.drop_eq_nil_of_le (by omega), Sp.trav, Int.add_zero] at hQ
  | succ m ih =>
    intro i s hi h1 h2 hQ
    have hlt : i < d.length := by omega
    have hx := hd _ (getD_mem hlt)
    rw [drop_getD hlt, Sp.trav] at hQ
    refine v19a _ _ _ _ _ _ _ _ _ _ _ dq ⟨fun _ => ⟨by omega, by omega, ?_⟩, fun h => by omega⟩
    simp only [Int.toNat_natCast]
    refine ⟨by omega, by omega, by omega, by omega, ih (i + 1) _ (by omega) (by omega) (by omega) ?_⟩
    rwa [Int.add_assoc]

theorem loop20 (code r z q rate ini : Int) (high : Bool) (d : List Int) (hr : -10000000 ≤ r ∧ r ≤ 10000000) (hini : -10000000 ≤ ini ∧ ini ≤ 10000000) (hd : ∀ x ∈ d, -10000000 ≤ x ∧ x ≤ 10000000) (hl : d.length ≤ 1001) {dq : AV} : ∀ (m i : Nat) (s : Int), i + m = d.length →
    -100000000000 + m * 40000000 ≤ s → s + m * 40000000 ≤ 100000000000 →
    AV.tup [.int .i64 (s + Sp.trav r (d.drop i) + (if high = true then ini - r else 0)), .int .i64 0] = dq → v20a_at code r z q rate ini high d s i (PureQ dq) := by
  intro m
  induction m with
  | zero =>
    intro i s hi h1 h2 hQ
    rw [List.drop_eq_nil_of_le (by omega), Sp.trav, Int.add_zero] at hQ
    refine v20a _ _ _ _ _ _ _ _ _ _ dq ⟨fun h => by omega, fun _ => ⟨fun hh => ⟨by omega, by omega, ?_⟩, fun hh => ?_⟩⟩
    · rwa [if_pos hh, ← Int.add_sub_assoc] at hQ
    · rwa [if_neg hh, Int.add_zero] at hQ
  | succ m ih =>
    intro i s hi h1 h2 hQ
    have hlt : i < d.length := by omega
    have hx := hd _ (getD_mem hlt)
    rw [drop_getD hlt, Sp.trav] at hQ
    refine v20a _ _ _ _ _ _ _ _ _ _ dq ⟨fun _ => ⟨by omega, by omega, ?_⟩, fun h => by omega⟩
    simp only [Int.toNat_natCast]
    refine ⟨by omega, by omega, by omega, by omega, ih (i + 1) _ (by omega) (by omega) (by omega) ?_⟩
    rwa [show s + 2 * (r - d.getD i default) + Sp.trav r (d.drop (i + 1)) = s + (2 * (r - d.getD i default) + Sp.trav r (d.drop (i + 1))) by omega]

theorem tup2 {a b c d : Int} (h : a = c) (g : b = d) : AV.tup [.int .i64 a, .int .i64 b] = .tup [.int .i64 c, .int .i64 d] := by rw [h, g]

theorem ev19 (code r z q rate ini : Int) (high : Bool) : Ev M1 (.pure 19 [cyc code r z q rate ini high]) (.tup [.int .i64 (Sp.travel code r z q rate ini high), .int .i64 (validE code r z q rate ini)]) [] := by
  refine call19 (v19 code r z q rate ini high _ ⟨fun h => ?_, fun h => ?_⟩)
  · exact tup2 (by unfold Sp.travel; rw [if_neg h]) rfl
  · have hv := Classical.not_not.1 h
    obtain ⟨f1, f2, f3, f4, f5, -, -, -, -⟩ := valid_facts hv
    obtain ⟨g1, -, g3⟩ := Sp.depths_spec hv
    have hd : ∀ x ∈ Sp.depths code r z q rate ini, -10000000 ≤ x ∧ x ≤ 10000000 := fun x hx => by have := g3 x hx; omega
    refine ⟨by omega, fun hh => ⟨by omega, ?_⟩, fun hh => ?_⟩
    · refine loop19 code r z q rate ini high _ f2 hd g1 _ 0 _ (Nat.zero_add _) (by omega) (by omega) (tup2 ?_ hv.symm)
      unfold Sp.travel; rw [if_pos hv, if_pos hh, List.drop_zero]
    · refine loop19 code r z q rate ini high _ f2 hd g1 _ 0 _ (Nat.zero_add _) (by omega) (by omega) (tup2 ?_ hv.symm)
      unfold Sp.travel; rw [if_pos hv, if_neg hh, List.drop_zero]

theorem ev20 (code r z q rate ini : Int) (high : Bool) : Ev M1 (.pure 20 [cyc code r z q rate ini high]) (.tup [.int .i64 (Sp.travel code r z q rate ini high), .int .i64 (validE code r z q rate ini)]) [] := by
  refine call20 (v20 code r z q rate ini high _ ⟨fun h => ?_, fun h => ?_⟩)
  · exact tup2 (by unfold Sp.travel; rw [if_neg h]) rfl
  · have hv := Classical.not_not.1 h
    obtain ⟨f1, f2, f3, f4, f5, -, -, -, -⟩ := valid_facts hv
    obtain ⟨g1, -, g3⟩ := Sp.depths_spec hv
    have hd : ∀ x ∈ Sp.depths code r z q rate ini, -10000000 ≤ x ∧ x ≤ 10000000 := fun x hx => by have := g3 x hx; omega
    refine ⟨by omega, loop20 code r z q rate ini high _ f2 f4 hd g1 _ 0 _ (Nat.zero_add _) (by omega) (by omega) (tup2 ?_ hv.symm)⟩
    unfold Sp.travel; rw [if_pos hv, List.drop_zero]
    cases high <;> simp <;> omega

/-- The moves up and down at one position. -/
def Sp.dl (gx gy r rate : Int) : List Int → List Mv → List Mv
  | [], l => l
  | x :: d, l => Sp.dl gx gy r rate d (Sp.toL (Sp.toL l ⟨gx, gy, r⟩ ⟨gx, gy, x⟩ rate) ⟨gx, gy, x⟩ ⟨gx, gy, r⟩ 0)
/-- The moves of a cycle at one position. -/
def Sp.oneL (code r z q rate ini : Int) (high : Bool) (x y h gx gy : Int) (l : List Mv) : List Mv :=
  let top := if r > h then r else h
  let m := Sp.dl gx gy r rate (Sp.depths code r z q rate ini) (Sp.toL (Sp.toL (Sp.toL l ⟨x, y, h⟩ ⟨x, y, top⟩ 0) ⟨x, y, top⟩ ⟨gx, gy, top⟩ 0) ⟨gx, gy, top⟩ ⟨gx, gy, r⟩ 0)
  if high = true then Sp.toL m ⟨gx, gy, r⟩ ⟨gx, gy, ini⟩ 0 else m

theorem toL_bump {l : List Mv} {p q : Ps} {rate : Int} {v : Nat} (h : l.length = v + 1) : (Sp.toL l p q rate).length = Sp.bump v p q + 1 := by
  unfold Sp.toL Sp.bump; split <;> simp [h]
theorem toL_nil {p q : Ps} {rate : Int} (h : ¬p = q) : (Sp.toL [] p q rate).length = 1 := by
  unfold Sp.toL; simp [h]
theorem toL_eq {l : List Mv} {p q : Ps} {rate : Int} (h : p = q) : Sp.toL l p q rate = l := by
  unfold Sp.toL; simp [h]
theorem toL_le (l : List Mv) (p q : Ps) (rate : Int) : (Sp.toL l p q rate).length ≤ l.length + 1 := by
  unfold Sp.toL; split <;> simp
theorem dl_le (gx gy r rate : Int) : ∀ (d : List Int) (l : List Mv), (Sp.dl gx gy r rate d l).length ≤ l.length + 2 * d.length
  | [], l => by simp [Sp.dl]
  | x :: d, l => by
    unfold Sp.dl
    have h1 := dl_le gx gy r rate d (Sp.toL (Sp.toL l ⟨gx, gy, r⟩ ⟨gx, gy, x⟩ rate) ⟨gx, gy, x⟩ ⟨gx, gy, r⟩ 0)
    have h2 := toL_le (Sp.toL l ⟨gx, gy, r⟩ ⟨gx, gy, x⟩ rate) ⟨gx, gy, x⟩ ⟨gx, gy, r⟩ 0
    have h3 := toL_le l ⟨gx, gy, r⟩ ⟨gx, gy, x⟩ rate
    simp only [List.length_cons]; omega

abbrev PathR (gx gy h : Int) (v : Nat) : AV := .agg [.int .i64 gx, .int .i64 gy, .int .i64 h, .row 4 v]
/-- The rows behind 'one', where the path began without moves. -/
abbrev heap41 (code r z q rate ini : Int) (high : Bool) (gx gy h : Int) (l : List Mv) : Heap :=
  [⟨[cyc code r z q rate ini high], 7, 0, false, false⟩, ⟨[PathR gx gy h (l.length - 1)], 4, 0, false, false⟩, ⟨[.agg [.int .i64 gx, .int .i64 gy]], 2, 0, false, false⟩, ⟨[PathR gx gy h (l.length - 1)], 4, 0, false, false⟩, ⟨l.map Mv.a, 7, l.length - 1, false, true⟩]

theorem loop41 (code r z q rate ini : Int) (high : Bool) (gx gy : Int) (d : List Int) (hl : d.length ≤ 1001) {Q : AV → Heap → Prop} : ∀ (m i : Nat) (l : List Mv) (v : Nat), i + m = d.length → l.length = v + 1 → l.length + 2 * m ≤ 900000 →
    (let f := Sp.dl gx gy r rate (d.drop i) l
     let f := if high = true then Sp.toL f ⟨gx, gy, r⟩ ⟨gx, gy, ini⟩ 0 else f
     let h := if high = true then ini else r
     Q (PathR gx gy h (f.length - 1)) (heap41 code r z q rate ini high gx gy h f)) → v41b_at code r z q rate ini high gx gy d i l v Q := by
  intro m
  induction m with
  | zero =>
    intro i l v hi hv hll hQ
    simp only [List.drop_eq_nil_of_le (show d.length ≤ i by omega), Sp.dl] at hQ
    refine v41b _ _ _ _ _ _ _ _ _ _ _ _ _ Q ⟨fun h => by omega, fun _ => ⟨fun hh => ⟨by omega, ?_⟩, fun hh => ?_⟩⟩
    · simp only [if_pos hh, heap41, PathR, toL_bump hv, Nat.add_sub_cancel] at hQ
      exact hQ
    · simp only [if_neg hh, heap41, PathR, hv, Nat.add_sub_cancel] at hQ
      exact hQ
  | succ m ih =>
    intro i l v hi hv hll hQ
    have hlt : i < d.length := by omega
    simp only [drop_getD hlt, Sp.dl] at hQ
    have h3 := toL_le l ⟨gx, gy, r⟩ ⟨gx, gy, d.getD i default⟩ rate
    have h2 := toL_le (Sp.toL l ⟨gx, gy, r⟩ ⟨gx, gy, d.getD i default⟩ rate) ⟨gx, gy, d.getD i default⟩ ⟨gx, gy, r⟩ 0
    refine v41b _ _ _ _ _ _ _ _ _ _ _ _ _ Q ⟨fun _ => ⟨by omega, by omega, by omega, ?_⟩, fun h => by omega⟩
    simp only [Int.toNat_natCast]
    exact ⟨by omega, by omega, ih (i + 1) _ _ (by omega) (toL_bump (toL_bump hv)) (by omega) hQ⟩

theorem evo41 (code r z q rate ini : Int) (high : Bool) (x y h gx gy : Int) (hv : validE code r z q rate ini = 0) :
    Ev M1 (.own 41 [cyc code r z q rate ini high, .agg [.int .i64 x, .int .i64 y, .int .i64 h, .vnil], .agg [.int .i64 gx, .int .i64 gy]] [])
      (PathR gx gy (if high = true then ini else r) ((Sp.oneL code r z q rate ini high x y h gx gy []).length - 1))
      (heap41 code r z q rate ini high gx gy (if high = true then ini else r) (Sp.oneL code r z q rate ini high x y h gx gy [])) := by
  obtain ⟨g1, g2, g3⟩ := Sp.depths_spec hv
  refine own_wp' (owncall41 (v41n code r z q rate ini high x y h gx gy _ ?_))
  have fin : ∀ l v, l.length = v + 1 → l.length ≤ 3 → l = Sp.toL (Sp.toL (Sp.toL [] ⟨x, y, h⟩ ⟨x, y, if r > h then r else h⟩ 0) ⟨x, y, if r > h then r else h⟩ ⟨gx, gy, if r > h then r else h⟩ 0) ⟨gx, gy, if r > h then r else h⟩ ⟨gx, gy, r⟩ 0 →
      v41b_at code r z q rate ini high gx gy (Sp.depths code r z q rate ini) 0 l v (fun a K => a = PathR gx gy (if high = true then ini else r) ((Sp.oneL code r z q rate ini high x y h gx gy []).length - 1) ∧ K = heap41 code r z q rate ini high gx gy (if high = true then ini else r) (Sp.oneL code r z q rate ini high x y h gx gy [])) := by
    intro l v h1 h2 h3
    refine loop41 code r z q rate ini high gx gy _ g1 _ 0 l v (Nat.zero_add _) h1 (by omega) ?_
    simp only [List.drop_zero, h3, Sp.oneL]
    exact ⟨trivial, trivial⟩
  refine ⟨fun e1 => ⟨fun e2 => ⟨fun e3 => ?_, fun e3 => ?_⟩, fun e2 => ?_⟩, fun e1 => ?_⟩
  · -- nothing has been moved up to the first depth
    obtain ⟨d, ds, hd⟩ := List.exists_cons_of_ne_nil g2
    have hdr : d < r := (g3 d (by rw [hd]; simp)).2
    have h0 : (Sp.depths code r z q rate ini).getD 0 default = d := by rw [hd]; rfl
    have hne : ¬(⟨gx, gy, r⟩ : Ps) = ⟨gx, gy, d⟩ := by simp; omega
    refine v41a _ _ _ _ _ _ _ _ _ _ _ _ ⟨fun _ => ⟨fun e => ?_, fun _ => ?_⟩, fun e => ?_⟩
    · have e4 := e.2.2
      simp only [Int.toNat_zero, h0] at e4
      omega
    · have hlen : (Sp.depths code r z q rate ini).length ≠ 0 := by simp [hd]
      simp only [Int.toNat_zero, h0]
      have t1 := toL_nil (rate := rate) hne
      refine ⟨by omega, by omega, by omega, by omega, ?_⟩
      have hvv : (Sp.toL (Sp.toL [] ⟨gx, gy, r⟩ ⟨gx, gy, d⟩ rate) ⟨gx, gy, d⟩ ⟨gx, gy, r⟩ 0).length = Sp.bump 0 ⟨gx, gy, d⟩ ⟨gx, gy, r⟩ + 1 := toL_bump t1
      have t2 := toL_le (Sp.toL [] ⟨gx, gy, r⟩ ⟨gx, gy, d⟩ rate) ⟨gx, gy, d⟩ ⟨gx, gy, r⟩ 0
      refine loop41 code r z q rate ini high gx gy _ g1 ((Sp.depths code r z q rate ini).length - 1) 1 _ _ (by omega) hvv (by omega) ?_
      have hone : Sp.dl gx gy r rate ((Sp.depths code r z q rate ini).drop 1) (Sp.toL (Sp.toL [] ⟨gx, gy, r⟩ ⟨gx, gy, d⟩ rate) ⟨gx, gy, d⟩ ⟨gx, gy, r⟩ 0) = Sp.dl gx gy r rate (Sp.depths code r z q rate ini) [] := by
        rw [hd]; rfl
      have p1 : Sp.toL [] ⟨x, y, h⟩ ⟨x, y, if r > h then r else h⟩ 0 = [] := toL_eq (by rw [Ps.mk.injEq]; exact e1)
      have p2 : Sp.toL [] ⟨x, y, if r > h then r else h⟩ ⟨gx, gy, if r > h then r else h⟩ 0 = [] := toL_eq (by rw [Ps.mk.injEq]; exact e2)
      have p3 : Sp.toL [] ⟨gx, gy, if r > h then r else h⟩ ⟨gx, gy, r⟩ 0 = [] := toL_eq (by rw [Ps.mk.injEq]; exact e3)
      simp only [hone, Sp.oneL, p1, p2, p3]
      exact ⟨trivial, trivial⟩
    · have : (Sp.depths code r z q rate ini).length ≠ 0 := by simp [hd]
      omega
  · have p1 : Sp.toL [] ⟨x, y, h⟩ ⟨x, y, if r > h then r else h⟩ 0 = [] := toL_eq (by rw [Ps.mk.injEq]; exact e1)
    have p2 : Sp.toL [] ⟨x, y, if r > h then r else h⟩ ⟨gx, gy, if r > h then r else h⟩ 0 = [] := toL_eq (by rw [Ps.mk.injEq]; exact e2)
    have hne : ¬(⟨gx, gy, if r > h then r else h⟩ : Ps) = ⟨gx, gy, r⟩ := by rw [Ps.mk.injEq]; exact e3
    have t1 := toL_nil (rate := 0) hne
    exact fin _ 0 t1 (by omega) (by rw [p1, p2])
  · have p1 : Sp.toL [] ⟨x, y, h⟩ ⟨x, y, if r > h then r else h⟩ 0 = [] := toL_eq (by rw [Ps.mk.injEq]; exact e1)
    have hne : ¬(⟨x, y, if r > h then r else h⟩ : Ps) = ⟨gx, gy, if r > h then r else h⟩ := by rw [Ps.mk.injEq]; exact e2
    have t1 := toL_nil (rate := 0) hne
    have t2 := toL_le (Sp.toL [] ⟨x, y, if r > h then r else h⟩ ⟨gx, gy, if r > h then r else h⟩ 0) ⟨gx, gy, if r > h then r else h⟩ ⟨gx, gy, r⟩ 0
    exact ⟨by omega, fin _ _ (toL_bump t1) (by omega) (by rw [p1])⟩
  · have hne : ¬(⟨x, y, h⟩ : Ps) = ⟨x, y, if r > h then r else h⟩ := by rw [Ps.mk.injEq]; exact e1
    have t1 := toL_nil (rate := 0) hne
    have t2 := toL_le (Sp.toL [] ⟨x, y, h⟩ ⟨x, y, if r > h then r else h⟩ 0) ⟨x, y, if r > h then r else h⟩ ⟨gx, gy, if r > h then r else h⟩ 0
    have t3 := toL_le (Sp.toL (Sp.toL [] ⟨x, y, h⟩ ⟨x, y, if r > h then r else h⟩ 0) ⟨x, y, if r > h then r else h⟩ ⟨gx, gy, if r > h then r else h⟩ 0) ⟨gx, gy, if r > h then r else h⟩ ⟨gx, gy, r⟩ 0
    exact ⟨by omega, by omega, fin _ _ (toL_bump (toL_bump t1)) (by omega) rfl⟩
end Go.Av
