/- 'CycleTravel': the moves of the reference, and the sum of their differences of heights. -/
import Derived.Test.YtfndgoannijhpaaVcD
namespace Go.Av
open Go.Proofs

theorem weak_tup1 {n : Int} {es : Nat} : Weak (.tup [.vnil, .int .i64 n]) (.tup [.vec false es [], .int .i64 n]) :=
  .tup _ _ rfl fun i x y hx hy => by
    match i with
    | 0 => simp at hx hy; subst hx; subst hy; exact .vnil es
    | 1 => simp at hx hy; subst hx; subst hy; exact .refl _
    | i + 2 => simp at hx

/-- The height behind moves. -/
def Sp.endZ (z : Int) : List Mv → Int
  | [] => z
  | m :: l => Sp.endZ m.p.z l
def Sp.absum (z : Int) : List Mv → Int
  | [] => 0
  | m :: l => (if m.p.z - z > z - m.p.z then m.p.z - z else z - m.p.z) + Sp.absum m.p.z l

theorem endZ_app (m : Mv) : ∀ (l : List Mv) (z : Int), Sp.endZ z (l ++ [m]) = m.p.z
  | [], _ => rfl
  | a :: l, _ => endZ_app m l a.p.z
theorem absum_app (m : Mv) : ∀ (l : List Mv) (z : Int), Sp.absum z (l ++ [m]) = Sp.absum z l + (if m.p.z - Sp.endZ z l > Sp.endZ z l - m.p.z then m.p.z - Sp.endZ z l else Sp.endZ z l - m.p.z)
  | [], z => by simp [Sp.absum, Sp.endZ]
  | a :: l, z => by
    have := absum_app m l a.p.z
    simp only [List.cons_append, Sp.absum, Sp.endZ, this]; omega

theorem toL_z {l : List Mv} {p q : Ps} {rate z : Int} (h : Sp.endZ z l = p.z) : Sp.endZ z (Sp.toL l p q rate) = q.z ∧
    Sp.absum z (Sp.toL l p q rate) = Sp.absum z l + (if q.z > p.z then q.z - p.z else p.z - q.z) := by
  unfold Sp.toL
  split
  · rename_i e; subst e
    refine ⟨h, ?_⟩
    split <;> omega
  · rw [endZ_app, absum_app, h]
    refine ⟨rfl, ?_⟩
    simp only
    (repeat' split) <;> omega

theorem dl_z (gx gy r rate z : Int) : ∀ (d : List Int) (l : List Mv), (∀ x ∈ d, x < r) → Sp.endZ z l = r → Sp.endZ z (Sp.dl gx gy r rate d l) = r ∧ Sp.absum z (Sp.dl gx gy r rate d l) = Sp.absum z l + Sp.trav r d
  | [], l, _, h => by simp [Sp.dl, Sp.trav, h]
  | x :: d, l, hd, h => by
    have hx := hd x (by simp)
    obtain ⟨a1, a2⟩ := toL_z (l := l) (p := ⟨gx, gy, r⟩) (q := ⟨gx, gy, x⟩) (rate := rate) h
    obtain ⟨b1, b2⟩ := toL_z (l := Sp.toL l ⟨gx, gy, r⟩ ⟨gx, gy, x⟩ rate) (p := ⟨gx, gy, x⟩) (q := ⟨gx, gy, r⟩) (rate := 0) a1
    obtain ⟨c1, c2⟩ := dl_z gx gy r rate z d _ (fun y hy => hd y (by simp [hy])) b1
    unfold Sp.dl
    refine ⟨c1, ?_⟩
    rw [c2, b2, a2]
    simp only [Sp.trav]
    (repeat' split) <;> omega

theorem toL_range {P : Int → Prop} {l : List Mv} {p q : Ps} {rate : Int} (h : ∀ m ∈ l, P m.p.z) (hq : P q.z) : ∀ m ∈ Sp.toL l p q rate, P m.p.z := by
  unfold Sp.toL
  split
  · exact h
  · intro m hm
    rcases List.mem_append.1 hm with hm | hm
    · exact h m hm
    · simp at hm; subst hm; exact hq

theorem dl_range {P : Int → Prop} (gx gy r rate : Int) (hr : P r) : ∀ (d : List Int) (l : List Mv), (∀ x ∈ d, P x) → (∀ m ∈ l, P m.p.z) → ∀ m ∈ Sp.dl gx gy r rate d l, P m.p.z
  | [], l, _, h => h
  | x :: d, l, hd, h => dl_range gx gy r rate hr d _ (fun y hy => hd y (by simp [hy])) (toL_range (toL_range h (hd x (by simp))) hr)

theorem one_travel {code r z q rate ini : Int} {high : Bool} {gx gy : Int} (hv : validE code r z q rate ini = 0) :
    Sp.absum ini (Sp.oneL code r z q rate ini high gx gy ini gx gy []) = Sp.travel code r z q rate ini high ∧
    (∀ m ∈ Sp.oneL code r z q rate ini high gx gy ini gx gy [], -10000000 ≤ m.p.z ∧ m.p.z ≤ 10000000) ∧ (Sp.oneL code r z q rate ini high gx gy ini gx gy []).length ≤ 3000 := by
  obtain ⟨f1, f2, f3, f4, f5, -, -, -, -⟩ := valid_facts hv
  obtain ⟨g1, g2, g3⟩ := Sp.depths_spec hv
  have htop : (if r > ini then r else ini) = ini := by split <;> omega
  have p1 : ∀ rate, Sp.toL [] ⟨gx, gy, ini⟩ ⟨gx, gy, ini⟩ rate = [] := fun rate => toL_eq rfl
  obtain ⟨a1, a2⟩ := toL_z (z := ini) (l := []) (p := ⟨gx, gy, ini⟩) (q := ⟨gx, gy, r⟩) (rate := 0) rfl
  obtain ⟨b1, b2⟩ := dl_z gx gy r rate ini (Sp.depths code r z q rate ini) _ (fun x hx => (g3 x hx).2) a1
  obtain ⟨c1, c2⟩ := toL_z (p := ⟨gx, gy, r⟩) (q := ⟨gx, gy, ini⟩) (rate := 0) b1
  have r1 := dl_range (P := fun z => -10000000 ≤ z ∧ z ≤ 10000000) gx gy r rate f2 (Sp.depths code r z q rate ini) (Sp.toL [] ⟨gx, gy, ini⟩ ⟨gx, gy, r⟩ 0) (fun x hx => by have := g3 x hx; omega) (toL_range (P := fun z => -10000000 ≤ z ∧ z ≤ 10000000) (l := []) (fun m hm => by simp at hm) f2)
  have l1 := dl_le gx gy r rate (Sp.depths code r z q rate ini) (Sp.toL [] ⟨gx, gy, ini⟩ ⟨gx, gy, r⟩ 0)
  have l2 := toL_le [] ⟨gx, gy, ini⟩ ⟨gx, gy, r⟩ 0
  have l3 := toL_le (Sp.dl gx gy r rate (Sp.depths code r z q rate ini) (Sp.toL [] ⟨gx, gy, ini⟩ ⟨gx, gy, r⟩ 0)) ⟨gx, gy, r⟩ ⟨gx, gy, ini⟩ 0
  unfold Sp.oneL Sp.travel
  rw [if_pos hv]
  simp only [htop, p1]
  simp only [Sp.absum] at a2
  split
  · refine ⟨?_, toL_range (P := fun z => -10000000 ≤ z ∧ z ≤ 10000000) r1 f4, by simp at l2; omega⟩
    rw [c2, b2, a2]
    simp only
    (repeat' split) <;> omega
  · refine ⟨?_, r1, by simp at l2; omega⟩
    rw [b2, a2]
    (repeat' split) <;> omega

theorem loop5 {dq : AV} (t : Int) (ms : List Mv) (hm : ∀ m ∈ ms, -10000000 ≤ m.p.z ∧ m.p.z ≤ 10000000) (hl : ms.length ≤ 3000) : ∀ (k i : Nat) (s zz : Int), i + k = ms.length → -10000000 ≤ zz ∧ zz ≤ 10000000 →
    0 ≤ s → s + k * 40000000 ≤ 1000000000000 → AV.bool (t == s + Sp.absum zz (ms.drop i)) = dq → v5a_at t s zz ms.length i ms (PureQ dq) := by
  intro k
  induction k with
  | zero =>
    intro i s zz hi hz h1 h2 hQ
    rw [List.drop_eq_nil_of_le (by omega), Sp.absum, Int.add_zero] at hQ
    exact v5a _ _ _ _ _ _ dq ⟨fun h => by omega, fun _ => hQ⟩
  | succ k ih =>
    intro i s zz hi hz h1 h2 hQ
    have hlt : i < ms.length := by omega
    have hx := hm _ (getD_mem hlt)
    rw [drop_getD hlt, Sp.absum] at hQ
    refine v5a _ _ _ _ _ _ dq ⟨fun _ => ⟨by omega, by omega, ?_⟩, fun h => by omega⟩
    simp only [Int.toNat_natCast]
    have hif : 0 ≤ (if (ms.getD i default).p.z - zz > zz - (ms.getD i default).p.z then (ms.getD i default).p.z - zz else zz - (ms.getD i default).p.z) ∧ (if (ms.getD i default).p.z - zz > zz - (ms.getD i default).p.z then (ms.getD i default).p.z - zz else zz - (ms.getD i default).p.z) ≤ 40000000 := by split <;> omega
    refine ⟨by omega, by omega, by omega, by omega, ih (i + 1) _ _ (by omega) hx (by omega) (by omega) ?_⟩
    rwa [Int.add_assoc]

theorem ev21 (code r z q rate ini : Int) (high : Bool) (gx gy : Int) : ∃ ms n, Ev M1 (.pure 21 [cyc code r z q rate ini high, .agg [.int .i64 gx, .int .i64 gy, .int .i64 ini], .vec true 2 [.agg [.int .i64 gx, .int .i64 gy]]]) (.tup [.vec false 7 (ms.map Mv.a), .int .i64 n]) [] ∧
    (validE code r z q rate ini = 0 → n = 0 → ms = Sp.oneL code r z q rate ini high gx gy ini gx gy []) := by
  by_cases hv : validE code r z q rate ini = 0
  · generalize hb : (bif bif (bif bif !(decide (gx > 10000000) || decide (gx < -10000000)) then !(decide (gy > 10000000) || decide (gy < -10000000)) else false then !(decide (ini > 10000000) || decide (ini < -10000000)) else false) then !(decide (gx > 10000000) || decide (gx < -10000000)) else false then !(decide (gy > 10000000) || decide (gy < -10000000)) else false) = b
    cases b with
    | false =>
      refine ⟨[], 11, call21 (v21 code r z q rate ini high gx gy ini gx gy _ ⟨fun h => absurd hv h, fun _ => v21a _ _ _ _ _ _ _ _ _ _ _ _ _ _ (v21b _ _ _ _ _ _ _ _ _ _ _ _ _ _ ?_)⟩), fun _ h => by simp at h⟩
      rw [hb]
      exact ⟨fun _ => weak_tup1, fun h => by simp at h⟩
    | true =>
      by_cases hlen : ((Sp.oneL code r z q rate ini high gx gy ini gx gy []).length : Int) > 20000
      · have := (one_travel (high := high) (gx := gx) (gy := gy) hv).2.2
        omega
      · refine ⟨Sp.oneL code r z q rate ini high gx gy ini gx gy [], 0, call21 (v21 code r z q rate ini high gx gy ini gx gy _ ⟨fun h => absurd hv h, fun _ => v21a _ _ _ _ _ _ _ _ _ _ _ _ _ _ (v21b _ _ _ _ _ _ _ _ _ _ _ _ _ _ ?_)⟩), fun _ _ => rfl⟩
        rw [hb]
        exact ⟨fun h => by simp at h, fun _ => v21c _ _ _ _ _ _ _ _ _ _ _ _ _ ⟨hv, fun h => absurd h hlen, fun _ => v21d _ _ _ _ _ _ _ _ _ _ _ _ _ _ _ (.refl _)⟩⟩
  · exact ⟨[], validE code r z q rate ini, call21 (v21 code r z q rate ini high gx gy ini gx gy _ ⟨fun _ => weak_tup1, fun h => absurd hv h⟩), fun h => absurd h hv⟩

theorem ev5 (code r z q rate ini : Int) (high : Bool) (gx gy : Int) : Ev M1 (.pure 5 [cyc code r z q rate ini high, .agg [.int .i64 gx, .int .i64 gy]]) (.bool true) [] := by
  refine call5 (v5 code r z q rate ini high gx gy _ ⟨fun h => by simp at h, fun _ => ?_⟩)
  obtain ⟨ms, n, h1, h2⟩ := ev21 code r z q rate ini high gx gy
  refine ⟨ms, n, h1, fun _ => rfl, fun h => ?_⟩
  simp only [not_or, Classical.not_not] at h
  obtain ⟨hv, hn⟩ := h
  have := h2 hv hn
  subst this
  obtain ⟨o1, o2, o3⟩ := one_travel (high := high) (gx := gx) (gy := gy) hv
  obtain ⟨-, -, -, f4, -, -, -, -, -⟩ := valid_facts hv
  refine loop5 _ _ o2 o3 _ 0 0 ini (Nat.zero_add _) f4 (by omega) (by omega) ?_
  rw [List.drop_zero, o1, Int.zero_add]; simp
end Go.Av
