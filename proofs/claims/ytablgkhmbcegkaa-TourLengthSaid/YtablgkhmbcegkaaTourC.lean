/- THE LENGTH OF AN ORDER. -/
import Derived.Test.YtablgkhmbcegkaaTvB
namespace Go.Av
open Go.Proofs

theorem ev16 (ax ay bx by_ : Int) (h : Sp.inM ax ∧ Sp.inM ay ∧ Sp.inM bx ∧ Sp.inM by_) : Ev M1 (.pure 16 [.agg [.int .i64 ax, .int .i64 ay], .agg [.int .i64 bx, .int .i64 by_]]) (.int .i64 (Sp.dist ax ay bx by_)) [] :=
  call16 (v16 ax ay bx by_ _ ⟨⟨h.1, h.2.2.1⟩, ⟨h.2.1, h.2.2.2⟩, rfl⟩)

namespace Sp
def dAt (gs : List G2) (i j : Int) : Int := dist (gs.getD i.toNat default).x (gs.getD i.toNat default).y (gs.getD j.toNat default).x (gs.getD j.toNat default).y
/-- The length of the way over positions. -/
def way (gs : List G2) : List Int → Int
  | [] => 0
  | [_] => 0
  | x :: y :: o => dAt gs x y + way gs (y :: o)
/-- Positions in the range of the machine. -/
def okG (gs : List G2) : Prop := ∀ g ∈ gs, inM g.x ∧ inM g.y
/-- Numbers of positions. -/
def okO (gs : List G2) (o : List Int) : Prop := ∀ x ∈ o, 0 ≤ x ∧ x < gs.length
end Sp

theorem dist_le {ax ay bx by_ : Int} (h : Sp.inM ax ∧ Sp.inM ay ∧ Sp.inM bx ∧ Sp.inM by_) : 0 ≤ Sp.dist ax ay bx by_ ∧ Sp.dist ax ay bx by_ ≤ 20000000 := by
  simp only [Sp.inM] at h
  unfold Sp.dist Sp.gap
  (repeat' split) <;> omega

theorem okG_at {gs : List G2} (h : Sp.okG gs) (k : Nat) : Sp.inM (gs.getD k default).x ∧ Sp.inM (gs.getD k default).y := by
  by_cases hk : k < gs.length
  · exact h _ (getD_mem hk)
  · have : gs.getD k default = default := by simp [List.getD_eq_getElem?_getD, List.getElem?_eq_none (by omega : gs.length ≤ k)]
    rw [this]
    exact ⟨by show Sp.inM 0; simp [Sp.inM], by show Sp.inM 0; simp [Sp.inM]⟩

theorem dAt_le {gs : List G2} (h : Sp.okG gs) (i j : Int) : 0 ≤ Sp.dAt gs i j ∧ Sp.dAt gs i j ≤ 20000000 :=
  dist_le ⟨(okG_at h _).1, (okG_at h _).2, (okG_at h _).1, (okG_at h _).2⟩

theorem check_okG {gs : List G2} {m : Int} (h : Sp.checkE gs m = 0) : Sp.okG gs ∧ (gs.length : Int) ≤ m := by
  unfold Sp.checkE at h
  split at h
  · simp at h
  · split at h
    · simp at h
    · rename_i h1 h2
      refine ⟨fun g hg => ?_, by omega⟩
      have hb : ¬Sp.badG g = true := fun k => h2 (List.any_eq_true.2 ⟨g, hg, k⟩)
      simp only [Sp.badG, Bool.or_eq_true, decide_eq_true_eq, not_or] at hb
      exact ⟨⟨by omega, by omega⟩, ⟨by omega, by omega⟩⟩

theorem way_le {gs : List G2} (h : Sp.okG gs) : ∀ (o : List Int), 0 ≤ Sp.way gs o ∧ Sp.way gs o ≤ 20000000 * o.length
  | [] => by simp [Sp.way]
  | [_] => by simp [Sp.way]
  | x :: y :: o => by
    have h1 := way_le h (y :: o)
    have h2 := dAt_le h x y
    simp only [Sp.way, List.length_cons] at *
    omega

theorem loop30 {fl fm : Bool} {gs : List G2} {o : List Int} {dq : AV} (hg : Sp.okG gs) (ho : Sp.okO gs o) (hl : o.length ≤ 1000) : ∀ (k i : Nat) (s : Int), i + 1 + k = o.length → 0 ≤ s → s + 20000000 * k ≤ 20000000000 → AV.int .i64 (s + Sp.way gs (o.drop i)) = dq → v30a_at fl fm gs o s (i + 1 : Nat) (PureQ dq) := by
  intro k
  induction k with
  | zero =>
    intro i s hi h0 h1 hq
    rw [drop_getD (show i < o.length by omega), List.drop_eq_nil_of_le (by omega), Sp.way, Int.add_zero] at hq
    exact v30a _ _ _ _ _ _ _ ⟨fun h => by omega, fun _ => hq⟩
  | succ k ih =>
    intro i s hi h0 h1 hq
    rw [drop_getD (show i < o.length by omega), drop_getD (show i + 1 < o.length by omega), Sp.way, ← drop_getD (show i + 1 < o.length by omega)] at hq
    have m1 := ho _ (getD_mem (show i < o.length by omega))
    have m2 := ho _ (getD_mem (show i + 1 < o.length by omega))
    have hd := dAt_le hg (o.getD i default) (o.getD (i + 1) default)
    have e1 : (((i + 1 : Nat) : Int) - 1).toNat = i := by omega
    refine v30a _ _ _ _ _ _ _ ⟨fun _ => ?_, fun h => by omega⟩
    rw [e1, Int.toNat_natCast]
    refine ⟨by omega, ⟨(okG_at hg _).1, (okG_at hg _).2, (okG_at hg _).1, (okG_at hg _).2⟩, by omega, by omega, m1.1, by omega, by omega, by omega, m2.1, by omega, ?_, by omega, ?_⟩
    · show -9223372036854775808 ≤ s + Sp.dAt gs (o.getD i default) (o.getD (i + 1) default) ∧ s + Sp.dAt gs (o.getD i default) (o.getD (i + 1) default) ≤ 9223372036854775807
      omega
    · have := ih (i + 1) (s + Sp.dAt gs (o.getD i default) (o.getD (i + 1) default)) (by omega) (by omega) (by omega) (by rw [← hq, Int.add_assoc])
      exact this

theorem ev30 (fl fm : Bool) (gs : List G2) (o : List Int) (hg : Sp.okG gs) (ho : Sp.okO gs o) (hl : o.length ≤ 1000) : Ev M1 (.pure 30 [gsA fl gs, isA fm o]) (.int .i64 (Sp.way gs o)) [] := by
  refine call30 (v30 fl fm gs o _ ?_)
  cases o with
  | nil => exact v30a _ _ _ _ _ _ _ ⟨fun h => by simp at h, fun _ => rfl⟩
  | cons x o => exact loop30 hg ho hl o.length 0 0 (by simp; omega) (by omega) (by simp at hl; omega) (by simp)

theorem ev11 (fl : Bool) (gs : List G2) (m : Int) : Ev M1 (.pure 11 [gsA fl gs, .int .i64 m]) (.bool (bif decide ((gs.length : Int) ≤ m) then true else bif decide ((gs.length : Int) > 199) then decide ((gs.length : Int) < 203) else false)) [] :=
  call11 (v11 fl gs m _ rfl)
theorem ev14 (fl : Bool) (gs : List G2) (m : Int) (hl : gs.length ≤ 1000000) : Ev M1 (.pure 14 [gsA fl gs, .int .i64 m]) (.bool (Sp.checkE gs m == 0)) [] :=
  call14 (v14 fl gs m _ ⟨hl, rfl⟩)
end Go.Av
