/- WHAT slices.Clone AND Same ANSWER. -/
import Derived.Test.YtfndgoannijhpaaVcG
namespace Go.Av
open Go.Proofs

theorem weak_nil (es : Nat) : Weak .vnil (.vec false es []) := .vnil es
theorem weak_full (es : Nat) (xs : List AV) : Weak (.vec true es xs) (.vec false es xs) := .full es xs

/-- slices.Clone. -/
theorem ev18 (fl : Bool) (xs : List AV) (hl : xs.length < 1000000) : Ev M1 (.pure 18 [.vec fl 2 xs]) (.vec false 2 xs) [] := by
  cases xs with
  | nil => exact call18 (v18n fl _ ⟨.vnil 2, .full 2 []⟩)
  | cons x xs => exact call18 (v18c fl x xs _ ⟨by simp at hl; omega, .refl _⟩)

theorem loop30 {f g : Bool} {l m : List Mv} {dq : AV} (hl : l.length = m.length) (hb : l.length < 1000000) : ∀ (k i : Nat), i + k = l.length → AV.bool (decide (l.drop i = m.drop i)) = dq → v30a_at f g l m i (PureQ dq) := by
  intro k
  induction k with
  | zero =>
    intro i hi hq
    rw [List.drop_eq_nil_of_le (by omega), List.drop_eq_nil_of_le (by omega)] at hq
    exact v30a _ _ _ _ _ _ ⟨fun h => by omega, fun _ => by simpa using hq⟩
  | succ k ih =>
    intro i hi hq
    rw [drop_getD (show i < l.length by omega), drop_getD (show i < m.length by omega)] at hq
    simp only [List.cons.injEq] at hq
    refine v30a _ _ _ _ _ _ ⟨fun _ => ⟨by omega, by omega, by omega, ?_⟩, fun h => by omega⟩
    rw [Int.toNat_natCast]
    have e : l.getD i default = m.getD i default ↔ (((l.getD i default).kind = (m.getD i default).kind) ∧ ((((l.getD i default).p.x = (m.getD i default).p.x) ∧ (((l.getD i default).p.y = (m.getD i default).p.y) ∧ ((l.getD i default).p.z = (m.getD i default).p.z))) ∧ ((l.getD i default).rate = (m.getD i default).rate))) := by
      generalize l.getD i default = a
      generalize m.getD i default = b
      obtain ⟨k, ⟨x, y, z⟩, r⟩ := a
      obtain ⟨k', ⟨x', y', z'⟩, r'⟩ := b
      simp only [Mv.mk.injEq, Ps.mk.injEq]
    rw [← e]
    refine ⟨fun hn => ?_, fun hn => ⟨by omega, ?_⟩⟩
    · rw [← hq]; simp only [hn, false_and, decide_false]
    · have hn := Classical.not_not.1 hn
      refine ih (i + 1) (by omega) ?_
      rw [← hq]; simp only [hn, true_and]

/-- Same. -/
theorem ev30 (f g : Bool) (l m : List Mv) (hb : l.length < 1000000) : Ev M1 (.pure 30 [.vec f 7 (l.map Mv.a), .vec g 7 (m.map Mv.a)]) (.bool (decide (l = m))) [] := by
  refine call30 (v30 f g l m _ ⟨fun h => ?_, fun h => ?_⟩)
  · have : ¬l = m := by rintro rfl; exact h rfl
    simp [this]
  · have hl : l.length = m.length := by omega
    exact loop30 hl hb _ 0 (Nat.zero_add _) (by simp)
end Go.Av
