/- WHAT Length ANSWERS. -/
import Derived.Test.YtablgkhmbcegkaaTvC
namespace Go.Av
open Go.Proofs

theorem loop33 {fl fm : Bool} {gs : List G2} {o : List Int} {dq : AV} (hg : Sp.okG gs) (ho : Sp.okO gs o) (hl : o.length ≤ 1000) : ∀ (k i : Nat) (s : Int), i + 1 + k = o.length → 0 ≤ s → s + 20000000 * k ≤ 20000000000 → AV.int .i64 (s + Sp.way gs (o.drop i)) = dq → v33a_at fl fm gs o s (i + 1 : Nat) (PureQ dq) := by
  intro k
  induction k with
  | zero =>
    intro i s hi h0 h1 hq
    rw [drop_getD (show i < o.length by omega), List.drop_eq_nil_of_le (by omega), Sp.way, Int.add_zero] at hq
    exact v33a _ _ _ _ _ _ _ ⟨fun h => by omega, fun _ => hq⟩
  | succ k ih =>
    intro i s hi h0 h1 hq
    rw [drop_getD (show i < o.length by omega), drop_getD (show i + 1 < o.length by omega), Sp.way, ← drop_getD (show i + 1 < o.length by omega)] at hq
    have m1 := ho _ (getD_mem (show i < o.length by omega))
    have m2 := ho _ (getD_mem (show i + 1 < o.length by omega))
    have hd := dAt_le hg (o.getD i default) (o.getD (i + 1) default)
    have e1 : (((i + 1 : Nat) : Int) - 1).toNat = i := by omega
    refine v33a _ _ _ _ _ _ _ ⟨fun _ => ?_, fun h => by omega⟩
    rw [e1, Int.toNat_natCast]
    refine ⟨by omega, ⟨(okG_at hg _).1, (okG_at hg _).2, (okG_at hg _).1, (okG_at hg _).2⟩, by omega, by omega, m1.1, by omega, by omega, by omega, m2.1, by omega, ?_, by omega, ?_⟩
    · show -9223372036854775808 ≤ s + Sp.dAt gs (o.getD i default) (o.getD (i + 1) default) ∧ s + Sp.dAt gs (o.getD i default) (o.getD (i + 1) default) ≤ 9223372036854775807
      omega
    · have := ih (i + 1) (s + Sp.dAt gs (o.getD i default) (o.getD (i + 1) default)) (by omega) (by omega) (by omega) (by rw [← hq, Int.add_assoc])
      exact this

theorem ev33 (fl fm : Bool) (gs : List G2) (o : List Int) (hg : Sp.okG gs) (ho : Sp.okO gs o) (hl : o.length ≤ 1000) : Ev M1 (.pure 33 [gsA fl gs, isA fm o]) (.int .i64 (Sp.way gs o)) [] := by
  refine call33 (v33 fl fm gs o _ ?_)
  cases o with
  | nil => exact v33a _ _ _ _ _ _ _ ⟨fun h => by simp at h, fun _ => rfl⟩
  | cons x o => exact loop33 hg ho hl o.length 0 0 (by simp; omega) (by omega) (by simp at hl; omega) (by simp)

namespace Sp
def lengthE (gs : List G2) (o : List Int) : Int := if checkE gs 200 = 0 then (if isOrd o gs.length = true then 0 else 1) else checkE gs 200
def lengthV (gs : List G2) (o : List Int) : Int := if lengthE gs o = 0 then way gs o else 0
end Sp

theorem isOrd_okO {gs : List G2} {o : List Int} (h : Sp.isOrd o gs.length = true) : Sp.okO gs o ∧ o.length = gs.length :=
  ⟨fun x hx => (isOrd_facts h).2.1 x hx, by have := (isOrd_facts h).1; omega⟩

theorem ev12 (fl fm : Bool) (gs : List G2) (o : List Int) (hl : gs.length ≤ 1000000) : Ev M1 (.pure 12 [gsA fl gs, isA fm o]) (.tup [.int .i64 (Sp.lengthV gs o), .int .i64 (Sp.lengthE gs o)]) [] := by
  refine call12 (v12 fl fm gs o _ ⟨hl, fun h => ?_, fun h => ⟨by omega, fun k => ?_, fun k => ?_⟩⟩)
  · have e : Sp.lengthE gs o = Sp.checkE gs 200 := if_neg h
    rw [Sp.lengthV, e, if_neg h]
  · have h := Classical.not_not.1 h
    have e : Sp.lengthE gs o = 1 := by rw [Sp.lengthE, if_pos h, if_neg k]
    rw [Sp.lengthV, e, if_neg (by simp)]
  · have h := Classical.not_not.1 h
    have k := Classical.not_not.1 k
    have e : Sp.lengthE gs o = 0 := by rw [Sp.lengthE, if_pos h, if_pos k]
    obtain ⟨c1, c2⟩ := check_okG h
    obtain ⟨c3, c4⟩ := isOrd_okO k
    exact ⟨c1, c3, by omega, by rw [Sp.lengthV, e, if_pos rfl]⟩
end Go.Av
