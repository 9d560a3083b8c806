/- WHAT Distance, check AND isOrder ANSWER, of the program and of the reference. -/
import Derived.Test.YtablgkhmbcegkaaTvA
namespace Go.Av
open Go.Proofs

namespace Sp
def badG (g : G2) : Bool := decide (g.x > 10000000) || decide (g.x < -10000000) || decide (g.y > 10000000) || decide (g.y < -10000000)
/-- The error of positions. -/
def checkE (gs : List G2) (m : Int) : Int := if (gs.length : Int) > m then 3 else if gs.any badG = true then 11 else 0
/-- Further numbers of positions, some of which have been seen. -/
def ordFrom (n : Int) : List Int → List Bool → Bool
  | [], _ => true
  | x :: o, sn => if (x < 0 ∨ x ≥ n) ∨ sn.getD x.toNat default = true then false else ordFrom n o (sn.set x.toNat true)
/-- Whether a list is an order of n positions. -/
def isOrd (o : List Int) (n : Int) : Bool :=
  if (¬(o.length : Int) = n) ∨ (n > 0 ∧ ¬o.getD 0 default = 0) then false else ordFrom n o (List.replicate n.toNat false)
end Sp

theorem ev15 (ax ay bx by_ : Int) (h : Sp.inM ax ∧ Sp.inM ay ∧ Sp.inM bx ∧ Sp.inM by_) : Ev M1 (.pure 15 [.agg [.int .i64 ax, .int .i64 ay], .agg [.int .i64 bx, .int .i64 by_]]) (.int .i64 (Sp.dist ax ay bx by_)) [] := by
  simp only [Sp.inM] at h
  refine call15 (v15 ax ay bx by_ _ ⟨by omega, by omega, by omega, by omega, ?_⟩)
  congr 1
  unfold Sp.dist Sp.gap
  (repeat' split) <;> omega

theorem ev34 (a b : Int) (h : Sp.inM a ∧ Sp.inM b) : Ev M1 (.pure 34 [.int .i64 a, .int .i64 b]) (.int .i64 (Sp.gap a b)) [] := by
  simp only [Sp.inM] at h
  refine call34 (v34 a b _ ⟨fun k => ⟨by omega, ?_⟩, fun k => ⟨by omega, ?_⟩⟩)
  · rw [Sp.gap, if_pos k]
  · rw [Sp.gap, if_neg k]

theorem loop28 {fl : Bool} {gs : List G2} {dq : AV} (hl : gs.length ≤ 1000000) : ∀ (k i : Nat), i + k = gs.length → AV.int .i64 (if (gs.drop i).any Sp.badG = true then 11 else 0) = dq → v28a_at fl gs gs.length i (PureQ dq) := by
  intro k
  induction k with
  | zero =>
    intro i hi hq
    rw [List.drop_eq_nil_of_le (by omega)] at hq
    exact v28a _ _ _ _ _ ⟨fun h => by omega, fun _ => hq⟩
  | succ k ih =>
    intro i hi hq
    rw [drop_getD (show i < gs.length by omega), List.any_cons] at hq
    refine v28a _ _ _ _ _ ⟨fun _ => ⟨by omega, by omega, ?_⟩, fun h => by omega⟩
    rw [Int.toNat_natCast]
    generalize gs.getD i default = g at hq
    have e : Sp.badG g = true ↔ (if g.y > g.x then g.y else g.x) > 10000000 ∨ (if g.y < g.x then g.y else g.x) < -10000000 := by
      simp only [Sp.badG, Bool.or_eq_true, decide_eq_true_eq]
      (repeat' split) <;> omega
    rw [← e]
    refine ⟨fun h => ?_, fun h => ⟨by omega, ih (i + 1) (by omega) ?_⟩⟩
    · rw [h, Bool.true_or, if_pos rfl] at hq; exact hq
    · rw [Bool.eq_false_iff.2 h, Bool.false_or] at hq; exact hq

theorem ev28 (fl : Bool) (gs : List G2) (m : Int) (hl : gs.length ≤ 1000000) : Ev M1 (.pure 28 [gsA fl gs, .int .i64 m]) (.int .i64 (Sp.checkE gs m)) [] := by
  refine call28 (v28 fl gs m _ ⟨fun h => ?_, fun h => loop28 hl _ 0 (Nat.zero_add _) ?_⟩)
  · rw [Sp.checkE, if_pos h]
  · rw [Sp.checkE, if_neg h]; rfl

theorem loop31 {fl : Bool} {gs : List G2} {dq : AV} (hl : gs.length ≤ 1000000) : ∀ (k i : Nat), i + k = gs.length → AV.int .i64 (if (gs.drop i).any Sp.badG = true then 11 else 0) = dq → v31a_at fl gs i (PureQ dq) := by
  intro k
  induction k with
  | zero =>
    intro i hi hq
    rw [List.drop_eq_nil_of_le (by omega)] at hq
    exact v31a _ _ _ _ ⟨fun h => by omega, fun _ => hq⟩
  | succ k ih =>
    intro i hi hq
    rw [drop_getD (show i < gs.length by omega), List.any_cons] at hq
    refine v31a _ _ _ _ ⟨fun _ => ⟨by omega, by omega, ?_⟩, fun h => by omega⟩
    rw [Int.toNat_natCast]
    generalize gs.getD i default = g at hq
    have e : Sp.badG g = true ↔ ((g.x > 10000000 ∨ g.x < -10000000) ∨ g.y > 10000000) ∨ g.y < -10000000 := by
      simp only [Sp.badG, Bool.or_eq_true, decide_eq_true_eq]
    rw [← e]
    refine ⟨fun h => ?_, fun h => ⟨by omega, ih (i + 1) (by omega) ?_⟩⟩
    · rw [h, Bool.true_or, if_pos rfl] at hq; exact hq
    · rw [Bool.eq_false_iff.2 h, Bool.false_or] at hq; exact hq

theorem ev31 (fl : Bool) (gs : List G2) (m : Int) (hl : gs.length ≤ 1000000) : Ev M1 (.pure 31 [gsA fl gs, .int .i64 m]) (.int .i64 (Sp.checkE gs m)) [] := by
  refine call31 (v31 fl gs m _ ⟨fun h => ?_, fun h => loop31 hl _ 0 (Nat.zero_add _) ?_⟩)
  · rw [Sp.checkE, if_pos h]
  · rw [Sp.checkE, if_neg h]; rfl

theorem loop29 {fm : Bool} {o : List Int} {n : Int} {dq : AV} (hn : n ≤ 1000000) (hl : o.length ≤ 1000000) : ∀ (k i : Nat) (sn : List Bool) (v : Nat), i + k = o.length → n ≤ sn.length → AV.bool (Sp.ordFrom n (o.drop i) sn) = dq → v29a_at fm o n o.length i sn v (PureQ dq) := by
  intro k
  induction k with
  | zero =>
    intro i sn v hi hs hq
    rw [List.drop_eq_nil_of_le (by omega), Sp.ordFrom] at hq
    exact v29a _ _ _ _ _ _ _ _ ⟨fun h => by omega, fun _ => hq⟩
  | succ k ih =>
    intro i sn v hi hs hq
    rw [drop_getD (show i < o.length by omega), Sp.ordFrom] at hq
    refine v29a _ _ _ _ _ _ _ _ ⟨fun _ => ⟨by omega, by omega, ?_⟩, fun h => by omega⟩
    rw [Int.toNat_natCast]
    generalize o.getD i default = x at hq
    refine ⟨fun h => by omega, fun h => by omega, fun h => ?_, fun h => ⟨by omega, by omega, by omega, ih (i + 1) _ _ (by omega) (by simpa using hs) ?_⟩⟩
    · rw [if_pos h] at hq; exact hq
    · rw [if_neg h] at hq; exact hq

theorem ev29 (fm : Bool) (o : List Int) (n : Int) (hn : 0 ≤ n ∧ n ≤ 1000000) : Ev M1 (.pure 29 [isA fm o, .int .i64 n]) (.bool (Sp.isOrd o n)) [] := by
  refine call29 (v29 fm o n _ ⟨fun h => by omega, fun h => ?_, fun h => ⟨by omega, by omega, by omega, ?_⟩⟩)
  · rw [Sp.isOrd, if_pos h]
  · refine loop29 hn.2 (by omega) _ 0 _ _ (Nat.zero_add _) (by simp; omega) ?_
    rw [Sp.isOrd, if_neg h]; rfl

theorem loop32 {fm : Bool} {o : List Int} {n : Int} {dq : AV} (hn : n ≤ 1000000) (hl : (o.length : Int) = n) : ∀ (k i : Nat) (sn : List Bool) (v : Nat), i + k = o.length → n ≤ sn.length → AV.bool (Sp.ordFrom n (o.drop i) sn) = dq → v32a_at fm o n i sn v (PureQ dq) := by
  intro k
  induction k with
  | zero =>
    intro i sn v hi hs hq
    rw [List.drop_eq_nil_of_le (by omega), Sp.ordFrom] at hq
    exact v32a _ _ _ _ _ _ _ ⟨fun h => by omega, fun _ => hq⟩
  | succ k ih =>
    intro i sn v hi hs hq
    rw [drop_getD (show i < o.length by omega), Sp.ordFrom] at hq
    refine v32a _ _ _ _ _ _ _ ⟨fun _ => ⟨by omega, by omega, ?_⟩, fun h => by omega⟩
    rw [Int.toNat_natCast]
    generalize o.getD i default = x at hq
    refine ⟨fun h => by omega, fun h => by omega, fun h => ?_, fun h => ⟨by omega, by omega, by omega, ih (i + 1) _ _ (by omega) (by simpa using hs) ?_⟩⟩
    · rw [if_pos h] at hq; exact hq
    · rw [if_neg h] at hq; exact hq

theorem ev32 (fm : Bool) (o : List Int) (n : Int) (hn : 0 ≤ n ∧ n ≤ 1000000) : Ev M1 (.pure 32 [.int .i64 n, isA fm o]) (.bool (Sp.isOrd o n)) [] := by
  refine call32 (v32 fm o n _ ⟨fun h => by omega, fun h => ?_, fun h => ⟨by omega, by omega, by omega, ?_⟩⟩)
  · rw [Sp.isOrd, if_pos h]
  · refine loop32 hn.2 (by omega) _ 0 _ _ (Nat.zero_add _) (by simp; omega) ?_
    rw [Sp.isOrd, if_neg h]; rfl

/-! Orders as plain lists. -/
theorem ordFrom_mem {n : Int} : ∀ (o : List Int) (sn : List Bool), n ≤ sn.length → Sp.ordFrom n o sn = true → (∀ x ∈ o, 0 ≤ x ∧ x < n ∧ sn.getD x.toNat default = false) ∧ o.Nodup
  | [], _, _, _ => by simp
  | x :: o, sn, hs, h => by
    rw [Sp.ordFrom] at h
    split at h
    · simp at h
    · rename_i hx
      obtain ⟨h1, h2⟩ := ordFrom_mem o _ (by simpa using hs) h
      have hx0 : 0 ≤ x ∧ x < n := by omega
      refine ⟨fun y hy => ?_, List.nodup_cons.2 ⟨fun hm => ?_, h2⟩⟩
      · rcases List.mem_cons.1 hy with rfl | hy
        · refine ⟨hx0.1, hx0.2, ?_⟩
          cases hb : sn.getD y.toNat default with
          | false => rfl
          | true => exact absurd (.inr hb) hx
        · obtain ⟨k1, k2, k3⟩ := h1 y hy
          refine ⟨k1, k2, ?_⟩
          rw [List.getD_eq_getElem?_getD, List.getElem?_set] at k3
          split at k3
          · split at k3
            · simp at k3
            · rename_i e1 e2; omega
          · rwa [List.getD_eq_getElem?_getD]
      · obtain ⟨k1, k2, k3⟩ := h1 x hm
        rw [List.getD_eq_getElem?_getD, List.getElem?_set_self (by omega)] at k3
        simp at k3

theorem isOrd_facts {o : List Int} {n : Int} (h : Sp.isOrd o n = true) : (o.length : Int) = n ∧ (∀ x ∈ o, 0 ≤ x ∧ x < n) ∧ o.Nodup ∧ (n > 0 → o.getD 0 default = 0) := by
  unfold Sp.isOrd at h
  split at h
  · simp at h
  · rename_i hn
    obtain ⟨h1, h2⟩ := ordFrom_mem o _ (by simp; omega) h
    refine ⟨by omega, fun x hx => ⟨(h1 x hx).1, (h1 x hx).2.1⟩, h2, fun h0 => ?_⟩
    by_cases he : o.getD 0 default = 0
    · exact he
    · exact absurd (.inr ⟨h0, he⟩) hn
end Go.Av
