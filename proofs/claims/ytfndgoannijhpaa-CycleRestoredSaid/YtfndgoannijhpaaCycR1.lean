/- WHAT THE FUNCTIONS THAT LOOK FOR WORDS ANSWER. -/
import Derived.Test.YtfndgoannijhpaaVcR0
namespace Go.Av
open Go.Proofs

theorem loop43 {fl : Bool} {ws : List Wd} {c : Int} {dq : AV} (hb : ws.length < 1000000) : ∀ (k i : Nat), i + k = ws.length → AV.tup [.int .i64 (Sp.val c (ws.drop i)), .bool (Sp.hasC c (ws.drop i))] = dq → v43a_at fl ws c ws.length i (PureQ dq) := by
  intro k
  induction k with
  | zero =>
    intro i hi hq
    rw [List.drop_eq_nil_of_le (by omega)] at hq
    exact v43a _ _ _ _ _ _ ⟨fun h => by omega, fun _ => hq⟩
  | succ k ih =>
    intro i hi hq
    rw [drop_getD (show i < ws.length by omega)] at hq
    simp only [Sp.val, Sp.hasC, Sp.codes] at hq
    refine v43a _ _ _ _ _ _ ⟨fun _ => ⟨by omega, by omega, ?_⟩, fun h => by omega⟩
    rw [Int.toNat_natCast]
    refine ⟨fun h => ?_, fun h => ⟨by omega, ih (i + 1) (by omega) ?_⟩⟩
    · rw [if_pos h] at hq; exact hq
    · rw [if_neg h] at hq; exact hq

theorem ev43 (sk fl : Bool) (ws : List Wd) (cm : List UInt8) (c : Int) (hb : ws.length < 1000000) : Ev M1 (.pure 43 [blockA sk fl ws cm, .int .u8 c]) (.tup [.int .i64 (Sp.val c ws), .bool (Sp.hasC c ws)]) [] :=
  call43 (v43 sk fl ws cm c _ (loop43 hb _ 0 (Nat.zero_add _) rfl))

theorem loop67b {sk fl : Bool} {ws : List Wd} {cm : List UInt8} {c : Int} {dq : AV} (hb : ws.length < 1000000) : ∀ (k i : Nat) (l : List Int) (v : Nat), i + k = ws.length → l.length ≤ i → Weak (.vec false 1 ((l ++ Sp.codes c (ws.drop i)).map (.int .i64))) dq → v67b_at sk fl ws cm c i l v (PureQ dq) := by
  intro k
  induction k with
  | zero =>
    intro i l v hi hl hq
    rw [List.drop_eq_nil_of_le (by omega), Sp.codes, List.append_nil] at hq
    exact v67b _ _ _ _ _ _ _ _ _ ⟨fun h => by omega, fun _ => hq⟩
  | succ k ih =>
    intro i l v hi hl hq
    rw [drop_getD (show i < ws.length by omega), Sp.codes] at hq
    refine v67b _ _ _ _ _ _ _ _ _ ⟨fun _ => ⟨by omega, by omega, ?_⟩, fun h => by omega⟩
    rw [Int.toNat_natCast]
    refine ⟨fun h => ⟨by omega, by omega, ih (i + 1) _ _ (by omega) (by simp; omega) ?_⟩, fun h => ⟨by omega, ih (i + 1) _ _ (by omega) (by omega) ?_⟩⟩
    · rw [if_pos h] at hq; rwa [List.append_assoc]
    · rw [if_neg h] at hq; exact hq

theorem loop67a {sk fl : Bool} {ws : List Wd} {cm : List UInt8} {c : Int} {dq : AV} (hb : ws.length < 1000000) : ∀ (k i : Nat), i + k = ws.length → Weak (.vec false 1 ((Sp.codes c (ws.drop i)).map (.int .i64))) dq → dq = .vec false 1 ((Sp.codes c (ws.drop i)).map (.int .i64)) → v67a_at sk fl ws cm c i (PureQ dq) := by
  intro k
  induction k with
  | zero =>
    intro i hi hq he
    rw [List.drop_eq_nil_of_le (by omega), Sp.codes] at he
    subst he
    exact v67a _ _ _ _ _ _ _ ⟨fun h => by omega, fun _ => .vnil 1⟩
  | succ k ih =>
    intro i hi hq he
    rw [drop_getD (show i < ws.length by omega), Sp.codes] at hq he
    refine v67a _ _ _ _ _ _ _ ⟨fun _ => ⟨by omega, by omega, ?_⟩, fun h => by omega⟩
    rw [Int.toNat_natCast]
    refine ⟨fun h => ⟨by omega, loop67b hb k (i + 1) _ _ (by omega) (by simp) ?_⟩, fun h => ⟨by omega, ih (i + 1) (by omega) ?_ ?_⟩⟩
    · rw [if_pos h] at hq; exact hq
    · rw [if_neg h] at hq; exact hq
    · rw [if_neg h] at he; exact he

theorem ev67 (sk fl : Bool) (ws : List Wd) (cm : List UInt8) (c : Int) (hb : ws.length < 1000000) : Ev M1 (.pure 67 [blockA sk fl ws cm, .int .u8 c]) (.vec false 1 ((Sp.codes c ws).map (.int .i64))) [] :=
  call67 (v67 sk fl ws cm c _ (loop67a hb _ 0 (Nat.zero_add _) (.refl _) rfl))
end Go.Av
