/- WHAT Read AND Block ANSWER. -/
import Derived.Test.YtfndgoannijhpaaVcR3
namespace Go.Av
open Go.Proofs

namespace Sp
/-- A number, where there is no error. -/
def z (e n : Int) : Int := if e = 0 then n else 0
def zb (e : Int) (b : Bool) : Bool := decide (e = 0) && b
/-- The words of the block of a cycle. -/
def blockW (code r zz q rate ini : Int) (high : Bool) (x y : Int) : List Wd :=
  if validE code r zz q rate ini = 0 ∧ ¬((x > 10000000 ∨ x < -10000000) ∨ (y > 10000000 ∨ y < -10000000)) then
    [⟨71, if high = true then 98000 else 99000⟩, ⟨71, code⟩, ⟨88, x⟩, ⟨89, y⟩, ⟨82, r⟩, ⟨90, zz⟩] ++ ((if code = 83000 then [⟨81, q⟩] else []) ++ [⟨70, rate⟩])
  else []
def blockE (code r zz q rate ini : Int) (x y : Int) : Int :=
  if validE code r zz q rate ini = 0 then (if (x > 10000000 ∨ x < -10000000) ∨ (y > 10000000 ∨ y < -10000000) then 11 else 0) else validE code r zz q rate ini
def readE (ws : List Wd) (code rate ini r zz q : Int) : Int := validE code (valOr 82 ws r) (valOr 90 ws zz) (valOr 81 ws q) (valOr 70 ws rate) ini
end Sp

theorem ev22 (sk fl : Bool) (ws : List Wd) (cm : List UInt8) (code rate ini : Int) (high : Bool) (ocode or_ oz oq orate oini : Int) (ohigh : Bool) (hb : ws.length < 1000000) :
    Ev M1 (.pure 22 [blockA sk fl ws cm, .int .i64 code, .int .i64 rate, .int .i64 ini, .bool high, cyc ocode or_ oz oq orate oini ohigh])
      (.tup [cyc (Sp.z (Sp.readE ws code rate ini or_ oz oq) code) (Sp.z (Sp.readE ws code rate ini or_ oz oq) (Sp.valOr 82 ws or_)) (Sp.z (Sp.readE ws code rate ini or_ oz oq) (Sp.valOr 90 ws oz)) (Sp.z (Sp.readE ws code rate ini or_ oz oq) (Sp.valOr 81 ws oq))
        (Sp.z (Sp.readE ws code rate ini or_ oz oq) (Sp.valOr 70 ws rate)) (Sp.z (Sp.readE ws code rate ini or_ oz oq) ini) (Sp.zb (Sp.readE ws code rate ini or_ oz oq) high), .int .i64 (Sp.readE ws code rate ini or_ oz oq)]) [] := by
  refine call22 (v22 sk fl ws cm code rate ini high ocode or_ oz oq orate oini ohigh _ ⟨hb, fun h => ?_, fun h => ?_⟩)
  · simp only [cyc, Sp.z, Sp.zb, Sp.readE, h, if_false, decide_false, Bool.false_and]
  · have h := Classical.not_not.1 h
    simp only [cyc, Sp.z, Sp.zb, Sp.readE, h, if_true, decide_true, Bool.true_and]

theorem ev23 (sk fl : Bool) (ws : List Wd) (cm : List UInt8) (code rate ini : Int) (high : Bool) (ocode or_ oz oq orate oini : Int) (ohigh : Bool) (hb : ws.length < 1000000) :
    Ev M1 (.pure 23 [blockA sk fl ws cm, .int .i64 code, .int .i64 rate, .int .i64 ini, .bool high, cyc ocode or_ oz oq orate oini ohigh])
      (.tup [cyc (Sp.z (Sp.readE ws code rate ini or_ oz oq) code) (Sp.z (Sp.readE ws code rate ini or_ oz oq) (Sp.valOr 82 ws or_)) (Sp.z (Sp.readE ws code rate ini or_ oz oq) (Sp.valOr 90 ws oz)) (Sp.z (Sp.readE ws code rate ini or_ oz oq) (Sp.valOr 81 ws oq))
        (Sp.z (Sp.readE ws code rate ini or_ oz oq) (Sp.valOr 70 ws rate)) (Sp.z (Sp.readE ws code rate ini or_ oz oq) ini) (Sp.zb (Sp.readE ws code rate ini or_ oz oq) high), .int .i64 (Sp.readE ws code rate ini or_ oz oq)]) [] := by
  refine call23 (v23 sk fl ws cm code rate ini high ocode or_ oz oq orate oini ohigh _ ⟨hb, fun h => ?_, fun h => ?_⟩)
  · simp only [cyc, Sp.z, Sp.zb, Sp.readE, h, if_false, decide_false, Bool.false_and]
  · have h := Classical.not_not.1 h
    simp only [cyc, Sp.z, Sp.zb, Sp.readE, h, if_true, decide_true, Bool.true_and]

theorem weak_block {n : Int} : Weak (.tup [.agg [.bool false, .vnil, .str []], .int .i64 n]) (.tup [.agg [.bool false, .vec false 2 [], .str []], .int .i64 n]) :=
  .tup _ _ rfl fun i x y hx hy => by
    match i with
    | 0 =>
      simp at hx hy; subst hx; subst hy
      exact .agg _ _ rfl fun j u v hu hv => by
        match j with
        | 0 => simp at hu hv; subst hu; subst hv; exact .refl _
        | 1 => simp at hu hv; subst hu; subst hv; exact .vnil 2
        | 2 => simp at hu hv; subst hu; subst hv; exact .refl _
        | j + 3 => simp at hu
    | 1 => simp at hx hy; subst hx; subst hy; exact .refl _
    | i + 2 => simp at hx

theorem ev24 (code r zz q rate ini : Int) (high : Bool) (x y : Int) :
    Ev M1 (.pure 24 [cyc code r zz q rate ini high, .agg [.int .i64 x, .int .i64 y]]) (.tup [blockA false false (Sp.blockW code r zz q rate ini high x y) [], .int .i64 (Sp.blockE code r zz q rate ini x y)]) [] := by
  refine call24 (v24 code r zz q rate ini high x y _ ⟨fun h => ?_, fun h => ?_⟩)
  · rw [Sp.blockW, if_neg (fun k => h k.1), Sp.blockE, if_neg h]; exact weak_block
  · have h := Classical.not_not.1 h
    refine ⟨fun k => ?_, fun k => ?_⟩
    · rw [Sp.blockW, if_neg (fun m => m.2 k), Sp.blockE, if_pos h, if_pos k]; exact weak_block
    · rw [Sp.blockW, if_pos ⟨h, k⟩, Sp.blockE, if_pos h, if_neg k]
      refine ⟨fun hh => ⟨fun hc => ?_, fun hc => ?_⟩, fun hh => ⟨fun hc => ?_, fun hc => ?_⟩⟩
      · rw [if_pos hh, if_pos hc]; exact .refl _
      · rw [if_pos hh, if_neg hc]; exact .refl _
      · rw [if_neg hh, if_pos hc]; exact .refl _
      · rw [if_neg hh, if_neg hc]; exact .refl _
end Go.Av
