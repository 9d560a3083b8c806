/- 'CycleRead' AND 'CycleRestored'. -/
import Derived.Test.YtfndgoannijhpaaVcR4
namespace Go.Av
open Go.Proofs

theorem ev6 (sk fl : Bool) (ws : List Wd) (cm : List UInt8) (code r z q rate ini : Int) (high : Bool) (ocode or_ oz oq orate oini : Int) (ohigh : Bool) :
    Ev M1 (.pure 6 [blockA sk fl ws cm, cyc code r z q rate ini high, cyc ocode or_ oz oq orate oini ohigh]) (.bool true) [] :=
  call6 (v6 sk fl ws cm code r z q rate ini high ocode or_ oz oq orate oini ohigh _ ⟨fun _ => rfl, fun h => ⟨by omega, by simp⟩⟩)

theorem validE_q {code r z q q' rate ini : Int} (h : ¬code = 83000) : validE code r z q rate ini = validE code r z q' rate ini := by
  unfold validE; simp [h]

theorem ev7 (code r z q rate ini : Int) (high : Bool) (ocode or_ oz oq orate oini : Int) (ohigh : Bool) (x y : Int) :
    Ev M1 (.pure 7 [cyc code r z q rate ini high, cyc ocode or_ oz oq orate oini ohigh, .agg [.int .i64 x, .int .i64 y]]) (.bool true) [] := by
  refine call7 (v7 code r z q rate ini high ocode or_ oz oq orate oini ohigh x y _ ⟨fun _ => rfl, fun h => ?_⟩)
  have h := Classical.not_not.1 h
  have hv : validE code r z q rate ini = 0 ∧ ¬((x > 10000000 ∨ x < -10000000) ∨ (y > 10000000 ∨ y < -10000000)) := by
    unfold Sp.blockE at h
    split at h
    · rename_i h1
      split at h
      · simp at h
      · rename_i h2; exact ⟨h1, h2⟩
    · rename_i h1; exact absurd h h1
  have hc := (valid_facts hv.1).2.2.2.2.2.2.2.2
  have ne : ¬(code = 82) ∧ ¬(code = 90) := by omega
  have ew : Sp.blockW code r z q rate ini high x y = [⟨71, if high = true then 98000 else 99000⟩, ⟨71, code⟩, ⟨88, x⟩, ⟨89, y⟩, ⟨82, r⟩, ⟨90, z⟩] ++ ((if code = 83000 then [⟨81, q⟩] else []) ++ [⟨70, rate⟩]) := if_pos hv
  have w1 : ∀ d, Sp.valOr 82 (Sp.blockW code r z q rate ini high x y) d = r := by intro d; rw [ew]; by_cases h83 : code = 83000 <;> simp [Sp.valOr, Sp.hasC, Sp.val, Sp.codes, h83]
  have w2 : ∀ d, Sp.valOr 90 (Sp.blockW code r z q rate ini high x y) d = z := by intro d; rw [ew]; by_cases h83 : code = 83000 <;> simp [Sp.valOr, Sp.hasC, Sp.val, Sp.codes, h83]
  have w3 : ∀ d, Sp.valOr 70 (Sp.blockW code r z q rate ini high x y) d = rate := by intro d; rw [ew]; by_cases h83 : code = 83000 <;> simp [Sp.valOr, Sp.hasC, Sp.val, Sp.codes, h83]
  have w4 : ∀ d, Sp.valOr 81 (Sp.blockW code r z q rate ini high x y) d = if code = 83000 then q else d := by intro d; rw [ew]; by_cases h83 : code = 83000 <;> simp [Sp.valOr, Sp.hasC, Sp.val, Sp.codes, h83]
  have he : Sp.readE (Sp.blockW code r z q rate ini high x y) code orate ini or_ oz oq = 0 := by
    unfold Sp.readE
    rw [w1, w2, w3, w4]
    split
    · exact hv.1
    · rename_i hn; rw [validE_q (q' := q) hn]; exact hv.1
  refine ⟨by rw [ew]; by_cases h83 : code = 83000 <;> simp [h83], fun hn => ?_, fun hn => ?_⟩
  · rw [he, w1, w2, w3]; simp [Sp.z, Sp.zb]
  · rw [he, w1, w2, w3, w4, if_pos (Classical.not_not.1 hn)]; simp [Sp.z, Sp.zb]
end Go.Av
