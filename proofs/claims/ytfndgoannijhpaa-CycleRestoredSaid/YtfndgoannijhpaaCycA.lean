/- WHAT THE FUNCTIONS OF LAYER 44 ANSWER, those that CycleValid reaches: 'Ev M1 (.pure f args) answer []'. -/
import Derived.Test.YtfndgoannijhpaaAvNarrow
import Derived.Test.YtfndgoannijhpaaVcA
namespace Go.Av
open Go.Proofs

abbrev cyc (code r z q rate ini : Int) (high : Bool) : AV := .agg [.int .i64 code, .int .i64 r, .int .i64 z, .int .i64 q, .int .i64 rate, .int .i64 ini, .bool high]

def farI (n : Int) : Bool := decide (n > 10000000) || decide (n < -10000000)

theorem ev38 (n : Int) : Ev M1 (.pure 38 [.int .i64 n]) (.bool (farI n)) [] :=
  pure_wp Try.f38 fi38 (by kernel_rfl) (by kernel_rfl) (by kernel_rfl) (by kernel_rfl) (v38 n _ (q_bool (by unfold farI; cases decide (n > 10000000) <;> rfl))) rfl

theorem ev39 (n : Int) : Ev M1 (.pure 39 [.int .i64 n]) (.bool (!farI n)) [] :=
  pure_wp Try.f39 fi39 (by kernel_rfl) (by kernel_rfl) (by kernel_rfl) (by kernel_rfl) (v39 n _ (q_bool (by
    unfold farI
    rw [Bool.eq_iff_iff]
    simp only [Bool.cond_eq_true_distrib, Bool.not_eq_true', Bool.or_eq_false_iff, decide_eq_true_eq, decide_eq_false_iff_not]
    grind))) rfl

/-- The error of a cycle. -/
def validE (code r z q rate ini : Int) : Int :=
  if (code ≠ 83000 ∧ code ≠ 81000 ∧ code ≠ 82000) ∨ z ≥ r ∨ r > ini ∨ rate < 1 ∨ rate > 1000000000000 ∨ (code = 83000 ∧ q ≤ 0) then 1
  else if farI r = true ∨ farI z = true ∨ farI ini = true ∨ (code = 83000 ∧ farI q = true) then 11
  else if code = 83000 ∧ (r - z - 1) / q > 999 then 3 else 0

theorem farI_false {n : Int} (h : ¬farI n = true) : -10000000 ≤ n ∧ n ≤ 10000000 := by
  simp only [farI, Bool.or_eq_true, decide_eq_true_eq] at h; omega

theorem quo_w {r z q : Int} (hr : -10000000 ≤ r ∧ r ≤ 10000000) (hz : -10000000 ≤ z ∧ z ≤ 10000000) (hq : 1 ≤ q) (hrz : z < r) :
    IntKind.i64.wrap ((IntKind.i64.wrap (IntKind.i64.wrap (r - z) - 1)).tdiv q) = (r - z - 1) / q := by
  rw [w64 (r - z) (by omega), w64 (r - z - 1) (by omega), Int.tdiv_eq_ediv_of_nonneg (by omega)]
  have h1 : 0 ≤ (r - z - 1) / q := Int.ediv_nonneg (by omega) (by omega)
  have h2 : (r - z - 1) / q ≤ r - z - 1 := Int.ediv_le_self _ (by omega)
  exact w64 _ (by omega)

theorem ev14 (code r z q rate ini : Int) (high : Bool) : Ev M1 (.pure 14 [cyc code r z q rate ini high]) (.int .i64 (validE code r z q rate ini)) [] := by
  refine pure_wp Try.f14 fi14 (by kernel_rfl) (by kernel_rfl) (by kernel_rfl) (by kernel_rfl) ?_ rfl
  apply v14 code r z q rate ini high (farI r) (farI z) (farI ini) (farI q) <;> simp only [bif_or, bif_and, Bool.or_eq_true, Bool.and_eq_true, Bool.or_eq_false_iff, Bool.and_eq_false_iff, Bool.not_eq_true', bne_iff_ne, beq_iff_eq, beq_eq_false_iff_ne, bne_eq_false_iff_eq, decide_eq_true_eq, decide_eq_false_iff_not]
  · intro h; apply q_int; unfold validE; rw [if_pos (by grind)]
  · intro _; exact ev38 r
  · intro _ _; exact ev38 z
  · intro _ _; exact ev38 ini
  · intro _ _; exact ev38 q
  · intro h1 h2; apply q_int; unfold validE; rw [if_neg (by grind), if_pos (by grind)]
  · intro h1 h2; grind
  · intro h1 h2 h3
    have hq : 1 ≤ q := by grind
    rw [quo_w (farI_false (by grind)) (farI_false (by grind)) hq (by grind)] at h3
    apply q_int; unfold validE; rw [if_neg (by grind), if_neg (by grind), if_pos h3]
  · intro h1 h2 h3
    apply q_int; unfold validE; rw [if_neg (by grind), if_neg (by grind), if_neg (fun h => ?_)]
    have hq : 1 ≤ q := by grind
    rw [quo_w (farI_false (by grind)) (farI_false (by grind)) hq (by grind)] at h3
    grind

/-- The loop of the reference: n turns are done. -/
theorem loop15 (code r z q rate ini : Int) (high : Bool) (hq : 1 ≤ q) (hr : -10000000 ≤ r ∧ r ≤ 10000000) (hz : -10000000 ≤ z ∧ z ≤ 10000000) (hq2 : q ≤ 10000000) {Q : AV → Heap → Prop} : ∀ (m : Nat) (n h : Int), n + m = 999 → 0 ≤ n → h = r - (n + 1) * q →
    -30000000 ≤ h → Q (.int .i64 (if h - m * q > z then 3 else 0)) [⟨[cyc code r z q rate ini high], 7, 0, false, false⟩] →
    Wp M1 (.run fi15 (atC (cd Try.f15) [1, 1, 1, 1, 0, 1, 0, 1, 1, 0, 0]) [(1, .ptr 0 0 0 0), (4, .int .i64 n), (5, .int .i64 h)] [⟨[cyc code r z q rate ini high], 7, 0, false, false⟩]) Q := by
  intro m
  induction m with
  | zero =>
    intro n h hn h0 hh hlo hQ
    apply v15a <;> simp only [decide_eq_true_eq, decide_eq_false_iff_not]
    · intro h1 h2
      rwa [if_pos (by simpa using h1)] at hQ
    · intro h1 h2
      rw [w64 (n + 1) (by omega)] at h2
      omega
    · intro h1
      rwa [if_neg (by simpa using h1)] at hQ
  | succ m ih =>
    intro n h hn h0 hh hlo hQ
    have hmq : 0 ≤ (m : Int) * q := Int.mul_nonneg (by omega) (by omega)
    apply v15a <;> simp only [decide_eq_true_eq, decide_eq_false_iff_not]
    · intro h1 h2
      rw [w64 (n + 1) (by omega)] at h2
      omega
    · intro h1 h2
      have hle : h ≤ r := by
        have : 0 ≤ (n + 1) * q := Int.mul_nonneg (by omega) (by omega)
        omega
      rw [w64 (n + 1) (by omega), w64 (h - q) (by omega)]
      refine ih (n + 1) (h - q) (by omega) (by omega) (by grind) (by omega) ?_
      have e : h - q - (m : Int) * q = h - ((m + 1 : Nat) : Int) * q := by grind
      rwa [e]
    · intro h1
      rwa [if_neg (by have : ((m + 1 : Nat) : Int) * q = m * q + q := by grind
                      omega)] at hQ

theorem ev15 (code r z q rate ini : Int) (high : Bool) : Ev M1 (.pure 15 [cyc code r z q rate ini high]) (.int .i64 (validE code r z q rate ini)) [] := by
  refine pure_wp Try.f15 fi15 (by kernel_rfl) (by kernel_rfl) (by kernel_rfl) (by kernel_rfl) ?_ rfl
  apply v15 code r z q rate ini high (!farI r) (!farI z) (!farI ini) (!farI q) <;> simp only [bif_or, bif_and, Bool.not_not, Bool.or_eq_true, Bool.and_eq_true, Bool.or_eq_false_iff, Bool.and_eq_false_iff, Bool.not_eq_true', bne_iff_ne, beq_iff_eq, beq_eq_false_iff_ne, bne_eq_false_iff_eq, decide_eq_true_eq, decide_eq_false_iff_not]
  · intro h; apply q_int; unfold validE; rw [if_pos (by grind)]
  · intro _; exact ev39 r
  · intro _ _; exact ev39 z
  · intro _ _; exact ev39 ini
  · intro _ _; exact ev39 q
  · intro h1 h2; apply q_int; unfold validE; rw [if_neg (by grind), if_pos (by grind)]
  · intro h1 h2 h3
    have hq : 1 ≤ q := by grind
    have hr := farI_false (n := r) (by grind)
    have hz := farI_false (n := z) (by grind)
    have hq2 := farI_false (n := q) (by grind)
    rw [w64 (r - q) (by omega)]
    refine loop15 code r z q rate ini high hq hr hz hq2.2 999 0 (r - q) (by omega) (by omega) (by omega) (by omega) ?_
    have hv : validE code r z q rate ini = if (r - z - 1) / q > 999 then 3 else 0 := by
      unfold validE; rw [if_neg (by grind), if_neg (by grind)]; simp only [h3, true_and]
    have key : r - q - ((999 : Nat) : Int) * q > z ↔ (r - z - 1) / q > 999 := by
      rw [gt_iff_lt, gt_iff_lt, Int.lt_iff_add_one_le, Int.lt_iff_add_one_le, Int.le_ediv_iff_mul_le (by omega)]
      constructor <;> intro h <;> omega
    apply q_int; rw [hv]; simp only [key]
  · intro h1 h2 h3
    apply q_int; unfold validE; rw [if_neg (by grind), if_neg (by grind), if_neg (by grind)]

/-- The heights above the last one. -/
def peck (q z : Int) : Nat → Int → List AV
  | 0, _ => []
  | m + 1, h => if h > z then .int .i64 h :: peck q z m (h - q) else []

def depthsL (code r z q : Int) : List AV := (if code = 83000 then peck q z 1000 (r - q) else []) ++ [.int .i64 z]

/-- What Depths answers. -/
def depthsA (code r z q rate ini : Int) : AV :=
  .tup [.vec false 1 (if validE code r z q rate ini = 0 then depthsL code r z q else []), .int .i64 (validE code r z q rate ini)]

theorem valid_facts {code r z q rate ini : Int} (h : validE code r z q rate ini = 0) : z < r ∧ (-10000000 ≤ r ∧ r ≤ 10000000) ∧ (-10000000 ≤ z ∧ z ≤ 10000000) ∧ (-10000000 ≤ ini ∧ ini ≤ 10000000) ∧ r ≤ ini ∧ 1 ≤ rate ∧ rate ≤ 1000000000000 ∧
    (code = 83000 → 1 ≤ q ∧ q ≤ 10000000 ∧ r - 1001 * q ≤ z) ∧ (code = 83000 ∨ code = 81000 ∨ code = 82000) := by
  unfold validE at h
  split at h
  · simp at h
  · rename_i h1
    split at h
    · simp at h
    · rename_i h2
      split at h
      · simp at h
      · rename_i h3
        refine ⟨by grind, farI_false (by grind), farI_false (by grind), farI_false (by grind), by grind, by grind, by grind, fun hc => ?_, by grind⟩
        have hq : 1 ≤ q := by grind
        refine ⟨hq, (farI_false (n := q) (by grind)).2, ?_⟩
        have h4 : ¬((r - z - 1) / q > 999) := by grind
        rw [gt_iff_lt, Int.lt_iff_add_one_le, Int.le_ediv_iff_mul_le (by omega)] at h4
        omega

theorem peck_len (q z : Int) : ∀ (m : Nat) (h : Int), (peck q z m h).length ≤ m
  | 0, _ => Nat.le_refl _
  | m + 1, h => by
    unfold peck
    split
    · simp only [List.length_cons]; have := peck_len q z m (h - q); omega
    · simp

theorem loop12 (code r z q rate ini : Int) (high : Bool) (hq : 1 ≤ q) (hq2 : q ≤ 10000000) (hz : -10000000 ≤ z) : ∀ (m : Nat) (h : Int) (l : List AV) (v : Nat), h - m * q ≤ z → -30000000 ≤ h → h ≤ 10000000 → l.length + m ≤ 5000 →
    Wp M1 (.run fi12 (atC (cd Try.f12) [1, 1, 1, 0, 1, 0, 1, 0, 0]) [(1, .ptr 0 0 0 0), (5, .row 1 v), (6, .int .i64 h)] [⟨[cyc code r z q rate ini high], 7, 0, false, false⟩, ⟨l, 1, v, false, true⟩])
      fun x L => ∃ ver, x = .tup [.row 1 ver, .int .i64 0] ∧ L = [⟨[cyc code r z q rate ini high], 7, 0, false, false⟩, ⟨l ++ (peck q z m h ++ [.int .i64 z]), 1, ver, false, true⟩] := by
  intro m
  induction m with
  | zero =>
    intro h l v hm hlo hhi hl
    apply v12b <;> simp only [decide_eq_true_eq, decide_eq_false_iff_not]
    · intro _; omega
    · intro h1; simp at hm; omega
    · intro _; omega
    · intro _; exact ⟨_, rfl, rfl⟩
  | succ m ih =>
    intro h l v hm hlo hhi hl
    apply v12b <;> simp only [decide_eq_true_eq, decide_eq_false_iff_not]
    · intro _; omega
    · intro h1
      rw [w64 (h - q) (by omega)]
      refine wp_mono' (ih (h - q) (l ++ [.int .i64 h]) (v + 1) (by grind) (by omega) (by omega) (by simp; omega)) ?_
      rintro x L ⟨ver, h3, h4⟩
      refine ⟨ver, h3, ?_⟩
      rw [h4]
      simp only [peck, if_pos h1, List.append_assoc, List.cons_append, List.nil_append]
    · intro _; omega
    · intro h1
      refine ⟨_, rfl, ?_⟩
      simp only [peck, if_neg h1, List.nil_append]

theorem q_row {r0 : Row} {l : List AV} {ver : Nat} {n : Int} : pureA [r0, ⟨l, 1, ver, false, true⟩] (.tup [.row 1 ver, .int .i64 n]) = some (.tup [.vec false 1 l, .int .i64 n]) ∧ allB (versA [r0, ⟨l, 1, ver, false, true⟩] (.tup [.row 1 ver, .int .i64 n])) := by
  simp [pureA, pureL, versA, versL, verOk, allB]

theorem weak_two (n : Int) : Weak (.tup [.vnil, .int .i64 n]) (.tup [.vec false 1 [], .int .i64 n]) :=
  .tup _ _ rfl fun i x y hx hy => by
    match i with
    | 0 => simp at hx hy; subst hx; subst hy; exact .vnil 1
    | 1 => simp at hx hy; subst hx; subst hy; exact .refl _
    | i + 2 => simp at hx

theorem ev12 (code r z q rate ini : Int) (high : Bool) : Ev M1 (.pure 12 [cyc code r z q rate ini high]) (depthsA code r z q rate ini) [] := by
  unfold depthsA
  by_cases hv : validE code r z q rate ini = 0
  · obtain ⟨f1, f2, f3, f4, f5, f6, f7, f8, f9⟩ := valid_facts hv
    rw [if_pos hv]
    refine pure_wp Try.f12 fi12 (by kernel_rfl) (by kernel_rfl) (by kernel_rfl) (by kernel_rfl) ?_ rfl
    apply v12 code r z q rate ini high (validE code r z q rate ini) _ (ev14 code r z q rate ini high) <;> simp only [hv, bne_self_eq_false, Bool.false_eq_true, false_implies, true_implies, beq_iff_eq, beq_eq_false_iff_ne, not_true]
    · intro hc
      obtain ⟨g1, g2, g3⟩ := f8 hc
      rw [w64 (r - q) (by omega)]
      apply v12a <;> simp only [decide_eq_true_eq, decide_eq_false_iff_not]
      · intro h1
        rw [w64 (r - q - q) (by omega)]
        refine wp_mono' (loop12 code r z q rate ini high g1 g2 f3.1 999 (r - q - q) [.int .i64 (r - q)] 0 (by omega) (by omega) (by omega) (by simp)) ?_
        rintro v L ⟨ver, rfl, rfl⟩
        have e : depthsL code r z q = [.int .i64 (r - q)] ++ (peck q z 999 (r - q - q) ++ [.int .i64 z]) := by
          unfold depthsL
          rw [if_pos hc]
          show peck q z (999 + 1) (r - q) ++ [.int .i64 z] = _
          rw [peck, if_pos h1]; rfl
        rw [e]; exact q_row
      · intro h1
        have e : depthsL code r z q = [.int .i64 z] := by
          unfold depthsL
          rw [if_pos hc]
          show peck q z (999 + 1) (r - q) ++ [.int .i64 z] = _
          rw [peck, if_neg h1]; rfl
        rw [e]; exact q_row
    · intro hc
      have e : depthsL code r z q = [.int .i64 z] := by unfold depthsL; rw [if_neg hc]; rfl
      rw [e]; exact q_row
  · rw [if_neg hv]
    refine .weak (pure_wp Try.f12 fi12 (by kernel_rfl) (by kernel_rfl) (by kernel_rfl) (by kernel_rfl) ?_ rfl) (weak_two _)
    apply v12 code r z q rate ini high (validE code r z q rate ini) _ (ev14 code r z q rate ini high)
    · intro _; exact ⟨rfl, trivial⟩
    · intro h; simp [hv] at h
    · intro h; simp [hv] at h

theorem loop13 (code r z q rate ini : Int) (high : Bool) (hq : 1 ≤ q) (hq2 : q ≤ 10000000) (hz : -10000000 ≤ z) : ∀ (m : Nat) (h : Int) (l : List AV) (v : Nat), h - m * q ≤ z → -30000000 ≤ h → h ≤ 10000000 → l.length + m ≤ 5000 →
    Wp M1 (.run fi13 (atC (cd Try.f13) [1, 1, 1, 0, 1, 0, 1, 0, 0]) [(1, .ptr 0 0 0 0), (5, .row 1 v), (6, .int .i64 h)] [⟨[cyc code r z q rate ini high], 7, 0, false, false⟩, ⟨l, 1, v, false, true⟩])
      fun x L => ∃ ver, x = .tup [.row 1 ver, .int .i64 0] ∧ L = [⟨[cyc code r z q rate ini high], 7, 0, false, false⟩, ⟨l ++ (peck q z m h ++ [.int .i64 z]), 1, ver, false, true⟩] := by
  intro m
  induction m with
  | zero =>
    intro h l v hm hlo hhi hl
    apply v13b <;> simp only [decide_eq_true_eq, decide_eq_false_iff_not]
    · intro _; omega
    · intro h1; simp at hm; omega
    · intro _; omega
    · intro _; exact ⟨_, rfl, rfl⟩
  | succ m ih =>
    intro h l v hm hlo hhi hl
    apply v13b <;> simp only [decide_eq_true_eq, decide_eq_false_iff_not]
    · intro _; omega
    · intro h1
      rw [w64 (h - q) (by omega)]
      refine wp_mono' (ih (h - q) (l ++ [.int .i64 h]) (v + 1) (by grind) (by omega) (by omega) (by simp; omega)) ?_
      rintro x L ⟨ver, h3, h4⟩
      refine ⟨ver, h3, ?_⟩
      rw [h4]
      simp only [peck, if_pos h1, List.append_assoc, List.cons_append, List.nil_append]
    · intro _; omega
    · intro h1
      refine ⟨_, rfl, ?_⟩
      simp only [peck, if_neg h1, List.nil_append]

theorem ev13 (code r z q rate ini : Int) (high : Bool) : Ev M1 (.pure 13 [cyc code r z q rate ini high]) (depthsA code r z q rate ini) [] := by
  unfold depthsA
  by_cases hv : validE code r z q rate ini = 0
  · obtain ⟨f1, f2, f3, f4, f5, f6, f7, f8, f9⟩ := valid_facts hv
    rw [if_pos hv]
    refine pure_wp Try.f13 fi13 (by kernel_rfl) (by kernel_rfl) (by kernel_rfl) (by kernel_rfl) ?_ rfl
    apply v13 code r z q rate ini high (validE code r z q rate ini) _ (ev15 code r z q rate ini high) <;> simp only [hv, bne_self_eq_false, Bool.false_eq_true, false_implies, true_implies, beq_iff_eq, beq_eq_false_iff_ne, not_true]
    · intro hc
      obtain ⟨g1, g2, g3⟩ := f8 hc
      rw [w64 (r - q) (by omega)]
      apply v13a <;> simp only [decide_eq_true_eq, decide_eq_false_iff_not]
      · intro h1
        rw [w64 (r - q - q) (by omega)]
        refine wp_mono' (loop13 code r z q rate ini high g1 g2 f3.1 999 (r - q - q) [.int .i64 (r - q)] 0 (by omega) (by omega) (by omega) (by simp)) ?_
        rintro v L ⟨ver, rfl, rfl⟩
        have e : depthsL code r z q = [.int .i64 (r - q)] ++ (peck q z 999 (r - q - q) ++ [.int .i64 z]) := by
          unfold depthsL
          rw [if_pos hc]
          show peck q z (999 + 1) (r - q) ++ [.int .i64 z] = _
          rw [peck, if_pos h1]; rfl
        rw [e]; exact q_row
      · intro h1
        have e : depthsL code r z q = [.int .i64 z] := by
          unfold depthsL
          rw [if_pos hc]
          show peck q z (999 + 1) (r - q) ++ [.int .i64 z] = _
          rw [peck, if_neg h1]; rfl
        rw [e]; exact q_row
    · intro hc
      have e : depthsL code r z q = [.int .i64 z] := by unfold depthsL; rw [if_neg hc]; rfl
      rw [e]; exact q_row
  · rw [if_neg hv]
    refine .weak (pure_wp Try.f13 fi13 (by kernel_rfl) (by kernel_rfl) (by kernel_rfl) (by kernel_rfl) ?_ rfl) (weak_two _)
    apply v13 code r z q rate ini high (validE code r z q rate ini) _ (ev15 code r z q rate ini high)
    · intro _; exact ⟨rfl, trivial⟩
    · intro h; simp [hv] at h
    · intro h; simp [hv] at h

theorem loop16 (X Y : List Int) (f g : Bool) (hXY : X.length = Y.length) (hX : X.length < 9223372036854775807) : ∀ (m i : Nat), i + m = X.length →
    Wp M1 (.run fi16 (atC (cd Try.f16) [1, 1, 0, 1, 0, 0]) [(0, .vec f 1 (X.map (.int .i64))), (1, .vec g 1 (Y.map (.int .i64))), (12, .int .i64 X.length), (13, .int .i64 i)] [])
      fun v L => pureA L v = some (.bool (X.drop i == Y.drop i)) ∧ allB (versA L v) := by
  intro m
  induction m with
  | zero =>
    intro i hi
    apply v16a _ _ _ _ _ _ 0 0 <;> simp only [decide_eq_true_eq, decide_eq_false_iff_not]
    any_goals (intro h; omega)
    intro _
    apply q_bool
    rw [List.drop_eq_nil_of_le (by omega), List.drop_eq_nil_of_le (by omega)]; rfl
  | succ m ih =>
    intro i hi
    have h1 : i < X.length := by omega
    have h2 : i < Y.length := by omega
    have hd : (X.drop i == Y.drop i) = (X[i] == Y[i] && X.drop (i + 1) == Y.drop (i + 1)) := by
      rw [List.drop_eq_getElem_cons h1, List.drop_eq_getElem_cons h2]; rfl
    apply v16a _ _ _ _ _ _ X[i] Y[i] <;> simp only [decide_eq_true_eq, decide_eq_false_iff_not, Int.toNat_natCast, List.length_map]
    · intro _; omega
    · intro _; exact h1
    · intro _; omega
    · intro _; exact h2
    · intro _; simp [h1]
    · intro _; simp [h2]
    · intro _ hne
      apply q_bool
      rw [hd]
      simp only [bne_iff_ne] at hne
      simp [hne]
    · intro _ he
      rw [w64 ((i : Int) + 1) (by omega)]
      have := ih (i + 1) (by omega)
      rw [hd]
      simp only [bne_eq_false_iff_eq] at he
      simp only [he, beq_self_eq_true, Bool.true_and]
      exact this
    · intro h; omega

theorem ev16 (X Y : List Int) (f g : Bool) (hX : X.length < 9223372036854775807) : Ev M1 (.pure 16 [.vec f 1 (X.map (.int .i64)), .vec g 1 (Y.map (.int .i64))]) (.bool (X == Y)) [] := by
  refine pure_wp Try.f16 fi16 (by kernel_rfl) (by kernel_rfl) (by kernel_rfl) (by kernel_rfl) ?_ rfl
  apply v16
  · intro h
    apply q_bool
    simp only [List.length_map, bne_iff_ne, ne_eq] at h
    have : X ≠ Y := by rintro rfl; exact h rfl
    simpa using this
  · intro h
    simp only [List.length_map, bne_eq_false_iff_eq] at h
    have hl : X.length = Y.length := by exact_mod_cast h
    have := loop16 X Y f g hl hX X.length 0 (by omega)
    simp only [List.drop_zero] at this
    simp only [List.length_map]
    exact this

theorem peck_ints (q z : Int) : ∀ (m : Nat) (h : Int), ∃ X : List Int, peck q z m h = X.map (.int .i64)
  | 0, _ => ⟨[], rfl⟩
  | m + 1, h => by
    unfold peck
    split
    · obtain ⟨X, hX⟩ := peck_ints q z m (h - q)
      exact ⟨h :: X, by rw [hX]; rfl⟩
    · exact ⟨[], rfl⟩

theorem depths_ints (code r z q rate ini : Int) : ∃ X : List Int, X.length ≤ 1001 ∧ (if validE code r z q rate ini = 0 then depthsL code r z q else []) = X.map (.int .i64) := by
  split
  · unfold depthsL
    split
    · obtain ⟨X, hX⟩ := peck_ints q z 1000 (r - q)
      refine ⟨X ++ [z], ?_, by rw [hX]; simp⟩
      have := peck_len q z 1000 (r - q)
      rw [hX] at this
      simp at this ⊢; omega
    · exact ⟨[z], by simp, rfl⟩
  · exact ⟨[], by simp, rfl⟩
end Go.Av
