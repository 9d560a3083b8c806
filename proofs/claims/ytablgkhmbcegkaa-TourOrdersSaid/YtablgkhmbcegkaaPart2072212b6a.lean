/- PART 5 of the texts of a claim, joined by a program: what each part shows stands at its head. -/
import Derived.Test.YtablgkhmbcegkaaPartb82e5bd5e2

/- WHAT Bound ANSWERS. -/
namespace Go.Av
open Go.Proofs

namespace Sp
def badW (x : Int) : Bool := decide (x > 20000000) || decide (x < -20000000)
def boundE (gs : List G2) (w : List Int) : Int :=
  if checkE gs 200 = 0 then (if (gs.length : Int) = 0 ∨ ¬(w.length : Int) = gs.length then 1 else if w.any badW = true then 11 else 0) else checkE gs 200
noncomputable def boundR (gs : List G2) (w : List Int) : Int := if boundE gs w = 0 ∧ ¬(gs.length : Int) < 2 then boundV gs w else 0
end Sp

theorem any_okW {w : List Int} (h : ¬w.any Sp.badW = true) : Sp.okW w := by
  intro x hx
  have hb : ¬Sp.badW x = true := fun k => h (List.any_eq_true.2 ⟨x, hx, k⟩)
  simp only [Sp.badW, Bool.or_eq_true, decide_eq_true_eq, not_or] at hb
  omega

theorem boundE_facts {gs : List G2} {w : List Int} (h : Sp.boundE gs w = 0) : Sp.okG gs ∧ gs.length ≤ 200 ∧ 0 < gs.length ∧ w.length = gs.length ∧ Sp.okW w := by
  unfold Sp.boundE at h
  split at h
  · rename_i hc
    split at h
    · simp at h
    · rename_i h2
      split at h
      · simp at h
      · rename_i h3
        obtain ⟨c1, c2⟩ := check_okG hc
        exact ⟨c1, by omega, by omega, by omega, any_okW h3⟩
  · rename_i hc; exact absurd h hc

theorem badW_iff {x : Int} : Sp.badW x = true ↔ (x > 20000000 ∨ x < -20000000) := by
  simp only [Sp.badW, Bool.or_eq_true, decide_eq_true_eq]

theorem loop24 {fl fw fx : Bool} {gs : List G2} {w x : List Int} {dq : AV} (hg : Sp.okG gs) (hl : gs.length ≤ 1000) (hwl : w.length = gs.length) (hxl : x.length ≤ 1000)
    (hq0 : ¬x.any Sp.badW = true → Sp.okW w ∧ AV.tup [.int .i64 (if (gs.length : Int) < 2 then 0 else Sp.boundV gs w), .int .i64 0] = dq) (hq1 : x.any Sp.badW = true → AV.tup [.int .i64 0, .int .i64 11] = dq) :
    ∀ (k i : Nat), i + k = x.length → (∀ j : Nat, j < i → ¬Sp.badW (x.getD j default) = true) → v24a_at fl fw gs w fx x x.length i (PureQ dq) := by
  intro k
  induction k with
  | zero =>
    intro i hi hp
    have hn : ¬x.any Sp.badW = true := by
      intro h
      obtain ⟨y, hy, hb⟩ := List.any_eq_true.1 h
      obtain ⟨j, hj, rfl⟩ := mem_getD hy
      exact hp j (by omega) hb
    obtain ⟨hw, hq⟩ := hq0 hn
    exact v24a _ _ _ _ _ _ _ _ _ ⟨fun h => by omega, fun _ => ⟨⟨hg, hl, hw, hwl⟩, hq⟩⟩
  | succ k ih =>
    intro i hi hp
    refine v24a _ _ _ _ _ _ _ _ _ ⟨fun _ => ⟨by omega, by omega, fun h => ?_, fun h => ⟨by omega, ih (i + 1) (by omega) ?_⟩⟩, fun h => by omega⟩
    · rw [Int.toNat_natCast] at h
      exact hq1 (List.any_eq_true.2 ⟨_, getD_mem (show i < x.length by omega), badW_iff.2 h⟩)
    · rw [Int.toNat_natCast] at h
      intro j hj
      by_cases hji : j = i
      · subst hji; exact fun k => h (badW_iff.1 k)
      · exact hp j (by omega)

theorem ev24 (fl fw : Bool) (gs : List G2) (w : List Int) : Ev M1 (.pure 24 [gsA fl gs, isA fw w]) (.tup [.int .i64 (Sp.boundR gs w), .int .i64 (Sp.boundE gs w)]) [] := by
  refine call24 (v24 fl fw gs w _ ⟨by simp [Sp.mOk], fun h => ?_, fun h => ⟨fun k => ?_, fun k => ?_⟩⟩)
  · have e : Sp.boundE gs w = Sp.checkE gs 200 := if_neg h
    rw [Sp.boundR, e, if_neg (fun x => h x.1)]
  · have h := Classical.not_not.1 h
    have e : Sp.boundE gs w = 1 := by rw [Sp.boundE, if_pos h, if_pos k]
    rw [Sp.boundR, e, if_neg (by simp)]
  · have h := Classical.not_not.1 h
    obtain ⟨c1, c2⟩ := check_okG h
    refine loop24 c1 (by omega) (by omega) (by omega) (fun hw => ⟨any_okW hw, ?_⟩) (fun hw => ?_) _ 0 (Nat.zero_add _) (fun j hj => by omega)
    · have e : Sp.boundE gs w = 0 := by rw [Sp.boundE, if_pos h, if_neg k, if_neg hw]
      rw [Sp.boundR, e]
      by_cases h2 : (gs.length : Int) < 2
      · rw [if_pos h2, if_neg (fun x => x.2 h2)]
      · rw [if_neg h2, if_pos ⟨rfl, h2⟩]
    · have e : Sp.boundE gs w = 11 := by rw [Sp.boundE, if_pos h, if_neg k, if_pos hw]
      rw [Sp.boundR, e, if_neg (by simp)]

theorem loop25b {fl fw : Bool} {gs : List G2} {w : List Int} {s : Int} {dq : AV} (hg : Sp.okG gs) (hl : gs.length ≤ 1000) (hw : Sp.okW w) (hwl : w.length = gs.length) (h2 : 2 ≤ gs.length) (hs : s = w.sum) (hq : AV.tup [.int .i64 (Sp.boundV gs w), .int .i64 0] = dq) :
    ∀ (k i : Nat) (m : Int), i + k = w.length → (-20000000 ≤ m ∧ m ≤ 20000000) → (w.drop i).foldl (fun m x => if x < m then x else m) m = Sp.minL (w.drop 1) → v25b_at fl fw gs w s m i (PureQ dq) := by
  intro k
  induction k with
  | zero =>
    intro i m hi hm he
    rw [List.drop_eq_nil_of_le (by omega), List.foldl_nil] at he
    have h1 := mst_le hg hl hw
    have h2 := okW_sum hw
    have h3 := okW_at hw 0
    refine v25b _ _ _ _ _ _ _ _ ⟨fun h => by omega, fun _ => ⟨⟨hg, hl, hw, hwl⟩, by omega, by omega, by omega, by omega, by omega, ?_⟩⟩
    rw [he, hs]; exact hq
  | succ k ih =>
    intro i m hi hm he
    rw [drop_getD (show i < w.length by omega), List.foldl_cons] at he
    have h1 := okW_at hw i
    refine v25b _ _ _ _ _ _ _ _ ⟨fun _ => ?_, fun h => by omega⟩
    rw [Int.toNat_natCast]
    refine ⟨by omega, by omega, by omega, ih (i + 1) _ (by omega) ?_ he⟩
    split <;> omega

theorem loop25a {fl fw : Bool} {gs : List G2} {w : List Int} {dq : AV} (hg : Sp.okG gs) (hl : gs.length ≤ 1000) (hwl : w.length = gs.length) (h0 : 0 < gs.length)
    (hq0 : ¬w.any Sp.badW = true → AV.tup [.int .i64 (if (gs.length : Int) < 2 then 0 else Sp.boundV gs w), .int .i64 0] = dq) (hq1 : w.any Sp.badW = true → AV.tup [.int .i64 0, .int .i64 11] = dq) :
    ∀ (k i : Nat) (s : Int), i + k = w.length → s + (w.drop i).sum = w.sum → (-20000000 * (i : Int) ≤ s ∧ s ≤ 20000000 * (i : Int)) → (∀ j : Nat, j < i → ¬Sp.badW (w.getD j default) = true) → v25a_at fl fw gs w s i (PureQ dq) := by
  intro k
  induction k with
  | zero =>
    intro i s hi hs hb hp
    rw [List.drop_eq_nil_of_le (by omega), List.sum_nil, Int.add_zero] at hs
    have hn : ¬w.any Sp.badW = true := by
      intro h
      obtain ⟨y, hy, hb⟩ := List.any_eq_true.1 h
      obtain ⟨j, hj, rfl⟩ := mem_getD hy
      exact hp j (by omega) hb
    have hw := any_okW hn
    have hq := hq0 hn
    refine v25a _ _ _ _ _ _ _ ⟨fun h => by omega, fun _ => ⟨fun h1 => ?_, fun h1 => ⟨by omega, ?_⟩⟩⟩
    · rw [if_pos (by omega)] at hq; exact hq
    · rw [if_neg (by omega)] at hq
      refine loop25b hg hl hw hwl (by omega) hs hq (w.length - 1) 1 _ (by omega) (okW_at hw 1) ?_
      unfold Sp.minL
      rw [drop_getD (show 1 < w.length by omega)]
      simp
  | succ k ih =>
    intro i s hi hs hb hp
    rw [drop_getD (show i < w.length by omega), List.sum_cons] at hs
    refine v25a _ _ _ _ _ _ _ ⟨fun _ => ?_, fun h => by omega⟩
    rw [Int.toNat_natCast]
    refine ⟨by omega, by omega, fun h => ?_, fun h => ?_⟩
    · exact hq1 (List.any_eq_true.2 ⟨_, getD_mem (show i < w.length by omega), badW_iff.2 h⟩)
    · refine ⟨by omega, by omega, ih (i + 1) _ (by omega) (by omega) (by omega) ?_⟩
      intro j hj
      by_cases hji : j = i
      · subst hji; exact fun k => h (badW_iff.1 k)
      · exact hp j (by omega)

theorem ev25 (fl fw : Bool) (gs : List G2) (w : List Int) : Ev M1 (.pure 25 [gsA fl gs, isA fw w]) (.tup [.int .i64 (Sp.boundR gs w), .int .i64 (Sp.boundE gs w)]) [] := by
  refine call25 (v25 fl fw gs w _ ⟨by simp [Sp.mOk], fun h => ?_, fun h => ⟨fun k => ?_, fun k => ?_⟩⟩)
  · have e : Sp.boundE gs w = Sp.checkE gs 200 := if_neg h
    rw [Sp.boundR, e, if_neg (fun x => h x.1)]
  · have h := Classical.not_not.1 h
    have e : Sp.boundE gs w = 1 := by rw [Sp.boundE, if_pos h, if_pos k]
    rw [Sp.boundR, e, if_neg (by simp)]
  · have h := Classical.not_not.1 h
    obtain ⟨c1, c2⟩ := check_okG h
    refine loop25a c1 (by omega) (by omega) (by omega) (fun hw => ?_) (fun hw => ?_) w.length 0 0 (Nat.zero_add _) (by simp) (by omega) (fun j hj => by omega)
    · have e : Sp.boundE gs w = 0 := by rw [Sp.boundE, if_pos h, if_neg k, if_neg hw]
      rw [Sp.boundR, e]
      by_cases h2 : (gs.length : Int) < 2
      · rw [if_pos h2, if_neg (fun x => x.2 h2)]
      · rw [if_neg h2, if_pos ⟨rfl, h2⟩]
    · have e : Sp.boundE gs w = 11 := by rw [Sp.boundE, if_pos h, if_neg k, if_pos hw]
      rw [Sp.boundR, e, if_neg (by simp)]
end Go.Av

/- RUNS WITHOUT UNKNOWNS: an evaluator with fuel, and that it gives the evaluation relation. No program in sight. -/
namespace Go.Av

section
variable {P : Unit → Program} {inl : FuncId → Bool} {call : Answer}

/-- A call's facts come from the answers. -/
def FromCall (inl : FuncId → Bool) (call : Answer) (c : CF) : Prop :=
  match c.own with
  | true => ∃ o, call c.f c.args c.L = some (c.v, o) ∧ c.L' = o.getD c.L ∧ (inl c.f = true ∨ (inl c.f = false ∧ ∃ L1, o = some L1))
  | false => inl c.f = false ∧ call c.f c.args [] = some (c.v, none)

theorem callF_from {L : Heap} {g : FuncId} {args : List AV} {r : SR} (h : callF inl call L g args = some r) : ∀ c ∈ r.calls, FromCall inl call c := by
  unfold callF at h
  cases hin : inl g with
  | true =>
    simp only [hin, cond_true] at h
    split at h
    · split at h
      · rename_i v o hc
        split at h
        · simp only [Option.some.injEq] at h; subst h
          intro c hcm
          simp only [List.mem_singleton] at hcm; subst hcm
          exact ⟨o, hc, rfl, .inl hin⟩
        · simp at h
      · simp at h
    · simp at h
  | false =>
    simp only [hin, cond_false] at h
    split at h
    · rename_i ds _
      split at h
      · rename_i d hc
        split at h
        · have : ∀ r' : SR, r'.calls = [⟨true, false, g, ds, [], d, []⟩] → ∀ c ∈ r'.calls, FromCall inl call c := by
            intro r' e c hcm
            rw [e] at hcm
            simp only [List.mem_singleton] at hcm; subst hcm
            exact ⟨hin, hc⟩
          split at h <;> (simp only [Option.some.injEq] at h; subst h; exact this _ rfl)
        · simp at h
      · rename_i v L1 hc
        split at h
        · split at h
          · split at h
            · simp only [Option.some.injEq] at h; subst h
              intro c hcm
              simp only [List.mem_singleton] at hcm; subst hcm
              exact ⟨some L1, hc, rfl, .inr ⟨hin, L1, rfl⟩⟩
            · simp at h
          · simp at h
        · simp at h
      · simp at h
    · simp at h

theorem quiet_calls {x : Option AV} {r : SR} (h : quiet x = some r) : r.calls = [] := by
  unfold quiet at h
  split at h
  · simp only [Option.some.injEq] at h; subst h; rfl
  · simp at h

theorem loadA_calls {el : Option AV} {L : Heap} {T : TypeId} {p : AV} {r : SR} (h : loadA P el L T p = some r) : r.calls = [] := by
  unfold loadA at h
  repeat' split at h
  all_goals first | (simp only [Option.some.injEq] at h; subst h; rfl) | simp at h
theorem storeA_calls {el : Option AV} {L : Heap} {T : TypeId} {p v : AV} {r : SR} (h : storeA P el L T p v = some r) : r.calls = [] := by
  unfold storeA at h
  repeat' split at h
  all_goals first | (simp only [Option.some.injEq] at h; subst h; rfl) | simp at h
theorem boxA_calls {L : Heap} {x : AV} {r : SR} (h : boxA L x = some r) : r.calls = [] := by
  unfold boxA at h
  repeat' split at h
  all_goals first | (simp only [Option.some.injEq] at h; subst h; rfl) | simp at h
theorem binA_calls {op : BinOp} {T : TypeId} {x y : AV} {r : SR} (h : binA P op T x y = some r) : r.calls = [] := by
  unfold binA intBin strBin at h
  repeat' split at h
  all_goals first | exact quiet_calls h | (simp only [Option.some.injEq] at h; subst h; rfl) | simp at h
theorem indexA_calls {T : TypeId} {x y : AV} {r : SR} (h : indexA P T x y = some r) : r.calls = [] := by
  unfold indexA at h
  repeat' split at h
  all_goals first | (simp only [Option.some.injEq] at h; subst h; rfl) | simp at h
theorem indexAddrA_calls {L : Heap} {T : TypeId} {x y : AV} {r : SR} (h : indexAddrA P L T x y = some r) : r.calls = [] := by
  unfold indexAddrA at h
  repeat' split at h
  all_goals first | (simp only [Option.some.injEq] at h; subst h; rfl) | simp at h
theorem sliceA_calls {L : Heap} {T : TypeId} {x : AV} {a b c : Option AV} {r : SR} (h : sliceA P L T x a b c = some r) : r.calls = [] := by
  unfold sliceA at h
  repeat' split at h
  all_goals first | (simp only [Option.some.injEq] at h; subst h; rfl) | simp at h
theorem makeSliceA_calls {L : Heap} {T : TypeId} {x y : AV} {r : SR} (h : makeSliceA P L T x y = some r) : r.calls = [] := by
  unfold makeSliceA at h
  repeat' split at h
  all_goals first | (simp only [Option.some.injEq] at h; subst h; rfl) | simp at h
theorem buildSliceA_calls {keep : Bool} {L : Heap} {T : TypeId} {n : Nat} {ps : List (Nat × AV)} {r : SR} (h : buildSliceA P keep L T n ps = some r) : r.calls = [] := by
  unfold buildSliceA at h
  cases keep <;> simp only [cond_true, cond_false] at h <;> (repeat' split at h) <;> first | (simp only [Option.some.injEq] at h; subst h; rfl) | simp at h
theorem appendA_calls {L : Heap} {T : TypeId} {x y : AV} {r : SR} (h : appendA P L T x y = some r) : r.calls = [] := by
  unfold appendA at h
  repeat' split at h
  all_goals first | (simp only [Option.some.injEq] at h; subst h; rfl) | simp at h
theorem clearA_calls {L : Heap} {T : TypeId} {x : AV} {r : SR} (h : clearA P L T x = some r) : r.calls = [] := by
  unfold clearA at h
  repeat' split at h
  all_goals first | (simp only [Option.some.injEq] at h; subst h; rfl) | simp at h
theorem lenA_calls {L : Heap} {T : TypeId} {x : AV} {r : SR} (h : lenA P L T x = some r) : r.calls = [] := by
  unfold lenA at h
  repeat' split at h
  all_goals first | (simp only [Option.some.injEq] at h; subst h; rfl) | simp at h

theorem stepA_from {ρ : Chain → Operand → AV} {L : Heap} {o : Oper} {r : SR} (h : stepA P inl call none ρ L o = some r) : ∀ c ∈ r.calls, FromCall inl call c := by
  have nil : r.calls = [] → ∀ c ∈ r.calls, FromCall inl call c := fun e => by rw [e]; simp
  have hc : ∀ c : Call, callA P inl call (ρ []) L c = some r → ∀ c ∈ r.calls, FromCall inl call c := by
    intro c h
    unfold callA at h
    repeat' split at h
    all_goals first
      | exact callF_from h
      | exact nil (appendA_calls h)
      | exact nil (clearA_calls h)
      | exact nil (lenA_calls h)
      | exact nil (quiet_calls h)
      | simp at h
  obtain ⟨dst, op, type, pos, after, guard⟩ := o
  cases op <;> simp only [stepA] at h
  all_goals first
    | exact nil (quiet_calls h)
    | exact nil (boxA_calls h)
    | exact nil (loadA_calls h)
    | exact nil (storeA_calls h)
    | exact nil (binA_calls h)
    | exact nil (buildSliceA_calls h)
    | exact nil (makeSliceA_calls h)
    | exact nil (sliceA_calls h)
    | exact nil (indexAddrA_calls h)
    | exact nil (indexA_calls h)
    | exact hc _ h
    | (simp only [Option.some.injEq] at h; subst h; exact nil rfl)
    | (split at h <;> first
        | exact nil (quiet_calls h)
        | exact nil (boxA_calls h)
        | (simp only [Option.some.injEq] at h; subst h; exact nil rfl)
        | simp at h)
    | simp at h

theorem runOp_from {n : Nat} {ops : Array Oper} {hot : Nat} {o : Oper} {s s' : RS} (h : runOp P inl call n ops none hot o s = some s') (hs : ∀ c ∈ s.calls, c.cond = true → FromCall inl call c) :
    ∀ c ∈ s'.calls, c.cond = true → FromCall inl call c := by
  unfold runOp at h
  split at h
  · simp at h
  · split at h
    · simp only [Option.some.injEq] at h; subst h; exact hs
    · simp at h
  · rename_i c hc
    split at h
    · split at h
      · simp at h
      · split at h
        · simp only [Option.some.injEq] at h; subst h; exact hs
        · simp at h
    · rename_i r hr
      have hfrom := stepA_from hr
      split at h
      · simp at h
      · split at h
        · simp at h
        · split at h
          · simp only [Option.some.injEq] at h; subst h
            intro c hcm hcc
            rcases List.mem_append.1 hcm with hcm | hcm
            · exact hs c hcm hcc
            · exact hfrom c hcm
          · simp only [Option.some.injEq] at h; subst h
            intro c hcm hcc
            rcases List.mem_append.1 hcm with hcm | hcm
            · exact hs c hcm hcc
            · obtain ⟨c', h1, rfl⟩ := List.mem_map.1 hcm
              exact hfrom c' h1

theorem runOps_from {n : Nat} {ops : Array Oper} {hot : Nat → Nat} : ∀ (l : List Nat) {s s' : RS}, runOps P inl call n ops (fun _ => none) hot l s = some s' → (∀ c ∈ s.calls, c.cond = true → FromCall inl call c) →
    ∀ c ∈ s'.calls, c.cond = true → FromCall inl call c
  | [], s, s', h, hs => by simp only [runOps, Option.some.injEq] at h; subst h; exact hs
  | i :: l, s, s', h, hs => by
    simp only [runOps] at h
    split at h
    · exact runOps_from l h hs
    · split at h
      · rename_i s1 h1
        exact runOps_from l h (runOp_from h1 hs)
      · simp at h
end

/-- What is told for a run: the temporaries that are read later, by function and region; the calls that change the memory. -/
structure Told where
  keep : FuncId → Nat → List Nat
  hot : FuncId → Nat → Nat → List Nat := fun _ _ _ => []
  fresh : FuncId → Bool := fun _ => false

def pureC (r : Option (AV × Heap)) : Option AV :=
  match r with
  | some (v, L') => match pureA L' v with
    | some d => if (versA L' v).all (fun b => b) = true ∧ d.clean = true then some d else none
    | none => none
  | none => none

def runC (M : Mach) (T : Told) : Nat → FuncId → Fi → List Item → Vars → Heap → Option (AV × Heap)
  | 0, _, _, _, _, _ => none
  | n + 1, f, fi, todo, env, L =>
    match todo with
    | [] => match finish M.P fi env L with
      | some v => some (v, L)
      | none => none
    | .inBlock _ :: k => runC M T n f fi k env L
    | .inLoop b :: k => runC M T n f fi (.code b :: .inLoop b :: k) env L
    | .code c :: k =>
      match c with
      | .skip => runC M T n f fi k env L
      | .seq a b => runC M T n f fi (.code a :: .code b :: k) env L
      | .cond c a b => match evV env c with
        | .bool t => runC M T n f fi (.code (bif t then a else b) :: k) env L
        | _ => none
      | .block id b => runC M T n f fi (.code b :: .inBlock id :: k) env L
      | .loop b => runC M T n f fi (.code b :: .inLoop b :: k) env L
      | .exit id => match exitTo id k with
        | some k' => runC M T n f fi k' env L
        | none => none
      | .ret => match finish M.P fi env L with
        | some v => some (v, L)
        | none => none
      | .region id ops draw =>
        match (bif draw then drawOk (hotOf ops (T.hot f id L.length)) ops else true) with
        | false => none
        | true =>
          match runOps M.P M.inl (fun g args L =>
              let r := match (M.P ()).funcs[g]? with
                | some fn => match fn.body, fn.name == "runtime.NumGoroutine" with
                  | some c, false => runC M T n g ⟨fn.ntmps, fn.results.toList⟩ [.code c] (argVars 0 args) L
                  | _, _ => none
                | none => none
              bif M.inl g || T.fresh g then (match r with | some (v, L') => some (v, some L') | none => none) else (match pureC r with | some d => some (d, none) | none => none))
              fi.n ops (fun _ => none) (bif draw then hotOf ops (T.hot f id L.length) else fun _ => 2) (List.range ops.size) ⟨lift env, L, [], [], []⟩ with
          | some s => match s.asm.all (fun b => b), s.eqs with
            | true, [] => runC M T n f fi k (forget (T.keep f id) s.env) s.L
            | _, _ => none
          | none => none
      | _ => none
    | _ => none

def ownC (M : Mach) (T : Told) (n : Nat) (g : FuncId) (args : List AV) (L : Heap) : Option (AV × Heap) :=
  match (M.P ()).funcs[g]? with
  | some fn => match fn.body, fn.name == "runtime.NumGoroutine" with
    | some c, false => runC M T n g ⟨fn.ntmps, fn.results.toList⟩ [.code c] (argVars 0 args) L
    | _, _ => none
  | none => none

theorem own_of {M : Mach} {T : Told} {n : Nat} (ih : ∀ f fi todo env L v L', runC M T n f fi todo env L = some (v, L') → Ev M (.run fi todo env L) v L') {g : FuncId} {args : List AV} {L L' : Heap} {v : AV}
    (h : ownC M T n g args L = some (v, L')) : Ev M (.own g args L) v L' := by
  unfold ownC at h
  split at h
  · rename_i fn hf
    split at h
    · rename_i c hb hn
      exact .own fn c hf hb hn (ih _ _ _ _ _ _ _ h)
    · simp at h
  · simp at h

theorem pure_of_own {M : Mach} {g : FuncId} {args : List AV} {r : Option (AV × Heap)} {d : AV} (hr : ∀ v L', r = some (v, L') → Ev M (.own g args []) v L') (h : pureC r = some d) : Ev M (.pure g args) d [] := by
  unfold pureC at h
  split at h
  · rename_i v L'
    split at h
    · rename_i d' hd
      split at h
      · rename_i hc
        simp only [Option.some.injEq] at h; subst h
        exact .pure (.mono (hr v L' rfl) fun v' K' ⟨e1, e2⟩ => by subst e1; subst e2; exact ⟨d', d', hd, by simpa using hc.1, hc.2, .refl _, rfl, rfl⟩)
      · simp at h
    · simp at h
  · simp at h

theorem runC_sound {M : Mach} {T : Told} : ∀ (n : Nat) (f : FuncId) (fi : Fi) (todo : List Item) (env : Vars) (L : Heap) (v : AV) (L' : Heap), runC M T n f fi todo env L = some (v, L') → Ev M (.run fi todo env L) v L' := by
  intro n
  induction n with
  | zero => intro f fi todo env L v L' h; simp [runC] at h
  | succ n ih =>
    intro f fi todo env L v L' h
    unfold runC at h
    split at h
    · split at h
      · rename_i v' hf
        simp only [Option.some.injEq, Prod.mk.injEq] at h
        obtain ⟨rfl, rfl⟩ := h
        exact .done hf ⟨rfl, rfl⟩
      · simp at h
    · exact .inBlock (ih _ _ _ _ _ _ _ h)
    · exact .inLoop (ih _ _ _ _ _ _ _ h)
    · split at h
      · exact .skip (ih _ _ _ _ _ _ _ h)
      · exact .seq (ih _ _ _ _ _ _ _ h)
      · split at h
        · rename_i t ht
          exact .cond t ht (ih _ _ _ _ _ _ _ h)
        · simp at h
      · exact .block (ih _ _ _ _ _ _ _ h)
      · exact .loop (ih _ _ _ _ _ _ _ h)
      · split at h
        · rename_i k' hk
          exact .exit hk (ih _ _ _ _ _ _ _ h)
        · simp at h
      · split at h
        · rename_i v' hf
          simp only [Option.some.injEq, Prod.mk.injEq] at h
          obtain ⟨rfl, rfl⟩ := h
          exact .ret hf ⟨rfl, rfl⟩
        · simp at h
      · split at h
        · simp at h
        · rename_i id ops draw k hd
          split at h
          · rename_i s hr
            split at h
            · rename_i hA hE
              have hfrom := runOps_from _ hr (by simp)
              refine .region _ (fun _ => none) _ (T.keep f id) s (fun e => ?_) hr (by simpa using hA) (by rw [hE]; simp) (fun c hc h1 h2 => ?_) (fun c hc h1 h2 => ?_) (ih _ _ _ _ _ _ _ h)
              · subst e; simpa using hd
              · have := hfrom c hc h1
                unfold FromCall at this
                rw [h2] at this
                obtain ⟨o, k2, k3, k1⟩ := this
                cases hif : M.inl c.f || T.fresh c.f with
                | true =>
                  simp only [hif, cond_true] at k2
                  split at k2
                  · rename_i v' L2 hown
                    simp only [Option.some.injEq, Prod.mk.injEq] at k2
                    obtain ⟨rfl, rfl⟩ := k2
                    rw [k3]
                    exact own_of ih hown
                  · simp at k2
                | false =>
                  simp only [hif, cond_false] at k2
                  rcases k1 with k1 | ⟨k1, L3, k4⟩
                  · rw [k1] at hif; simp at hif
                  · subst k4
                    split at k2
                    · simp at k2
                    · simp at k2
              · have := hfrom c hc h1
                unfold FromCall at this
                rw [h2] at this
                obtain ⟨hin, k2⟩ := this
                cases hif : M.inl c.f || T.fresh c.f with
                | true =>
                  simp only [hif, cond_true] at k2
                  split at k2
                  · simp at k2
                  · simp at k2
                | false =>
                  simp only [hif, cond_false] at k2
                  split at k2
                  · rename_i d hp
                    simp only [Option.some.injEq, Prod.mk.injEq] at k2
                    obtain ⟨rfl, _⟩ := k2
                    exact pure_of_own (fun v' L2 hown => own_of ih hown) hp
                  · simp at k2
            · simp at h
          · simp at h
      · simp at h
    · simp at h

/-- A call without unknowns. -/
theorem closed {M : Mach} (T : Told) (n : Nat) {g : FuncId} {args : List AV} {d : AV} (h : pureC (ownC M T n g args []) = some d) : Ev M (.pure g args) d [] :=
  pure_of_own (fun _ _ hown => own_of (runC_sound n) hown) h
end Go.Av

/- THE EXAMPLES of the chapter hold: a run without unknowns. -/
namespace Go.Av
open Go.Proofs
def kw10 : List (Nat × List Nat) := [(0, []), (1, [1]), (2, [1, 2, 3]), (3, [1, 2, 3, 4]), (4, [1, 2, 3, 4, 5, 6, 7]), (5, [1, 2, 3, 4, 5, 6, 7, 8, 9]), (6, [0])]
def kw12 : List (Nat × List Nat) := [(0, [0, 1]), (1, [0, 1, 6]), (2, [0, 1, 6, 10]), (3, [4, 5]), (4, [0, 1, 16]), (5, [4, 5]), (6, [4, 5])]
def kw15 : List (Nat × List Nat) := [(0, [2, 3]), (1, [4])]
def kw17 : List (Nat × List Nat) := [(0, [0]), (1, [0, 3]), (2, [0, 3, 4]), (3, [0, 3, 4, 5]), (4, [0, 3, 4, 5, 19]), (5, [0, 3, 4, 5]), (6, [0, 3, 4, 5, 6]), (7, [0, 3, 4, 5, 6, 27, 28, 29]), (8, [0, 3, 4, 5, 6, 27, 28, 29, 30]), (9, [0, 3, 4, 5, 6, 7, 8, 27, 28, 29]), (10, [0, 3, 4, 5, 6, 7, 27, 28, 29, 60]), (11, [0, 3, 4, 5, 6, 27, 28, 29]), (12, [0, 3, 4, 5, 6, 27, 28, 29]), (13, [0, 3, 4, 5]), (14, [2])]
def kw18 : List (Nat × List Nat) := [(0, [0, 1]), (1, [0, 1, 10]), (2, [4]), (3, [0, 1, 5]), (4, [0, 1, 5, 14]), (5, [0, 1, 5]), (6, [0, 1, 5, 25]), (7, [4]), (8, [4])]
def kw20 : List (Nat × List Nat) := [(0, [0]), (1, [3]), (2, [2])]
def kw22 : List (Nat × List Nat) := [(0, [0]), (1, [0, 5]), (2, [0, 5, 10]), (3, [2, 3, 4]), (4, [0, 14]), (5, [2, 3, 4]), (6, [6]), (7, [6]), (8, [2, 3, 4])]
def kw24 : List (Nat × List Nat) := [(0, [0, 1]), (1, [0, 1, 6]), (2, [0, 1, 6, 14]), (3, [4, 5]), (4, [0, 1, 25]), (5, [4, 5]), (6, [0, 1, 26, 27, 28]), (7, [0, 1, 26, 27, 28, 29]), (8, [0, 1, 8, 26, 27, 28]), (9, [0, 1, 26, 27, 28, 37]), (10, [4, 5]), (11, [0, 1, 26, 27, 28]), (12, [9]), (13, [4, 5])]
def kw28 : List (Nat × List Nat) := [(0, [0, 1]), (1, [0, 10]), (2, [4]), (3, [11, 12, 13]), (4, [11, 12, 13, 14]), (5, [6, 11, 12, 13]), (6, [11, 12, 13, 30]), (7, [4]), (8, [11, 12, 13]), (9, [4])]
def kw29 : List (Nat × List Nat) := [(0, [0, 1]), (1, [0, 1, 21]), (2, [4]), (3, [0, 1, 5]), (4, [1, 5, 24, 25, 26]), (5, [1, 5, 24, 25, 26, 27]), (6, [1, 5, 7, 24, 25, 26]), (7, [1, 5, 7, 24, 25, 26, 42]), (8, [4]), (9, [1, 5, 24, 25, 26]), (10, [1, 5, 24, 25, 26]), (11, [4])]
def kw30 : List (Nat × List Nat) := [(0, [0, 1]), (1, [0, 1, 5]), (2, [0, 1, 5, 6]), (3, [0, 1, 5, 6, 10]), (4, [0, 1, 5, 6]), (5, [0, 1, 5, 6]), (6, [4])]
def kw36 : List (Nat × List Nat) := [(0, [0, 1]), (1, [0, 1, 6]), (2, [0, 1, 6, 21]), (3, [4, 5]), (4, [0, 1, 6, 7]), (5, [0, 1, 6, 7, 8]), (6, [0, 1, 6, 7, 8, 9]), (7, [0, 1, 6, 7, 8, 9]), (8, [0, 1, 6, 7, 8, 9, 35, 36]), (9, [0, 1, 6, 7, 8, 9, 35, 36, 37]), (10, [0, 1, 6, 7, 8, 9, 10, 35, 36]), (11, [0, 1, 6, 7, 8, 9, 35, 36]), (12, [0, 1, 6, 7, 8, 9, 35, 36]), (13, [0, 1, 6, 7, 8, 9, 11]), (14, [0, 1, 6, 7, 8, 9, 11, 62, 63]), (15, [0, 1, 6, 7, 8, 9, 11, 62, 63, 64]), (16, [0, 1, 6, 7, 8, 9, 11, 12, 62, 63]), (17, [0, 1, 6, 7, 8, 9, 11, 12, 62, 63, 66, 67]), (18, [0, 1, 6, 7, 8, 9, 11, 12, 62, 63, 66, 67, 68]), (19, [0, 1, 6, 7, 8, 9, 11, 12, 13, 62, 63, 66, 67]), (20, [0, 1, 6, 7, 8, 9, 11, 12, 13, 62, 63, 66, 67, 89]), (21, [0, 1, 6, 7, 8, 9, 11, 12, 62, 63, 66, 67]), (22, [0, 1, 6, 7, 8, 9, 11, 12, 62, 63, 66, 67]), (23, [0, 1, 6, 7, 8, 9, 11, 12, 62, 63]), (24, [0, 1, 6, 7, 8, 9, 11, 12, 62, 63]), (25, [0, 1, 6, 7, 8, 9, 11, 12, 62, 63]), (26, [0, 1, 6, 7, 8, 9, 11, 12, 62, 63]), (27, [0, 1, 6, 7, 8, 9, 11, 12, 62, 63, 117, 118]), (28, [0, 1, 6, 7, 8, 9, 11, 12, 62, 63, 117, 118, 119]), (29, [0, 1, 6, 7, 8, 9, 11, 12, 14, 62, 63, 117, 118]), (30, [0, 1, 6, 7, 8, 9, 11, 12, 14, 15, 62, 63, 117, 118]), (31, [0, 1, 6, 7, 8, 9, 11, 12, 14, 15, 62, 63, 117, 118, 152]), (32, [0, 1, 6, 7, 8, 9, 11, 12, 62, 63, 117, 118]), (33, [0, 1, 6, 7, 8, 9, 11, 12, 62, 63, 117, 118]), (34, [0, 1, 6, 7, 8, 9, 11, 62, 63]), (35, [4, 5])]
def kw38 : List (Nat × List Nat) := [(0, [0, 1, 2, 19]), (1, [0, 1, 2, 27]), (2, []), (3, [0, 1, 2, 41, 42]), (4, [0, 1, 2, 41, 42, 43]), (5, [0, 1, 2, 6, 41, 42]), (6, [0, 1, 2, 6, 41, 42, 48]), (7, [0, 1, 2, 41, 42]), (8, [0, 1, 2, 41, 42])]
def kw40 : List (Nat × List Nat) := [(0, [0, 1]), (1, [0, 1, 6, 7]), (2, [1, 6, 7, 18]), (3, [4, 5]), (4, [1, 6, 7, 20, 21, 22]), (5, [1, 6, 7, 20, 21, 22, 23]), (6, [1, 6, 7, 9, 20, 21, 22]), (7, [1, 6, 7, 20, 21, 22]), (8, [1, 6, 7, 20, 21, 22]), (9, [4, 5])]
def kw41 : List (Nat × List Nat) := [(0, [0]), (1, [0, 4]), (2, [2]), (3, [2])]
def kw45 : List (Nat × List Nat) := [(0, [0, 1]), (1, [4])]
def kw46 : List (Nat × List Nat) := [(0, [0]), (1, [0, 7]), (2, [0]), (3, [0, 3]), (4, [0, 3, 4]), (5, [0, 3, 4, 15]), (6, [0, 3, 4]), (7, [0, 3, 4]), (8, [2])]
def kw47 : List (Nat × List Nat) := [(0, [0, 1]), (1, [0, 1, 7, 8]), (2, [0, 1, 7, 8, 9]), (3, [0, 1, 5, 7, 8]), (4, [0, 1, 5, 7, 8, 16]), (5, [4]), (6, [0, 1, 7, 8]), (7, [4])]
def keeps : FuncId → Nat → List Nat
  | 10 => hotCalls kw10
  | 12 => hotCalls kw12
  | 15 => hotCalls kw15
  | 17 => hotCalls kw17
  | 18 => hotCalls kw18
  | 20 => hotCalls kw20
  | 22 => hotCalls kw22
  | 24 => hotCalls kw24
  | 28 => hotCalls kw28
  | 29 => hotCalls kw29
  | 30 => hotCalls kw30
  | 36 => hotCalls kw36
  | 38 => hotCalls kw38
  | 40 => hotCalls kw40
  | 41 => hotCalls kw41
  | 45 => hotCalls kw45
  | 46 => hotCalls kw46
  | 47 => hotCalls kw47
  | _ => fun _ => []
/-- Which rows the operations of a region whose order is drawn concern. -/
def hots : FuncId → Nat → Nat → List Nat
  | 38, 7, n =>
    let o := 1000 * (2 + bif Nat.beq n 1 then 900 else 1)
    [2, 2 + 1000 * (n + 2), 5 + 1000 * (n + 2), 4 + 1000 * 900, 10 + 1000 * 2, 13 + o, 15 + o, 16 + o, 17 + 1000 * 900, 18 + 1000 * 900, 22 + 1000 * 2, 24 + 1000 * 900, 25 + 1000 * 900, 26 + 1000 * 900, 28]
  | _, _, _ => []
set_option maxRecDepth 1000000 in
theorem ev10 : Ev M1 (.pure 10 []) (.bool true) [] := closed { keep := keeps, hot := hots, fresh := fun f => Nat.beq f 41 } 100000 (by kernel_rfl)
end Go.Av

/- PATHS, written by a program of the prover's. -/
namespace Go.Av
open Go.Proofs
set_option maxRecDepth 100000
def fi13 : Fi := ⟨20, [.tmp 4, .tmp 5]⟩
def kp13 : List (Nat × List Nat) := [(0, [0, 1]), (1, [0, 1, 6]), (2, [0, 1, 6, 10]), (3, [4, 5]), (4, [0, 1, 16]), (5, [4, 5]), (6, [4, 5])]
def v13_at (fl fm : Bool) (gs : List G2) (o : List Int) (Q : AV → Heap → Prop) : Prop := Wp M1 (.run fi13 (atC (cd Try.f13) []) [(0, .vec fl 2 (gs.map G2.a)), (1, .vec fm 1 (o.map (.int .i64)))] []) Q
theorem call13 {args : List AV} {d : AV} (h : Wp M1 (.run fi13 [.code (cd Try.f13)] (argVars 0 args) []) (PureQ d)) : Ev M1 (.pure 13 args) d [] :=
  pure_pq Try.f13 fi13 (by kernel_rfl) (by kernel_rfl) (by kernel_rfl) (by kernel_rfl) h
theorem owncall13 {args : List AV} {L : Heap} {Q : AV → Heap → Prop} (h : Wp M1 (.run fi13 [.code (cd Try.f13)] (argVars 0 args) L) Q) : Wp M1 (.own 13 args L) Q :=
  own_wp Try.f13 fi13 (by kernel_rfl) (by kernel_rfl) (by kernel_rfl) (by kernel_rfl) h
theorem keepcall13 {args : List AV} {L : Heap} {v : AV} {K : Heap} (hk : keepOk L.length v K = true) (h : Wp M1 (.run fi13 [.code (cd Try.f13)] (argVars 0 args) L) (KeepQ v K)) : Ev M1 (.own 13 args L) v K :=
  own_keep Try.f13 fi13 (by kernel_rfl) (by kernel_rfl) (by kernel_rfl) (by kernel_rfl) hk h
theorem v13 (fl fm : Bool) (gs : List G2) (o : List Int) (dq : AV) (H :
    (Sp.mOk 200) ∧
    ((¬Sp.checkE gs 200 = 0) → AV.tup [AV.int IntKind.i64 0, AV.int IntKind.i64 (Sp.checkE gs 200)] = dq) ∧
    (¬(¬Sp.checkE gs 200 = 0) → (0 ≤ (↑gs.length : Int) ∧ (↑gs.length : Int) ≤ 1000000) ∧
      ((¬(Sp.isOrd o (↑gs.length : Int) = true)) → AV.tup [AV.int IntKind.i64 0, AV.int IntKind.i64 1] = dq) ∧
      (¬(¬(Sp.isOrd o (↑gs.length : Int) = true)) → (Sp.okG gs) ∧
        (Sp.okO gs o) ∧
        (o.length ≤ 1000) ∧
        AV.tup [AV.int IntKind.i64 (Sp.way gs o), AV.int IntKind.i64 0] = dq))) :
  v13_at fl fm gs o (PureQ dq) := by
  unfold v13_at
  have k1 := H.1; have H := H.2
  have i2 : (Sp.checkE gs 200 != 0) = true ↔ (¬Sp.checkE gs 200 = 0) := i_ne
  rcases Classical.em (¬Sp.checkE gs 200 = 0) with d3 | d3
  · have H := H.1 d3
    exact path_ret (G := given kp13 [(1, 1, .call (AV.int IntKind.i64 (Sp.checkE gs 200)) none)] []) 1000 [true] (k := ((atC (cd Try.f13) [1, 0, 1, 1, 0, 1])).tail) (env' := [(4, AV.int IntKind.i64 0), (5, AV.int IntKind.i64 (Sp.checkE gs 200))]) (L' := []) (asm := [(Sp.checkE gs 200 != 0) == true]) (eqs := []) (calls := [⟨true, false, 31, [AV.vec fl 2 (List.map G2.a gs), AV.int IntKind.i64 200], [], AV.int IntKind.i64 (Sp.checkE gs 200), []⟩]) (AV.tup [AV.int IntKind.i64 0, AV.int IntKind.i64 (Sp.checkE gs 200)]) (by kernel_rfl) (by kernel_rfl) (allB_cons (beq_t (i2.2 d3)) allB_nil) allP_nil (allC_cons (fun _ => ((@ev31 (fl) (gs) (200) k1) : Ev M1 (Conf.pure 31 [AV.vec fl 2 (List.map G2.a gs), AV.int IntKind.i64 200]) (AV.int IntKind.i64 (Sp.checkE gs 200)) [])) allC_nil) (pq_of (d := AV.tup [AV.int IntKind.i64 0, AV.int IntKind.i64 (Sp.checkE gs 200)]) (bs := []) (by kernel_rfl) (by kernel_rfl) allB_nil (by kernel_rfl) H)
  · have H := H.2 d3
    have w4 : (List.map G2.a gs).length = gs.length := List.length_map ..
    have k5 := H.1; have H := H.2
    have i6 : (!Sp.isOrd o (↑gs.length : Int)) = true ↔ (¬(Sp.isOrd o (↑gs.length : Int) = true)) := (i_not (i_var _))
    rcases Classical.em (¬(Sp.isOrd o (↑gs.length : Int) = true)) with d7 | d7
    · have H := H.1 d7
      exact path_ret (G := given kp13 [(1, 1, .call (AV.int IntKind.i64 (Sp.checkE gs 200)) none), (4, 3, .call (AV.bool (Sp.isOrd o (↑gs.length : Int))) none)] []) 1000 [false, true] (k := ((atC (cd Try.f13) [1, 1, 0, 1, 0, 1])).tail) (env' := [(4, AV.int IntKind.i64 0), (5, AV.int IntKind.i64 1)]) (L' := []) (asm := [(Sp.checkE gs 200 != 0) == false, (!Sp.isOrd o (↑gs.length : Int)) == true]) (eqs := []) (calls := [⟨true, false, 31, [AV.vec fl 2 (List.map G2.a gs), AV.int IntKind.i64 200], [], AV.int IntKind.i64 (Sp.checkE gs 200), []⟩, ⟨true, false, 32, [AV.int IntKind.i64 (↑(List.map G2.a gs).length : Int), AV.vec fm 1 (List.map (AV.int IntKind.i64) o)], [], AV.bool (Sp.isOrd o (↑gs.length : Int)), []⟩]) (AV.tup [AV.int IntKind.i64 0, AV.int IntKind.i64 1]) (by kernel_rfl) (by kernel_rfl) (allB_cons (beq_f (fun h => d3 (i2.1 h))) (allB_cons (beq_t (i6.2 d7)) allB_nil)) allP_nil (allC_cons (fun _ => ((@ev31 (fl) (gs) (200) k1) : Ev M1 (Conf.pure 31 [AV.vec fl 2 (List.map G2.a gs), AV.int IntKind.i64 200]) (AV.int IntKind.i64 (Sp.checkE gs 200)) [])) (allC_cons (fun _ => ((by rw [w4] <;> exact (@ev32 (fm) (o) ((↑gs.length : Int)) k5)) : Ev M1 (Conf.pure 32 [AV.int IntKind.i64 (↑(List.map G2.a gs).length : Int), AV.vec fm 1 (List.map (AV.int IntKind.i64) o)]) (AV.bool (Sp.isOrd o (↑gs.length : Int))) [])) allC_nil)) (pq_of (d := AV.tup [AV.int IntKind.i64 0, AV.int IntKind.i64 1]) (bs := []) (by kernel_rfl) (by kernel_rfl) allB_nil (by kernel_rfl) H)
    · have H := H.2 d7
      have k8 := H.1; have H := H.2
      have k9 := H.1; have H := H.2
      have k10 := H.1; have H := H.2
      exact path_ret (G := given kp13 [(1, 1, .call (AV.int IntKind.i64 (Sp.checkE gs 200)) none), (4, 3, .call (AV.bool (Sp.isOrd o (↑gs.length : Int))) none), (6, 2, .call (AV.int IntKind.i64 (Sp.way gs o)) none)] []) 1000 [false, false] (k := ((atC (cd Try.f13) [1, 1, 1, 1])).tail) (env' := [(4, AV.int IntKind.i64 (Sp.way gs o)), (5, AV.int IntKind.i64 0)]) (L' := []) (asm := [(Sp.checkE gs 200 != 0) == false, (!Sp.isOrd o (↑gs.length : Int)) == false]) (eqs := []) (calls := [⟨true, false, 31, [AV.vec fl 2 (List.map G2.a gs), AV.int IntKind.i64 200], [], AV.int IntKind.i64 (Sp.checkE gs 200), []⟩, ⟨true, false, 32, [AV.int IntKind.i64 (↑(List.map G2.a gs).length : Int), AV.vec fm 1 (List.map (AV.int IntKind.i64) o)], [], AV.bool (Sp.isOrd o (↑gs.length : Int)), []⟩, ⟨true, false, 33, [AV.vec fl 2 (List.map G2.a gs), AV.vec fm 1 (List.map (AV.int IntKind.i64) o)], [], AV.int IntKind.i64 (Sp.way gs o), []⟩]) (AV.tup [AV.int IntKind.i64 (Sp.way gs o), AV.int IntKind.i64 0]) (by kernel_rfl) (by kernel_rfl) (allB_cons (beq_f (fun h => d3 (i2.1 h))) (allB_cons (beq_f (fun h => d7 (i6.1 h))) allB_nil)) allP_nil (allC_cons (fun _ => ((@ev31 (fl) (gs) (200) k1) : Ev M1 (Conf.pure 31 [AV.vec fl 2 (List.map G2.a gs), AV.int IntKind.i64 200]) (AV.int IntKind.i64 (Sp.checkE gs 200)) [])) (allC_cons (fun _ => ((by rw [w4] <;> exact (@ev32 (fm) (o) ((↑gs.length : Int)) k5)) : Ev M1 (Conf.pure 32 [AV.int IntKind.i64 (↑(List.map G2.a gs).length : Int), AV.vec fm 1 (List.map (AV.int IntKind.i64) o)]) (AV.bool (Sp.isOrd o (↑gs.length : Int))) [])) (allC_cons (fun _ => ((@ev33 (fl) (fm) (gs) (o) k8 k9 k10) : Ev M1 (Conf.pure 33 [AV.vec fl 2 (List.map G2.a gs), AV.vec fm 1 (List.map (AV.int IntKind.i64) o)]) (AV.int IntKind.i64 (Sp.way gs o)) [])) allC_nil))) (pq_of (d := AV.tup [AV.int IntKind.i64 (Sp.way gs o), AV.int IntKind.i64 0]) (bs := []) (by kernel_rfl) (by kernel_rfl) allB_nil (by kernel_rfl) H)


end Go.Av

/- WHAT Length OF THE REFERENCE ANSWERS. -/
namespace Go.Av
open Go.Proofs

theorem ev13 (fl fm : Bool) (gs : List G2) (o : List Int) : Ev M1 (.pure 13 [gsA fl gs, isA fm o]) (.tup [.int .i64 (Sp.lengthV gs o), .int .i64 (Sp.lengthE gs o)]) [] := by
  refine call13 (v13 fl fm gs o _ ⟨by simp [Sp.mOk], fun h => ?_, fun h => ⟨by have := (check_okG (Classical.not_not.1 h)).2; omega, fun k => ?_, fun k => ?_⟩⟩)
  · have e : Sp.lengthE gs o = Sp.checkE gs 200 := if_neg h
    rw [Sp.lengthV, e, if_neg h]
  · have h := Classical.not_not.1 h
    have e : Sp.lengthE gs o = 1 := by rw [Sp.lengthE, if_pos h, if_neg k]
    rw [Sp.lengthV, e, if_neg (by simp)]
  · have h := Classical.not_not.1 h
    have k := Classical.not_not.1 k
    have e : Sp.lengthE gs o = 0 := by rw [Sp.lengthE, if_pos h, if_pos k]
    obtain ⟨c1, c2⟩ := check_okG h
    obtain ⟨c3, c4⟩ := isOrd_okO k
    exact ⟨c1, c3, by omega, by rw [Sp.lengthV, e, if_pos rfl]⟩
end Go.Av

/- PATHS, written by a program of the prover's. -/
namespace Go.Av
open Go.Proofs
set_option maxRecDepth 100000
def fi4 : Fi := ⟨42, [.tmp 2]⟩
def kp4 : List (Nat × List Nat) := [(0, [0]), (1, [0, 12]), (2, [2]), (3, [0, 3]), (4, [0, 3, 20]), (5, [2]), (6, [0, 4, 5]), (7, [2])]
def fi6 : Fi := ⟨42, [.tmp 4]⟩
def kp6 : List (Nat × List Nat) := [(0, [0, 1]), (1, [0, 1, 20]), (2, [4]), (3, [0, 1, 5, 6]), (4, [5, 6, 7, 8]), (5, [4])]
def v4_at (fl : Bool) (gs : List G2) (Q : AV → Heap → Prop) : Prop := Wp M1 (.run fi4 (atC (cd Try.f4) []) [(0, .vec fl 2 (gs.map G2.a))] []) Q
def v6_at (fl fw : Bool) (gs : List G2) (w : List Int) (Q : AV → Heap → Prop) : Prop := Wp M1 (.run fi6 (atC (cd Try.f6) []) [(0, .vec fl 2 (gs.map G2.a)), (1, .vec fw 1 (w.map (.int .i64)))] []) Q
theorem call4 {args : List AV} {d : AV} (h : Wp M1 (.run fi4 [.code (cd Try.f4)] (argVars 0 args) []) (PureQ d)) : Ev M1 (.pure 4 args) d [] :=
  pure_pq Try.f4 fi4 (by kernel_rfl) (by kernel_rfl) (by kernel_rfl) (by kernel_rfl) h
theorem owncall4 {args : List AV} {L : Heap} {Q : AV → Heap → Prop} (h : Wp M1 (.run fi4 [.code (cd Try.f4)] (argVars 0 args) L) Q) : Wp M1 (.own 4 args L) Q :=
  own_wp Try.f4 fi4 (by kernel_rfl) (by kernel_rfl) (by kernel_rfl) (by kernel_rfl) h
theorem keepcall4 {args : List AV} {L : Heap} {v : AV} {K : Heap} (hk : keepOk L.length v K = true) (h : Wp M1 (.run fi4 [.code (cd Try.f4)] (argVars 0 args) L) (KeepQ v K)) : Ev M1 (.own 4 args L) v K :=
  own_keep Try.f4 fi4 (by kernel_rfl) (by kernel_rfl) (by kernel_rfl) (by kernel_rfl) hk h
theorem call6 {args : List AV} {d : AV} (h : Wp M1 (.run fi6 [.code (cd Try.f6)] (argVars 0 args) []) (PureQ d)) : Ev M1 (.pure 6 args) d [] :=
  pure_pq Try.f6 fi6 (by kernel_rfl) (by kernel_rfl) (by kernel_rfl) (by kernel_rfl) h
theorem owncall6 {args : List AV} {L : Heap} {Q : AV → Heap → Prop} (h : Wp M1 (.run fi6 [.code (cd Try.f6)] (argVars 0 args) L) Q) : Wp M1 (.own 6 args L) Q :=
  own_wp Try.f6 fi6 (by kernel_rfl) (by kernel_rfl) (by kernel_rfl) (by kernel_rfl) h
theorem keepcall6 {args : List AV} {L : Heap} {v : AV} {K : Heap} (hk : keepOk L.length v K = true) (h : Wp M1 (.run fi6 [.code (cd Try.f6)] (argVars 0 args) L) (KeepQ v K)) : Ev M1 (.own 6 args L) v K :=
  own_keep Try.f6 fi6 (by kernel_rfl) (by kernel_rfl) (by kernel_rfl) (by kernel_rfl) hk h
theorem v4 (fl : Bool) (gs : List G2) (dq : AV) (H :
    (Sp.mOk 12) ∧
    ((¬Sp.checkE gs 12 = 0) → AV.bool true = dq) ∧
    (¬(¬Sp.checkE gs 12 = 0) → (Sp.okG gs ∧ gs.length ≤ 1000) ∧
      ((Sp.nearest gs).length ≤ 1000000) ∧
      ((¬(Sp.same (Sp.nearest gs) (Sp.nearest gs) = true)) → AV.bool false = dq) ∧
      (¬(¬(Sp.same (Sp.nearest gs) (Sp.nearest gs) = true)) → AV.bool (bif bif Sp.lengthE gs (Sp.nearest gs) == 0 then Sp.tree gs == Sp.tree gs else false then decide (Sp.tree gs ≤ Sp.lengthV gs (Sp.nearest gs)) else false) = dq))) :
  v4_at fl gs (PureQ dq) := by
  unfold v4_at
  have k1 := H.1; have H := H.2
  have i2 : (!Sp.checkE gs 12 == 0) = true ↔ (¬Sp.checkE gs 12 = 0) := i_neq
  rcases Classical.em (¬Sp.checkE gs 12 = 0) with d3 | d3
  · have H := H.1 d3
    exact path_ret (G := given kp4 [(1, 0, .call (AV.bool true) none), (1, 4, .call (AV.bool (Sp.checkE gs 12 == 0)) none), (2, 0, .call (AV.bool true) none)] []) 1000 [true] (k := ((atC (cd Try.f4) [1, 0, 1, 0, 1])).tail) (env' := [(2, AV.bool true)]) (L' := []) (asm := [(!Sp.checkE gs 12 == 0) == true]) (eqs := []) (calls := [⟨true, false, 10, [], [], AV.bool true, []⟩, ⟨true, false, 14, [AV.vec fl 2 (List.map G2.a gs), AV.int IntKind.i64 12], [], AV.bool (Sp.checkE gs 12 == 0), []⟩, ⟨true, false, 10, [], [], AV.bool true, []⟩]) (AV.bool true) (by kernel_rfl) (by kernel_rfl) (allB_cons (beq_t (i2.2 d3)) allB_nil) allP_nil (allC_cons (fun _ => ((@ev10 ) : Ev M1 (Conf.pure 10 []) (AV.bool true) [])) (allC_cons (fun _ => ((@ev14 (fl) (gs) (12) k1) : Ev M1 (Conf.pure 14 [AV.vec fl 2 (List.map G2.a gs), AV.int IntKind.i64 12]) (AV.bool (Sp.checkE gs 12 == 0)) [])) (allC_cons (fun _ => ((@ev10 ) : Ev M1 (Conf.pure 10 []) (AV.bool true) [])) allC_nil))) (pq_of (d := AV.bool true) (bs := []) (by kernel_rfl) (by kernel_rfl) allB_nil (by kernel_rfl) H)
  · have H := H.2 d3
    have k4 := H.1; have H := H.2
    have k5 := H.1; have H := H.2
    have i6 : (!Sp.same (Sp.nearest gs) (Sp.nearest gs)) = true ↔ (¬(Sp.same (Sp.nearest gs) (Sp.nearest gs) = true)) := (i_not (i_var _))
    rcases Classical.em (¬(Sp.same (Sp.nearest gs) (Sp.nearest gs) = true)) with d7 | d7
    · have H := H.1 d7
      exact path_ret (G := given kp4 [(1, 0, .call (AV.bool true) none), (1, 4, .call (AV.bool (Sp.checkE gs 12 == 0)) none), (3, 1, .call (AV.vec false 1 (List.map (AV.int IntKind.i64) (Sp.nearest gs))) none), (4, 2, .call (AV.vec false 1 (List.map (AV.int IntKind.i64) (Sp.nearest gs))) none), (4, 3, .call (AV.bool (Sp.same (Sp.nearest gs) (Sp.nearest gs))) none)] []) 1000 [false, true] (k := ((atC (cd Try.f4) [1, 1, 1, 0, 1, 0, 1])).tail) (env' := [(2, AV.bool false)]) (L' := []) (asm := [(!Sp.checkE gs 12 == 0) == false, (!Sp.same (Sp.nearest gs) (Sp.nearest gs)) == true]) (eqs := []) (calls := [⟨true, false, 10, [], [], AV.bool true, []⟩, ⟨true, false, 14, [AV.vec fl 2 (List.map G2.a gs), AV.int IntKind.i64 12], [], AV.bool (Sp.checkE gs 12 == 0), []⟩, ⟨true, false, 17, [AV.vec fl 2 (List.map G2.a gs)], [], AV.vec false 1 (List.map (AV.int IntKind.i64) (Sp.nearest gs)), []⟩, ⟨true, false, 19, [AV.vec fl 2 (List.map G2.a gs)], [], AV.vec false 1 (List.map (AV.int IntKind.i64) (Sp.nearest gs)), []⟩, ⟨true, false, 18, [AV.vec false 1 (List.map (AV.int IntKind.i64) (Sp.nearest gs)), AV.vec false 1 (List.map (AV.int IntKind.i64) (Sp.nearest gs))], [], AV.bool (Sp.same (Sp.nearest gs) (Sp.nearest gs)), []⟩]) (AV.bool false) (by kernel_rfl) (by kernel_rfl) (allB_cons (beq_f (fun h => d3 (i2.1 h))) (allB_cons (beq_t (i6.2 d7)) allB_nil)) allP_nil (allC_cons (fun _ => ((@ev10 ) : Ev M1 (Conf.pure 10 []) (AV.bool true) [])) (allC_cons (fun _ => ((@ev14 (fl) (gs) (12) k1) : Ev M1 (Conf.pure 14 [AV.vec fl 2 (List.map G2.a gs), AV.int IntKind.i64 12]) (AV.bool (Sp.checkE gs 12 == 0)) [])) (allC_cons (fun _ => ((@ev17 (fl) (gs) k4) : Ev M1 (Conf.pure 17 [AV.vec fl 2 (List.map G2.a gs)]) (AV.vec false 1 (List.map (AV.int IntKind.i64) (Sp.nearest gs))) [])) (allC_cons (fun _ => ((@ev19 (fl) (gs) k4) : Ev M1 (Conf.pure 19 [AV.vec fl 2 (List.map G2.a gs)]) (AV.vec false 1 (List.map (AV.int IntKind.i64) (Sp.nearest gs))) [])) (allC_cons (fun _ => ((@ev18 (false) (false) (Sp.nearest gs) (Sp.nearest gs) k5) : Ev M1 (Conf.pure 18 [AV.vec false 1 (List.map (AV.int IntKind.i64) (Sp.nearest gs)), AV.vec false 1 (List.map (AV.int IntKind.i64) (Sp.nearest gs))]) (AV.bool (Sp.same (Sp.nearest gs) (Sp.nearest gs))) [])) allC_nil))))) (pq_of (d := AV.bool false) (bs := []) (by kernel_rfl) (by kernel_rfl) allB_nil (by kernel_rfl) H)
    · have H := H.2 d7
      have i8 : ((Sp.lengthE gs (Sp.nearest gs) == 0) == true && true && true) = true ↔ (Sp.lengthE gs (Sp.nearest gs) = 0) := (i_at (i_at (i_bt i_eq)))
      have i9 : ((Sp.lengthE gs (Sp.nearest gs) == 0) == true && true && true) = true ↔ (Sp.lengthE gs (Sp.nearest gs) = 0) := (i_at (i_at (i_bt i_eq)))
      have i10 : ((bif Sp.lengthE gs (Sp.nearest gs) == 0 then Sp.tree gs == Sp.tree gs else false) == true && true && true) = true ↔ ((Sp.lengthE gs (Sp.nearest gs) = 0) ∧ (Sp.tree gs = Sp.tree gs)) := (i_at (i_at (i_bt (i_band i_eq i_eq))))
      exact path_ret (G := given kp4 [(1, 0, .call (AV.bool true) none), (1, 4, .call (AV.bool (Sp.checkE gs 12 == 0)) none), (3, 1, .call (AV.vec false 1 (List.map (AV.int IntKind.i64) (Sp.nearest gs))) none), (4, 2, .call (AV.vec false 1 (List.map (AV.int IntKind.i64) (Sp.nearest gs))) none), (4, 3, .call (AV.bool (Sp.same (Sp.nearest gs) (Sp.nearest gs))) none), (6, 2, .call (AV.tup [AV.int IntKind.i64 (Sp.lengthV gs (Sp.nearest gs)), AV.int IntKind.i64 (Sp.lengthE gs (Sp.nearest gs))]) none), (7, 4, .call (AV.int IntKind.i64 (Sp.tree gs)) none), (7, 6, .call (AV.int IntKind.i64 (Sp.tree gs)) none), (7, 11, .call (AV.int IntKind.i64 (Sp.tree gs)) none)] []) 1000 [false, false] (k := ((atC (cd Try.f4) [1, 1, 1, 1, 1, 1])).tail) (env' := [(2, AV.bool (bif bif Sp.lengthE gs (Sp.nearest gs) == 0 then Sp.tree gs == Sp.tree gs else false then decide (Sp.tree gs ≤ Sp.lengthV gs (Sp.nearest gs)) else false))]) (L' := []) (asm := [(!Sp.checkE gs 12 == 0) == false, (!Sp.same (Sp.nearest gs) (Sp.nearest gs)) == false]) (eqs := []) (calls := [⟨true, false, 10, [], [], AV.bool true, []⟩, ⟨true, false, 14, [AV.vec fl 2 (List.map G2.a gs), AV.int IntKind.i64 12], [], AV.bool (Sp.checkE gs 12 == 0), []⟩, ⟨true, false, 17, [AV.vec fl 2 (List.map G2.a gs)], [], AV.vec false 1 (List.map (AV.int IntKind.i64) (Sp.nearest gs)), []⟩, ⟨true, false, 19, [AV.vec fl 2 (List.map G2.a gs)], [], AV.vec false 1 (List.map (AV.int IntKind.i64) (Sp.nearest gs)), []⟩, ⟨true, false, 18, [AV.vec false 1 (List.map (AV.int IntKind.i64) (Sp.nearest gs)), AV.vec false 1 (List.map (AV.int IntKind.i64) (Sp.nearest gs))], [], AV.bool (Sp.same (Sp.nearest gs) (Sp.nearest gs)), []⟩, ⟨true, false, 12, [AV.vec fl 2 (List.map G2.a gs), AV.vec false 1 (List.map (AV.int IntKind.i64) (Sp.nearest gs))], [], AV.tup [AV.int IntKind.i64 (Sp.lengthV gs (Sp.nearest gs)), AV.int IntKind.i64 (Sp.lengthE gs (Sp.nearest gs))], []⟩, ⟨(Sp.lengthE gs (Sp.nearest gs) == 0) == true && true && true, false, 20, [AV.vec fl 2 (List.map G2.a gs)], [], AV.int IntKind.i64 (Sp.tree gs), []⟩, ⟨(Sp.lengthE gs (Sp.nearest gs) == 0) == true && true && true, false, 21, [AV.vec fl 2 (List.map G2.a gs)], [], AV.int IntKind.i64 (Sp.tree gs), []⟩, ⟨(bif Sp.lengthE gs (Sp.nearest gs) == 0 then Sp.tree gs == Sp.tree gs else false) == true && true && true, false, 20, [AV.vec fl 2 (List.map G2.a gs)], [], AV.int IntKind.i64 (Sp.tree gs), []⟩]) (AV.bool (bif bif Sp.lengthE gs (Sp.nearest gs) == 0 then Sp.tree gs == Sp.tree gs else false then decide (Sp.tree gs ≤ Sp.lengthV gs (Sp.nearest gs)) else false)) (by kernel_rfl) (by kernel_rfl) (allB_cons (beq_f (fun h => d3 (i2.1 h))) (allB_cons (beq_f (fun h => d7 (i6.1 h))) allB_nil)) allP_nil (allC_cons (fun _ => ((@ev10 ) : Ev M1 (Conf.pure 10 []) (AV.bool true) [])) (allC_cons (fun _ => ((@ev14 (fl) (gs) (12) k1) : Ev M1 (Conf.pure 14 [AV.vec fl 2 (List.map G2.a gs), AV.int IntKind.i64 12]) (AV.bool (Sp.checkE gs 12 == 0)) [])) (allC_cons (fun _ => ((@ev17 (fl) (gs) k4) : Ev M1 (Conf.pure 17 [AV.vec fl 2 (List.map G2.a gs)]) (AV.vec false 1 (List.map (AV.int IntKind.i64) (Sp.nearest gs))) [])) (allC_cons (fun _ => ((@ev19 (fl) (gs) k4) : Ev M1 (Conf.pure 19 [AV.vec fl 2 (List.map G2.a gs)]) (AV.vec false 1 (List.map (AV.int IntKind.i64) (Sp.nearest gs))) [])) (allC_cons (fun _ => ((@ev18 (false) (false) (Sp.nearest gs) (Sp.nearest gs) k5) : Ev M1 (Conf.pure 18 [AV.vec false 1 (List.map (AV.int IntKind.i64) (Sp.nearest gs)), AV.vec false 1 (List.map (AV.int IntKind.i64) (Sp.nearest gs))]) (AV.bool (Sp.same (Sp.nearest gs) (Sp.nearest gs))) [])) (allC_cons (fun _ => ((@ev12 (fl) (false) (gs) (Sp.nearest gs)) : Ev M1 (Conf.pure 12 [AV.vec fl 2 (List.map G2.a gs), AV.vec false 1 (List.map (AV.int IntKind.i64) (Sp.nearest gs))]) (AV.tup [AV.int IntKind.i64 (Sp.lengthV gs (Sp.nearest gs)), AV.int IntKind.i64 (Sp.lengthE gs (Sp.nearest gs))]) [])) (allC_cons (fun hc => ((@ev20 (fl) (gs) k4) : Ev M1 (Conf.pure 20 [AV.vec fl 2 (List.map G2.a gs)]) (AV.int IntKind.i64 (Sp.tree gs)) [])) (allC_cons (fun hc => ((@ev21 (fl) (gs) k4) : Ev M1 (Conf.pure 21 [AV.vec fl 2 (List.map G2.a gs)]) (AV.int IntKind.i64 (Sp.tree gs)) [])) (allC_cons (fun hc => ((@ev20 (fl) (gs) k4) : Ev M1 (Conf.pure 20 [AV.vec fl 2 (List.map G2.a gs)]) (AV.int IntKind.i64 (Sp.tree gs)) [])) allC_nil))))))))) (pq_of (d := AV.bool (bif bif Sp.lengthE gs (Sp.nearest gs) == 0 then Sp.tree gs == Sp.tree gs else false then decide (Sp.tree gs ≤ Sp.lengthV gs (Sp.nearest gs)) else false)) (bs := []) (by kernel_rfl) (by kernel_rfl) allB_nil (by kernel_rfl) H)

theorem v6 (fl fw : Bool) (gs : List G2) (w : List Int) (dq : AV) (H :
    (((¬(((↑gs.length : Int) ≤ 12) ∨ (((↑gs.length : Int) > 199) ∧ ((↑gs.length : Int) < 203)))) ∨ ((↑w.length : Int) > 205)) → AV.bool true = dq) ∧
    (¬((¬(((↑gs.length : Int) ≤ 12) ∨ (((↑gs.length : Int) > 199) ∧ ((↑gs.length : Int) < 203)))) ∨ ((↑w.length : Int) > 205)) → AV.bool (bif Sp.boundR gs w == Sp.boundR gs w then Sp.boundE gs w == Sp.boundE gs w else false) = dq)) :
  v6_at fl fw gs w (PureQ dq) := by
  unfold v6_at
  have w1 : (List.map (AV.int IntKind.i64) w).length = w.length := List.length_map ..
  have i2 : (bif !bif decide ((↑gs.length : Int) ≤ 12) then true else bif decide ((↑gs.length : Int) > 199) then decide ((↑gs.length : Int) < 203) else false then true else decide ((↑(List.map (AV.int IntKind.i64) w).length : Int) > 205)) = true ↔ ((¬(((↑gs.length : Int) ≤ 12) ∨ (((↑gs.length : Int) > 199) ∧ ((↑gs.length : Int) < 203)))) ∨ ((↑w.length : Int) > 205)) := (by rw [w1] <;> exact (i_bor (i_not (i_bor i_dec (i_band i_dec i_dec))) i_dec))
  rcases Classical.em ((¬(((↑gs.length : Int) ≤ 12) ∨ (((↑gs.length : Int) > 199) ∧ ((↑gs.length : Int) < 203)))) ∨ ((↑w.length : Int) > 205)) with d3 | d3
  · have H := H.1 d3
    exact path_ret (G := given kp6 [(1, 0, .call (AV.bool true) none), (1, 4, .call (AV.bool (bif decide ((↑gs.length : Int) ≤ 12) then true else bif decide ((↑gs.length : Int) > 199) then decide ((↑gs.length : Int) < 203) else false)) none), (2, 0, .call (AV.bool true) none)] []) 1000 [true] (k := ((atC (cd Try.f6) [1, 0, 1, 0, 1])).tail) (env' := [(4, AV.bool true)]) (L' := []) (asm := [(bif !bif decide ((↑gs.length : Int) ≤ 12) then true else bif decide ((↑gs.length : Int) > 199) then decide ((↑gs.length : Int) < 203) else false then true else decide ((↑(List.map (AV.int IntKind.i64) w).length : Int) > 205)) == true]) (eqs := []) (calls := [⟨true, false, 10, [], [], AV.bool true, []⟩, ⟨true, false, 11, [AV.vec fl 2 (List.map G2.a gs), AV.int IntKind.i64 12], [], AV.bool (bif decide ((↑gs.length : Int) ≤ 12) then true else bif decide ((↑gs.length : Int) > 199) then decide ((↑gs.length : Int) < 203) else false), []⟩, ⟨true, false, 10, [], [], AV.bool true, []⟩]) (AV.bool true) (by kernel_rfl) (by kernel_rfl) (allB_cons (beq_t (i2.2 d3)) allB_nil) allP_nil (allC_cons (fun _ => ((@ev10 ) : Ev M1 (Conf.pure 10 []) (AV.bool true) [])) (allC_cons (fun _ => ((@ev11 (fl) (gs) (12)) : Ev M1 (Conf.pure 11 [AV.vec fl 2 (List.map G2.a gs), AV.int IntKind.i64 12]) (AV.bool (bif decide ((↑gs.length : Int) ≤ 12) then true else bif decide ((↑gs.length : Int) > 199) then decide ((↑gs.length : Int) < 203) else false)) [])) (allC_cons (fun _ => ((@ev10 ) : Ev M1 (Conf.pure 10 []) (AV.bool true) [])) allC_nil))) (pq_of (d := AV.bool true) (bs := []) (by kernel_rfl) (by kernel_rfl) allB_nil (by kernel_rfl) H)
  · have H := H.2 d3
    exact path_ret (G := given kp6 [(1, 0, .call (AV.bool true) none), (1, 4, .call (AV.bool (bif decide ((↑gs.length : Int) ≤ 12) then true else bif decide ((↑gs.length : Int) > 199) then decide ((↑gs.length : Int) < 203) else false)) none), (3, 2, .call (AV.tup [AV.int IntKind.i64 (Sp.boundR gs w), AV.int IntKind.i64 (Sp.boundE gs w)]) none), (4, 2, .call (AV.tup [AV.int IntKind.i64 (Sp.boundR gs w), AV.int IntKind.i64 (Sp.boundE gs w)]) none)] []) 1000 [false] (k := ((atC (cd Try.f6) [1, 1, 1, 1, 1])).tail) (env' := [(4, AV.bool (bif Sp.boundR gs w == Sp.boundR gs w then Sp.boundE gs w == Sp.boundE gs w else false))]) (L' := []) (asm := [(bif !bif decide ((↑gs.length : Int) ≤ 12) then true else bif decide ((↑gs.length : Int) > 199) then decide ((↑gs.length : Int) < 203) else false then true else decide ((↑(List.map (AV.int IntKind.i64) w).length : Int) > 205)) == false]) (eqs := []) (calls := [⟨true, false, 10, [], [], AV.bool true, []⟩, ⟨true, false, 11, [AV.vec fl 2 (List.map G2.a gs), AV.int IntKind.i64 12], [], AV.bool (bif decide ((↑gs.length : Int) ≤ 12) then true else bif decide ((↑gs.length : Int) > 199) then decide ((↑gs.length : Int) < 203) else false), []⟩, ⟨true, false, 24, [AV.vec fl 2 (List.map G2.a gs), AV.vec fw 1 (List.map (AV.int IntKind.i64) w)], [], AV.tup [AV.int IntKind.i64 (Sp.boundR gs w), AV.int IntKind.i64 (Sp.boundE gs w)], []⟩, ⟨true, false, 25, [AV.vec fl 2 (List.map G2.a gs), AV.vec fw 1 (List.map (AV.int IntKind.i64) w)], [], AV.tup [AV.int IntKind.i64 (Sp.boundR gs w), AV.int IntKind.i64 (Sp.boundE gs w)], []⟩]) (AV.bool (bif Sp.boundR gs w == Sp.boundR gs w then Sp.boundE gs w == Sp.boundE gs w else false)) (by kernel_rfl) (by kernel_rfl) (allB_cons (beq_f (fun h => d3 (i2.1 h))) allB_nil) allP_nil (allC_cons (fun _ => ((@ev10 ) : Ev M1 (Conf.pure 10 []) (AV.bool true) [])) (allC_cons (fun _ => ((@ev11 (fl) (gs) (12)) : Ev M1 (Conf.pure 11 [AV.vec fl 2 (List.map G2.a gs), AV.int IntKind.i64 12]) (AV.bool (bif decide ((↑gs.length : Int) ≤ 12) then true else bif decide ((↑gs.length : Int) > 199) then decide ((↑gs.length : Int) < 203) else false)) [])) (allC_cons (fun _ => ((@ev24 (fl) (fw) (gs) (w)) : Ev M1 (Conf.pure 24 [AV.vec fl 2 (List.map G2.a gs), AV.vec fw 1 (List.map (AV.int IntKind.i64) w)]) (AV.tup [AV.int IntKind.i64 (Sp.boundR gs w), AV.int IntKind.i64 (Sp.boundE gs w)]) [])) (allC_cons (fun _ => ((@ev25 (fl) (fw) (gs) (w)) : Ev M1 (Conf.pure 25 [AV.vec fl 2 (List.map G2.a gs), AV.vec fw 1 (List.map (AV.int IntKind.i64) w)]) (AV.tup [AV.int IntKind.i64 (Sp.boundR gs w), AV.int IntKind.i64 (Sp.boundE gs w)]) [])) allC_nil)))) (pq_of (d := AV.bool (bif Sp.boundR gs w == Sp.boundR gs w then Sp.boundE gs w == Sp.boundE gs w else false)) (bs := []) (by kernel_rfl) (by kernel_rfl) allB_nil (by kernel_rfl) H)


end Go.Av

/- ORDERS AND TREES: what the statements need of them. -/
namespace Go.Av
open Go.Proofs

theorem perm_sum {a b : List Int} (h : List.Perm a b) : a.sum = b.sum := by
  induction h with
  | nil => rfl
  | cons x _ ih => rw [List.sum_cons, List.sum_cons, ih]
  | swap x y l => simp only [List.sum_cons]; omega
  | trans _ _ h1 h2 => rw [h1, h2]

theorem ordFrom_of {n : Int} : ∀ (o : List Int) (sn : List Bool), n ≤ sn.length → (∀ x ∈ o, 0 ≤ x ∧ x < n ∧ sn.getD x.toNat default = false) → o.Nodup → Sp.ordFrom n o sn = true
  | [], _, _, _, _ => rfl
  | x :: o, sn, hs, h, hd => by
    obtain ⟨h1, h2, h3⟩ := h x (by simp)
    rw [List.nodup_cons] at hd
    rw [Sp.ordFrom, if_neg (by rw [h3]; simp; omega)]
    refine ordFrom_of o _ (by simpa using hs) (fun y hy => ?_) hd.2
    obtain ⟨k1, k2, k3⟩ := h y (List.mem_cons_of_mem _ hy)
    refine ⟨k1, k2, ?_⟩
    have hxy : x ≠ y := by rintro rfl; exact hd.1 hy
    rw [getD_set (by omega), if_neg (by omega)]
    exact k3

theorem isOrd_of {n : Nat} {o : List Int} (h : IsOrd n o) : Sp.isOrd o n = true := by
  have := h.len
  unfold Sp.isOrd
  rw [if_neg (by
    intro hc
    rcases hc with hc | hc
    · omega
    · exact hc.2 (h.zero (by omega)))]
  refine ordFrom_of _ _ (by simp) (fun x hx => ⟨(h.rng x hx).1, (h.rng x hx).2, ?_⟩) h.nod
  simp only [List.getD_eq_getElem?_getD, List.getElem?_replicate]
  split <;> rfl
theorem ord_of {n : Nat} {o : List Int} (h : Sp.isOrd o n = true) : IsOrd n o := by
  obtain ⟨h1, h2, h3, h4⟩ := isOrd_facts h
  exact ⟨by omega, h3, h2, fun h0 => h4 (by omega)⟩
theorem IsOrd.okO {gs : List G2} {o : List Int} (h : IsOrd gs.length o) : Sp.okO gs o := fun x hx => h.rng x hx

/-- The cost of a way with weights. -/
theorem cost_way (gs : List G2) (w : List Int) : ∀ (x : Int) (o : List Int), Mst.cost (Sp.cw gs w) (Mst.pairs (x :: o)) = Sp.way gs (x :: o) + 2 * ((x :: o).map fun i => w.getD i.toNat default).sum - w.getD x.toNat default - w.getD ((x :: o).getLast (by simp)).toNat default
  | x, [] => by simp only [Mst.pairs, Mst.cost, Sp.way, List.map_cons, List.map_nil, List.sum_cons, List.sum_nil, List.getLast_singleton]; omega
  | x, y :: o => by
    have ih := cost_way gs w y o
    rw [Mst.pairs, Mst.cost, ih, Sp.way, List.getLast_cons (List.cons_ne_nil y o)]
    simp only [List.map_cons, List.sum_cons]
    show Sp.cw gs w x y + _ = _
    unfold Sp.cw
    omega

theorem range_map_getD (w : List Int) : (List.range w.length).map (fun i => w.getD i default) = w := by
  apply List.ext_getElem (by simp)
  intro i h1 h2
  simp at h1 h2 ⊢
  simp [h2]

theorem ord_sum {n : Nat} {o w : List Int} (h : IsOrd n o) (hw : w.length = n) : (o.map fun i => w.getD i.toNat default).sum = w.sum := by
  have hp : List.Perm o ((List.range n).map fun i : Nat => (i : Int)) := by
    refine (List.perm_ext_iff_of_nodup h.nod ?_).2 fun a => ?_
    · rw [List.nodup_iff_pairwise_ne, List.pairwise_map]
      exact List.Pairwise.imp (fun h => by omega) (List.nodup_iff_pairwise_ne.1 List.nodup_range)
    · constructor
      · intro ha
        obtain ⟨h1, h2⟩ := h.rng a ha
        exact List.mem_map.2 ⟨a.toNat, by simp; omega, by omega⟩
      · intro ha
        obtain ⟨j, hj, rfl⟩ := List.mem_map.1 ha
        exact il_full h.nod h.rng h.len j (by simpa using hj)
  have e := perm_sum (hp.map fun i => w.getD i.toNat default)
  rw [e, List.map_map]
  have : ((fun i : Int => w.getD i.toNat default) ∘ fun i : Nat => (i : Int)) = fun i : Nat => w.getD i default := by funext i; simp
  rw [this, ← hw, range_map_getD]

theorem foldl_min_le : ∀ (w : List Int) (m : Int), w.foldl (fun m x => if x < m then x else m) m ≤ m ∧ ∀ x ∈ w, w.foldl (fun m x => if x < m then x else m) m ≤ x
  | [], m => by simp
  | y :: w, m => by
    obtain ⟨h1, h2⟩ := foldl_min_le w (if y < m then y else m)
    rw [List.foldl_cons]
    refine ⟨?_, fun x hx => ?_⟩
    · by_cases h : y < m
      · rw [if_pos h] at h1 ⊢; omega
      · rw [if_neg h] at h1 ⊢; omega
    · rcases List.mem_cons.1 hx with rfl | hx
      · by_cases h : x < m
        · rw [if_pos h] at h1 ⊢; omega
        · rw [if_neg h] at h1 ⊢; omega
      · exact h2 x hx
theorem minL_mem {w : List Int} {x : Int} (h : x ∈ w) : Sp.minL w ≤ x := by
  obtain ⟨h1, h2⟩ := foldl_min_le (w.drop 1) (w.getD 0 default)
  obtain ⟨j, hj, rfl⟩ := mem_getD h
  unfold Sp.minL
  cases j with
  | zero => exact h1
  | succ j =>
    refine h2 _ ?_
    have e := drop_getD (d := w.drop 1) (i := j) (by rw [List.length_drop]; omega)
    have : w.getD (j + 1) default = (w.drop 1).getD j default := by simp [List.getD_eq_getElem?_getD, List.getElem?_drop, Nat.add_comm]
    rw [this]
    exact getD_mem (by rw [List.length_drop]; omega)

/-- No tree costs more than the way over all. -/
theorem mst_way {gs : List G2} {o w : List Int} (h : IsOrd gs.length o) (hw : w.length = gs.length) (h2 : 2 ≤ gs.length) : Sp.boundV gs w ≤ Sp.way gs o := by
  have hz := h.zero (by omega)
  have hl := h.len
  cases o with
  | nil => simp at hl; omega
  | cons x o =>
    have hx : x = 0 := hz
    subst hx
    cases o with
    | nil => simp at hl; omega
    | cons y o =>
      have h1 := Mst.rem_way (cw_symm gs w) h.nod h.rng h.len
      rw [cost_way, ord_sum h hw] at h1
      have hlast : (0 :: y :: o).getLast (by simp) ∈ y :: o := by
        rw [List.getLast_cons (by simp)]
        exact List.getLast_mem _
      have hne : (0 :: y :: o).getLast (by simp) ≠ 0 := by
        intro e
        rw [e] at hlast
        exact (List.nodup_cons.1 h.nod).1 hlast
      obtain ⟨r1, r2⟩ := h.rng _ (List.mem_cons_of_mem _ hlast)
      generalize (0 :: y :: o).getLast (by simp) = z at *
      have hmin : Sp.minL (w.drop 1) ≤ w.getD z.toNat default := by
        refine minL_mem ?_
        have : w.getD z.toNat default = (w.drop 1).getD (z.toNat - 1) default := by
          simp only [List.getD_eq_getElem?_getD, List.getElem?_drop]
          congr 2; omega
        rw [this]
        exact getD_mem (by rw [List.length_drop]; omega)
      have hm : Sp.mst gs w = Mst.rem (Sp.cw gs w) gs.length [0] := by unfold Sp.mst; rw [if_neg (by omega)]; rfl
      unfold Sp.boundV
      rw [hm]
      have e0 : w.getD (0 : Int).toNat default = w.getD 0 default := rfl
      rw [e0] at h1
      omega

theorem tree_way {gs : List G2} {o : List Int} (h : IsOrd gs.length o) : Sp.tree gs ≤ Sp.way gs o := by
  unfold Sp.tree Sp.mst
  have hl := h.len
  split
  · rename_i h0
    have : o = [] := List.length_eq_zero_iff.1 (by omega)
    subst this; simp [Sp.way]
  · rename_i h0
    cases o with
    | nil => simp at hl; omega
    | cons x o =>
      have hx : x = 0 := h.zero (by omega)
      subst hx
      have h1 := Mst.rem_way (cw_symm gs (Sp.zeros gs.length)) h.nod h.rng h.len
      rw [cost_way, ord_sum h (zeros_ok _).2, zeros_getD, zeros_getD] at h1
      have hs : (Sp.zeros gs.length).sum = 0 := by
        unfold Sp.zeros
        generalize gs.length = n
        induction n with
        | zero => rfl
        | succ n ih => rw [List.replicate_succ, List.sum_cons, ih]; rfl
      rw [hs] at h1
      have e : Sp.rest gs (Sp.zeros gs.length) [0] = Mst.rem (Sp.cw gs (Sp.zeros gs.length)) gs.length [0] := rfl
      rw [e]; omega

theorem ord_length {gs : List G2} {o : List Int} (h : IsOrd gs.length o) (hc : Sp.checkE gs 200 = 0) : Sp.lengthE gs o = 0 ∧ Sp.lengthV gs o = Sp.way gs o := by
  have e : Sp.lengthE gs o = 0 := by rw [Sp.lengthE, if_pos hc, if_pos (isOrd_of h)]
  exact ⟨e, by rw [Sp.lengthV, if_pos e]⟩
theorem check_more {gs : List G2} {m : Int} (h : Sp.checkE gs m = 0) (hm : m ≤ 200) : Sp.checkE gs 200 = 0 := by
  unfold Sp.checkE at h ⊢
  split at h
  · simp at h
  · rename_i h1
    rw [if_neg (by omega)]
    exact h

theorem ev4 (fl : Bool) (gs : List G2) : Ev M1 (.pure 4 [gsA fl gs]) (.bool true) [] := by
  refine call4 (v4 fl gs _ ⟨by simp [Sp.mOk], fun _ => rfl, fun h => ?_⟩)
  have h := Classical.not_not.1 h
  obtain ⟨c1, c2⟩ := check_okG h
  have ho := nearest_ord gs
  have hl := ho.len
  obtain ⟨e1, e2⟩ := ord_length ho (check_more h (by omega))
  refine ⟨⟨c1, by omega⟩, by omega, fun k => absurd (same_iff.2 rfl) k, fun _ => ?_⟩
  rw [e1, e2]
  simp [tree_way ho]

theorem ev6 (fl fw : Bool) (gs : List G2) (w : List Int) : Ev M1 (.pure 6 [gsA fl gs, isA fw w]) (.bool true) [] :=
  call6 (v6 fl fw gs w _ ⟨fun _ => rfl, fun h => by simp⟩)
end Go.Av

/- PATHS, written by a program of the prover's. -/
namespace Go.Av
open Go.Proofs
set_option maxRecDepth 100000
def fi38 : Fi := ⟨79, []⟩
def kp38 : List (Nat × List Nat) := [(0, [0, 1, 2, 19]), (1, [0, 1, 2, 27]), (2, []), (3, [0, 1, 2, 41, 42]), (4, [0, 1, 2, 41, 42, 43]), (5, [0, 1, 2, 6, 41, 42]), (6, [0, 1, 2, 6, 41, 42, 48]), (7, [0, 1, 2, 41, 42]), (8, [0, 1, 2, 41, 42])]
def v38n_at (fl : Bool) (gs : List G2) (o : List Int) (sum le : Int) (v : Nat) (Q : AV → Heap → Prop) : Prop := Wp M1 (.run fi38 (atC (cd Try.f38) []) [(0, .ptr 0 0 0 0), (1, .row 1 v), (2, .int .i64 sum)] [⟨[.agg [.vec fl 2 (gs.map G2.a), .vnil, .int .i64 le]], 3, 0, false, false⟩, ⟨o.map (.int .i64), 1, v, false, true⟩]) Q
def v38s_at (fl : Bool) (gs : List G2) (o : List Int) (sum le : Int) (v : Nat) (fb : Bool) (x : Int) (l : List Int) (Q : AV → Heap → Prop) : Prop := Wp M1 (.run fi38 (atC (cd Try.f38) []) [(0, .ptr 0 0 0 0), (1, .row 1 v), (2, .int .i64 sum)] [⟨[.agg [.vec fl 2 (gs.map G2.a), .vec fb 1 ((x :: l).map (.int .i64)), .int .i64 le]], 3, 0, false, false⟩, ⟨o.map (.int .i64), 1, v, false, true⟩]) Q
def v38na_at (fl : Bool) (gs : List G2) (o : List Int) (sum le : Int) (v : Nat) (n i : Int) (Q : AV → Heap → Prop) : Prop := Wp M1 (.run fi38 (atC (cd Try.f38) [1, 1, 1, 0, 0]) [(0, .ptr 0 0 0 0), (1, .row 1 v), (2, .int .i64 sum), (41, .int .i64 n), (42, .int .i64 i)] [⟨[.agg [.vec fl 2 (gs.map G2.a), .vnil, .int .i64 le]], 3, 0, false, false⟩, ⟨o.map (.int .i64), 1, v, false, true⟩]) Q
def v38sa_at (fl : Bool) (gs : List G2) (o : List Int) (sum le : Int) (v : Nat) (n i : Int) (fb : Bool) (x : Int) (l : List Int) (Q : AV → Heap → Prop) : Prop := Wp M1 (.run fi38 (atC (cd Try.f38) [1, 1, 1, 0, 0]) [(0, .ptr 0 0 0 0), (1, .row 1 v), (2, .int .i64 sum), (41, .int .i64 n), (42, .int .i64 i)] [⟨[.agg [.vec fl 2 (gs.map G2.a), .vec fb 1 ((x :: l).map (.int .i64)), .int .i64 le]], 3, 0, false, false⟩, ⟨o.map (.int .i64), 1, v, false, true⟩]) Q
theorem call38 {args : List AV} {d : AV} (h : Wp M1 (.run fi38 [.code (cd Try.f38)] (argVars 0 args) []) (PureQ d)) : Ev M1 (.pure 38 args) d [] :=
  pure_pq Try.f38 fi38 (by kernel_rfl) (by kernel_rfl) (by kernel_rfl) (by kernel_rfl) h
theorem owncall38 {args : List AV} {L : Heap} {Q : AV → Heap → Prop} (h : Wp M1 (.run fi38 [.code (cd Try.f38)] (argVars 0 args) L) Q) : Wp M1 (.own 38 args L) Q :=
  own_wp Try.f38 fi38 (by kernel_rfl) (by kernel_rfl) (by kernel_rfl) (by kernel_rfl) h
theorem keepcall38 {args : List AV} {L : Heap} {v : AV} {K : Heap} (hk : keepOk L.length v K = true) (h : Wp M1 (.run fi38 [.code (cd Try.f38)] (argVars 0 args) L) (KeepQ v K)) : Ev M1 (.own 38 args L) v K :=
  own_keep Try.f38 fi38 (by kernel_rfl) (by kernel_rfl) (by kernel_rfl) (by kernel_rfl) hk h
theorem v38n (fl : Bool) (gs : List G2) (o : List Int) (sum le : Int) (v : Nat)  (dv : AV) (dK : Heap) (hk : keepOk 2 dv dK = true) (H :
    (((↑o.length : Int) = (↑gs.length : Int)) → (o.length ≤ 1000000) ∧
      (KeepQ dv dK) (AV.tup []) [{ elems := [AV.agg [AV.vec fl 2 (List.map G2.a gs), AV.vec false 1 (List.map (AV.int IntKind.i64) o), AV.int IntKind.i64 sum]], es := 3, ver := 0, frozen := false, clean := false }, { elems := List.map (AV.int IntKind.i64) o, es := 1, ver := v, frozen := true, clean := true }]) ∧
    (¬((↑o.length : Int) = (↑gs.length : Int)) → v38na_at (fl) (gs) (o) (sum) (le) (v) ((↑gs.length : Int)) (0) (KeepQ dv dK))) :
  v38n_at fl gs o sum le v (KeepQ dv dK) := by
  unfold v38n_at
  have w1 : (List.map (AV.int IntKind.i64) o).length = o.length := List.length_map ..
  have w2 : (List.map G2.a gs).length = gs.length := List.length_map ..
  have i3 : ((↑(List.map (AV.int IntKind.i64) o).length : Int) == (↑(List.map G2.a gs).length : Int)) = true ↔ ((↑o.length : Int) = (↑gs.length : Int)) := (by rw [w1, w2] <;> exact i_eq)
  rcases Classical.em ((↑o.length : Int) = (↑gs.length : Int)) with d4 | d4
  · have H := H.1 d4
    have k5 := H.1; have H := H.2
    exact path_ret (G := given kp38 [(2, 3, .call (AV.vec false 1 (List.map (AV.int IntKind.i64) o)) none)] []) 1000 [false, true] (k := ((atC (cd Try.f38) [1, 0, 1, 0, 1])).tail) (env' := []) (L' := [{ elems := [AV.agg [AV.vec fl 2 (List.map G2.a gs), AV.vec false 1 (List.map (AV.int IntKind.i64) o), AV.int IntKind.i64 sum]], es := 3, ver := 0, frozen := false, clean := false }, { elems := List.map (AV.int IntKind.i64) o, es := 1, ver := v, frozen := true, clean := true }]) (asm := [true, true, false == false, v == v, true, ((↑(List.map (AV.int IntKind.i64) o).length : Int) == (↑(List.map G2.a gs).length : Int)) == true, v == v, true, true]) (eqs := []) (calls := [⟨true, false, 41, [AV.vec false 1 (List.map (AV.int IntKind.i64) o)], [], AV.vec false 1 (List.map (AV.int IntKind.i64) o), []⟩]) (AV.tup []) (by kernel_rfl) (by kernel_rfl) (allB_cons rfl (allB_cons rfl (allB_cons rfl (allB_cons (beq_self_eq_true _) (allB_cons rfl (allB_cons (beq_t (i3.2 d4)) (allB_cons (beq_self_eq_true _) (allB_cons rfl (allB_cons rfl allB_nil))))))))) allP_nil (allC_cons (fun _ => ((@ev41 (false) (o) k5) : Ev M1 (Conf.pure 41 [AV.vec false 1 (List.map (AV.int IntKind.i64) o)]) (AV.vec false 1 (List.map (AV.int IntKind.i64) o)) [])) allC_nil) H
  · have H := H.2 d4
    exact path_wp (G := given kp38 [] []) 1000 [false, false] ⟨(atC (cd Try.f38) [1, 1, 1, 0, 0]), [(0, AV.ptr 0 0 0 0), (1, AV.row 1 v), (2, AV.int IntKind.i64 sum), (41, AV.int IntKind.i64 (↑(List.map G2.a gs).length : Int)), (42, AV.int IntKind.i64 0)], [{ elems := [AV.agg [AV.vec fl 2 (List.map G2.a gs), AV.vnil, AV.int IntKind.i64 le]], es := 3, ver := 0, frozen := false, clean := false }, { elems := List.map (AV.int IntKind.i64) o, es := 1, ver := v, frozen := false, clean := true }], [true, true, false == false, v == v, true, ((↑(List.map (AV.int IntKind.i64) o).length : Int) == (↑(List.map G2.a gs).length : Int)) == false, true], [], []⟩ (by kernel_rfl) (allB_cons rfl (allB_cons rfl (allB_cons rfl (allB_cons (beq_self_eq_true _) (allB_cons rfl (allB_cons (beq_f (fun h => d4 (i3.1 h))) (allB_cons rfl allB_nil))))))) allP_nil allC_nil (by rw [w2] <;> exact H)

theorem v38s (fl : Bool) (gs : List G2) (o : List Int) (sum le : Int) (v : Nat) (fb : Bool) (x : Int) (l : List Int)  (dv : AV) (dK : Heap) (hk : keepOk 2 dv dK = true) (H :
    ((sum ≥ le) → (KeepQ dv dK) (AV.tup []) [{ elems := [AV.agg [AV.vec fl 2 (List.map G2.a gs), AV.vec fb 1 (AV.int IntKind.i64 x :: List.map (AV.int IntKind.i64) l), AV.int IntKind.i64 le]], es := 3, ver := 0, frozen := false, clean := false }, { elems := List.map (AV.int IntKind.i64) o, es := 1, ver := v, frozen := false, clean := true }]) ∧
    (¬(sum ≥ le) → (((↑o.length : Int) = (↑gs.length : Int)) → (o.length ≤ 1000000) ∧
        (KeepQ dv dK) (AV.tup []) [{ elems := [AV.agg [AV.vec fl 2 (List.map G2.a gs), AV.vec false 1 (List.map (AV.int IntKind.i64) o), AV.int IntKind.i64 sum]], es := 3, ver := 0, frozen := false, clean := false }, { elems := List.map (AV.int IntKind.i64) o, es := 1, ver := v, frozen := true, clean := true }]) ∧
      (¬((↑o.length : Int) = (↑gs.length : Int)) → v38sa_at (fl) (gs) (o) (sum) (le) (v) ((↑gs.length : Int)) (0) (fb) (x) (l) (KeepQ dv dK)))) :
  v38s_at fl gs o sum le v fb x l (KeepQ dv dK) := by
  unfold v38s_at
  have i1 : (decide (sum ≥ le)) = true ↔ (sum ≥ le) := i_dec
  rcases Classical.em (sum ≥ le) with d2 | d2
  · have H := H.1 d2
    exact path_ret (G := given kp38 [] []) 1000 [true] (k := ((atC (cd Try.f38) [0, 1, 0])).tail) (env' := [(0, AV.ptr 0 0 0 0), (1, AV.row 1 v), (2, AV.int IntKind.i64 sum), (19, AV.bool (decide (sum ≥ le)))]) (L' := [{ elems := [AV.agg [AV.vec fl 2 (List.map G2.a gs), AV.vec fb 1 (AV.int IntKind.i64 x :: List.map (AV.int IntKind.i64) l), AV.int IntKind.i64 le]], es := 3, ver := 0, frozen := false, clean := false }, { elems := List.map (AV.int IntKind.i64) o, es := 1, ver := v, frozen := false, clean := true }]) (asm := [true, true, (decide (sum ≥ le)) == true]) (eqs := []) (calls := []) (AV.tup []) (by kernel_rfl) (by kernel_rfl) (allB_cons rfl (allB_cons rfl (allB_cons (beq_t (i1.2 d2)) allB_nil))) allP_nil allC_nil H
  · have H := H.2 d2
    have w3 : (List.map (AV.int IntKind.i64) o).length = o.length := List.length_map ..
    have w4 : (List.map G2.a gs).length = gs.length := List.length_map ..
    have i5 : ((↑(List.map (AV.int IntKind.i64) o).length : Int) == (↑(List.map G2.a gs).length : Int)) = true ↔ ((↑o.length : Int) = (↑gs.length : Int)) := (by rw [w3, w4] <;> exact i_eq)
    rcases Classical.em ((↑o.length : Int) = (↑gs.length : Int)) with d6 | d6
    · have H := H.1 d6
      have k7 := H.1; have H := H.2
      exact path_ret (G := given kp38 [(2, 3, .call (AV.vec false 1 (List.map (AV.int IntKind.i64) o)) none)] []) 1000 [false, true] (k := ((atC (cd Try.f38) [1, 0, 1, 0, 1])).tail) (env' := []) (L' := [{ elems := [AV.agg [AV.vec fl 2 (List.map G2.a gs), AV.vec false 1 (List.map (AV.int IntKind.i64) o), AV.int IntKind.i64 sum]], es := 3, ver := 0, frozen := false, clean := false }, { elems := List.map (AV.int IntKind.i64) o, es := 1, ver := v, frozen := true, clean := true }]) (asm := [true, true, (decide (sum ≥ le)) == false, v == v, true, ((↑(List.map (AV.int IntKind.i64) o).length : Int) == (↑(List.map G2.a gs).length : Int)) == true, v == v, true, true]) (eqs := []) (calls := [⟨true, false, 41, [AV.vec false 1 (List.map (AV.int IntKind.i64) o)], [], AV.vec false 1 (List.map (AV.int IntKind.i64) o), []⟩]) (AV.tup []) (by kernel_rfl) (by kernel_rfl) (allB_cons rfl (allB_cons rfl (allB_cons (beq_f (fun h => d2 (i1.1 h))) (allB_cons (beq_self_eq_true _) (allB_cons rfl (allB_cons (beq_t (i5.2 d6)) (allB_cons (beq_self_eq_true _) (allB_cons rfl (allB_cons rfl allB_nil))))))))) allP_nil (allC_cons (fun _ => ((@ev41 (false) (o) k7) : Ev M1 (Conf.pure 41 [AV.vec false 1 (List.map (AV.int IntKind.i64) o)]) (AV.vec false 1 (List.map (AV.int IntKind.i64) o)) [])) allC_nil) H
    · have H := H.2 d6
      exact path_wp (G := given kp38 [] []) 1000 [false, false] ⟨(atC (cd Try.f38) [1, 1, 1, 0, 0]), [(0, AV.ptr 0 0 0 0), (1, AV.row 1 v), (2, AV.int IntKind.i64 sum), (41, AV.int IntKind.i64 (↑(List.map G2.a gs).length : Int)), (42, AV.int IntKind.i64 0)], [{ elems := [AV.agg [AV.vec fl 2 (List.map G2.a gs), AV.vec fb 1 (AV.int IntKind.i64 x :: List.map (AV.int IntKind.i64) l), AV.int IntKind.i64 le]], es := 3, ver := 0, frozen := false, clean := false }, { elems := List.map (AV.int IntKind.i64) o, es := 1, ver := v, frozen := false, clean := true }], [true, true, (decide (sum ≥ le)) == false, v == v, true, ((↑(List.map (AV.int IntKind.i64) o).length : Int) == (↑(List.map G2.a gs).length : Int)) == false, true], [], []⟩ (by kernel_rfl) (allB_cons rfl (allB_cons rfl (allB_cons (beq_f (fun h => d2 (i1.1 h))) (allB_cons (beq_self_eq_true _) (allB_cons rfl (allB_cons (beq_f (fun h => d6 (i5.1 h))) (allB_cons rfl allB_nil))))))) allP_nil allC_nil (by rw [w4] <;> exact H)

theorem v38na (fl : Bool) (gs : List G2) (o : List Int) (sum le : Int) (v : Nat) (n i : Int) (r0 rl : Int) (rt : List Int) (rf rb : Bool) (dv : AV) (dK : Heap) (hk : keepOk 2 dv dK = true) (H :
    ((i < n) → (o.length ≤ 1000000) ∧
      ((¬(Sp.has o i = true)) → (o.length ≤ 1000000 ∧ 0 < o.length) ∧
        (-9223372036854775808 ≤ (↑o.length : Int) - 1 ∧ (↑o.length : Int) - 1 ≤ 9223372036854775807) ∧
        (Sp.inM (gs.getD (o.getD ((↑o.length : Int) - 1).toNat default).toNat default).x ∧ Sp.inM (gs.getD (o.getD ((↑o.length : Int) - 1).toNat default).toNat default).y ∧ Sp.inM (gs.getD i.toNat default).x ∧ Sp.inM (gs.getD i.toNat default).y) ∧
        (Ev M1 (Conf.own 38 [AV.ptr 0 0 0 0, AV.row 1 1, AV.int IntKind.i64 (IntKind.i64.wrap (sum + Sp.dist (gs.getD (o.getD ((↑o.length : Int) - 1).toNat default).toNat default).x (gs.getD (o.getD ((↑o.length : Int) - 1).toNat default).toNat default).y (gs.getD i.toNat default).x (gs.getD i.toNat default).y))] [{ elems := [AV.agg [AV.vec fl 2 (List.map G2.a gs), AV.vnil, AV.int IntKind.i64 le]], es := 3, ver := 0, frozen := false, clean := false }, { elems := List.map (AV.int IntKind.i64) o ++ [AV.int IntKind.i64 i], es := 1, ver := 1, frozen := false, clean := true }]) (AV.tup []) [{ elems := [AV.agg [AV.vec fl 2 (List.map G2.a gs), AV.vec rb 1 (AV.int IntKind.i64 r0 :: List.map (AV.int IntKind.i64) rt), AV.int IntKind.i64 rl]], es := 3, ver := 0, frozen := false, clean := false }, { elems := List.map (AV.int IntKind.i64) (o ++ [i]), es := 1, ver := 1, frozen := rf, clean := true }]) ∧
        ((o.length + 1) * 8 ≤ 1099511627776) ∧
        (0 ≤ (↑o.length : Int) - 1) ∧
        (((↑o.length : Int) - 1).toNat < o.length) ∧
        (0 ≤ o.getD ((↑o.length : Int) - 1).toNat default) ∧
        ((o.getD ((↑o.length : Int) - 1).toNat default).toNat < gs.length) ∧
        (0 ≤ i) ∧
        (i.toNat < gs.length) ∧
        (-9223372036854775808 ≤ i + 1 ∧ i + 1 ≤ 9223372036854775807) ∧
        v38sa_at (fl) (gs) (o) (sum) (rl) (v) (n) (i + 1) (rb) (r0) (rt) (KeepQ dv dK)) ∧
      (¬(¬(Sp.has o i = true)) → (-9223372036854775808 ≤ i + 1 ∧ i + 1 ≤ 9223372036854775807) ∧
        v38na_at (fl) (gs) (o) (sum) (le) (v) (n) (i + 1) (KeepQ dv dK))) ∧
    (¬(i < n) → (KeepQ dv dK) (AV.tup []) [{ elems := [AV.agg [AV.vec fl 2 (List.map G2.a gs), AV.vnil, AV.int IntKind.i64 le]], es := 3, ver := 0, frozen := false, clean := false }, { elems := List.map (AV.int IntKind.i64) o, es := 1, ver := v, frozen := false, clean := true }])) :
  v38na_at fl gs o sum le v n i (KeepQ dv dK) := by
  unfold v38na_at
  have i1 : (decide (i < n)) = true ↔ (i < n) := i_dec
  rcases Classical.em (i < n) with d2 | d2
  · have H := H.1 d2
    have k3 := H.1; have H := H.2
    have i4 : (!Sp.has o i) = true ↔ (¬(Sp.has o i = true)) := (i_not (i_var _))
    rcases Classical.em (¬(Sp.has o i = true)) with d5 | d5
    · have H := H.1 d5
      have k12 := H.1; have H := H.2
      have w13 : (List.map (AV.int IntKind.i64) o).length = o.length := List.length_map ..
      have k14 := H.1; have H := H.2
      have w15 : IntKind.i64.wrap ((↑o.length : Int) - 1) = (↑o.length : Int) - 1 := wI64 k14
      have k16 := H.1; have H := H.2
      have k17 := H.1; have H := H.2
      have i18 : (decide (((List.map (AV.int IntKind.i64) o).length + 1) * 8 ≤ 1099511627776)) = true ↔ ((o.length + 1) * 8 ≤ 1099511627776) := (by rw [w13] <;> exact i_dec)
      have k19 := H.1; have H := H.2
      have i20 : (decide (0 ≤ IntKind.i64.wrap ((↑(List.map (AV.int IntKind.i64) o).length : Int) - 1))) = true ↔ (0 ≤ (↑o.length : Int) - 1) := (by rw [w13, w15] <;> exact i_dec)
      have k21 := H.1; have H := H.2
      have i22 : (decide ((IntKind.i64.wrap ((↑(List.map (AV.int IntKind.i64) o).length : Int) - 1)).toNat < (List.map (AV.int IntKind.i64) o).length)) = true ↔ (((↑o.length : Int) - 1).toNat < o.length) := (by rw [w13, w15] <;> exact i_dec)
      have k23 := H.1; have H := H.2
      have i24 : (decide (0 ≤ o.getD ((↑o.length : Int) - 1).toNat default)) = true ↔ (0 ≤ o.getD ((↑o.length : Int) - 1).toNat default) := i_dec
      have k25 := H.1; have H := H.2
      have w26 : (List.map G2.a gs).length = gs.length := List.length_map ..
      have i27 : (decide ((o.getD ((↑o.length : Int) - 1).toNat default).toNat < (List.map G2.a gs).length)) = true ↔ ((o.getD ((↑o.length : Int) - 1).toNat default).toNat < gs.length) := (by rw [w26] <;> exact i_dec)
      have k28 := H.1; have H := H.2
      have i29 : (decide (0 ≤ i)) = true ↔ (0 ≤ i) := i_dec
      have k30 := H.1; have H := H.2
      have i31 : (decide (i.toNat < (List.map G2.a gs).length)) = true ↔ (i.toNat < gs.length) := (by rw [w26] <;> exact i_dec)
      have k32 := H.1; have H := H.2
      have k33 := H.1; have H := H.2
      have w34 : IntKind.i64.wrap (i + 1) = i + 1 := wI64 k33
      exact path_wp (G := given kp38 [(6, 2, .call (AV.bool (Sp.has o i)) none), (7, 2, .call (AV.row 0 0) (some [{ elems := List.map (AV.int IntKind.i64) o, es := 1, ver := 0, frozen := false, clean := true }])), (7, 16, .elem (AV.int IntKind.i64 (o.getD ((↑o.length : Int) - 1).toNat default))), (7, 18, .elem (AV.agg [AV.int IntKind.i64 (gs.getD (o.getD ((↑o.length : Int) - 1).toNat default).toNat default).x, AV.int IntKind.i64 (gs.getD (o.getD ((↑o.length : Int) - 1).toNat default).toNat default).y])), (7, 25, .elem (AV.agg [AV.int IntKind.i64 (gs.getD i.toNat default).x, AV.int IntKind.i64 (gs.getD i.toNat default).y])), (7, 26, .call (AV.int IntKind.i64 (Sp.dist (gs.getD (o.getD ((↑o.length : Int) - 1).toNat default).toNat default).x (gs.getD (o.getD ((↑o.length : Int) - 1).toNat default).toNat default).y (gs.getD i.toNat default).x (gs.getD i.toNat default).y)) none), (7, 28, (.call (.tup []) (some [⟨[.agg [.vec fl 2 (gs.map G2.a), .vec rb 1 ((r0 :: rt).map (.int .i64)), .int .i64 rl]], 3, 0, false, false⟩, ⟨(o ++ [i]).map (.int .i64), 1, 1, rf, true⟩]) : Ans))] [(7, [28, 902026, 902025, 902024, 2022, 902018, 902017, 3016, 3015, 3013, 2010, 4005, 902004, 2, 4002])]) 1000 [true, true] ⟨(atC (cd Try.f38) [1, 1, 1, 0, 0]), [(0, AV.ptr 0 0 0 0), (1, AV.row 1 v), (2, AV.int IntKind.i64 sum), (41, AV.int IntKind.i64 n), (42, AV.int IntKind.i64 (IntKind.i64.wrap (i + 1)))], [{ elems := [AV.agg [AV.vec fl 2 (List.map G2.a gs), AV.vec rb 1 (AV.int IntKind.i64 r0 :: List.map (AV.int IntKind.i64) rt), AV.int IntKind.i64 rl]], es := 3, ver := 0, frozen := false, clean := false }, { elems := List.map (AV.int IntKind.i64) o, es := 1, ver := v, frozen := false, clean := true }, { elems := List.map (AV.int IntKind.i64) (o ++ [i]), es := 1, ver := 1, frozen := rf, clean := true }], [(decide (i < n)) == true, v == v, (!Sp.has o i) == true, v == v, scalarL (List.map (AV.int IntKind.i64) o), true, decide (((List.map (AV.int IntKind.i64) o).length + 1) * 8 ≤ 1099511627776), true, v == v, v == v, decide (0 ≤ IntKind.i64.wrap ((↑(List.map (AV.int IntKind.i64) o).length : Int) - 1)), decide ((IntKind.i64.wrap ((↑(List.map (AV.int IntKind.i64) o).length : Int) - 1)).toNat < (List.map (AV.int IntKind.i64) o).length), v == v, decide (0 ≤ o.getD ((↑o.length : Int) - 1).toNat default), decide ((o.getD ((↑o.length : Int) - 1).toNat default).toNat < (List.map G2.a gs).length), true, decide (0 ≤ i), decide (i.toNat < (List.map G2.a gs).length)], [((List.map (AV.int IntKind.i64) o).get?Internal (IntKind.i64.wrap ((↑(List.map (AV.int IntKind.i64) o).length : Int) - 1)).toNat = some (AV.int IntKind.i64 (o.getD ((↑o.length : Int) - 1).toNat default))), ((List.map G2.a gs).get?Internal (o.getD ((↑o.length : Int) - 1).toNat default).toNat = some (AV.agg [AV.int IntKind.i64 (gs.getD (o.getD ((↑o.length : Int) - 1).toNat default).toNat default).x, AV.int IntKind.i64 (gs.getD (o.getD ((↑o.length : Int) - 1).toNat default).toNat default).y])), ((List.map G2.a gs).get?Internal i.toNat = some (AV.agg [AV.int IntKind.i64 (gs.getD i.toNat default).x, AV.int IntKind.i64 (gs.getD i.toNat default).y]))], [⟨true, false, 45, [AV.vec false 1 (List.map (AV.int IntKind.i64) o), AV.int IntKind.i64 i], [], AV.bool (Sp.has o i), []⟩, ⟨true, true, 41, [AV.vec false 1 (List.map (AV.int IntKind.i64) o)], [], AV.row 0 0, [{ elems := List.map (AV.int IntKind.i64) o, es := 1, ver := 0, frozen := false, clean := true }]⟩, ⟨true, false, 15, [AV.agg [AV.int IntKind.i64 (gs.getD (o.getD ((↑o.length : Int) - 1).toNat default).toNat default).x, AV.int IntKind.i64 (gs.getD (o.getD ((↑o.length : Int) - 1).toNat default).toNat default).y], AV.agg [AV.int IntKind.i64 (gs.getD i.toNat default).x, AV.int IntKind.i64 (gs.getD i.toNat default).y]], [], AV.int IntKind.i64 (Sp.dist (gs.getD (o.getD ((↑o.length : Int) - 1).toNat default).toNat default).x (gs.getD (o.getD ((↑o.length : Int) - 1).toNat default).toNat default).y (gs.getD i.toNat default).x (gs.getD i.toNat default).y), []⟩, ⟨true, true, 38, [AV.ptr 0 0 0 0, AV.row 1 1, AV.int IntKind.i64 (IntKind.i64.wrap (sum + Sp.dist (gs.getD (o.getD ((↑o.length : Int) - 1).toNat default).toNat default).x (gs.getD (o.getD ((↑o.length : Int) - 1).toNat default).toNat default).y (gs.getD i.toNat default).x (gs.getD i.toNat default).y))], [{ elems := [AV.agg [AV.vec fl 2 (List.map G2.a gs), AV.vnil, AV.int IntKind.i64 le]], es := 3, ver := 0, frozen := false, clean := false }, { elems := List.map (AV.int IntKind.i64) o ++ [AV.int IntKind.i64 i], es := 1, ver := 1, frozen := false, clean := true }], AV.tup [], [{ elems := [AV.agg [AV.vec fl 2 (List.map G2.a gs), AV.vec rb 1 (AV.int IntKind.i64 r0 :: List.map (AV.int IntKind.i64) rt), AV.int IntKind.i64 rl]], es := 3, ver := 0, frozen := false, clean := false }, { elems := List.map (AV.int IntKind.i64) (o ++ [i]), es := 1, ver := 1, frozen := rf, clean := true }]⟩]⟩ (by kernel_rfl) (allB_cons (beq_t (i1.2 d2)) (allB_cons (beq_self_eq_true _) (allB_cons (beq_t (i4.2 d5)) (allB_cons (beq_self_eq_true _) (allB_cons (by first | exact sc_int _ | exact sc_bool _) (allB_cons rfl (allB_cons (i18.2 k19) (allB_cons rfl (allB_cons (beq_self_eq_true _) (allB_cons (beq_self_eq_true _) (allB_cons (i20.2 k21) (allB_cons (i22.2 k23) (allB_cons (beq_self_eq_true _) (allB_cons (i24.2 k25) (allB_cons (i27.2 k28) (allB_cons rfl (allB_cons (i29.2 k30) (allB_cons (i31.2 k32) allB_nil)))))))))))))))))) (allP_cons (by rw [w13, w15] <;> exact (el_map k23)) (allP_cons (el_map k28) (allP_cons (el_map k32) allP_nil))) (allC_cons (fun _ => ((@ev45 (false) (o) (i) k3) : Ev M1 (Conf.pure 45 [AV.vec false 1 (List.map (AV.int IntKind.i64) o), AV.int IntKind.i64 i]) (AV.bool (Sp.has o i)) [])) (allC_cons (fun _ => ((@evf41 (false) (o) k12) : Ev M1 (Conf.own 41 [AV.vec false 1 (List.map (AV.int IntKind.i64) o)] []) (AV.row 0 0) [{ elems := List.map (AV.int IntKind.i64) o, es := 1, ver := 0, frozen := false, clean := true }])) (allC_cons (fun _ => ((@ev15 ((gs.getD (o.getD ((↑o.length : Int) - 1).toNat default).toNat default).x) ((gs.getD (o.getD ((↑o.length : Int) - 1).toNat default).toNat default).y) ((gs.getD i.toNat default).x) ((gs.getD i.toNat default).y) k16) : Ev M1 (Conf.pure 15 [AV.agg [AV.int IntKind.i64 (gs.getD (o.getD ((↑o.length : Int) - 1).toNat default).toNat default).x, AV.int IntKind.i64 (gs.getD (o.getD ((↑o.length : Int) - 1).toNat default).toNat default).y], AV.agg [AV.int IntKind.i64 (gs.getD i.toNat default).x, AV.int IntKind.i64 (gs.getD i.toNat default).y]]) (AV.int IntKind.i64 (Sp.dist (gs.getD (o.getD ((↑o.length : Int) - 1).toNat default).toNat default).x (gs.getD (o.getD ((↑o.length : Int) - 1).toNat default).toNat default).y (gs.getD i.toNat default).x (gs.getD i.toNat default).y)) [])) (allC_cons (fun _ => (k17 : Ev M1 (Conf.own 38 [AV.ptr 0 0 0 0, AV.row 1 1, AV.int IntKind.i64 (IntKind.i64.wrap (sum + Sp.dist (gs.getD (o.getD ((↑o.length : Int) - 1).toNat default).toNat default).x (gs.getD (o.getD ((↑o.length : Int) - 1).toNat default).toNat default).y (gs.getD i.toNat default).x (gs.getD i.toNat default).y))] [{ elems := [AV.agg [AV.vec fl 2 (List.map G2.a gs), AV.vnil, AV.int IntKind.i64 le]], es := 3, ver := 0, frozen := false, clean := false }, { elems := List.map (AV.int IntKind.i64) o ++ [AV.int IntKind.i64 i], es := 1, ver := 1, frozen := false, clean := true }]) (AV.tup []) [{ elems := [AV.agg [AV.vec fl 2 (List.map G2.a gs), AV.vec rb 1 (AV.int IntKind.i64 r0 :: List.map (AV.int IntKind.i64) rt), AV.int IntKind.i64 rl]], es := 3, ver := 0, frozen := false, clean := false }, { elems := List.map (AV.int IntKind.i64) (o ++ [i]), es := 1, ver := 1, frozen := rf, clean := true }])) allC_nil)))) (by rw [w34] <;> exact wp_narrow_keep 2 hk (by kernel_rfl) H)
    · have H := H.2 d5
      have k35 := H.1; have H := H.2
      have w36 : IntKind.i64.wrap (i + 1) = i + 1 := wI64 k35
      exact path_wp (G := given kp38 [(6, 2, .call (AV.bool (Sp.has o i)) none)] []) 1000 [true, false] ⟨(atC (cd Try.f38) [1, 1, 1, 0, 0]), [(0, AV.ptr 0 0 0 0), (1, AV.row 1 v), (2, AV.int IntKind.i64 sum), (41, AV.int IntKind.i64 n), (42, AV.int IntKind.i64 (IntKind.i64.wrap (i + 1)))], [{ elems := [AV.agg [AV.vec fl 2 (List.map G2.a gs), AV.vnil, AV.int IntKind.i64 le]], es := 3, ver := 0, frozen := false, clean := false }, { elems := List.map (AV.int IntKind.i64) o, es := 1, ver := v, frozen := false, clean := true }], [(decide (i < n)) == true, v == v, (!Sp.has o i) == false], [], [⟨true, false, 45, [AV.vec false 1 (List.map (AV.int IntKind.i64) o), AV.int IntKind.i64 i], [], AV.bool (Sp.has o i), []⟩]⟩ (by kernel_rfl) (allB_cons (beq_t (i1.2 d2)) (allB_cons (beq_self_eq_true _) (allB_cons (beq_f (fun h => d5 (i4.1 h))) allB_nil))) allP_nil (allC_cons (fun _ => ((@ev45 (false) (o) (i) k3) : Ev M1 (Conf.pure 45 [AV.vec false 1 (List.map (AV.int IntKind.i64) o), AV.int IntKind.i64 i]) (AV.bool (Sp.has o i)) [])) allC_nil) (by rw [w36] <;> exact H)
  · have H := H.2 d2
    exact path_end (G := given kp38 [] []) 1000 [false] (env' := [(0, AV.ptr 0 0 0 0), (1, AV.row 1 v), (2, AV.int IntKind.i64 sum), (41, AV.int IntKind.i64 n), (42, AV.int IntKind.i64 i), (43, AV.bool (decide (i < n)))]) (L' := [{ elems := [AV.agg [AV.vec fl 2 (List.map G2.a gs), AV.vnil, AV.int IntKind.i64 le]], es := 3, ver := 0, frozen := false, clean := false }, { elems := List.map (AV.int IntKind.i64) o, es := 1, ver := v, frozen := false, clean := true }]) (asm := [(decide (i < n)) == false]) (eqs := []) (calls := []) (AV.tup []) (by kernel_rfl) (by kernel_rfl) (allB_cons (beq_f (fun h => d2 (i1.1 h))) allB_nil) allP_nil allC_nil H

theorem v38sa (fl : Bool) (gs : List G2) (o : List Int) (sum le : Int) (v : Nat) (n i : Int) (fb : Bool) (x : Int) (l : List Int) (r0 rl : Int) (rt : List Int) (rf rb : Bool) (dv : AV) (dK : Heap) (hk : keepOk 2 dv dK = true) (H :
    ((i < n) → (o.length ≤ 1000000) ∧
      ((¬(Sp.has o i = true)) → (o.length ≤ 1000000 ∧ 0 < o.length) ∧
        (-9223372036854775808 ≤ (↑o.length : Int) - 1 ∧ (↑o.length : Int) - 1 ≤ 9223372036854775807) ∧
        (Sp.inM (gs.getD (o.getD ((↑o.length : Int) - 1).toNat default).toNat default).x ∧ Sp.inM (gs.getD (o.getD ((↑o.length : Int) - 1).toNat default).toNat default).y ∧ Sp.inM (gs.getD i.toNat default).x ∧ Sp.inM (gs.getD i.toNat default).y) ∧
        (Ev M1 (Conf.own 38 [AV.ptr 0 0 0 0, AV.row 1 1, AV.int IntKind.i64 (IntKind.i64.wrap (sum + Sp.dist (gs.getD (o.getD ((↑o.length : Int) - 1).toNat default).toNat default).x (gs.getD (o.getD ((↑o.length : Int) - 1).toNat default).toNat default).y (gs.getD i.toNat default).x (gs.getD i.toNat default).y))] [{ elems := [AV.agg [AV.vec fl 2 (List.map G2.a gs), AV.vec fb 1 (AV.int IntKind.i64 x :: List.map (AV.int IntKind.i64) l), AV.int IntKind.i64 le]], es := 3, ver := 0, frozen := false, clean := false }, { elems := List.map (AV.int IntKind.i64) o ++ [AV.int IntKind.i64 i], es := 1, ver := 1, frozen := false, clean := true }]) (AV.tup []) [{ elems := [AV.agg [AV.vec fl 2 (List.map G2.a gs), AV.vec rb 1 (AV.int IntKind.i64 r0 :: List.map (AV.int IntKind.i64) rt), AV.int IntKind.i64 rl]], es := 3, ver := 0, frozen := false, clean := false }, { elems := List.map (AV.int IntKind.i64) (o ++ [i]), es := 1, ver := 1, frozen := rf, clean := true }]) ∧
        ((o.length + 1) * 8 ≤ 1099511627776) ∧
        (0 ≤ (↑o.length : Int) - 1) ∧
        (((↑o.length : Int) - 1).toNat < o.length) ∧
        (0 ≤ o.getD ((↑o.length : Int) - 1).toNat default) ∧
        ((o.getD ((↑o.length : Int) - 1).toNat default).toNat < gs.length) ∧
        (0 ≤ i) ∧
        (i.toNat < gs.length) ∧
        (-9223372036854775808 ≤ i + 1 ∧ i + 1 ≤ 9223372036854775807) ∧
        v38sa_at (fl) (gs) (o) (sum) (rl) (v) (n) (i + 1) (rb) (r0) (rt) (KeepQ dv dK)) ∧
      (¬(¬(Sp.has o i = true)) → (-9223372036854775808 ≤ i + 1 ∧ i + 1 ≤ 9223372036854775807) ∧
        v38sa_at (fl) (gs) (o) (sum) (le) (v) (n) (i + 1) (fb) (x) (l) (KeepQ dv dK))) ∧
    (¬(i < n) → (KeepQ dv dK) (AV.tup []) [{ elems := [AV.agg [AV.vec fl 2 (List.map G2.a gs), AV.vec fb 1 (AV.int IntKind.i64 x :: List.map (AV.int IntKind.i64) l), AV.int IntKind.i64 le]], es := 3, ver := 0, frozen := false, clean := false }, { elems := List.map (AV.int IntKind.i64) o, es := 1, ver := v, frozen := false, clean := true }])) :
  v38sa_at fl gs o sum le v n i fb x l (KeepQ dv dK) := by
  unfold v38sa_at
  have i1 : (decide (i < n)) = true ↔ (i < n) := i_dec
  rcases Classical.em (i < n) with d2 | d2
  · have H := H.1 d2
    have k3 := H.1; have H := H.2
    have i4 : (!Sp.has o i) = true ↔ (¬(Sp.has o i = true)) := (i_not (i_var _))
    rcases Classical.em (¬(Sp.has o i = true)) with d5 | d5
    · have H := H.1 d5
      have k12 := H.1; have H := H.2
      have w13 : (List.map (AV.int IntKind.i64) o).length = o.length := List.length_map ..
      have k14 := H.1; have H := H.2
      have w15 : IntKind.i64.wrap ((↑o.length : Int) - 1) = (↑o.length : Int) - 1 := wI64 k14
      have k16 := H.1; have H := H.2
      have k17 := H.1; have H := H.2
      have i18 : (decide (((List.map (AV.int IntKind.i64) o).length + 1) * 8 ≤ 1099511627776)) = true ↔ ((o.length + 1) * 8 ≤ 1099511627776) := (by rw [w13] <;> exact i_dec)
      have k19 := H.1; have H := H.2
      have i20 : (decide (0 ≤ IntKind.i64.wrap ((↑(List.map (AV.int IntKind.i64) o).length : Int) - 1))) = true ↔ (0 ≤ (↑o.length : Int) - 1) := (by rw [w13, w15] <;> exact i_dec)
      have k21 := H.1; have H := H.2
      have i22 : (decide ((IntKind.i64.wrap ((↑(List.map (AV.int IntKind.i64) o).length : Int) - 1)).toNat < (List.map (AV.int IntKind.i64) o).length)) = true ↔ (((↑o.length : Int) - 1).toNat < o.length) := (by rw [w13, w15] <;> exact i_dec)
      have k23 := H.1; have H := H.2
      have i24 : (decide (0 ≤ o.getD ((↑o.length : Int) - 1).toNat default)) = true ↔ (0 ≤ o.getD ((↑o.length : Int) - 1).toNat default) := i_dec
      have k25 := H.1; have H := H.2
      have w26 : (List.map G2.a gs).length = gs.length := List.length_map ..
      have i27 : (decide ((o.getD ((↑o.length : Int) - 1).toNat default).toNat < (List.map G2.a gs).length)) = true ↔ ((o.getD ((↑o.length : Int) - 1).toNat default).toNat < gs.length) := (by rw [w26] <;> exact i_dec)
      have k28 := H.1; have H := H.2
      have i29 : (decide (0 ≤ i)) = true ↔ (0 ≤ i) := i_dec
      have k30 := H.1; have H := H.2
      have i31 : (decide (i.toNat < (List.map G2.a gs).length)) = true ↔ (i.toNat < gs.length) := (by rw [w26] <;> exact i_dec)
      have k32 := H.1; have H := H.2
      have k33 := H.1; have H := H.2
      have w34 : IntKind.i64.wrap (i + 1) = i + 1 := wI64 k33
      exact path_wp (G := given kp38 [(6, 2, .call (AV.bool (Sp.has o i)) none), (7, 2, .call (AV.row 0 0) (some [{ elems := List.map (AV.int IntKind.i64) o, es := 1, ver := 0, frozen := false, clean := true }])), (7, 16, .elem (AV.int IntKind.i64 (o.getD ((↑o.length : Int) - 1).toNat default))), (7, 18, .elem (AV.agg [AV.int IntKind.i64 (gs.getD (o.getD ((↑o.length : Int) - 1).toNat default).toNat default).x, AV.int IntKind.i64 (gs.getD (o.getD ((↑o.length : Int) - 1).toNat default).toNat default).y])), (7, 25, .elem (AV.agg [AV.int IntKind.i64 (gs.getD i.toNat default).x, AV.int IntKind.i64 (gs.getD i.toNat default).y])), (7, 26, .call (AV.int IntKind.i64 (Sp.dist (gs.getD (o.getD ((↑o.length : Int) - 1).toNat default).toNat default).x (gs.getD (o.getD ((↑o.length : Int) - 1).toNat default).toNat default).y (gs.getD i.toNat default).x (gs.getD i.toNat default).y)) none), (7, 28, (.call (.tup []) (some [⟨[.agg [.vec fl 2 (gs.map G2.a), .vec rb 1 ((r0 :: rt).map (.int .i64)), .int .i64 rl]], 3, 0, false, false⟩, ⟨(o ++ [i]).map (.int .i64), 1, 1, rf, true⟩]) : Ans))] [(7, [28, 902026, 902025, 902024, 2022, 902018, 902017, 3016, 3015, 3013, 2010, 4005, 902004, 2, 4002])]) 1000 [true, true] ⟨(atC (cd Try.f38) [1, 1, 1, 0, 0]), [(0, AV.ptr 0 0 0 0), (1, AV.row 1 v), (2, AV.int IntKind.i64 sum), (41, AV.int IntKind.i64 n), (42, AV.int IntKind.i64 (IntKind.i64.wrap (i + 1)))], [{ elems := [AV.agg [AV.vec fl 2 (List.map G2.a gs), AV.vec rb 1 (AV.int IntKind.i64 r0 :: List.map (AV.int IntKind.i64) rt), AV.int IntKind.i64 rl]], es := 3, ver := 0, frozen := false, clean := false }, { elems := List.map (AV.int IntKind.i64) o, es := 1, ver := v, frozen := false, clean := true }, { elems := List.map (AV.int IntKind.i64) (o ++ [i]), es := 1, ver := 1, frozen := rf, clean := true }], [(decide (i < n)) == true, v == v, (!Sp.has o i) == true, v == v, scalarL (List.map (AV.int IntKind.i64) o), true, decide (((List.map (AV.int IntKind.i64) o).length + 1) * 8 ≤ 1099511627776), true, v == v, v == v, decide (0 ≤ IntKind.i64.wrap ((↑(List.map (AV.int IntKind.i64) o).length : Int) - 1)), decide ((IntKind.i64.wrap ((↑(List.map (AV.int IntKind.i64) o).length : Int) - 1)).toNat < (List.map (AV.int IntKind.i64) o).length), v == v, decide (0 ≤ o.getD ((↑o.length : Int) - 1).toNat default), decide ((o.getD ((↑o.length : Int) - 1).toNat default).toNat < (List.map G2.a gs).length), true, decide (0 ≤ i), decide (i.toNat < (List.map G2.a gs).length)], [((List.map (AV.int IntKind.i64) o).get?Internal (IntKind.i64.wrap ((↑(List.map (AV.int IntKind.i64) o).length : Int) - 1)).toNat = some (AV.int IntKind.i64 (o.getD ((↑o.length : Int) - 1).toNat default))), ((List.map G2.a gs).get?Internal (o.getD ((↑o.length : Int) - 1).toNat default).toNat = some (AV.agg [AV.int IntKind.i64 (gs.getD (o.getD ((↑o.length : Int) - 1).toNat default).toNat default).x, AV.int IntKind.i64 (gs.getD (o.getD ((↑o.length : Int) - 1).toNat default).toNat default).y])), ((List.map G2.a gs).get?Internal i.toNat = some (AV.agg [AV.int IntKind.i64 (gs.getD i.toNat default).x, AV.int IntKind.i64 (gs.getD i.toNat default).y]))], [⟨true, false, 45, [AV.vec false 1 (List.map (AV.int IntKind.i64) o), AV.int IntKind.i64 i], [], AV.bool (Sp.has o i), []⟩, ⟨true, true, 41, [AV.vec false 1 (List.map (AV.int IntKind.i64) o)], [], AV.row 0 0, [{ elems := List.map (AV.int IntKind.i64) o, es := 1, ver := 0, frozen := false, clean := true }]⟩, ⟨true, false, 15, [AV.agg [AV.int IntKind.i64 (gs.getD (o.getD ((↑o.length : Int) - 1).toNat default).toNat default).x, AV.int IntKind.i64 (gs.getD (o.getD ((↑o.length : Int) - 1).toNat default).toNat default).y], AV.agg [AV.int IntKind.i64 (gs.getD i.toNat default).x, AV.int IntKind.i64 (gs.getD i.toNat default).y]], [], AV.int IntKind.i64 (Sp.dist (gs.getD (o.getD ((↑o.length : Int) - 1).toNat default).toNat default).x (gs.getD (o.getD ((↑o.length : Int) - 1).toNat default).toNat default).y (gs.getD i.toNat default).x (gs.getD i.toNat default).y), []⟩, ⟨true, true, 38, [AV.ptr 0 0 0 0, AV.row 1 1, AV.int IntKind.i64 (IntKind.i64.wrap (sum + Sp.dist (gs.getD (o.getD ((↑o.length : Int) - 1).toNat default).toNat default).x (gs.getD (o.getD ((↑o.length : Int) - 1).toNat default).toNat default).y (gs.getD i.toNat default).x (gs.getD i.toNat default).y))], [{ elems := [AV.agg [AV.vec fl 2 (List.map G2.a gs), AV.vec fb 1 (AV.int IntKind.i64 x :: List.map (AV.int IntKind.i64) l), AV.int IntKind.i64 le]], es := 3, ver := 0, frozen := false, clean := false }, { elems := List.map (AV.int IntKind.i64) o ++ [AV.int IntKind.i64 i], es := 1, ver := 1, frozen := false, clean := true }], AV.tup [], [{ elems := [AV.agg [AV.vec fl 2 (List.map G2.a gs), AV.vec rb 1 (AV.int IntKind.i64 r0 :: List.map (AV.int IntKind.i64) rt), AV.int IntKind.i64 rl]], es := 3, ver := 0, frozen := false, clean := false }, { elems := List.map (AV.int IntKind.i64) (o ++ [i]), es := 1, ver := 1, frozen := rf, clean := true }]⟩]⟩ (by kernel_rfl) (allB_cons (beq_t (i1.2 d2)) (allB_cons (beq_self_eq_true _) (allB_cons (beq_t (i4.2 d5)) (allB_cons (beq_self_eq_true _) (allB_cons (by first | exact sc_int _ | exact sc_bool _) (allB_cons rfl (allB_cons (i18.2 k19) (allB_cons rfl (allB_cons (beq_self_eq_true _) (allB_cons (beq_self_eq_true _) (allB_cons (i20.2 k21) (allB_cons (i22.2 k23) (allB_cons (beq_self_eq_true _) (allB_cons (i24.2 k25) (allB_cons (i27.2 k28) (allB_cons rfl (allB_cons (i29.2 k30) (allB_cons (i31.2 k32) allB_nil)))))))))))))))))) (allP_cons (by rw [w13, w15] <;> exact (el_map k23)) (allP_cons (el_map k28) (allP_cons (el_map k32) allP_nil))) (allC_cons (fun _ => ((@ev45 (false) (o) (i) k3) : Ev M1 (Conf.pure 45 [AV.vec false 1 (List.map (AV.int IntKind.i64) o), AV.int IntKind.i64 i]) (AV.bool (Sp.has o i)) [])) (allC_cons (fun _ => ((@evf41 (false) (o) k12) : Ev M1 (Conf.own 41 [AV.vec false 1 (List.map (AV.int IntKind.i64) o)] []) (AV.row 0 0) [{ elems := List.map (AV.int IntKind.i64) o, es := 1, ver := 0, frozen := false, clean := true }])) (allC_cons (fun _ => ((@ev15 ((gs.getD (o.getD ((↑o.length : Int) - 1).toNat default).toNat default).x) ((gs.getD (o.getD ((↑o.length : Int) - 1).toNat default).toNat default).y) ((gs.getD i.toNat default).x) ((gs.getD i.toNat default).y) k16) : Ev M1 (Conf.pure 15 [AV.agg [AV.int IntKind.i64 (gs.getD (o.getD ((↑o.length : Int) - 1).toNat default).toNat default).x, AV.int IntKind.i64 (gs.getD (o.getD ((↑o.length : Int) - 1).toNat default).toNat default).y], AV.agg [AV.int IntKind.i64 (gs.getD i.toNat default).x, AV.int IntKind.i64 (gs.getD i.toNat default).y]]) (AV.int IntKind.i64 (Sp.dist (gs.getD (o.getD ((↑o.length : Int) - 1).toNat default).toNat default).x (gs.getD (o.getD ((↑o.length : Int) - 1).toNat default).toNat default).y (gs.getD i.toNat default).x (gs.getD i.toNat default).y)) [])) (allC_cons (fun _ => (k17 : Ev M1 (Conf.own 38 [AV.ptr 0 0 0 0, AV.row 1 1, AV.int IntKind.i64 (IntKind.i64.wrap (sum + Sp.dist (gs.getD (o.getD ((↑o.length : Int) - 1).toNat default).toNat default).x (gs.getD (o.getD ((↑o.length : Int) - 1).toNat default).toNat default).y (gs.getD i.toNat default).x (gs.getD i.toNat default).y))] [{ elems := [AV.agg [AV.vec fl 2 (List.map G2.a gs), AV.vec fb 1 (AV.int IntKind.i64 x :: List.map (AV.int IntKind.i64) l), AV.int IntKind.i64 le]], es := 3, ver := 0, frozen := false, clean := false }, { elems := List.map (AV.int IntKind.i64) o ++ [AV.int IntKind.i64 i], es := 1, ver := 1, frozen := false, clean := true }]) (AV.tup []) [{ elems := [AV.agg [AV.vec fl 2 (List.map G2.a gs), AV.vec rb 1 (AV.int IntKind.i64 r0 :: List.map (AV.int IntKind.i64) rt), AV.int IntKind.i64 rl]], es := 3, ver := 0, frozen := false, clean := false }, { elems := List.map (AV.int IntKind.i64) (o ++ [i]), es := 1, ver := 1, frozen := rf, clean := true }])) allC_nil)))) (by rw [w34] <;> exact wp_narrow_keep 2 hk (by kernel_rfl) H)
    · have H := H.2 d5
      have k35 := H.1; have H := H.2
      have w36 : IntKind.i64.wrap (i + 1) = i + 1 := wI64 k35
      exact path_wp (G := given kp38 [(6, 2, .call (AV.bool (Sp.has o i)) none)] []) 1000 [true, false] ⟨(atC (cd Try.f38) [1, 1, 1, 0, 0]), [(0, AV.ptr 0 0 0 0), (1, AV.row 1 v), (2, AV.int IntKind.i64 sum), (41, AV.int IntKind.i64 n), (42, AV.int IntKind.i64 (IntKind.i64.wrap (i + 1)))], [{ elems := [AV.agg [AV.vec fl 2 (List.map G2.a gs), AV.vec fb 1 (AV.int IntKind.i64 x :: List.map (AV.int IntKind.i64) l), AV.int IntKind.i64 le]], es := 3, ver := 0, frozen := false, clean := false }, { elems := List.map (AV.int IntKind.i64) o, es := 1, ver := v, frozen := false, clean := true }], [(decide (i < n)) == true, v == v, (!Sp.has o i) == false], [], [⟨true, false, 45, [AV.vec false 1 (List.map (AV.int IntKind.i64) o), AV.int IntKind.i64 i], [], AV.bool (Sp.has o i), []⟩]⟩ (by kernel_rfl) (allB_cons (beq_t (i1.2 d2)) (allB_cons (beq_self_eq_true _) (allB_cons (beq_f (fun h => d5 (i4.1 h))) allB_nil))) allP_nil (allC_cons (fun _ => ((@ev45 (false) (o) (i) k3) : Ev M1 (Conf.pure 45 [AV.vec false 1 (List.map (AV.int IntKind.i64) o), AV.int IntKind.i64 i]) (AV.bool (Sp.has o i)) [])) allC_nil) (by rw [w36] <;> exact H)
  · have H := H.2 d2
    exact path_end (G := given kp38 [] []) 1000 [false] (env' := [(0, AV.ptr 0 0 0 0), (1, AV.row 1 v), (2, AV.int IntKind.i64 sum), (41, AV.int IntKind.i64 n), (42, AV.int IntKind.i64 i), (43, AV.bool (decide (i < n)))]) (L' := [{ elems := [AV.agg [AV.vec fl 2 (List.map G2.a gs), AV.vec fb 1 (AV.int IntKind.i64 x :: List.map (AV.int IntKind.i64) l), AV.int IntKind.i64 le]], es := 3, ver := 0, frozen := false, clean := false }, { elems := List.map (AV.int IntKind.i64) o, es := 1, ver := v, frozen := false, clean := true }]) (asm := [(decide (i < n)) == false]) (eqs := []) (calls := []) (AV.tup []) (by kernel_rfl) (by kernel_rfl) (allB_cons (beq_f (fun h => d2 (i1.1 h))) allB_nil) allP_nil allC_nil H


end Go.Av

/- PATHS, written by a program of the prover's. -/
namespace Go.Av
open Go.Proofs
set_option maxRecDepth 100000
def fi39 : Fi := ⟨49, [.tmp 6]⟩
def kp39 : List (Nat × List Nat) := [(0, [0, 1, 2]), (1, [0, 1, 2, 12]), (2, [1, 2, 24]), (3, [6]), (4, [6]), (5, [0, 1, 2, 7]), (6, [0, 1, 2, 7, 32]), (7, [0, 1, 2, 7]), (8, [0, 1, 2, 7, 38]), (9, [0, 1, 2, 7]), (10, [6])]
def v39n_at (fl fo : Bool) (gs : List G2) (y : Int) (o : List Int) (Q : AV → Heap → Prop) : Prop := Wp M1 (.run fi39 (atC (cd Try.f39) []) [(0, .vec fl 2 (gs.map G2.a)), (1, .vec fo 1 ((y :: o).map (.int .i64))), (2, .vnil)] []) Q
def v39s_at (fl fo : Bool) (gs : List G2) (y : Int) (o : List Int) (fb : Bool) (b : List Int) (Q : AV → Heap → Prop) : Prop := Wp M1 (.run fi39 (atC (cd Try.f39) []) [(0, .vec fl 2 (gs.map G2.a)), (1, .vec fo 1 ((y :: o).map (.int .i64))), (2, .vec fb 1 (b.map (.int .i64)))] []) Q
def v39na_at (fl fo : Bool) (gs : List G2) (y : Int) (o : List Int) (i : Int) (Q : AV → Heap → Prop) : Prop := Wp M1 (.run fi39 (atC (cd Try.f39) [1, 1, 0, 1, 0, 0]) [(0, .vec fl 2 (gs.map G2.a)), (1, .vec fo 1 ((y :: o).map (.int .i64))), (2, .vnil), (7, .int .i64 i)] []) Q
def v39sa_at (fl fo : Bool) (gs : List G2) (y : Int) (o : List Int) (fb : Bool) (b : List Int) (i : Int) (Q : AV → Heap → Prop) : Prop := Wp M1 (.run fi39 (atC (cd Try.f39) [1, 1, 0, 1, 0, 0]) [(0, .vec fl 2 (gs.map G2.a)), (1, .vec fo 1 ((y :: o).map (.int .i64))), (2, .vec fb 1 (b.map (.int .i64))), (7, .int .i64 i)] []) Q
theorem call39 {args : List AV} {d : AV} (h : Wp M1 (.run fi39 [.code (cd Try.f39)] (argVars 0 args) []) (PureQ d)) : Ev M1 (.pure 39 args) d [] :=
  pure_pq Try.f39 fi39 (by kernel_rfl) (by kernel_rfl) (by kernel_rfl) (by kernel_rfl) h
theorem owncall39 {args : List AV} {L : Heap} {Q : AV → Heap → Prop} (h : Wp M1 (.run fi39 [.code (cd Try.f39)] (argVars 0 args) L) Q) : Wp M1 (.own 39 args L) Q :=
  own_wp Try.f39 fi39 (by kernel_rfl) (by kernel_rfl) (by kernel_rfl) (by kernel_rfl) h
theorem keepcall39 {args : List AV} {L : Heap} {v : AV} {K : Heap} (hk : keepOk L.length v K = true) (h : Wp M1 (.run fi39 [.code (cd Try.f39)] (argVars 0 args) L) (KeepQ v K)) : Ev M1 (.own 39 args L) v K :=
  own_keep Try.f39 fi39 (by kernel_rfl) (by kernel_rfl) (by kernel_rfl) (by kernel_rfl) hk h
theorem v39n (fl fo : Bool) (gs : List G2) (y : Int) (o : List Int)  (dq : AV) (H :
    (((↑(o.length + 1) : Int) = (↑gs.length : Int)) → ∃ (n1 : Int),
      ((¬(true = true)) → (Ev M1 (Conf.pure 33 [AV.vec fl 2 (List.map G2.a gs), AV.vec fo 1 (AV.int IntKind.i64 y :: List.map (AV.int IntKind.i64) o)]) (AV.int IntKind.i64 n1) [])) ∧
      ∃ (n2 : Int),
      ((false = true) → (Ev M1 (Conf.pure 33 [AV.vec fl 2 (List.map G2.a gs), AV.vnil]) (AV.int IntKind.i64 n2) [])) ∧
      ((0 + (o.length + 1)) * 8 ≤ 1099511627776) ∧
      Weak (AV.vec false 1 (AV.int IntKind.i64 y :: List.map (AV.int IntKind.i64) o)) dq) ∧
    (¬((↑(o.length + 1) : Int) = (↑gs.length : Int)) → v39na_at (fl) (fo) (gs) (y) (o) (0) (PureQ dq))) :
  v39n_at fl fo gs y o (PureQ dq) := by
  unfold v39n_at
  have w1 : (List.map (AV.int IntKind.i64) o).length = o.length := List.length_map ..
  have w2 : (List.map G2.a gs).length = gs.length := List.length_map ..
  have i3 : ((↑((List.map (AV.int IntKind.i64) o).length + 1) : Int) == (↑(List.map G2.a gs).length : Int)) = true ↔ ((↑(o.length + 1) : Int) = (↑gs.length : Int)) := (by rw [w1, w2] <;> exact i_eq)
  rcases Classical.em ((↑(o.length + 1) : Int) = (↑gs.length : Int)) with d4 | d4
  · have H := H.1 d4
    obtain ⟨n1, H⟩ := H
    have i5 : (true == false && true && true) = true ↔ (¬(true = true)) := (i_at (i_at (i_bf (i_var _))))
    have k6 := H.1; have H := H.2
    obtain ⟨n2, H⟩ := H
    have i7 : (false) = true ↔ (false = true) := (i_var _)
    have k8 := H.1; have H := H.2
    have i9 : (decide ((0 + ((List.map (AV.int IntKind.i64) o).length + 1)) * 8 ≤ 1099511627776)) = true ↔ ((0 + (o.length + 1)) * 8 ≤ 1099511627776) := (by rw [w1] <;> exact i_dec)
    have k10 := H.1; have H := H.2
    exact path_ret (G := given kp39 [(2, 6, .call (AV.int IntKind.i64 n1) none), (2, 9, .call (AV.int IntKind.i64 n2) none)] []) 1000 [true, true] (k := ((atC (cd Try.f39) [1, 0, 1, 0, 0, 1, 0, 1])).tail) (env' := [(6, AV.row 0 0)]) (L' := [{ elems := AV.int IntKind.i64 y :: List.map (AV.int IntKind.i64) o, es := 1, ver := 0, frozen := false, clean := true }]) (asm := [((↑((List.map (AV.int IntKind.i64) o).length + 1) : Int) == (↑(List.map G2.a gs).length : Int)) == true, true == true, decide ((0 + ((List.map (AV.int IntKind.i64) o).length + 1)) * 8 ≤ 1099511627776)]) (eqs := []) (calls := [⟨true == false && true && true, false, 33, [AV.vec fl 2 (List.map G2.a gs), AV.vec fo 1 (AV.int IntKind.i64 y :: List.map (AV.int IntKind.i64) o)], [], AV.int IntKind.i64 n1, []⟩, ⟨false, false, 33, [AV.vec fl 2 (List.map G2.a gs), AV.vnil], [], AV.int IntKind.i64 n2, []⟩]) (AV.row 0 0) (by kernel_rfl) (by kernel_rfl) (allB_cons (beq_t (i3.2 d4)) (allB_cons rfl (allB_cons (i9.2 k10) allB_nil))) allP_nil (allC_cons (fun hc => ((k6 (i5.1 hc)) : Ev M1 (Conf.pure 33 [AV.vec fl 2 (List.map G2.a gs), AV.vec fo 1 (AV.int IntKind.i64 y :: List.map (AV.int IntKind.i64) o)]) (AV.int IntKind.i64 n1) [])) (allC_cons (fun hc => ((k8 (i7.1 hc)) : Ev M1 (Conf.pure 33 [AV.vec fl 2 (List.map G2.a gs), AV.vnil]) (AV.int IntKind.i64 n2) [])) allC_nil)) (pq_weak (d := AV.vec false 1 (AV.int IntKind.i64 y :: List.map (AV.int IntKind.i64) o)) (bs := [0 == 0]) (by kernel_rfl) (by kernel_rfl) (allB_cons (beq_self_eq_true _) allB_nil) (by kernel_rfl) H)
  · have H := H.2 d4
    exact path_wp (G := given kp39 [] []) 1000 [false] ⟨(atC (cd Try.f39) [1, 1, 0, 1, 0, 0]), [(0, AV.vec fl 2 (List.map G2.a gs)), (1, AV.vec fo 1 (AV.int IntKind.i64 y :: List.map (AV.int IntKind.i64) o)), (2, AV.vnil), (7, AV.int IntKind.i64 0)], [], [((↑((List.map (AV.int IntKind.i64) o).length + 1) : Int) == (↑(List.map G2.a gs).length : Int)) == false], [], []⟩ (by kernel_rfl) (allB_cons (beq_f (fun h => d4 (i3.1 h))) allB_nil) allP_nil allC_nil (H)

theorem v39s (fl fo : Bool) (gs : List G2) (y : Int) (o : List Int) (fb : Bool) (b : List Int)  (dq : AV) (H :
    (((↑(o.length + 1) : Int) = (↑gs.length : Int)) → ∃ (n1 : Int),
      ((¬((↑b.length : Int) = 0)) → (Ev M1 (Conf.pure 33 [AV.vec fl 2 (List.map G2.a gs), AV.vec fo 1 (AV.int IntKind.i64 y :: List.map (AV.int IntKind.i64) o)]) (AV.int IntKind.i64 n1) [])) ∧
      ∃ (n2 : Int),
      ((¬((↑b.length : Int) = 0)) → (Ev M1 (Conf.pure 33 [AV.vec fl 2 (List.map G2.a gs), AV.vec fb 1 (List.map (AV.int IntKind.i64) b)]) (AV.int IntKind.i64 n2) [])) ∧
      ((((↑b.length : Int) = 0) ∨ (n1 < n2)) → ((0 + (o.length + 1)) * 8 ≤ 1099511627776) ∧
        Weak (AV.vec false 1 (AV.int IntKind.i64 y :: List.map (AV.int IntKind.i64) o)) dq) ∧
      (¬(((↑b.length : Int) = 0) ∨ (n1 < n2)) → Weak (AV.vec fb 1 (List.map (AV.int IntKind.i64) b)) dq)) ∧
    (¬((↑(o.length + 1) : Int) = (↑gs.length : Int)) → v39sa_at (fl) (fo) (gs) (y) (o) (fb) (b) (0) (PureQ dq))) :
  v39s_at fl fo gs y o fb b (PureQ dq) := by
  unfold v39s_at
  have w1 : (List.map (AV.int IntKind.i64) o).length = o.length := List.length_map ..
  have w2 : (List.map G2.a gs).length = gs.length := List.length_map ..
  have i3 : ((↑((List.map (AV.int IntKind.i64) o).length + 1) : Int) == (↑(List.map G2.a gs).length : Int)) = true ↔ ((↑(o.length + 1) : Int) = (↑gs.length : Int)) := (by rw [w1, w2] <;> exact i_eq)
  rcases Classical.em ((↑(o.length + 1) : Int) = (↑gs.length : Int)) with d4 | d4
  · have H := H.1 d4
    obtain ⟨n1, H⟩ := H
    have w5 : (List.map (AV.int IntKind.i64) b).length = b.length := List.length_map ..
    have i6 : (((↑(List.map (AV.int IntKind.i64) b).length : Int) == 0) == false && true && true) = true ↔ (¬((↑b.length : Int) = 0)) := (by rw [w5] <;> exact (i_at (i_at (i_bf i_eq))))
    have k7 := H.1; have H := H.2
    obtain ⟨n2, H⟩ := H
    have i8 : (((↑(List.map (AV.int IntKind.i64) b).length : Int) == 0) == false && true && true) = true ↔ (¬((↑b.length : Int) = 0)) := (by rw [w5] <;> exact (i_at (i_at (i_bf i_eq))))
    have k9 := H.1; have H := H.2
    have i10 : (bif (↑(List.map (AV.int IntKind.i64) b).length : Int) == 0 then true else decide (n1 < n2)) = true ↔ (((↑b.length : Int) = 0) ∨ (n1 < n2)) := (by rw [w5] <;> exact (i_bor i_eq i_dec))
    rcases Classical.em (((↑b.length : Int) = 0) ∨ (n1 < n2)) with d11 | d11
    · have H := H.1 d11
      have i12 : (decide ((0 + ((List.map (AV.int IntKind.i64) o).length + 1)) * 8 ≤ 1099511627776)) = true ↔ ((0 + (o.length + 1)) * 8 ≤ 1099511627776) := (by rw [w1] <;> exact i_dec)
      have k13 := H.1; have H := H.2
      exact path_ret (G := given kp39 [(2, 6, .call (AV.int IntKind.i64 n1) none), (2, 9, .call (AV.int IntKind.i64 n2) none)] []) 1000 [true, true] (k := ((atC (cd Try.f39) [1, 0, 1, 0, 0, 1, 0, 1])).tail) (env' := [(6, AV.row 0 0)]) (L' := [{ elems := AV.int IntKind.i64 y :: List.map (AV.int IntKind.i64) o, es := 1, ver := 0, frozen := false, clean := true }]) (asm := [((↑((List.map (AV.int IntKind.i64) o).length + 1) : Int) == (↑(List.map G2.a gs).length : Int)) == true, (bif (↑(List.map (AV.int IntKind.i64) b).length : Int) == 0 then true else decide (n1 < n2)) == true, decide ((0 + ((List.map (AV.int IntKind.i64) o).length + 1)) * 8 ≤ 1099511627776)]) (eqs := []) (calls := [⟨((↑(List.map (AV.int IntKind.i64) b).length : Int) == 0) == false && true && true, false, 33, [AV.vec fl 2 (List.map G2.a gs), AV.vec fo 1 (AV.int IntKind.i64 y :: List.map (AV.int IntKind.i64) o)], [], AV.int IntKind.i64 n1, []⟩, ⟨((↑(List.map (AV.int IntKind.i64) b).length : Int) == 0) == false && true && true, false, 33, [AV.vec fl 2 (List.map G2.a gs), AV.vec fb 1 (List.map (AV.int IntKind.i64) b)], [], AV.int IntKind.i64 n2, []⟩]) (AV.row 0 0) (by kernel_rfl) (by kernel_rfl) (allB_cons (beq_t (i3.2 d4)) (allB_cons (beq_t (i10.2 d11)) (allB_cons (i12.2 k13) allB_nil))) allP_nil (allC_cons (fun hc => ((k7 (i6.1 hc)) : Ev M1 (Conf.pure 33 [AV.vec fl 2 (List.map G2.a gs), AV.vec fo 1 (AV.int IntKind.i64 y :: List.map (AV.int IntKind.i64) o)]) (AV.int IntKind.i64 n1) [])) (allC_cons (fun hc => ((k9 (i8.1 hc)) : Ev M1 (Conf.pure 33 [AV.vec fl 2 (List.map G2.a gs), AV.vec fb 1 (List.map (AV.int IntKind.i64) b)]) (AV.int IntKind.i64 n2) [])) allC_nil)) (pq_weak (d := AV.vec false 1 (AV.int IntKind.i64 y :: List.map (AV.int IntKind.i64) o)) (bs := [0 == 0]) (by kernel_rfl) (by kernel_rfl) (allB_cons (beq_self_eq_true _) allB_nil) (by kernel_rfl) H)
    · have H := H.2 d11
      exact path_ret (G := given kp39 [(2, 6, .call (AV.int IntKind.i64 n1) none), (2, 9, .call (AV.int IntKind.i64 n2) none)] []) 1000 [true, false] (k := ((atC (cd Try.f39) [1, 0, 1, 0, 1, 1])).tail) (env' := [(6, AV.vec fb 1 (List.map (AV.int IntKind.i64) b))]) (L' := []) (asm := [((↑((List.map (AV.int IntKind.i64) o).length + 1) : Int) == (↑(List.map G2.a gs).length : Int)) == true, (bif (↑(List.map (AV.int IntKind.i64) b).length : Int) == 0 then true else decide (n1 < n2)) == false]) (eqs := []) (calls := [⟨((↑(List.map (AV.int IntKind.i64) b).length : Int) == 0) == false && true && true, false, 33, [AV.vec fl 2 (List.map G2.a gs), AV.vec fo 1 (AV.int IntKind.i64 y :: List.map (AV.int IntKind.i64) o)], [], AV.int IntKind.i64 n1, []⟩, ⟨((↑(List.map (AV.int IntKind.i64) b).length : Int) == 0) == false && true && true, false, 33, [AV.vec fl 2 (List.map G2.a gs), AV.vec fb 1 (List.map (AV.int IntKind.i64) b)], [], AV.int IntKind.i64 n2, []⟩]) (AV.vec fb 1 (List.map (AV.int IntKind.i64) b)) (by kernel_rfl) (by kernel_rfl) (allB_cons (beq_t (i3.2 d4)) (allB_cons (beq_f (fun h => d11 (i10.1 h))) allB_nil)) allP_nil (allC_cons (fun hc => ((k7 (i6.1 hc)) : Ev M1 (Conf.pure 33 [AV.vec fl 2 (List.map G2.a gs), AV.vec fo 1 (AV.int IntKind.i64 y :: List.map (AV.int IntKind.i64) o)]) (AV.int IntKind.i64 n1) [])) (allC_cons (fun hc => ((k9 (i8.1 hc)) : Ev M1 (Conf.pure 33 [AV.vec fl 2 (List.map G2.a gs), AV.vec fb 1 (List.map (AV.int IntKind.i64) b)]) (AV.int IntKind.i64 n2) [])) allC_nil)) (pq_weak (d := AV.vec fb 1 (List.map (AV.int IntKind.i64) b)) (bs := []) (by kernel_rfl) (by kernel_rfl) allB_nil (by kernel_rfl) H)
  · have H := H.2 d4
    exact path_wp (G := given kp39 [] []) 1000 [false] ⟨(atC (cd Try.f39) [1, 1, 0, 1, 0, 0]), [(0, AV.vec fl 2 (List.map G2.a gs)), (1, AV.vec fo 1 (AV.int IntKind.i64 y :: List.map (AV.int IntKind.i64) o)), (2, AV.vec fb 1 (List.map (AV.int IntKind.i64) b)), (7, AV.int IntKind.i64 0)], [], [((↑((List.map (AV.int IntKind.i64) o).length + 1) : Int) == (↑(List.map G2.a gs).length : Int)) == false], [], []⟩ (by kernel_rfl) (allB_cons (beq_f (fun h => d4 (i3.1 h))) allB_nil) allP_nil allC_nil (H)

theorem v39na (fl fo : Bool) (gs : List G2) (y : Int) (o : List Int) (i : Int)  (dq : AV) (H :
    ((i < (↑gs.length : Int)) → ∃ (b1 : Bool),
      (Ev M1 (Conf.pure 35 [AV.vec fo 1 (AV.int IntKind.i64 y :: List.map (AV.int IntKind.i64) o), AV.int IntKind.i64 i]) (AV.bool b1) []) ∧
      ((¬(b1 = true)) → ∃ (l1 : List (Int)),
        (Ev M1 (Conf.pure 39 [AV.vec fl 2 (List.map G2.a gs), AV.vec false 1 (AV.int IntKind.i64 y :: List.map (AV.int IntKind.i64) (o ++ [i])), AV.vnil]) (AV.vec false 1 (List.map (AV.int IntKind.i64) l1)) []) ∧
        ((0 + (o.length + 1)) * 8 ≤ 1099511627776) ∧
        ((o.length + 1 + 1) * 8 ≤ 1099511627776) ∧
        (-9223372036854775808 ≤ i + 1 ∧ i + 1 ≤ 9223372036854775807) ∧
        v39sa_at (fl) (fo) (gs) (y) (o) (false) (l1) (i + 1) (PureQ dq)) ∧
      (¬(¬(b1 = true)) → (-9223372036854775808 ≤ i + 1 ∧ i + 1 ≤ 9223372036854775807) ∧
        v39na_at (fl) (fo) (gs) (y) (o) (i + 1) (PureQ dq))) ∧
    (¬(i < (↑gs.length : Int)) → Weak (AV.vnil) dq)) :
  v39na_at fl fo gs y o i (PureQ dq) := by
  unfold v39na_at
  have w1 : (List.map G2.a gs).length = gs.length := List.length_map ..
  have i2 : (decide (i < (↑(List.map G2.a gs).length : Int))) = true ↔ (i < (↑gs.length : Int)) := (by rw [w1] <;> exact i_dec)
  rcases Classical.em (i < (↑gs.length : Int)) with d3 | d3
  · have H := H.1 d3
    obtain ⟨b1, H⟩ := H
    have k4 := H.1; have H := H.2
    have i5 : (!b1) = true ↔ (¬(b1 = true)) := (i_not (i_var _))
    rcases Classical.em (¬(b1 = true)) with d6 | d6
    · have H := H.1 d6
      have w7 : List.map (AV.int IntKind.i64) o ++ [AV.int IntKind.i64 i] = List.map (AV.int IntKind.i64) (o ++ [i]) := (lm_app rfl rfl)
      obtain ⟨l1, H⟩ := H
      have k8 := H.1; have H := H.2
      have w9 : (List.map (AV.int IntKind.i64) o).length = o.length := List.length_map ..
      have i10 : (decide ((0 + ((List.map (AV.int IntKind.i64) o).length + 1)) * 8 ≤ 1099511627776)) = true ↔ ((0 + (o.length + 1)) * 8 ≤ 1099511627776) := (by rw [w9] <;> exact i_dec)
      have k11 := H.1; have H := H.2
      have i12 : (decide (((List.map (AV.int IntKind.i64) o).length + 1 + 1) * 8 ≤ 1099511627776)) = true ↔ ((o.length + 1 + 1) * 8 ≤ 1099511627776) := (by rw [w9] <;> exact i_dec)
      have k13 := H.1; have H := H.2
      have k14 := H.1; have H := H.2
      have w15 : IntKind.i64.wrap (i + 1) = i + 1 := wI64 k14
      exact path_wp (G := given kp39 [(8, 2, .call (AV.bool b1) none), (9, 8, .call (AV.vec false 1 (List.map (AV.int IntKind.i64) l1)) none)] []) 1000 [true, true] ⟨(atC (cd Try.f39) [1, 1, 0, 1, 0, 0]), [(0, AV.vec fl 2 (List.map G2.a gs)), (1, AV.vec fo 1 (AV.int IntKind.i64 y :: List.map (AV.int IntKind.i64) o)), (2, AV.vec false 1 (List.map (AV.int IntKind.i64) l1)), (7, AV.int IntKind.i64 (IntKind.i64.wrap (i + 1)))], [{ elems := AV.int IntKind.i64 y :: (List.map (AV.int IntKind.i64) o ++ [AV.int IntKind.i64 i]), es := 1, ver := 1, frozen := true, clean := true }], [(decide (i < (↑(List.map G2.a gs).length : Int))) == true, (!b1) == true, decide ((0 + ((List.map (AV.int IntKind.i64) o).length + 1)) * 8 ≤ 1099511627776), true, decide (((List.map (AV.int IntKind.i64) o).length + 1 + 1) * 8 ≤ 1099511627776), true], [], [⟨true, false, 35, [AV.vec fo 1 (AV.int IntKind.i64 y :: List.map (AV.int IntKind.i64) o), AV.int IntKind.i64 i], [], AV.bool b1, []⟩, ⟨true, false, 39, [AV.vec fl 2 (List.map G2.a gs), AV.vec false 1 (AV.int IntKind.i64 y :: (List.map (AV.int IntKind.i64) o ++ [AV.int IntKind.i64 i])), AV.vnil], [], AV.vec false 1 (List.map (AV.int IntKind.i64) l1), []⟩]⟩ (by kernel_rfl) (allB_cons (beq_t (i2.2 d3)) (allB_cons (beq_t (i5.2 d6)) (allB_cons (i10.2 k11) (allB_cons rfl (allB_cons (i12.2 k13) (allB_cons rfl allB_nil)))))) allP_nil (allC_cons (fun _ => (k4 : Ev M1 (Conf.pure 35 [AV.vec fo 1 (AV.int IntKind.i64 y :: List.map (AV.int IntKind.i64) o), AV.int IntKind.i64 i]) (AV.bool b1) [])) (allC_cons (fun _ => ((by rw [w7] <;> exact k8) : Ev M1 (Conf.pure 39 [AV.vec fl 2 (List.map G2.a gs), AV.vec false 1 (AV.int IntKind.i64 y :: (List.map (AV.int IntKind.i64) o ++ [AV.int IntKind.i64 i])), AV.vnil]) (AV.vec false 1 (List.map (AV.int IntKind.i64) l1)) [])) allC_nil)) (by rw [w7, w15] <;> exact wp_narrow [] (by kernel_rfl) H)
    · have H := H.2 d6
      have k16 := H.1; have H := H.2
      have w17 : IntKind.i64.wrap (i + 1) = i + 1 := wI64 k16
      exact path_wp (G := given kp39 [(8, 2, .call (AV.bool b1) none)] []) 1000 [true, false] ⟨(atC (cd Try.f39) [1, 1, 0, 1, 0, 0]), [(0, AV.vec fl 2 (List.map G2.a gs)), (1, AV.vec fo 1 (AV.int IntKind.i64 y :: List.map (AV.int IntKind.i64) o)), (2, AV.vnil), (7, AV.int IntKind.i64 (IntKind.i64.wrap (i + 1)))], [], [(decide (i < (↑(List.map G2.a gs).length : Int))) == true, (!b1) == false], [], [⟨true, false, 35, [AV.vec fo 1 (AV.int IntKind.i64 y :: List.map (AV.int IntKind.i64) o), AV.int IntKind.i64 i], [], AV.bool b1, []⟩]⟩ (by kernel_rfl) (allB_cons (beq_t (i2.2 d3)) (allB_cons (beq_f (fun h => d6 (i5.1 h))) allB_nil)) allP_nil (allC_cons (fun _ => (k4 : Ev M1 (Conf.pure 35 [AV.vec fo 1 (AV.int IntKind.i64 y :: List.map (AV.int IntKind.i64) o), AV.int IntKind.i64 i]) (AV.bool b1) [])) allC_nil) (by rw [w17] <;> exact H)
  · have H := H.2 d3
    exact path_ret (G := given kp39 [] []) 1000 [false] (k := ((atC (cd Try.f39) [1, 1, 1, 1])).tail) (env' := [(6, AV.vnil)]) (L' := []) (asm := [(decide (i < (↑(List.map G2.a gs).length : Int))) == false]) (eqs := []) (calls := []) (AV.vnil) (by kernel_rfl) (by kernel_rfl) (allB_cons (beq_f (fun h => d3 (i2.1 h))) allB_nil) allP_nil allC_nil (pq_weak (d := AV.vnil) (bs := []) (by kernel_rfl) (by kernel_rfl) allB_nil (by kernel_rfl) H)

theorem v39sa (fl fo : Bool) (gs : List G2) (y : Int) (o : List Int) (fb : Bool) (b : List Int) (i : Int)  (dq : AV) (H :
    ((i < (↑gs.length : Int)) → ∃ (b1 : Bool),
      (Ev M1 (Conf.pure 35 [AV.vec fo 1 (AV.int IntKind.i64 y :: List.map (AV.int IntKind.i64) o), AV.int IntKind.i64 i]) (AV.bool b1) []) ∧
      ((¬(b1 = true)) → ∃ (l1 : List (Int)),
        (Ev M1 (Conf.pure 39 [AV.vec fl 2 (List.map G2.a gs), AV.vec false 1 (AV.int IntKind.i64 y :: List.map (AV.int IntKind.i64) (o ++ [i])), AV.vec fb 1 (List.map (AV.int IntKind.i64) b)]) (AV.vec false 1 (List.map (AV.int IntKind.i64) l1)) []) ∧
        ((0 + (o.length + 1)) * 8 ≤ 1099511627776) ∧
        ((o.length + 1 + 1) * 8 ≤ 1099511627776) ∧
        (-9223372036854775808 ≤ i + 1 ∧ i + 1 ≤ 9223372036854775807) ∧
        v39sa_at (fl) (fo) (gs) (y) (o) (false) (l1) (i + 1) (PureQ dq)) ∧
      (¬(¬(b1 = true)) → (-9223372036854775808 ≤ i + 1 ∧ i + 1 ≤ 9223372036854775807) ∧
        v39sa_at (fl) (fo) (gs) (y) (o) (fb) (b) (i + 1) (PureQ dq))) ∧
    (¬(i < (↑gs.length : Int)) → Weak (AV.vec fb 1 (List.map (AV.int IntKind.i64) b)) dq)) :
  v39sa_at fl fo gs y o fb b i (PureQ dq) := by
  unfold v39sa_at
  have w1 : (List.map G2.a gs).length = gs.length := List.length_map ..
  have i2 : (decide (i < (↑(List.map G2.a gs).length : Int))) = true ↔ (i < (↑gs.length : Int)) := (by rw [w1] <;> exact i_dec)
  rcases Classical.em (i < (↑gs.length : Int)) with d3 | d3
  · have H := H.1 d3
    obtain ⟨b1, H⟩ := H
    have k4 := H.1; have H := H.2
    have i5 : (!b1) = true ↔ (¬(b1 = true)) := (i_not (i_var _))
    rcases Classical.em (¬(b1 = true)) with d6 | d6
    · have H := H.1 d6
      have w7 : List.map (AV.int IntKind.i64) o ++ [AV.int IntKind.i64 i] = List.map (AV.int IntKind.i64) (o ++ [i]) := (lm_app rfl rfl)
      obtain ⟨l1, H⟩ := H
      have k8 := H.1; have H := H.2
      have w9 : (List.map (AV.int IntKind.i64) o).length = o.length := List.length_map ..
      have i10 : (decide ((0 + ((List.map (AV.int IntKind.i64) o).length + 1)) * 8 ≤ 1099511627776)) = true ↔ ((0 + (o.length + 1)) * 8 ≤ 1099511627776) := (by rw [w9] <;> exact i_dec)
      have k11 := H.1; have H := H.2
      have i12 : (decide (((List.map (AV.int IntKind.i64) o).length + 1 + 1) * 8 ≤ 1099511627776)) = true ↔ ((o.length + 1 + 1) * 8 ≤ 1099511627776) := (by rw [w9] <;> exact i_dec)
      have k13 := H.1; have H := H.2
      have k14 := H.1; have H := H.2
      have w15 : IntKind.i64.wrap (i + 1) = i + 1 := wI64 k14
      exact path_wp (G := given kp39 [(8, 2, .call (AV.bool b1) none), (9, 8, .call (AV.vec false 1 (List.map (AV.int IntKind.i64) l1)) none)] []) 1000 [true, true] ⟨(atC (cd Try.f39) [1, 1, 0, 1, 0, 0]), [(0, AV.vec fl 2 (List.map G2.a gs)), (1, AV.vec fo 1 (AV.int IntKind.i64 y :: List.map (AV.int IntKind.i64) o)), (2, AV.vec false 1 (List.map (AV.int IntKind.i64) l1)), (7, AV.int IntKind.i64 (IntKind.i64.wrap (i + 1)))], [{ elems := AV.int IntKind.i64 y :: (List.map (AV.int IntKind.i64) o ++ [AV.int IntKind.i64 i]), es := 1, ver := 1, frozen := true, clean := true }], [(decide (i < (↑(List.map G2.a gs).length : Int))) == true, (!b1) == true, decide ((0 + ((List.map (AV.int IntKind.i64) o).length + 1)) * 8 ≤ 1099511627776), true, decide (((List.map (AV.int IntKind.i64) o).length + 1 + 1) * 8 ≤ 1099511627776), true], [], [⟨true, false, 35, [AV.vec fo 1 (AV.int IntKind.i64 y :: List.map (AV.int IntKind.i64) o), AV.int IntKind.i64 i], [], AV.bool b1, []⟩, ⟨true, false, 39, [AV.vec fl 2 (List.map G2.a gs), AV.vec false 1 (AV.int IntKind.i64 y :: (List.map (AV.int IntKind.i64) o ++ [AV.int IntKind.i64 i])), AV.vec fb 1 (List.map (AV.int IntKind.i64) b)], [], AV.vec false 1 (List.map (AV.int IntKind.i64) l1), []⟩]⟩ (by kernel_rfl) (allB_cons (beq_t (i2.2 d3)) (allB_cons (beq_t (i5.2 d6)) (allB_cons (i10.2 k11) (allB_cons rfl (allB_cons (i12.2 k13) (allB_cons rfl allB_nil)))))) allP_nil (allC_cons (fun _ => (k4 : Ev M1 (Conf.pure 35 [AV.vec fo 1 (AV.int IntKind.i64 y :: List.map (AV.int IntKind.i64) o), AV.int IntKind.i64 i]) (AV.bool b1) [])) (allC_cons (fun _ => ((by rw [w7] <;> exact k8) : Ev M1 (Conf.pure 39 [AV.vec fl 2 (List.map G2.a gs), AV.vec false 1 (AV.int IntKind.i64 y :: (List.map (AV.int IntKind.i64) o ++ [AV.int IntKind.i64 i])), AV.vec fb 1 (List.map (AV.int IntKind.i64) b)]) (AV.vec false 1 (List.map (AV.int IntKind.i64) l1)) [])) allC_nil)) (by rw [w7, w15] <;> exact wp_narrow [] (by kernel_rfl) H)
    · have H := H.2 d6
      have k16 := H.1; have H := H.2
      have w17 : IntKind.i64.wrap (i + 1) = i + 1 := wI64 k16
      exact path_wp (G := given kp39 [(8, 2, .call (AV.bool b1) none)] []) 1000 [true, false] ⟨(atC (cd Try.f39) [1, 1, 0, 1, 0, 0]), [(0, AV.vec fl 2 (List.map G2.a gs)), (1, AV.vec fo 1 (AV.int IntKind.i64 y :: List.map (AV.int IntKind.i64) o)), (2, AV.vec fb 1 (List.map (AV.int IntKind.i64) b)), (7, AV.int IntKind.i64 (IntKind.i64.wrap (i + 1)))], [], [(decide (i < (↑(List.map G2.a gs).length : Int))) == true, (!b1) == false], [], [⟨true, false, 35, [AV.vec fo 1 (AV.int IntKind.i64 y :: List.map (AV.int IntKind.i64) o), AV.int IntKind.i64 i], [], AV.bool b1, []⟩]⟩ (by kernel_rfl) (allB_cons (beq_t (i2.2 d3)) (allB_cons (beq_f (fun h => d6 (i5.1 h))) allB_nil)) allP_nil (allC_cons (fun _ => (k4 : Ev M1 (Conf.pure 35 [AV.vec fo 1 (AV.int IntKind.i64 y :: List.map (AV.int IntKind.i64) o), AV.int IntKind.i64 i]) (AV.bool b1) [])) allC_nil) (by rw [w17] <;> exact H)
  · have H := H.2 d3
    exact path_ret (G := given kp39 [] []) 1000 [false] (k := ((atC (cd Try.f39) [1, 1, 1, 1])).tail) (env' := [(6, AV.vec fb 1 (List.map (AV.int IntKind.i64) b))]) (L' := []) (asm := [(decide (i < (↑(List.map G2.a gs).length : Int))) == false]) (eqs := []) (calls := []) (AV.vec fb 1 (List.map (AV.int IntKind.i64) b)) (by kernel_rfl) (by kernel_rfl) (allB_cons (beq_f (fun h => d3 (i2.1 h))) allB_nil) allP_nil allC_nil (pq_weak (d := AV.vec fb 1 (List.map (AV.int IntKind.i64) b)) (bs := []) (by kernel_rfl) (by kernel_rfl) allB_nil (by kernel_rfl) H)


end Go.Av

/- WHAT BOTH SEARCHES DO. -/
namespace Go.Av
open Go.Proofs

/-- The state of a search, with the best order so far, or without. -/
abbrev srow (fl : Bool) (gs : List G2) (b : List Int) (fb : Bool) : Row := ⟨[.agg [gsA fl gs, .vec fb 1 (b.map (.int .i64)), .int .i64 (Sp.way gs b)]], 3, 0, false, false⟩
abbrev srow0 (fl : Bool) (gs : List G2) (le : Int) : Row := ⟨[.agg [gsA fl gs, .vnil, .int .i64 le]], 3, 0, false, false⟩
abbrev orow (o : List Int) (v : Nat) (fz : Bool) : Row := ⟨o.map (.int .i64), 1, v, fz, true⟩

/-- What the search is to do with k further positions. -/
def Ext38 (fl : Bool) (gs : List G2) (k : Nat) : Prop := ∀ (o : List Int) (v : Nat), Sp.begins gs k o →
  (∀ le, ∃ fb' fz, Ev M1 (.own 38 [.ptr 0 0 0 0, .row 1 v, .int .i64 (Sp.way gs o)] [srow0 fl gs le, orow o v false]) (.tup []) [srow fl gs (Sp.srch gs k o []) fb', orow o v fz]) ∧
  (∀ fb b, b ≠ [] → ∃ fb' fz, Ev M1 (.own 38 [.ptr 0 0 0 0, .row 1 v, .int .i64 (Sp.way gs o)] [srow fl gs b fb, orow o v false]) (.tup []) [srow fl gs (Sp.srch gs k o b) fb', orow o v fz])

theorem ext_call {gs : List G2} {i : Nat} {o : List Int} {s : Row} {K : Heap} (hg : Sp.okG gs) (hl : gs.length ≤ 1000) (ho : 0 < o.length ∧ o.length ≤ 1000)
    (h : Ev M1 (.own 38 [.ptr 0 0 0 0, .row 1 1, .int .i64 (Sp.way gs (o ++ [(i : Int)]))] [s, orow (o ++ [(i : Int)]) 1 false]) (.tup []) K) :
    Ev M1 (.own 38 [.ptr 0 0 0 0, .row 1 1, .int .i64 (IntKind.i64.wrap (Sp.way gs o + Sp.dist (gs.getD (o.getD (o.length - 1) default).toNat default).x (gs.getD (o.getD (o.length - 1) default).toNat default).y (gs.getD i default).x (gs.getD i default).y))]
      [s, ⟨o.map (.int .i64) ++ [.int .i64 i], 1, 1, false, true⟩]) (.tup []) K := by
  have e : Sp.dist (gs.getD (o.getD (o.length - 1) default).toNat default).x (gs.getD (o.getD (o.length - 1) default).toNat default).y (gs.getD i default).x (gs.getD i default).y = Sp.dAt gs (o.getD (o.length - 1) default) i := rfl
  have h1 := way_le hg o
  have h2 := dAt_le hg (o.getD (o.length - 1) default) i
  have e2 : o.map (.int .i64) ++ [AV.int .i64 i] = (o ++ [(i : Int)]).map (.int .i64) := by simp
  rw [e, w64 _ (by omega), ← way_snoc gs o i ho.1, e2]
  exact h

theorem ext_loopS {fl : Bool} {gs : List G2} {k : Nat} {o : List Int} {v : Nat} (hg : Sp.okG gs) (hl : gs.length ≤ 1000) (hE : Ext38 fl gs k) (ho : Sp.begins gs (k + 1) o) :
    ∀ (c i : Nat) (fb : Bool) (b : List Int), b ≠ [] → i + c = gs.length → ∃ fb', v38sa_at fl gs o (Sp.way gs o) (Sp.way gs b) v gs.length i fb (Sp.hd b) (Sp.tl b) (KeepQ (.tup []) [srow fl gs ((List.range' i c).foldl (Sp.step gs k o) b) fb', orow o v false])
  | 0, i, fb, b, hb, hi => by
    refine ⟨fb, v38sa fl gs o _ _ v _ _ fb (Sp.hd b) (Sp.tl b) 0 0 [] false false _ _ rfl ⟨fun h => by omega, fun _ => ⟨rfl, ?_⟩⟩⟩
    have e : (AV.int .i64 (Sp.hd b) :: (Sp.tl b).map (.int .i64)) = b.map (.int .i64) := by
      rw [← List.map_cons, hd_tl hb]
    rw [e]; rfl
  | c + 1, i, fb, b, hb, hi => by
    have hol := ho.1
    have ho0 := ho.2.2.2
    by_cases hm : (i : Int) ∈ o
    · obtain ⟨fb', h⟩ := ext_loopS (v := v) hg hl hE ho c (i + 1) fb b hb (by omega)
      refine ⟨fb', v38sa fl gs o _ _ v _ _ fb (Sp.hd b) (Sp.tl b) 0 0 [] false false _ _ rfl ⟨fun _ => ⟨by omega, fun k => absurd (has_iff.2 hm) k, fun _ => ⟨by omega, ?_⟩⟩, fun h => by omega⟩⟩
      have e : Sp.step gs k o b i = b := if_pos hm
      rw [range_step, e]
      exact h
    · have hbeg := begins_snoc ho (show i < gs.length by omega) hm
      obtain ⟨fb1, fz1, h1⟩ := (hE _ 1 hbeg).2 fb b hb
      have hr := srch_some (gs := gs) k (o ++ [(i : Int)]) b hb (by simp)
      obtain ⟨fb', h⟩ := ext_loopS (v := v) hg hl hE ho c (i + 1) fb1 _ hr (by omega)
      have e1 : ((o.length : Int) - 1).toNat = o.length - 1 := by omega
      have hlast := ho.2.2.1 _ (getD_mem (show o.length - 1 < o.length by omega))
      refine ⟨fb', v38sa fl gs o _ _ v _ _ fb (Sp.hd b) (Sp.tl b) (Sp.hd (Sp.srch gs k (o ++ [(i : Int)]) b)) (Sp.way gs (Sp.srch gs k (o ++ [(i : Int)]) b)) (Sp.tl (Sp.srch gs k (o ++ [(i : Int)]) b)) fz1 fb1 _ _ rfl ⟨fun _ => ⟨by omega, fun _ => ?_, fun k => absurd (fun x => hm (has_iff.1 x)) k⟩, fun h => by omega⟩⟩
      rw [e1, Int.toNat_natCast]
      refine ⟨by omega, by omega, ⟨(okG_at hg _).1, (okG_at hg _).2, (okG_at hg _).1, (okG_at hg _).2⟩, ?_, by omega, by omega, by omega, hlast.1, by omega, by omega, by omega, by omega, ?_⟩
      · refine ext_call hg hl (by omega) ?_
        have e2 : ∀ r : List Int, r ≠ [] → (AV.int .i64 (Sp.hd r) :: (Sp.tl r).map (.int .i64)) = r.map (.int .i64) := fun r hr => by rw [← List.map_cons, hd_tl hr]
        rw [e2 _ hb, e2 _ hr]
        exact h1
      · have e : Sp.step gs k o b i = Sp.srch gs k (o ++ [(i : Int)]) b := if_neg hm
        rw [range_step, e]
        exact h

theorem ext_loopN {fl : Bool} {gs : List G2} {k : Nat} {o : List Int} {v : Nat} {le : Int} (hg : Sp.okG gs) (hl : gs.length ≤ 1000) (hE : Ext38 fl gs k) (ho : Sp.begins gs (k + 1) o) :
    ∀ (c i : Nat), i + c = gs.length → (List.range' i c).foldl (Sp.step gs k o) [] ≠ [] → ∃ fb', v38na_at fl gs o (Sp.way gs o) le v gs.length i (KeepQ (.tup []) [srow fl gs ((List.range' i c).foldl (Sp.step gs k o) []) fb', orow o v false])
  | 0, i, hi, hne => absurd rfl hne
  | c + 1, i, hi, hne => by
    have hol := ho.1
    have ho0 := ho.2.2.2
    rw [range_step] at hne
    by_cases hm : (i : Int) ∈ o
    · have e : Sp.step gs k o [] i = [] := if_pos hm
      rw [e] at hne
      obtain ⟨fb', h⟩ := ext_loopN (v := v) (le := le) hg hl hE ho c (i + 1) (by omega) hne
      refine ⟨fb', v38na fl gs o _ _ v _ _ 0 0 [] false false _ _ rfl ⟨fun _ => ⟨by omega, fun k => absurd (has_iff.2 hm) k, fun _ => ⟨by omega, ?_⟩⟩, fun h => by omega⟩⟩
      rw [range_step, e]
      exact h
    · have hbeg := begins_snoc ho (show i < gs.length by omega) hm
      obtain ⟨fb1, fz1, h1⟩ := (hE _ 1 hbeg).1 le
      have hr := srch_full (gs := gs) k (o ++ [(i : Int)]) hbeg
      obtain ⟨fb', h⟩ := ext_loopS (v := v) hg hl hE ho c (i + 1) fb1 _ hr (by omega)
      have e1 : ((o.length : Int) - 1).toNat = o.length - 1 := by omega
      have hlast := ho.2.2.1 _ (getD_mem (show o.length - 1 < o.length by omega))
      refine ⟨fb', v38na fl gs o _ _ v _ _ (Sp.hd (Sp.srch gs k (o ++ [(i : Int)]) [])) (Sp.way gs (Sp.srch gs k (o ++ [(i : Int)]) [])) (Sp.tl (Sp.srch gs k (o ++ [(i : Int)]) [])) fz1 fb1 _ _ rfl ⟨fun _ => ⟨by omega, fun _ => ?_, fun k => absurd (fun x => hm (has_iff.1 x)) k⟩, fun h => by omega⟩⟩
      rw [e1, Int.toNat_natCast]
      refine ⟨by omega, by omega, ⟨(okG_at hg _).1, (okG_at hg _).2, (okG_at hg _).1, (okG_at hg _).2⟩, ?_, by omega, by omega, by omega, hlast.1, by omega, by omega, by omega, by omega, ?_⟩
      · refine ext_call hg hl (by omega) ?_
        have e2 : ∀ r : List Int, r ≠ [] → (AV.int .i64 (Sp.hd r) :: (Sp.tl r).map (.int .i64)) = r.map (.int .i64) := fun r hr => by rw [← List.map_cons, hd_tl hr]
        rw [e2 _ hr]
        exact h1
      · have e : Sp.step gs k o [] i = Sp.srch gs k (o ++ [(i : Int)]) [] := if_neg hm
        rw [range_step, e]
        exact h

theorem ext38 {fl : Bool} {gs : List G2} (hg : Sp.okG gs) (hl : gs.length ≤ 1000) : ∀ k, Ext38 fl gs k
  | 0 => by
    intro o v h
    have hol := h.1
    refine ⟨fun le => ⟨false, true, keepcall38 rfl (v38n fl gs o _ le v _ _ rfl ⟨fun _ => ⟨by omega, rfl, ?_⟩, fun k => by omega⟩)⟩, fun fb b hb => ?_⟩
    · have e : Sp.srch gs 0 o [] = o := by rw [Sp.srch, if_pos (.inl rfl)]
      rw [e]; rfl
    · have hb0 : 0 < b.length := List.length_pos_iff.2 hb
      obtain ⟨x, l, rfl⟩ := List.exists_cons_of_ne_nil hb
      by_cases hc : Sp.way gs o ≥ Sp.way gs (x :: l)
      · have e : Sp.srch gs 0 o (x :: l) = x :: l := by rw [Sp.srch, if_neg (by omega)]
        rw [e]
        exact ⟨fb, false, keepcall38 rfl (v38s fl gs o _ _ v fb x l _ _ rfl ⟨fun _ => ⟨rfl, rfl⟩, fun k => absurd hc k⟩)⟩
      · have e : Sp.srch gs 0 o (x :: l) = o := by rw [Sp.srch, if_pos (by omega)]
        rw [e]
        exact ⟨false, true, keepcall38 rfl (v38s fl gs o _ _ v fb x l _ _ rfl ⟨fun k => absurd k hc, fun _ => ⟨fun _ => ⟨by omega, rfl, rfl⟩, fun k => by omega⟩⟩)⟩
  | k + 1 => by
    intro o v h
    have hol := h.1
    have hE := ext38 (fl := fl) hg hl k
    refine ⟨fun le => ?_, fun fb b hb => ?_⟩
    · have hne := srch_full (gs := gs) (k + 1) o h
      rw [srch_succ] at hne ⊢
      obtain ⟨fb', hw⟩ := ext_loopN (fl := fl) (v := v) (le := le) hg hl hE h gs.length 0 (by omega) hne
      exact ⟨fb', false, keepcall38 rfl (v38n fl gs o _ le v _ _ rfl ⟨fun k => by omega, fun _ => hw⟩)⟩
    · by_cases hc : Sp.way gs o ≥ Sp.way gs b
      · rw [srch_ge hg (k + 1) o b h.2.2.2 hb hc]
        obtain ⟨x, l, rfl⟩ := List.exists_cons_of_ne_nil hb
        exact ⟨fb, false, keepcall38 rfl (v38s fl gs o _ _ v fb x l _ _ rfl ⟨fun _ => ⟨rfl, rfl⟩, fun k => absurd hc k⟩)⟩
      · rw [srch_succ]
        obtain ⟨fb', hw⟩ := ext_loopS (fl := fl) (v := v) hg hl hE h gs.length 0 fb b hb (by omega)
        obtain ⟨x, l, rfl⟩ := List.exists_cons_of_ne_nil hb
        exact ⟨fb', false, keepcall38 rfl (v38s fl gs o _ _ v fb x l _ _ rfl ⟨fun k => absurd k hc, fun _ => ⟨fun k => by omega, fun _ => hw⟩⟩)⟩

/-- What the search of the reference is to answer with k further positions. -/
def Srch39 (fl : Bool) (gs : List G2) (k : Nat) : Prop := ∀ (fo : Bool) (y : Int) (o : List Int), y = 0 → Sp.begins gs k (y :: o) →
  Ev M1 (.pure 39 [gsA fl gs, isA fo (y :: o), .vnil]) (isA false (Sp.srch gs k (y :: o) [])) [] ∧
  ∀ fb b, (b ≠ [] → IsOrd gs.length b) → Ev M1 (.pure 39 [gsA fl gs, isA fo (y :: o), isA fb b]) (isA false (Sp.srch gs k (y :: o) b)) []

theorem srch_loopS {fl fo : Bool} {gs : List G2} {k : Nat} {y : Int} {o : List Int} {dq : AV} (hg : Sp.okG gs) (hl : gs.length ≤ 1000) (hE : Srch39 fl gs k) (ho : Sp.begins gs (k + 1) (y :: o)) (h0 : y = 0) :
    ∀ (c i : Nat) (fb : Bool) (b : List Int), (b ≠ [] → IsOrd gs.length b) → i + c = gs.length → isA false ((List.range' i c).foldl (Sp.step gs k (y :: o)) b) = dq → v39sa_at fl fo gs y o fb b i (PureQ dq)
  | 0, i, fb, b, hb, hi, hq => by
    refine v39sa _ _ _ _ _ _ _ _ _ ⟨fun h => by omega, fun _ => ?_⟩
    rw [← hq]
    cases fb with
    | true => exact .full 1 _
    | false => exact .refl _
  | c + 1, i, fb, b, hb, hi, hq => by
    have hol := ho.1
    simp only [List.length_cons] at hol
    rw [range_step] at hq
    refine v39sa _ _ _ _ _ _ _ _ _ ⟨fun _ => ⟨_, ev35 fo (y :: o) i (by simp; omega), fun hm => ?_, fun hm => ⟨by omega, ?_⟩⟩, fun h => by omega⟩
    · have hm : ¬(i : Int) ∈ y :: o := fun x => hm (has_iff.2 x)
      have hbeg := begins_snoc ho (show i < gs.length by omega) hm
      have e : Sp.step gs k (y :: o) b i = Sp.srch gs k (y :: o ++ [(i : Int)]) b := if_neg hm
      rw [e] at hq
      refine ⟨_, (hE false y (o ++ [(i : Int)]) h0 hbeg).2 fb b hb, by omega, by omega, by omega, ?_⟩
      exact srch_loopS hg hl hE ho h0 c (i + 1) false _ (fun hne => srch_ord k _ b hbeg (by simpa using h0) hb hne) (by omega) hq
    · have hm : (i : Int) ∈ y :: o := has_iff.1 (Classical.not_not.1 hm)
      have e : Sp.step gs k (y :: o) b i = b := if_pos hm
      rw [e] at hq
      exact srch_loopS hg hl hE ho h0 c (i + 1) fb b hb (by omega) hq

theorem srch_loopN {fl fo : Bool} {gs : List G2} {k : Nat} {y : Int} {o : List Int} {dq : AV} (hg : Sp.okG gs) (hl : gs.length ≤ 1000) (hE : Srch39 fl gs k) (ho : Sp.begins gs (k + 1) (y :: o)) (h0 : y = 0) :
    ∀ (c i : Nat), i + c = gs.length → isA false ((List.range' i c).foldl (Sp.step gs k (y :: o)) []) = dq → v39na_at fl fo gs y o i (PureQ dq)
  | 0, i, hi, hq => by
    refine v39na _ _ _ _ _ _ _ ⟨fun h => by omega, fun _ => ?_⟩
    rw [← hq]; exact .vnil 1
  | c + 1, i, hi, hq => by
    have hol := ho.1
    simp only [List.length_cons] at hol
    rw [range_step] at hq
    refine v39na _ _ _ _ _ _ _ ⟨fun _ => ⟨_, ev35 fo (y :: o) i (by simp; omega), fun hm => ?_, fun hm => ⟨by omega, ?_⟩⟩, fun h => by omega⟩
    · have hm : ¬(i : Int) ∈ y :: o := fun x => hm (has_iff.2 x)
      have hbeg := begins_snoc ho (show i < gs.length by omega) hm
      have e : Sp.step gs k (y :: o) [] i = Sp.srch gs k (y :: o ++ [(i : Int)]) [] := if_neg hm
      rw [e] at hq
      refine ⟨_, (hE false y (o ++ [(i : Int)]) h0 hbeg).1, by omega, by omega, by omega, ?_⟩
      exact srch_loopS hg hl hE ho h0 c (i + 1) false _ (fun hne => srch_ord k _ [] hbeg (by simpa using h0) (fun h => absurd rfl h) hne) (by omega) hq
    · have hm : (i : Int) ∈ y :: o := has_iff.1 (Classical.not_not.1 hm)
      have e : Sp.step gs k (y :: o) [] i = [] := if_pos hm
      rw [e] at hq
      exact srch_loopN hg hl hE ho h0 c (i + 1) (by omega) hq

theorem begins_okO {gs : List G2} {k : Nat} {o : List Int} (h : Sp.begins gs k o) : Sp.okO gs o := h.2.2.1

theorem srch39 {fl : Bool} {gs : List G2} (hg : Sp.okG gs) (hl : gs.length ≤ 1000) : ∀ k, Srch39 fl gs k
  | 0 => by
    intro fo y o h0 h
    have hol := h.1
    simp only [List.length_cons] at hol
    have hok : Sp.okO gs (y :: o) := h.2.2.1
    refine ⟨call39 (v39n fl fo gs y o _ ⟨fun _ => ⟨_, fun _ => ev33 fl fo gs (y :: o) hg hok (by simp; omega), 0, fun k => by simp at k, by omega, ?_⟩, fun k => by omega⟩), fun fb b hb => ?_⟩
    · have e : Sp.srch gs 0 (y :: o) [] = y :: o := by rw [Sp.srch, if_pos (.inl rfl)]
      rw [e]; exact .refl _
    · have hbl : ¬(b.length : Int) = 0 → Sp.okO gs b ∧ b.length = gs.length := fun k => by
        have := hb (fun e => by subst e; simp at k)
        exact ⟨this.rng, this.len⟩
      refine call39 (v39s fl fo gs y o fb b _ ⟨fun _ => ⟨_, fun _ => ev33 fl fo gs (y :: o) hg hok (by simp; omega), _, fun k => ev33 fl fb gs b hg (hbl k).1 (by rw [(hbl k).2]; omega), fun k => ⟨by omega, ?_⟩, fun k => ?_⟩, fun k => by omega⟩)
      · have e : Sp.srch gs 0 (y :: o) b = y :: o := by rw [Sp.srch, if_pos (by omega)]
        rw [e]; exact .refl _
      · have e : Sp.srch gs 0 (y :: o) b = b := by rw [Sp.srch, if_neg (by omega)]
        rw [e]
        cases fb with
        | true => exact .full 1 _
        | false => exact .refl _
  | k + 1 => by
    intro fo y o h0 h
    have hol := h.1
    simp only [List.length_cons] at hol
    have hE := srch39 (fl := fl) hg hl k
    refine ⟨call39 (v39n fl fo gs y o _ ⟨fun k => by omega, fun _ => ?_⟩), fun fb b hb => call39 (v39s fl fo gs y o fb b _ ⟨fun k => by omega, fun _ => ?_⟩)⟩
    · exact srch_loopN hg hl hE h h0 gs.length 0 (by omega) rfl
    · exact srch_loopS hg hl hE h h0 gs.length 0 fb b hb (by omega) rfl
end Go.Av

/- REVERSED PARTS of an order, and by how much they shorten it. -/
namespace Go.Av
open Go.Proofs

namespace Sp
/-- The list with the part from i to j reversed. -/
def rev (o : List Int) (i j : Nat) : List Int := o.take i ++ (((o.drop i).take (j + 1 - i)).reverse ++ o.drop (j + 1))
def swp (o : List Int) (i j : Nat) : List Int := (o.set i (o.getD j default)).set j (o.getD i default)
/-- By how much the reversal of a part shortens an order. -/
def gain (gs : List G2) (o : List Int) (i j : Nat) : Int :=
  if (j : Int) + 1 < o.length then dAt gs (o.getD (i - 1) default) (o.getD i default) + dAt gs (o.getD j default) (o.getD (j + 1) default) - (dAt gs (o.getD (i - 1) default) (o.getD j default) + dAt gs (o.getD i default) (o.getD (j + 1) default))
  else dAt gs (o.getD (i - 1) default) (o.getD i default) - dAt gs (o.getD (i - 1) default) (o.getD j default)
end Sp

theorem rev_len (o : List Int) {i j : Nat} (h : i ≤ j + 1) (hj : j < o.length) : (Sp.rev o i j).length = o.length := by
  unfold Sp.rev
  simp only [List.length_append, List.length_take, List.length_reverse, List.length_drop]
  omega

theorem rev_get (o : List Int) {i j : Nat} (h : i ≤ j + 1) (hj : j < o.length) (k : Nat) (hk : k < o.length) : (Sp.rev o i j)[k]? = if i ≤ k ∧ k ≤ j then o[i + j - k]? else o[k]? := by
  unfold Sp.rev
  by_cases h1 : k < i
  · rw [if_neg (by omega), List.getElem?_append_left (by rw [List.length_take]; omega), List.getElem?_take_of_lt h1]
  · rw [List.getElem?_append_right (by rw [List.length_take]; omega), List.length_take, Nat.min_eq_left (by omega)]
    by_cases h2 : k ≤ j
    · rw [if_pos (by omega), List.getElem?_append_left (by rw [List.length_reverse, List.length_take, List.length_drop]; omega), List.getElem?_reverse (by rw [List.length_take, List.length_drop]; omega),
        List.length_take, List.length_drop, List.getElem?_take_of_lt (by omega), List.getElem?_drop]
      congr 1; omega
    · rw [if_neg (by omega), List.getElem?_append_right (by rw [List.length_reverse, List.length_take, List.length_drop]; omega), List.length_reverse, List.length_take, List.length_drop, List.getElem?_drop]
      congr 1; omega

theorem swp_get (o : List Int) {i j : Nat} (hi : i < o.length) (hj : j < o.length) (k : Nat) : (Sp.swp o i j)[k]? = if k = j then o[i]? else if k = i then o[j]? else o[k]? := by
  unfold Sp.swp
  rw [List.getElem?_set, List.getElem?_set]
  simp only [List.length_set]
  by_cases h1 : j = k
  · subst h1
    rw [if_pos rfl, if_pos rfl, if_pos hj, List.getD_eq_getElem?_getD, List.getElem?_eq_getElem hi]; rfl
  · have h1' : ¬k = j := by omega
    rw [if_neg h1, if_neg h1']
    by_cases h2 : i = k
    · subst h2
      rw [if_pos rfl, if_pos rfl, if_pos hi, List.getD_eq_getElem?_getD, List.getElem?_eq_getElem hj]; rfl
    · have h2' : ¬k = i := by omega
      rw [if_neg h2, if_neg h2']

theorem rev_step (o : List Int) {i j : Nat} (h : i < j) (hj : j < o.length) : Sp.rev (Sp.swp o i j) (i + 1) (j - 1) = Sp.rev o i j := by
  have hl : (Sp.swp o i j).length = o.length := by simp [Sp.swp]
  apply List.ext_getElem?
  intro k
  by_cases hk : k < o.length
  · rw [rev_get _ (by omega) (by omega) k (by omega), rev_get _ (by omega) hj k hk, swp_get o (by omega) hj, swp_get o (by omega) hj]
    by_cases h1 : i + 1 ≤ k ∧ k ≤ j - 1
    · rw [if_pos h1, if_neg (show ¬i + 1 + (j - 1) - k = j by omega), if_neg (show ¬i + 1 + (j - 1) - k = i by omega), if_pos (show i ≤ k ∧ k ≤ j by omega)]
      congr 1; omega
    · rw [if_neg h1]
      by_cases h2 : k = j
      · rw [if_pos h2, if_pos (show i ≤ k ∧ k ≤ j by omega)]
        congr 1; omega
      · rw [if_neg h2]
        by_cases h3 : k = i
        · rw [if_pos h3, if_pos (show i ≤ k ∧ k ≤ j by omega)]
          congr 1; omega
        · rw [if_neg h3, if_neg (show ¬(i ≤ k ∧ k ≤ j) by omega)]
  · rw [List.getElem?_eq_none (by rw [rev_len _ (by omega) (by omega)]; omega), List.getElem?_eq_none (by rw [rev_len _ (by omega) hj]; omega)]

theorem rev_self (o : List Int) {i j : Nat} (h : j ≤ i) (h2 : i ≤ j + 1) (hj : j < o.length) : Sp.rev o i j = o := by
  apply List.ext_getElem?
  intro k
  by_cases hk : k < o.length
  · rw [rev_get _ h2 hj k hk]
    split
    · congr 1; omega
    · rfl
  · rw [List.getElem?_eq_none (by rw [rev_len _ h2 hj]; omega), List.getElem?_eq_none (by omega)]

theorem rev_perm (o : List Int) {i j : Nat} (h : i ≤ j + 1) (_hj : j < o.length) : List.Perm (Sp.rev o i j) o := by
  unfold Sp.rev
  have e : o = o.take i ++ ((o.drop i).take (j + 1 - i) ++ o.drop (j + 1)) := by
    conv => lhs; rw [← List.take_append_drop i o, ← List.take_append_drop (j + 1 - i) (o.drop i), List.drop_drop]
    congr 3; omega
  conv => rhs; rw [e]
  exact List.Perm.append_left _ (List.Perm.append_right _ (List.reverse_perm _))

theorem rev_ord {n : Nat} {o : List Int} {i j : Nat} (h : IsOrd n o) (hi : 1 ≤ i) (hij : i ≤ j + 1) (hj : j < n) : IsOrd n (Sp.rev o i j) := by
  have hl := h.len
  have hp := rev_perm o hij (by omega : j < o.length)
  refine ⟨by rw [rev_len o hij (by omega)]; exact hl, hp.nodup_iff.2 h.nod, fun x hx => h.rng x (hp.mem_iff.1 hx), fun h0 => ?_⟩
  rw [List.getD_eq_getElem?_getD, rev_get o hij (by omega) 0 (by omega), if_neg (by omega), ← List.getD_eq_getElem?_getD]
  exact h.zero h0

/-! The length of a way in parts. -/
theorem way_cons2 (gs : List G2) (x y : Int) (o : List Int) : Sp.way gs (x :: y :: o) = Sp.dAt gs x y + Sp.way gs (y :: o) := rfl
theorem way_join (gs : List G2) : ∀ (a : List Int) (x y : Int) (b : List Int), Sp.way gs (a ++ x :: y :: b) = Sp.way gs (a ++ [x]) + Sp.dAt gs x y + Sp.way gs (y :: b)
  | [], x, y, b => by simp [Sp.way]
  | [z], x, y, b => by simp only [List.cons_append, List.nil_append, Sp.way]; omega
  | z :: z' :: a, x, y, b => by
    have := way_join gs (z' :: a) x y b
    simp only [List.cons_append, way_cons2] at this ⊢
    omega
theorem way_rev (gs : List G2) : ∀ (b : List Int), Sp.way gs b.reverse = Sp.way gs b
  | [] => rfl
  | [_] => rfl
  | x :: y :: b => by
    have ih := way_rev gs (y :: b)
    rw [way_cons2, ← ih]
    simp only [List.reverse_cons, List.append_assoc, List.cons_append, List.nil_append]
    rw [way_join gs b.reverse y x []]
    simp only [Sp.way]
    rw [dAt_symm gs y x]; omega

theorem split_at {o : List Int} {i : Nat} (h : i < o.length) : o = o.take i ++ o.getD i default :: o.drop (i + 1) := by
  conv => lhs; rw [← List.take_append_drop i o, drop_getD h]

/-- A way with a reversed part. -/
theorem rev_way (gs : List G2) {o : List Int} {i j : Nat} (hi : 1 ≤ i) (hij : i < j) (hj : j < o.length) : Sp.way gs (Sp.rev o i j) = Sp.way gs o - Sp.gain gs o i j := by
  -- o = A ++ a :: b :: M ++ c :: D
  have eA : o.take i = o.take (i - 1) ++ [o.getD (i - 1) default] := by
    have : i = i - 1 + 1 := by omega
    conv => lhs; rw [this]
    rw [List.take_add_one, List.getD_eq_getElem?_getD, List.getElem?_eq_getElem (by omega)]; rfl
  have eM : (o.drop i).take (j + 1 - i) = o.getD i default :: ((o.drop (i + 1)).take (j - 1 - i) ++ [o.getD j default]) := by
    rw [drop_getD (show i < o.length by omega)]
    have e1 : j + 1 - i = (j - 1 - i) + 1 + 1 := by omega
    rw [e1, List.take_succ_cons, List.take_add_one, List.getElem?_drop]
    have e2 : i + 1 + (j - 1 - i) = j := by omega
    rw [e2, List.getElem?_eq_getElem hj, List.getD_eq_getElem?_getD (i := j), List.getElem?_eq_getElem hj]; rfl
  have eo : o = o.take i ++ ((o.drop i).take (j + 1 - i) ++ o.drop (j + 1)) := by
    conv => lhs; rw [← List.take_append_drop i o, ← List.take_append_drop (j + 1 - i) (o.drop i), List.drop_drop]
    congr 3; omega
  obtain ⟨g, eg⟩ : ∃ g, g = Sp.gain gs o i j := ⟨_, rfl⟩
  rw [← eg]
  unfold Sp.gain at eg
  generalize hA : o.take (i - 1) = A at eA
  generalize ha : o.getD (i - 1) default = a at eA eg
  generalize hb : o.getD i default = b at eM eg
  generalize hM : (o.drop (i + 1)).take (j - 1 - i) = M at eM
  generalize hc : o.getD j default = c at eM eg
  have w1 : Sp.way gs (o.take i ++ ((o.drop i).take (j + 1 - i))) = Sp.way gs (A ++ [a]) + Sp.dAt gs a b + Sp.way gs (b :: (M ++ [c])) := by
    rw [eA, eM, List.append_assoc, List.singleton_append, way_join]
  have w2 : Sp.way gs (o.take i ++ ((o.drop i).take (j + 1 - i)).reverse) = Sp.way gs (A ++ [a]) + Sp.dAt gs a c + Sp.way gs (b :: (M ++ [c])) := by
    have e : (b :: (M ++ [c])).reverse = c :: (M.reverse ++ [b]) := by simp
    have e2 := way_rev gs (b :: (M ++ [c]))
    rw [e] at e2
    rw [eA, eM, e, List.append_assoc, List.singleton_append, way_join, e2]
  by_cases hd : j + 1 < o.length
  · rw [if_pos (by omega)] at eg
    generalize hdd : o.getD (j + 1) default = d at eg
    have eD : o.drop (j + 1) = d :: o.drop (j + 2) := by rw [drop_getD hd, hdd]
    generalize o.drop (j + 2) = D at eD
    have v1 : Sp.way gs o = Sp.way gs (o.take i ++ ((o.drop i).take (j + 1 - i))) + Sp.dAt gs c d + Sp.way gs (d :: D) := by
      have e : o = (A ++ [a] ++ b :: M) ++ c :: d :: D := by
        rw [eA, eM, eD] at eo
        simpa using eo
      have e2 : o.take i ++ ((o.drop i).take (j + 1 - i)) = (A ++ [a] ++ b :: M) ++ [c] := by rw [eA, eM]; simp
      rw [e2]
      conv => lhs; rw [e]
      rw [way_join]
    have v2 : Sp.way gs (Sp.rev o i j) = Sp.way gs (o.take i ++ ((o.drop i).take (j + 1 - i)).reverse) + Sp.dAt gs b d + Sp.way gs (d :: D) := by
      have e2 : o.take i ++ ((o.drop i).take (j + 1 - i)).reverse = (A ++ [a] ++ c :: M.reverse) ++ [b] := by rw [eA, eM]; simp
      have e : Sp.rev o i j = (A ++ [a] ++ c :: M.reverse) ++ b :: d :: D := by
        unfold Sp.rev
        rw [eA, eM, eD]; simp
      rw [e2, e, way_join]
    rw [v1, v2, w1, w2]; omega
  · rw [if_neg (by omega)] at eg
    have eD : o.drop (j + 1) = [] := List.drop_eq_nil_of_le (by omega)
    have v1 : Sp.way gs o = Sp.way gs (o.take i ++ ((o.drop i).take (j + 1 - i))) := by
      rw [eD, List.append_nil] at eo
      rw [← eo]
    have v2 : Sp.way gs (Sp.rev o i j) = Sp.way gs (o.take i ++ ((o.drop i).take (j + 1 - i)).reverse) := by
      unfold Sp.rev
      rw [eD, List.append_nil]
    rw [v1, v2, w1, w2]; omega

theorem dAt_fold (gs : List G2) (a b : Int) : Sp.dist (gs.getD a.toNat default).x (gs.getD a.toNat default).y (gs.getD b.toNat default).x (gs.getD b.toNat default).y = Sp.dAt gs a b := rfl

theorem gain42 (fl fm : Bool) (gs : List G2) (o : List Int) (i j : Nat) (h : Sp.okG gs ∧ Sp.okO gs o ∧ o.length ≤ 1000 ∧ 1 ≤ i ∧ i < j ∧ j < o.length) : Ev M1 (.pure 42 [gsA fl gs, isA fm o, .int .i64 i, .int .i64 j]) (.int .i64 (Sp.gain gs o i j)) [] := by
  obtain ⟨hg, ho, hl, h1, h2, h3⟩ := h
  have e1 : ((i : Int) - 1).toNat = i - 1 := by omega
  have e2 : ((j : Int) + 1).toNat = j + 1 := by omega
  have m0 := ho _ (getD_mem (show i - 1 < o.length by omega))
  have m1 := ho _ (getD_mem (show i < o.length by omega))
  have m2 := ho _ (getD_mem h3)
  have ok : ∀ k k' : Nat, Sp.inM (gs.getD k default).x ∧ Sp.inM (gs.getD k default).y ∧ Sp.inM (gs.getD k' default).x ∧ Sp.inM (gs.getD k' default).y := fun k k' => ⟨(okG_at hg _).1, (okG_at hg _).2, (okG_at hg _).1, (okG_at hg _).2⟩
  have b : ∀ x y, 0 ≤ Sp.dAt gs x y ∧ Sp.dAt gs x y ≤ 20000000 := dAt_le hg
  refine call42 (v42 fl fm gs o i j _ ?_)
  simp only [dAt_fold]
  rw [e1, e2, Int.toNat_natCast, Int.toNat_natCast]
  have b1 := b (o.getD (i - 1) default) (o.getD i default)
  have b2 := b (o.getD (i - 1) default) (o.getD j default)
  have b3 := b (o.getD j default) (o.getD (j + 1) default)
  have b4 := b (o.getD i default) (o.getD (j + 1) default)
  refine ⟨by omega, ok _ _, by omega, by omega, m0.1, by omega, by omega, by omega, m1.1, by omega, ok _ _, by omega, by omega, m2.1, by omega, by omega, fun hc => ?_, fun hc => ?_⟩
  · have m3 := ho _ (getD_mem (show j + 1 < o.length by omega))
    refine ⟨ok _ _, by omega, by omega, m3.1, by omega, by omega, ok _ _, by omega, by omega, ?_⟩
    unfold Sp.gain
    rw [if_pos hc]
  · refine ⟨by omega, ?_⟩
    unfold Sp.gain
    rw [if_neg hc]

theorem loop43 {v lo len : Nat} {Q : AV → Heap → Prop} : ∀ (c : Nat) (o : List Int) (i j : Nat), j < c + i → j < len → i ≤ j + 1 → lo + len ≤ o.length → o.length ≤ 1000 → Q (.tup []) [orow (Sp.rev o (lo + i) (lo + j)) v false] → v43a_at o v lo len i j Q
  | 0, o, i, j, hc, hj, hij, hl, hb, hq => by
    refine v43a _ _ _ _ _ _ _ ⟨fun h => by omega, fun _ => ?_⟩
    rw [rev_self o (by omega) (by omega) (by omega)] at hq
    exact hq
  | c + 1, o, i, j, hc, hj, hij, hl, hb, hq => by
    refine v43a _ _ _ _ _ _ _ ⟨fun h => ?_, fun h => ?_⟩
    · rw [Int.toNat_natCast, Int.toNat_natCast]
      have e1 : (j : Int) - 1 = (j - 1 : Nat) := by omega
      refine ⟨by omega, by omega, by omega, by omega, by omega, by omega, by rw [List.length_set]; omega, by omega, by omega, ?_⟩
      rw [e1]
      refine loop43 c _ (i + 1) (j - 1) (by omega) (by omega) (by omega) (by simpa using hl) (by simpa using hb) ?_
      have : Sp.rev (Sp.swp o (lo + i) (lo + j)) (lo + (i + 1)) (lo + (j - 1)) = Sp.rev o (lo + i) (lo + j) := by
        have := rev_step o (show lo + i < lo + j by omega) (by omega)
        rw [show lo + (i + 1) = lo + i + 1 by omega, show lo + (j - 1) = lo + j - 1 by omega]; exact this
      unfold Sp.swp at this
      rw [this]; exact hq
    · rw [rev_self o (by omega) (by omega) (by omega)] at hq
      exact hq

theorem evo43 (o : List Int) (v lo len : Nat) (h : 0 < len ∧ lo + len ≤ o.length ∧ o.length ≤ 1000) : Ev M1 (.own 43 [.ref 0 v lo len] [orow o v false]) (.tup []) [orow (Sp.rev o lo (lo + (len - 1))) v false] := by
  refine owncall43 (v43 o v lo len _ ⟨by omega, ?_⟩)
  have e1 : (len : Int) - 1 = (len - 1 : Nat) := by omega
  rw [e1]
  exact loop43 len o 0 (len - 1) (by omega) (by omega) (by omega) h.2.1 h.2.2 ⟨rfl, rfl⟩

theorem loop44 {v : Nat} {dq : AV} : ∀ (c : Nat) (o : List Int) (i j : Nat), j < c + i → i ≤ j + 1 → j < o.length → o.length ≤ 1000 → isA false (Sp.rev o i j) = dq → v44a_at o v i j (PureQ dq)
  | 0, o, i, j, hc, hij, hl, hb, hq => by
    refine v44a _ _ _ _ _ ⟨fun h => by omega, fun _ => ?_⟩
    rw [rev_self o (by omega) (by omega) (by omega)] at hq
    rw [← hq]; exact .refl _
  | c + 1, o, i, j, hc, hij, hl, hb, hq => by
    refine v44a _ _ _ _ _ ⟨fun h => ?_, fun h => ?_⟩
    · rw [Int.toNat_natCast, Int.toNat_natCast]
      have e1 : (j : Int) - 1 = (j - 1 : Nat) := by omega
      refine ⟨by omega, by omega, by omega, by omega, by rw [List.length_set]; omega, by omega, by omega, ?_⟩
      rw [e1]
      refine loop44 c _ (i + 1) (j - 1) (by omega) (by omega) (by simp; omega) (by simpa using hb) ?_
      have := rev_step o (show i < j by omega) (by omega)
      unfold Sp.swp at this
      rw [this]; exact hq
    · rw [rev_self o (by omega) (by omega) (by omega)] at hq
      rw [← hq]; exact .refl _

theorem rev44 (fm : Bool) (o : List Int) (i j : Nat) (h : i < j ∧ j < o.length ∧ o.length ≤ 1000) : Ev M1 (.pure 44 [isA fm o, .int .i64 i, .int .i64 j]) (isA false (Sp.rev o i j)) [] := by
  cases o with
  | nil => simp at h
  | cons y o =>
    refine call44 (v44 fm y o i j _ ⟨by have := h.2.2; simp at this; omega, ?_⟩)
    exact loop44 (v := 0) (j + 1) (y :: o) i j (by omega) (by omega) h.2.1 h.2.2 rfl

theorem ev42 (fl fm : Bool) (gs : List G2) (o : List Int) (i j : Int) (h : Sp.okG gs ∧ Sp.okO gs o ∧ o.length ≤ 1000 ∧ 1 ≤ i ∧ i < j ∧ j < o.length) : Ev M1 (.pure 42 [gsA fl gs, isA fm o, .int .i64 i, .int .i64 j]) (.int .i64 (Sp.gain gs o i.toNat j.toNat)) [] := by
  obtain ⟨h1, h2, h3, h4, h5, h6⟩ := h
  have := gain42 fl fm gs o i.toNat j.toNat ⟨h1, h2, h3, by omega, by omega, by omega⟩
  rwa [Int.toNat_of_nonneg (by omega), Int.toNat_of_nonneg (by omega)] at this
theorem ev44 (fm : Bool) (o : List Int) (i j : Int) (h : 0 ≤ i ∧ i < j ∧ j < o.length ∧ o.length ≤ 1000) : Ev M1 (.pure 44 [isA fm o, .int .i64 i, .int .i64 j]) (isA false (Sp.rev o i.toNat j.toNat)) [] := by
  have := rev44 fm o i.toNat j.toNat ⟨by omega, by omega, by omega⟩
  rwa [Int.toNat_of_nonneg (by omega), Int.toNat_of_nonneg (by omega)] at this
end Go.Av

/- PATHS, written by a program of the prover's. -/
namespace Go.Av
open Go.Proofs
set_option maxRecDepth 100000
def fi26 : Fi := ⟨51, [.tmp 4, .tmp 5]⟩
def kp26 : List (Nat × List Nat) := [(0, [0, 1]), (1, [0, 1, 6]), (2, [0, 1, 6, 14]), (3, [4, 5]), (4, [0, 1, 20]), (5, [4, 5]), (6, [0, 7]), (7, [0, 7, 8]), (8, [0, 7, 23]), (9, [0, 7, 8]), (10, [0, 7, 8, 9]), (11, [0, 7, 8, 9, 27]), (12, [0, 7, 8, 9]), (13, [0, 7, 8, 9, 10]), (14, [0, 7, 8, 9, 10, 35]), (15, [0, 7, 8, 9, 10]), (16, [0, 7, 8, 9, 10, 43]), (17, [0, 7, 9, 10]), (18, [0, 7, 8, 9, 10]), (19, [4, 5])]
def v26_at (fl fm : Bool) (gs : List G2) (o : List Int) (Q : AV → Heap → Prop) : Prop := Wp M1 (.run fi26 (atC (cd Try.f26) []) [(0, .vec fl 2 (gs.map G2.a)), (1, .vec fm 1 (o.map (.int .i64)))] []) Q
def v26n_at (fl fm : Bool) (gs : List G2) (Q : AV → Heap → Prop) : Prop := Wp M1 (.run fi26 (atC (cd Try.f26) []) [(0, .vec fl 2 (gs.map G2.a)), (1, .vec fm 1 [])] []) Q
def v26x_at (fl : Bool) (gs : List G2) (ag : Bool) (Q : AV → Heap → Prop) : Prop := Wp M1 (.run fi26 (atC (cd Try.f26) [1, 1, 1, 1, 0, 1, 0, 0]) [(0, .vec fl 2 (gs.map G2.a)), (7, .vec false 1 []), (8, .bool ag)] []) Q
def v26z_at (fl : Bool) (gs : List G2) (ag : Bool) (i : Int) (c : Bool) (Q : AV → Heap → Prop) : Prop := Wp M1 (.run fi26 (atC (cd Try.f26) [1, 1, 1, 1, 0, 1, 0, 0]) [(0, .vec fl 2 (gs.map G2.a)), (7, .vec false 1 []), (8, .bool ag), (9, .int .i64 i), (27, .bool c)] []) Q
def v26y_at (fl : Bool) (gs : List G2) (ag : Bool) (Q : AV → Heap → Prop) : Prop := Wp M1 (.run fi26 (atC (cd Try.f26) [1, 1, 1, 1, 0, 1, 0, 0, 1, 0, 1, 1, 0, 0]) [(0, .vec fl 2 (gs.map G2.a)), (7, .vec false 1 []), (8, .bool ag), (9, .int .i64 1)] []) Q
def v26a_at (fl : Bool) (gs : List G2) (o : List Int) (v : Nat) (ag : Bool) (Q : AV → Heap → Prop) : Prop := Wp M1 (.run fi26 (atC (cd Try.f26) [1, 1, 1, 1, 0, 1, 0, 0]) [(0, .vec fl 2 (gs.map G2.a)), (7, .row 0 v), (8, .bool ag)] [⟨o.map (.int .i64), 1, v, false, true⟩]) Q
def v26d_at (fl : Bool) (gs : List G2) (o : List Int) (v : Nat) (ag : Bool) (i : Int) (c : Bool) (Q : AV → Heap → Prop) : Prop := Wp M1 (.run fi26 (atC (cd Try.f26) [1, 1, 1, 1, 0, 1, 0, 0]) [(0, .vec fl 2 (gs.map G2.a)), (7, .row 0 v), (8, .bool ag), (9, .int .i64 i), (27, .bool c)] [⟨o.map (.int .i64), 1, v, false, true⟩]) Q
def v26b_at (fl : Bool) (gs : List G2) (o : List Int) (v : Nat) (ag : Bool) (i : Int) (Q : AV → Heap → Prop) : Prop := Wp M1 (.run fi26 (atC (cd Try.f26) [1, 1, 1, 1, 0, 1, 0, 0, 1, 0, 1, 1, 0, 0]) [(0, .vec fl 2 (gs.map G2.a)), (7, .row 0 v), (8, .bool ag), (9, .int .i64 i)] [⟨o.map (.int .i64), 1, v, false, true⟩]) Q
def v26c_at (fl : Bool) (gs : List G2) (o : List Int) (v : Nat) (ag : Bool) (i j : Int) (Q : AV → Heap → Prop) : Prop := Wp M1 (.run fi26 (atC (cd Try.f26) [1, 1, 1, 1, 0, 1, 0, 0, 1, 0, 1, 1, 0, 0, 1, 0, 0, 1, 0, 0]) [(0, .vec fl 2 (gs.map G2.a)), (7, .row 0 v), (8, .bool ag), (9, .int .i64 i), (10, .int .i64 j)] [⟨o.map (.int .i64), 1, v, false, true⟩]) Q
theorem call26 {args : List AV} {d : AV} (h : Wp M1 (.run fi26 [.code (cd Try.f26)] (argVars 0 args) []) (PureQ d)) : Ev M1 (.pure 26 args) d [] :=
  pure_pq Try.f26 fi26 (by kernel_rfl) (by kernel_rfl) (by kernel_rfl) (by kernel_rfl) h
theorem owncall26 {args : List AV} {L : Heap} {Q : AV → Heap → Prop} (h : Wp M1 (.run fi26 [.code (cd Try.f26)] (argVars 0 args) L) Q) : Wp M1 (.own 26 args L) Q :=
  own_wp Try.f26 fi26 (by kernel_rfl) (by kernel_rfl) (by kernel_rfl) (by kernel_rfl) h
theorem keepcall26 {args : List AV} {L : Heap} {v : AV} {K : Heap} (hk : keepOk L.length v K = true) (h : Wp M1 (.run fi26 [.code (cd Try.f26)] (argVars 0 args) L) (KeepQ v K)) : Ev M1 (.own 26 args L) v K :=
  own_keep Try.f26 fi26 (by kernel_rfl) (by kernel_rfl) (by kernel_rfl) (by kernel_rfl) hk h
theorem v26 (fl fm : Bool) (gs : List G2) (o : List Int)  (dq : AV) (H :
    (Sp.mOk 200) ∧
    ((¬Sp.checkE gs 200 = 0) → Weak (AV.tup [AV.vnil, AV.int IntKind.i64 (Sp.checkE gs 200)]) dq) ∧
    (¬(¬Sp.checkE gs 200 = 0) → (0 ≤ (↑gs.length : Int) ∧ (↑gs.length : Int) ≤ 1000000) ∧
      ((¬(Sp.isOrd o (↑gs.length : Int) = true)) → Weak (AV.tup [AV.vnil, AV.int IntKind.i64 1]) dq) ∧
      (¬(¬(Sp.isOrd o (↑gs.length : Int) = true)) → (o.length ≤ 1000000 ∧ 0 < o.length) ∧
        v26a_at (fl) (gs) (o) (0) (true) (PureQ dq)))) :
  v26_at fl fm gs o (PureQ dq) := by
  unfold v26_at
  have k1 := H.1; have H := H.2
  have i2 : (Sp.checkE gs 200 != 0) = true ↔ (¬Sp.checkE gs 200 = 0) := i_ne
  rcases Classical.em (¬Sp.checkE gs 200 = 0) with d3 | d3
  · have H := H.1 d3
    exact path_ret (G := given kp26 [(1, 1, .call (AV.int IntKind.i64 (Sp.checkE gs 200)) none)] []) 1000 [true] (k := ((atC (cd Try.f26) [1, 0, 1, 1, 0, 1])).tail) (env' := [(4, AV.vnil), (5, AV.int IntKind.i64 (Sp.checkE gs 200))]) (L' := []) (asm := [(Sp.checkE gs 200 != 0) == true]) (eqs := []) (calls := [⟨true, false, 28, [AV.vec fl 2 (List.map G2.a gs), AV.int IntKind.i64 200], [], AV.int IntKind.i64 (Sp.checkE gs 200), []⟩]) (AV.tup [AV.vnil, AV.int IntKind.i64 (Sp.checkE gs 200)]) (by kernel_rfl) (by kernel_rfl) (allB_cons (beq_t (i2.2 d3)) allB_nil) allP_nil (allC_cons (fun _ => ((@ev28 (fl) (gs) (200) k1) : Ev M1 (Conf.pure 28 [AV.vec fl 2 (List.map G2.a gs), AV.int IntKind.i64 200]) (AV.int IntKind.i64 (Sp.checkE gs 200)) [])) allC_nil) (pq_weak (d := AV.tup [AV.vnil, AV.int IntKind.i64 (Sp.checkE gs 200)]) (bs := []) (by kernel_rfl) (by kernel_rfl) allB_nil (by kernel_rfl) H)
  · have H := H.2 d3
    have w4 : (List.map G2.a gs).length = gs.length := List.length_map ..
    have k5 := H.1; have H := H.2
    have i6 : (!Sp.isOrd o (↑gs.length : Int)) = true ↔ (¬(Sp.isOrd o (↑gs.length : Int) = true)) := (i_not (i_var _))
    rcases Classical.em (¬(Sp.isOrd o (↑gs.length : Int) = true)) with d7 | d7
    · have H := H.1 d7
      exact path_ret (G := given kp26 [(1, 1, .call (AV.int IntKind.i64 (Sp.checkE gs 200)) none), (4, 3, .call (AV.bool (Sp.isOrd o (↑gs.length : Int))) none)] []) 1000 [false, true] (k := ((atC (cd Try.f26) [1, 1, 0, 1, 0, 1])).tail) (env' := [(4, AV.vnil), (5, AV.int IntKind.i64 1)]) (L' := []) (asm := [(Sp.checkE gs 200 != 0) == false, (!Sp.isOrd o (↑gs.length : Int)) == true]) (eqs := []) (calls := [⟨true, false, 28, [AV.vec fl 2 (List.map G2.a gs), AV.int IntKind.i64 200], [], AV.int IntKind.i64 (Sp.checkE gs 200), []⟩, ⟨true, false, 29, [AV.vec fm 1 (List.map (AV.int IntKind.i64) o), AV.int IntKind.i64 (↑(List.map G2.a gs).length : Int)], [], AV.bool (Sp.isOrd o (↑gs.length : Int)), []⟩]) (AV.tup [AV.vnil, AV.int IntKind.i64 1]) (by kernel_rfl) (by kernel_rfl) (allB_cons (beq_f (fun h => d3 (i2.1 h))) (allB_cons (beq_t (i6.2 d7)) allB_nil)) allP_nil (allC_cons (fun _ => ((@ev28 (fl) (gs) (200) k1) : Ev M1 (Conf.pure 28 [AV.vec fl 2 (List.map G2.a gs), AV.int IntKind.i64 200]) (AV.int IntKind.i64 (Sp.checkE gs 200)) [])) (allC_cons (fun _ => ((by rw [w4] <;> exact (@ev29 (fm) (o) ((↑gs.length : Int)) k5)) : Ev M1 (Conf.pure 29 [AV.vec fm 1 (List.map (AV.int IntKind.i64) o), AV.int IntKind.i64 (↑(List.map G2.a gs).length : Int)]) (AV.bool (Sp.isOrd o (↑gs.length : Int))) [])) allC_nil)) (pq_weak (d := AV.tup [AV.vnil, AV.int IntKind.i64 1]) (bs := []) (by kernel_rfl) (by kernel_rfl) allB_nil (by kernel_rfl) H)
    · have H := H.2 d7
      have k8 := H.1; have H := H.2
      exact path_wp (G := given kp26 [(1, 1, .call (AV.int IntKind.i64 (Sp.checkE gs 200)) none), (4, 3, .call (AV.bool (Sp.isOrd o (↑gs.length : Int))) none), (6, 1, .call (AV.row 0 0) (some [{ elems := List.map (AV.int IntKind.i64) o, es := 1, ver := 0, frozen := false, clean := true }]))] []) 1000 [false, false] ⟨(atC (cd Try.f26) [1, 1, 1, 1, 0, 1, 0, 0]), [(0, AV.vec fl 2 (List.map G2.a gs)), (7, AV.row 0 0), (8, AV.bool true)], [{ elems := List.map (AV.int IntKind.i64) o, es := 1, ver := 0, frozen := false, clean := true }], [(Sp.checkE gs 200 != 0) == false, (!Sp.isOrd o (↑gs.length : Int)) == false, scalarL (List.map (AV.int IntKind.i64) o)], [], [⟨true, false, 28, [AV.vec fl 2 (List.map G2.a gs), AV.int IntKind.i64 200], [], AV.int IntKind.i64 (Sp.checkE gs 200), []⟩, ⟨true, false, 29, [AV.vec fm 1 (List.map (AV.int IntKind.i64) o), AV.int IntKind.i64 (↑(List.map G2.a gs).length : Int)], [], AV.bool (Sp.isOrd o (↑gs.length : Int)), []⟩, ⟨true, true, 41, [AV.vec fm 1 (List.map (AV.int IntKind.i64) o)], [], AV.row 0 0, [{ elems := List.map (AV.int IntKind.i64) o, es := 1, ver := 0, frozen := false, clean := true }]⟩]⟩ (by kernel_rfl) (allB_cons (beq_f (fun h => d3 (i2.1 h))) (allB_cons (beq_f (fun h => d7 (i6.1 h))) (allB_cons (by first | exact sc_int _ | exact sc_bool _) allB_nil))) allP_nil (allC_cons (fun _ => ((@ev28 (fl) (gs) (200) k1) : Ev M1 (Conf.pure 28 [AV.vec fl 2 (List.map G2.a gs), AV.int IntKind.i64 200]) (AV.int IntKind.i64 (Sp.checkE gs 200)) [])) (allC_cons (fun _ => ((by rw [w4] <;> exact (@ev29 (fm) (o) ((↑gs.length : Int)) k5)) : Ev M1 (Conf.pure 29 [AV.vec fm 1 (List.map (AV.int IntKind.i64) o), AV.int IntKind.i64 (↑(List.map G2.a gs).length : Int)]) (AV.bool (Sp.isOrd o (↑gs.length : Int))) [])) (allC_cons (fun _ => ((@evf41 (fm) (o) k8) : Ev M1 (Conf.own 41 [AV.vec fm 1 (List.map (AV.int IntKind.i64) o)] []) (AV.row 0 0) [{ elems := List.map (AV.int IntKind.i64) o, es := 1, ver := 0, frozen := false, clean := true }])) allC_nil))) (H)

theorem v26n (fl fm : Bool) (gs : List G2)  (dq : AV) (H :
    (Sp.mOk 200) ∧
    ((¬Sp.checkE gs 200 = 0) → Weak (AV.tup [AV.vnil, AV.int IntKind.i64 (Sp.checkE gs 200)]) dq) ∧
    (¬(¬Sp.checkE gs 200 = 0) → ∃ (b1 : Bool),
      (Ev M1 (Conf.pure 29 [AV.vec fm 1 [], AV.int IntKind.i64 (↑gs.length : Int)]) (AV.bool b1) []) ∧
      ((¬(b1 = true)) → Weak (AV.tup [AV.vnil, AV.int IntKind.i64 1]) dq) ∧
      (¬(¬(b1 = true)) → ∃ (l1 : List (Int)),
        (Ev M1 (Conf.pure 41 [AV.vec fm 1 []]) (AV.vec false 1 (List.map (AV.int IntKind.i64) l1)) []) ∧
        Wp M1 (.run fi26 (atC (cd Try.f26) [1, 1, 1, 1, 0, 1, 0, 0]) [(0, AV.vec fl 2 (List.map G2.a gs)), (7, AV.vec false 1 (List.map (AV.int IntKind.i64) l1)), (8, AV.bool true)] []) (PureQ dq)))) :
  v26n_at fl fm gs (PureQ dq) := by
  unfold v26n_at
  have k1 := H.1; have H := H.2
  have i2 : (Sp.checkE gs 200 != 0) = true ↔ (¬Sp.checkE gs 200 = 0) := i_ne
  rcases Classical.em (¬Sp.checkE gs 200 = 0) with d3 | d3
  · have H := H.1 d3
    exact path_ret (G := given kp26 [(1, 1, .call (AV.int IntKind.i64 (Sp.checkE gs 200)) none)] []) 1000 [true] (k := ((atC (cd Try.f26) [1, 0, 1, 1, 0, 1])).tail) (env' := [(4, AV.vnil), (5, AV.int IntKind.i64 (Sp.checkE gs 200))]) (L' := []) (asm := [(Sp.checkE gs 200 != 0) == true]) (eqs := []) (calls := [⟨true, false, 28, [AV.vec fl 2 (List.map G2.a gs), AV.int IntKind.i64 200], [], AV.int IntKind.i64 (Sp.checkE gs 200), []⟩]) (AV.tup [AV.vnil, AV.int IntKind.i64 (Sp.checkE gs 200)]) (by kernel_rfl) (by kernel_rfl) (allB_cons (beq_t (i2.2 d3)) allB_nil) allP_nil (allC_cons (fun _ => ((@ev28 (fl) (gs) (200) k1) : Ev M1 (Conf.pure 28 [AV.vec fl 2 (List.map G2.a gs), AV.int IntKind.i64 200]) (AV.int IntKind.i64 (Sp.checkE gs 200)) [])) allC_nil) (pq_weak (d := AV.tup [AV.vnil, AV.int IntKind.i64 (Sp.checkE gs 200)]) (bs := []) (by kernel_rfl) (by kernel_rfl) allB_nil (by kernel_rfl) H)
  · have H := H.2 d3
    have w4 : (List.map G2.a gs).length = gs.length := List.length_map ..
    obtain ⟨b1, H⟩ := H
    have k5 := H.1; have H := H.2
    have i6 : (!b1) = true ↔ (¬(b1 = true)) := (i_not (i_var _))
    rcases Classical.em (¬(b1 = true)) with d7 | d7
    · have H := H.1 d7
      exact path_ret (G := given kp26 [(1, 1, .call (AV.int IntKind.i64 (Sp.checkE gs 200)) none), (4, 3, .call (AV.bool b1) none)] []) 1000 [false, true] (k := ((atC (cd Try.f26) [1, 1, 0, 1, 0, 1])).tail) (env' := [(4, AV.vnil), (5, AV.int IntKind.i64 1)]) (L' := []) (asm := [(Sp.checkE gs 200 != 0) == false, (!b1) == true]) (eqs := []) (calls := [⟨true, false, 28, [AV.vec fl 2 (List.map G2.a gs), AV.int IntKind.i64 200], [], AV.int IntKind.i64 (Sp.checkE gs 200), []⟩, ⟨true, false, 29, [AV.vec fm 1 [], AV.int IntKind.i64 (↑(List.map G2.a gs).length : Int)], [], AV.bool b1, []⟩]) (AV.tup [AV.vnil, AV.int IntKind.i64 1]) (by kernel_rfl) (by kernel_rfl) (allB_cons (beq_f (fun h => d3 (i2.1 h))) (allB_cons (beq_t (i6.2 d7)) allB_nil)) allP_nil (allC_cons (fun _ => ((@ev28 (fl) (gs) (200) k1) : Ev M1 (Conf.pure 28 [AV.vec fl 2 (List.map G2.a gs), AV.int IntKind.i64 200]) (AV.int IntKind.i64 (Sp.checkE gs 200)) [])) (allC_cons (fun _ => ((by rw [w4] <;> exact k5) : Ev M1 (Conf.pure 29 [AV.vec fm 1 [], AV.int IntKind.i64 (↑(List.map G2.a gs).length : Int)]) (AV.bool b1) [])) allC_nil)) (pq_weak (d := AV.tup [AV.vnil, AV.int IntKind.i64 1]) (bs := []) (by kernel_rfl) (by kernel_rfl) allB_nil (by kernel_rfl) H)
    · have H := H.2 d7
      obtain ⟨l1, H⟩ := H
      have k8 := H.1; have H := H.2
      exact path_wp (G := given kp26 [(1, 1, .call (AV.int IntKind.i64 (Sp.checkE gs 200)) none), (4, 3, .call (AV.bool b1) none), (6, 1, .call (AV.vec false 1 (List.map (AV.int IntKind.i64) l1)) none)] []) 1000 [false, false] ⟨(atC (cd Try.f26) [1, 1, 1, 1, 0, 1, 0, 0]), [(0, AV.vec fl 2 (List.map G2.a gs)), (7, AV.vec false 1 (List.map (AV.int IntKind.i64) l1)), (8, AV.bool true)], [], [(Sp.checkE gs 200 != 0) == false, (!b1) == false], [], [⟨true, false, 28, [AV.vec fl 2 (List.map G2.a gs), AV.int IntKind.i64 200], [], AV.int IntKind.i64 (Sp.checkE gs 200), []⟩, ⟨true, false, 29, [AV.vec fm 1 [], AV.int IntKind.i64 (↑(List.map G2.a gs).length : Int)], [], AV.bool b1, []⟩, ⟨true, false, 41, [AV.vec fm 1 []], [], AV.vec false 1 (List.map (AV.int IntKind.i64) l1), []⟩]⟩ (by kernel_rfl) (allB_cons (beq_f (fun h => d3 (i2.1 h))) (allB_cons (beq_f (fun h => d7 (i6.1 h))) allB_nil)) allP_nil (allC_cons (fun _ => ((@ev28 (fl) (gs) (200) k1) : Ev M1 (Conf.pure 28 [AV.vec fl 2 (List.map G2.a gs), AV.int IntKind.i64 200]) (AV.int IntKind.i64 (Sp.checkE gs 200)) [])) (allC_cons (fun _ => ((by rw [w4] <;> exact k5) : Ev M1 (Conf.pure 29 [AV.vec fm 1 [], AV.int IntKind.i64 (↑(List.map G2.a gs).length : Int)]) (AV.bool b1) [])) (allC_cons (fun _ => (k8 : Ev M1 (Conf.pure 41 [AV.vec fm 1 []]) (AV.vec false 1 (List.map (AV.int IntKind.i64) l1)) [])) allC_nil))) (H)

theorem v26x (fl : Bool) (gs : List G2) (ag : Bool)  (dq : AV) (H :
    ((ag = true) → v26y_at (fl) (gs) (false) (PureQ dq)) ∧
    (¬(ag = true) → Weak (AV.tup [AV.vec false 1 [], AV.int IntKind.i64 0]) dq)) :
  v26x_at fl gs ag (PureQ dq) := by
  unfold v26x_at
  have i1 : (ag) = true ↔ (ag = true) := (i_var _)
  rcases Classical.em (ag = true) with d2 | d2
  · have H := H.1 d2
    exact path_wp (G := given kp26 [] []) 1000 [true] ⟨(atC (cd Try.f26) [1, 1, 1, 1, 0, 1, 0, 0, 1, 0, 1, 1, 0, 0]), [(0, AV.vec fl 2 (List.map G2.a gs)), (7, AV.vec false 1 []), (8, AV.bool false), (9, AV.int IntKind.i64 1)], [], [(ag) == true], [], []⟩ (by kernel_rfl) (allB_cons (beq_t (i1.2 d2)) allB_nil) allP_nil allC_nil (H)
  · have H := H.2 d2
    exact path_ret (G := given kp26 [] []) 1000 [false] (k := ((atC (cd Try.f26) [1, 1, 1, 1, 1, 1])).tail) (env' := [(4, AV.vec false 1 []), (5, AV.int IntKind.i64 0)]) (L' := []) (asm := [(ag) == false]) (eqs := []) (calls := []) (AV.tup [AV.vec false 1 [], AV.int IntKind.i64 0]) (by kernel_rfl) (by kernel_rfl) (allB_cons (beq_f (fun h => d2 (i1.1 h))) allB_nil) allP_nil allC_nil (pq_weak (d := AV.tup [AV.vec false 1 [], AV.int IntKind.i64 0]) (bs := []) (by kernel_rfl) (by kernel_rfl) allB_nil (by kernel_rfl) H)

theorem v26z (fl : Bool) (gs : List G2) (ag : Bool) (i : Int) (c : Bool)  (dq : AV) (H :
    ((ag = true) → v26y_at (fl) (gs) (false) (PureQ dq)) ∧
    (¬(ag = true) → Weak (AV.tup [AV.vec false 1 [], AV.int IntKind.i64 0]) dq)) :
  v26z_at fl gs ag i c (PureQ dq) := by
  unfold v26z_at
  have i1 : (ag) = true ↔ (ag = true) := (i_var _)
  rcases Classical.em (ag = true) with d2 | d2
  · have H := H.1 d2
    exact path_wp (G := given kp26 [] []) 1000 [true] ⟨(atC (cd Try.f26) [1, 1, 1, 1, 0, 1, 0, 0, 1, 0, 1, 1, 0, 0]), [(0, AV.vec fl 2 (List.map G2.a gs)), (7, AV.vec false 1 []), (8, AV.bool false), (9, AV.int IntKind.i64 1)], [], [(ag) == true], [], []⟩ (by kernel_rfl) (allB_cons (beq_t (i1.2 d2)) allB_nil) allP_nil allC_nil (H)
  · have H := H.2 d2
    exact path_ret (G := given kp26 [] []) 1000 [false] (k := ((atC (cd Try.f26) [1, 1, 1, 1, 1, 1])).tail) (env' := [(4, AV.vec false 1 []), (5, AV.int IntKind.i64 0)]) (L' := []) (asm := [(ag) == false]) (eqs := []) (calls := []) (AV.tup [AV.vec false 1 [], AV.int IntKind.i64 0]) (by kernel_rfl) (by kernel_rfl) (allB_cons (beq_f (fun h => d2 (i1.1 h))) allB_nil) allP_nil allC_nil (pq_weak (d := AV.tup [AV.vec false 1 [], AV.int IntKind.i64 0]) (bs := []) (by kernel_rfl) (by kernel_rfl) allB_nil (by kernel_rfl) H)

theorem v26y (fl : Bool) (gs : List G2) (ag : Bool)  (dq : AV) (H :
    v26z_at (fl) (gs) (ag) (1) (false) (PureQ dq)) :
  v26y_at fl gs ag (PureQ dq) := by
  unfold v26y_at
  exact path_wp (G := given kp26 [] []) 1000 [false] ⟨(atC (cd Try.f26) [1, 1, 1, 1, 0, 1, 0, 0]), [(0, AV.vec fl 2 (List.map G2.a gs)), (7, AV.vec false 1 []), (8, AV.bool ag), (9, AV.int IntKind.i64 1), (27, AV.bool false)], [], [false == false], [], []⟩ (by kernel_rfl) (allB_cons rfl allB_nil) allP_nil allC_nil (H)

theorem v26a (fl : Bool) (gs : List G2) (o : List Int) (v : Nat) (ag : Bool)  (dq : AV) (H :
    ((ag = true) → v26b_at (fl) (gs) (o) (v) (false) (1) (PureQ dq)) ∧
    (¬(ag = true) → Weak (AV.tup [AV.vec false 1 (List.map (AV.int IntKind.i64) o), AV.int IntKind.i64 0]) dq)) :
  v26a_at fl gs o v ag (PureQ dq) := by
  unfold v26a_at
  have i1 : (ag) = true ↔ (ag = true) := (i_var _)
  rcases Classical.em (ag = true) with d2 | d2
  · have H := H.1 d2
    exact path_wp (G := given kp26 [] []) 1000 [true] ⟨(atC (cd Try.f26) [1, 1, 1, 1, 0, 1, 0, 0, 1, 0, 1, 1, 0, 0]), [(0, AV.vec fl 2 (List.map G2.a gs)), (7, AV.row 0 v), (8, AV.bool false), (9, AV.int IntKind.i64 1)], [{ elems := List.map (AV.int IntKind.i64) o, es := 1, ver := v, frozen := false, clean := true }], [(ag) == true], [], []⟩ (by kernel_rfl) (allB_cons (beq_t (i1.2 d2)) allB_nil) allP_nil allC_nil (H)
  · have H := H.2 d2
    exact path_ret (G := given kp26 [] []) 1000 [false] (k := ((atC (cd Try.f26) [1, 1, 1, 1, 1, 1])).tail) (env' := [(4, AV.row 0 v), (5, AV.int IntKind.i64 0)]) (L' := [{ elems := List.map (AV.int IntKind.i64) o, es := 1, ver := v, frozen := false, clean := true }]) (asm := [(ag) == false]) (eqs := []) (calls := []) (AV.tup [AV.row 0 v, AV.int IntKind.i64 0]) (by kernel_rfl) (by kernel_rfl) (allB_cons (beq_f (fun h => d2 (i1.1 h))) allB_nil) allP_nil allC_nil (pq_weak (d := AV.tup [AV.vec false 1 (List.map (AV.int IntKind.i64) o), AV.int IntKind.i64 0]) (bs := [v == v]) (by kernel_rfl) (by kernel_rfl) (allB_cons (beq_self_eq_true _) allB_nil) (by kernel_rfl) H)

theorem v26d (fl : Bool) (gs : List G2) (o : List Int) (v : Nat) (ag : Bool) (i : Int) (c : Bool)  (dq : AV) (H :
    ((ag = true) → v26b_at (fl) (gs) (o) (v) (false) (1) (PureQ dq)) ∧
    (¬(ag = true) → Weak (AV.tup [AV.vec false 1 (List.map (AV.int IntKind.i64) o), AV.int IntKind.i64 0]) dq)) :
  v26d_at fl gs o v ag i c (PureQ dq) := by
  unfold v26d_at
  have i1 : (ag) = true ↔ (ag = true) := (i_var _)
  rcases Classical.em (ag = true) with d2 | d2
  · have H := H.1 d2
    exact path_wp (G := given kp26 [] []) 1000 [true] ⟨(atC (cd Try.f26) [1, 1, 1, 1, 0, 1, 0, 0, 1, 0, 1, 1, 0, 0]), [(0, AV.vec fl 2 (List.map G2.a gs)), (7, AV.row 0 v), (8, AV.bool false), (9, AV.int IntKind.i64 1)], [{ elems := List.map (AV.int IntKind.i64) o, es := 1, ver := v, frozen := false, clean := true }], [(ag) == true], [], []⟩ (by kernel_rfl) (allB_cons (beq_t (i1.2 d2)) allB_nil) allP_nil allC_nil (H)
  · have H := H.2 d2
    exact path_ret (G := given kp26 [] []) 1000 [false] (k := ((atC (cd Try.f26) [1, 1, 1, 1, 1, 1])).tail) (env' := [(4, AV.row 0 v), (5, AV.int IntKind.i64 0)]) (L' := [{ elems := List.map (AV.int IntKind.i64) o, es := 1, ver := v, frozen := false, clean := true }]) (asm := [(ag) == false]) (eqs := []) (calls := []) (AV.tup [AV.row 0 v, AV.int IntKind.i64 0]) (by kernel_rfl) (by kernel_rfl) (allB_cons (beq_f (fun h => d2 (i1.1 h))) allB_nil) allP_nil allC_nil (pq_weak (d := AV.tup [AV.vec false 1 (List.map (AV.int IntKind.i64) o), AV.int IntKind.i64 0]) (bs := [v == v]) (by kernel_rfl) (by kernel_rfl) (allB_cons (beq_self_eq_true _) allB_nil) (by kernel_rfl) H)

theorem v26b (fl : Bool) (gs : List G2) (o : List Int) (v : Nat) (ag : Bool) (i : Int)  (dq : AV) (H :
    ((i < (↑o.length : Int)) → (-9223372036854775808 ≤ i + 1 ∧ i + 1 ≤ 9223372036854775807) ∧
      v26c_at (fl) (gs) (o) (v) (ag) (i) (i + 1) (PureQ dq)) ∧
    (¬(i < (↑o.length : Int)) → v26d_at (fl) (gs) (o) (v) (ag) (i) (decide (i < (↑o.length : Int))) (PureQ dq))) :
  v26b_at fl gs o v ag i (PureQ dq) := by
  unfold v26b_at
  have w1 : (List.map (AV.int IntKind.i64) o).length = o.length := List.length_map ..
  have i2 : (decide (i < (↑(List.map (AV.int IntKind.i64) o).length : Int))) = true ↔ (i < (↑o.length : Int)) := (by rw [w1] <;> exact i_dec)
  rcases Classical.em (i < (↑o.length : Int)) with d3 | d3
  · have H := H.1 d3
    have k4 := H.1; have H := H.2
    have w5 : IntKind.i64.wrap (i + 1) = i + 1 := wI64 k4
    exact path_wp (G := given kp26 [] []) 1000 [true] ⟨(atC (cd Try.f26) [1, 1, 1, 1, 0, 1, 0, 0, 1, 0, 1, 1, 0, 0, 1, 0, 0, 1, 0, 0]), [(0, AV.vec fl 2 (List.map G2.a gs)), (7, AV.row 0 v), (8, AV.bool ag), (9, AV.int IntKind.i64 i), (10, AV.int IntKind.i64 (IntKind.i64.wrap (i + 1)))], [{ elems := List.map (AV.int IntKind.i64) o, es := 1, ver := v, frozen := false, clean := true }], [v == v, (decide (i < (↑(List.map (AV.int IntKind.i64) o).length : Int))) == true], [], []⟩ (by kernel_rfl) (allB_cons (beq_self_eq_true _) (allB_cons (beq_t (i2.2 d3)) allB_nil)) allP_nil allC_nil (by rw [w5] <;> exact H)
  · have H := H.2 d3
    exact path_wp (G := given kp26 [] []) 1000 [false] ⟨(atC (cd Try.f26) [1, 1, 1, 1, 0, 1, 0, 0]), [(0, AV.vec fl 2 (List.map G2.a gs)), (7, AV.row 0 v), (8, AV.bool ag), (9, AV.int IntKind.i64 i), (27, AV.bool (decide (i < (↑(List.map (AV.int IntKind.i64) o).length : Int))))], [{ elems := List.map (AV.int IntKind.i64) o, es := 1, ver := v, frozen := false, clean := true }], [v == v, (decide (i < (↑(List.map (AV.int IntKind.i64) o).length : Int))) == false], [], []⟩ (by kernel_rfl) (allB_cons (beq_self_eq_true _) (allB_cons (beq_f (fun h => d3 (i2.1 h))) allB_nil)) allP_nil allC_nil (by rw [w1] <;> exact H)

theorem v26c (fl : Bool) (gs : List G2) (o : List Int) (v : Nat) (ag : Bool) (i j : Int)  (dq : AV) (H :
    ((j < (↑o.length : Int)) → (Sp.okG gs ∧ Sp.okO gs o ∧ o.length ≤ 1000 ∧ 1 ≤ i ∧ i < j ∧ j < (↑o.length : Int)) ∧
      ((Sp.gain gs o i.toNat j.toNat > 0) → (-9223372036854775808 ≤ j + 1 ∧ j + 1 ≤ 9223372036854775807) ∧
        (0 < (j + 1).toNat - i.toNat ∧ i.toNat + ((j + 1).toNat - i.toNat) ≤ o.length ∧ o.length ≤ 1000) ∧
        (0 ≤ i) ∧
        (0 ≤ j + 1) ∧
        (i.toNat ≤ (j + 1).toNat) ∧
        ((j + 1).toNat ≤ o.length) ∧
        v26c_at (fl) (gs) (Sp.rev o i.toNat (i.toNat + ((j + 1).toNat - i.toNat - 1))) (v) (true) (i) (j + 1) (PureQ dq)) ∧
      (¬(Sp.gain gs o i.toNat j.toNat > 0) → (-9223372036854775808 ≤ j + 1 ∧ j + 1 ≤ 9223372036854775807) ∧
        v26c_at (fl) (gs) (o) (v) (ag) (i) (j + 1) (PureQ dq))) ∧
    (¬(j < (↑o.length : Int)) → (-9223372036854775808 ≤ i + 1 ∧ i + 1 ≤ 9223372036854775807) ∧
      v26b_at (fl) (gs) (o) (v) (ag) (i + 1) (PureQ dq))) :
  v26c_at fl gs o v ag i j (PureQ dq) := by
  unfold v26c_at
  have w1 : (List.map (AV.int IntKind.i64) o).length = o.length := List.length_map ..
  have i2 : (decide (j < (↑(List.map (AV.int IntKind.i64) o).length : Int))) = true ↔ (j < (↑o.length : Int)) := (by rw [w1] <;> exact i_dec)
  rcases Classical.em (j < (↑o.length : Int)) with d3 | d3
  · have H := H.1 d3
    have k4 := H.1; have H := H.2
    have i5 : (decide (Sp.gain gs o i.toNat j.toNat > 0)) = true ↔ (Sp.gain gs o i.toNat j.toNat > 0) := i_dec
    rcases Classical.em (Sp.gain gs o i.toNat j.toNat > 0) with d6 | d6
    · have H := H.1 d6
      have k7 := H.1; have H := H.2
      have w8 : IntKind.i64.wrap (j + 1) = j + 1 := wI64 k7
      have k9 := H.1; have H := H.2
      have i10 : (decide (0 ≤ i)) = true ↔ (0 ≤ i) := i_dec
      have k11 := H.1; have H := H.2
      have i12 : (decide (0 ≤ IntKind.i64.wrap (j + 1))) = true ↔ (0 ≤ j + 1) := (by rw [w8] <;> exact i_dec)
      have k13 := H.1; have H := H.2
      have i14 : (decide (i.toNat ≤ (IntKind.i64.wrap (j + 1)).toNat)) = true ↔ (i.toNat ≤ (j + 1).toNat) := (by rw [w8] <;> exact i_dec)
      have k15 := H.1; have H := H.2
      have i16 : (decide ((IntKind.i64.wrap (j + 1)).toNat ≤ (List.map (AV.int IntKind.i64) o).length)) = true ↔ ((j + 1).toNat ≤ o.length) := (by rw [w1, w8] <;> exact i_dec)
      have k17 := H.1; have H := H.2
      exact path_wp (G := given kp26 [(16, 4, .call (AV.int IntKind.i64 (Sp.gain gs o i.toNat j.toNat)) none), (17, 5, .call (AV.tup []) (some [{ elems := List.map (AV.int IntKind.i64) (Sp.rev o i.toNat (i.toNat + ((j + 1).toNat - i.toNat - 1))), es := 1, ver := v, frozen := false, clean := true }]))] []) 1000 [true, true] ⟨(atC (cd Try.f26) [1, 1, 1, 1, 0, 1, 0, 0, 1, 0, 1, 1, 0, 0, 1, 0, 0, 1, 0, 0]), [(0, AV.vec fl 2 (List.map G2.a gs)), (7, AV.row 0 v), (8, AV.bool true), (9, AV.int IntKind.i64 i), (10, AV.int IntKind.i64 (IntKind.i64.wrap (j + 1)))], [{ elems := List.map (AV.int IntKind.i64) (Sp.rev o i.toNat (i.toNat + ((j + 1).toNat - i.toNat - 1))), es := 1, ver := v, frozen := false, clean := true }], [v == v, (decide (j < (↑(List.map (AV.int IntKind.i64) o).length : Int))) == true, v == v, (decide (Sp.gain gs o i.toNat j.toNat > 0)) == true, v == v, decide (0 ≤ i), decide (0 ≤ IntKind.i64.wrap (j + 1)), decide (i.toNat ≤ (IntKind.i64.wrap (j + 1)).toNat), decide ((IntKind.i64.wrap (j + 1)).toNat ≤ (List.map (AV.int IntKind.i64) o).length)], [], [⟨true, false, 42, [AV.vec fl 2 (List.map G2.a gs), AV.vec false 1 (List.map (AV.int IntKind.i64) o), AV.int IntKind.i64 i, AV.int IntKind.i64 j], [], AV.int IntKind.i64 (Sp.gain gs o i.toNat j.toNat), []⟩, ⟨true, true, 43, [AV.ref 0 v i.toNat ((IntKind.i64.wrap (j + 1)).toNat - i.toNat)], [{ elems := List.map (AV.int IntKind.i64) o, es := 1, ver := v, frozen := false, clean := true }], AV.tup [], [{ elems := List.map (AV.int IntKind.i64) (Sp.rev o i.toNat (i.toNat + ((j + 1).toNat - i.toNat - 1))), es := 1, ver := v, frozen := false, clean := true }]⟩]⟩ (by kernel_rfl) (allB_cons (beq_self_eq_true _) (allB_cons (beq_t (i2.2 d3)) (allB_cons (beq_self_eq_true _) (allB_cons (beq_t (i5.2 d6)) (allB_cons (beq_self_eq_true _) (allB_cons (i10.2 k11) (allB_cons (i12.2 k13) (allB_cons (i14.2 k15) (allB_cons (i16.2 k17) allB_nil))))))))) allP_nil (allC_cons (fun _ => ((@ev42 (fl) (false) (gs) (o) (i) (j) k4) : Ev M1 (Conf.pure 42 [AV.vec fl 2 (List.map G2.a gs), AV.vec false 1 (List.map (AV.int IntKind.i64) o), AV.int IntKind.i64 i, AV.int IntKind.i64 j]) (AV.int IntKind.i64 (Sp.gain gs o i.toNat j.toNat)) [])) (allC_cons (fun _ => ((by rw [w8] <;> exact (@evo43 (o) (v) (i.toNat) ((j + 1).toNat - i.toNat) k9)) : Ev M1 (Conf.own 43 [AV.ref 0 v i.toNat ((IntKind.i64.wrap (j + 1)).toNat - i.toNat)] [{ elems := List.map (AV.int IntKind.i64) o, es := 1, ver := v, frozen := false, clean := true }]) (AV.tup []) [{ elems := List.map (AV.int IntKind.i64) (Sp.rev o i.toNat (i.toNat + ((j + 1).toNat - i.toNat - 1))), es := 1, ver := v, frozen := false, clean := true }])) allC_nil)) (by rw [w8] <;> exact H)
    · have H := H.2 d6
      have k18 := H.1; have H := H.2
      have w19 : IntKind.i64.wrap (j + 1) = j + 1 := wI64 k18
      exact path_wp (G := given kp26 [(16, 4, .call (AV.int IntKind.i64 (Sp.gain gs o i.toNat j.toNat)) none)] []) 1000 [true, false] ⟨(atC (cd Try.f26) [1, 1, 1, 1, 0, 1, 0, 0, 1, 0, 1, 1, 0, 0, 1, 0, 0, 1, 0, 0]), [(0, AV.vec fl 2 (List.map G2.a gs)), (7, AV.row 0 v), (8, AV.bool ag), (9, AV.int IntKind.i64 i), (10, AV.int IntKind.i64 (IntKind.i64.wrap (j + 1)))], [{ elems := List.map (AV.int IntKind.i64) o, es := 1, ver := v, frozen := false, clean := true }], [v == v, (decide (j < (↑(List.map (AV.int IntKind.i64) o).length : Int))) == true, v == v, (decide (Sp.gain gs o i.toNat j.toNat > 0)) == false], [], [⟨true, false, 42, [AV.vec fl 2 (List.map G2.a gs), AV.vec false 1 (List.map (AV.int IntKind.i64) o), AV.int IntKind.i64 i, AV.int IntKind.i64 j], [], AV.int IntKind.i64 (Sp.gain gs o i.toNat j.toNat), []⟩]⟩ (by kernel_rfl) (allB_cons (beq_self_eq_true _) (allB_cons (beq_t (i2.2 d3)) (allB_cons (beq_self_eq_true _) (allB_cons (beq_f (fun h => d6 (i5.1 h))) allB_nil)))) allP_nil (allC_cons (fun _ => ((@ev42 (fl) (false) (gs) (o) (i) (j) k4) : Ev M1 (Conf.pure 42 [AV.vec fl 2 (List.map G2.a gs), AV.vec false 1 (List.map (AV.int IntKind.i64) o), AV.int IntKind.i64 i, AV.int IntKind.i64 j]) (AV.int IntKind.i64 (Sp.gain gs o i.toNat j.toNat)) [])) allC_nil) (by rw [w19] <;> exact H)
  · have H := H.2 d3
    have k20 := H.1; have H := H.2
    have w21 : IntKind.i64.wrap (i + 1) = i + 1 := wI64 k20
    exact path_wp (G := given kp26 [] []) 1000 [false] ⟨(atC (cd Try.f26) [1, 1, 1, 1, 0, 1, 0, 0, 1, 0, 1, 1, 0, 0]), [(0, AV.vec fl 2 (List.map G2.a gs)), (7, AV.row 0 v), (8, AV.bool ag), (9, AV.int IntKind.i64 (IntKind.i64.wrap (i + 1)))], [{ elems := List.map (AV.int IntKind.i64) o, es := 1, ver := v, frozen := false, clean := true }], [v == v, (decide (j < (↑(List.map (AV.int IntKind.i64) o).length : Int))) == false], [], []⟩ (by kernel_rfl) (allB_cons (beq_self_eq_true _) (allB_cons (beq_f (fun h => d3 (i2.1 h))) allB_nil)) allP_nil allC_nil (by rw [w21] <;> exact H)


end Go.Av

/- PATHS, written by a program of the prover's. -/
namespace Go.Av
open Go.Proofs
set_option maxRecDepth 100000
def fi27 : Fi := ⟨33, [.tmp 4]⟩
def kp27 : List (Nat × List Nat) := [(0, [0, 1]), (1, [0, 1, 5]), (2, [0, 1, 5, 6]), (3, [0, 1, 5, 6, 14]), (4, [0, 1, 5, 6]), (5, [0, 1, 5, 6, 7]), (6, [0, 1, 5, 6, 7, 22]), (7, [0, 1, 5, 6, 7]), (8, [0, 1, 5, 6, 7, 32]), (9, [4]), (10, [4])]
def v27_at (fl fm : Bool) (gs : List G2) (o : List Int) (Q : AV → Heap → Prop) : Prop := Wp M1 (.run fi27 (atC (cd Try.f27) []) [(0, .vec fl 2 (gs.map G2.a)), (1, .vec fm 1 (o.map (.int .i64)))] []) Q
def v27a_at (fl fm : Bool) (gs : List G2) (o : List Int) (n i : Int) (Q : AV → Heap → Prop) : Prop := Wp M1 (.run fi27 (atC (cd Try.f27) [1, 1, 0, 1, 0, 0]) [(0, .vec fl 2 (gs.map G2.a)), (1, .vec fm 1 (o.map (.int .i64))), (5, .int .i64 n), (6, .int .i64 i)] []) Q
def v27b_at (fl fm : Bool) (gs : List G2) (o : List Int) (n : Int) (i j : Int) (Q : AV → Heap → Prop) : Prop := Wp M1 (.run fi27 (atC (cd Try.f27) [1, 1, 0, 1, 0, 0, 1, 0, 0, 1, 0, 0]) [(0, .vec fl 2 (gs.map G2.a)), (1, .vec fm 1 (o.map (.int .i64))), (5, .int .i64 n), (6, .int .i64 i), (7, .int .i64 j)] []) Q
theorem call27 {args : List AV} {d : AV} (h : Wp M1 (.run fi27 [.code (cd Try.f27)] (argVars 0 args) []) (PureQ d)) : Ev M1 (.pure 27 args) d [] :=
  pure_pq Try.f27 fi27 (by kernel_rfl) (by kernel_rfl) (by kernel_rfl) (by kernel_rfl) h
theorem owncall27 {args : List AV} {L : Heap} {Q : AV → Heap → Prop} (h : Wp M1 (.run fi27 [.code (cd Try.f27)] (argVars 0 args) L) Q) : Wp M1 (.own 27 args L) Q :=
  own_wp Try.f27 fi27 (by kernel_rfl) (by kernel_rfl) (by kernel_rfl) (by kernel_rfl) h
theorem keepcall27 {args : List AV} {L : Heap} {v : AV} {K : Heap} (hk : keepOk L.length v K = true) (h : Wp M1 (.run fi27 [.code (cd Try.f27)] (argVars 0 args) L) (KeepQ v K)) : Ev M1 (.own 27 args L) v K :=
  own_keep Try.f27 fi27 (by kernel_rfl) (by kernel_rfl) (by kernel_rfl) (by kernel_rfl) hk h
theorem v27 (fl fm : Bool) (gs : List G2) (o : List Int)  (dq : AV) (H :
    (Sp.okG gs) ∧
    (Sp.okO gs o) ∧
    (o.length ≤ 1000) ∧
    v27a_at (fl) (fm) (gs) (o) (Sp.way gs o) (1) (PureQ dq)) :
  v27_at fl fm gs o (PureQ dq) := by
  unfold v27_at
  have k1 := H.1; have H := H.2
  have k2 := H.1; have H := H.2
  have k3 := H.1; have H := H.2
  exact path_wp (G := given kp27 [(1, 2, .call (AV.int IntKind.i64 (Sp.way gs o)) none)] []) 1000 [] ⟨(atC (cd Try.f27) [1, 1, 0, 1, 0, 0]), [(0, AV.vec fl 2 (List.map G2.a gs)), (1, AV.vec fm 1 (List.map (AV.int IntKind.i64) o)), (5, AV.int IntKind.i64 (Sp.way gs o)), (6, AV.int IntKind.i64 1)], [], [], [], [⟨true, false, 33, [AV.vec fl 2 (List.map G2.a gs), AV.vec fm 1 (List.map (AV.int IntKind.i64) o)], [], AV.int IntKind.i64 (Sp.way gs o), []⟩]⟩ (by kernel_rfl) allB_nil allP_nil (allC_cons (fun _ => ((@ev33 (fl) (fm) (gs) (o) k1 k2 k3) : Ev M1 (Conf.pure 33 [AV.vec fl 2 (List.map G2.a gs), AV.vec fm 1 (List.map (AV.int IntKind.i64) o)]) (AV.int IntKind.i64 (Sp.way gs o)) [])) allC_nil) (H)

theorem v27a (fl fm : Bool) (gs : List G2) (o : List Int) (n i : Int)  (dq : AV) (H :
    ((i < (↑o.length : Int)) → (-9223372036854775808 ≤ i + 1 ∧ i + 1 ≤ 9223372036854775807) ∧
      v27b_at (fl) (fm) (gs) (o) (n) (i) (i + 1) (PureQ dq)) ∧
    (¬(i < (↑o.length : Int)) → AV.bool true = dq)) :
  v27a_at fl fm gs o n i (PureQ dq) := by
  unfold v27a_at
  have w1 : (List.map (AV.int IntKind.i64) o).length = o.length := List.length_map ..
  have i2 : (decide (i < (↑(List.map (AV.int IntKind.i64) o).length : Int))) = true ↔ (i < (↑o.length : Int)) := (by rw [w1] <;> exact i_dec)
  rcases Classical.em (i < (↑o.length : Int)) with d3 | d3
  · have H := H.1 d3
    have k4 := H.1; have H := H.2
    have w5 : IntKind.i64.wrap (i + 1) = i + 1 := wI64 k4
    exact path_wp (G := given kp27 [] []) 1000 [true] ⟨(atC (cd Try.f27) [1, 1, 0, 1, 0, 0, 1, 0, 0, 1, 0, 0]), [(0, AV.vec fl 2 (List.map G2.a gs)), (1, AV.vec fm 1 (List.map (AV.int IntKind.i64) o)), (5, AV.int IntKind.i64 n), (6, AV.int IntKind.i64 i), (7, AV.int IntKind.i64 (IntKind.i64.wrap (i + 1)))], [], [(decide (i < (↑(List.map (AV.int IntKind.i64) o).length : Int))) == true], [], []⟩ (by kernel_rfl) (allB_cons (beq_t (i2.2 d3)) allB_nil) allP_nil allC_nil (by rw [w5] <;> exact H)
  · have H := H.2 d3
    exact path_ret (G := given kp27 [] []) 1000 [false] (k := ((atC (cd Try.f27) [1, 1, 1, 1])).tail) (env' := [(4, AV.bool true)]) (L' := []) (asm := [(decide (i < (↑(List.map (AV.int IntKind.i64) o).length : Int))) == false]) (eqs := []) (calls := []) (AV.bool true) (by kernel_rfl) (by kernel_rfl) (allB_cons (beq_f (fun h => d3 (i2.1 h))) allB_nil) allP_nil allC_nil (pq_of (d := AV.bool true) (bs := []) (by kernel_rfl) (by kernel_rfl) allB_nil (by kernel_rfl) H)

theorem v27b (fl fm : Bool) (gs : List G2) (o : List Int) (n : Int) (i j : Int)  (dq : AV) (H :
    ((j < (↑o.length : Int)) → (0 ≤ i ∧ i < j ∧ j < (↑o.length : Int) ∧ o.length ≤ 1000) ∧
      (Sp.okG gs) ∧
      (Sp.okO gs (Sp.rev o i.toNat j.toNat)) ∧
      ((Sp.rev o i.toNat j.toNat).length ≤ 1000) ∧
      ((Sp.way gs (Sp.rev o i.toNat j.toNat) < n) → AV.bool false = dq) ∧
      (¬(Sp.way gs (Sp.rev o i.toNat j.toNat) < n) → (-9223372036854775808 ≤ j + 1 ∧ j + 1 ≤ 9223372036854775807) ∧
        v27b_at (fl) (fm) (gs) (o) (n) (i) (j + 1) (PureQ dq))) ∧
    (¬(j < (↑o.length : Int)) → (-9223372036854775808 ≤ i + 1 ∧ i + 1 ≤ 9223372036854775807) ∧
      v27a_at (fl) (fm) (gs) (o) (n) (i + 1) (PureQ dq))) :
  v27b_at fl fm gs o n i j (PureQ dq) := by
  unfold v27b_at
  have w1 : (List.map (AV.int IntKind.i64) o).length = o.length := List.length_map ..
  have i2 : (decide (j < (↑(List.map (AV.int IntKind.i64) o).length : Int))) = true ↔ (j < (↑o.length : Int)) := (by rw [w1] <;> exact i_dec)
  rcases Classical.em (j < (↑o.length : Int)) with d3 | d3
  · have H := H.1 d3
    have k4 := H.1; have H := H.2
    have k5 := H.1; have H := H.2
    have k6 := H.1; have H := H.2
    have k7 := H.1; have H := H.2
    have i8 : (decide (Sp.way gs (Sp.rev o i.toNat j.toNat) < n)) = true ↔ (Sp.way gs (Sp.rev o i.toNat j.toNat) < n) := i_dec
    rcases Classical.em (Sp.way gs (Sp.rev o i.toNat j.toNat) < n) with d9 | d9
    · have H := H.1 d9
      exact path_ret (G := given kp27 [(8, 4, .call (AV.vec false 1 (List.map (AV.int IntKind.i64) (Sp.rev o i.toNat j.toNat))) none), (8, 5, .call (AV.int IntKind.i64 (Sp.way gs (Sp.rev o i.toNat j.toNat))) none)] []) 1000 [true, true] (k := ((atC (cd Try.f27) [1, 1, 0, 1, 0, 0, 1, 0, 0, 1, 0, 0, 1, 0, 0, 1, 0, 1])).tail) (env' := [(4, AV.bool false)]) (L' := []) (asm := [(decide (j < (↑(List.map (AV.int IntKind.i64) o).length : Int))) == true, (decide (Sp.way gs (Sp.rev o i.toNat j.toNat) < n)) == true]) (eqs := []) (calls := [⟨true, false, 44, [AV.vec fm 1 (List.map (AV.int IntKind.i64) o), AV.int IntKind.i64 i, AV.int IntKind.i64 j], [], AV.vec false 1 (List.map (AV.int IntKind.i64) (Sp.rev o i.toNat j.toNat)), []⟩, ⟨true, false, 33, [AV.vec fl 2 (List.map G2.a gs), AV.vec false 1 (List.map (AV.int IntKind.i64) (Sp.rev o i.toNat j.toNat))], [], AV.int IntKind.i64 (Sp.way gs (Sp.rev o i.toNat j.toNat)), []⟩]) (AV.bool false) (by kernel_rfl) (by kernel_rfl) (allB_cons (beq_t (i2.2 d3)) (allB_cons (beq_t (i8.2 d9)) allB_nil)) allP_nil (allC_cons (fun _ => ((@ev44 (fm) (o) (i) (j) k4) : Ev M1 (Conf.pure 44 [AV.vec fm 1 (List.map (AV.int IntKind.i64) o), AV.int IntKind.i64 i, AV.int IntKind.i64 j]) (AV.vec false 1 (List.map (AV.int IntKind.i64) (Sp.rev o i.toNat j.toNat))) [])) (allC_cons (fun _ => ((@ev33 (fl) (false) (gs) (Sp.rev o i.toNat j.toNat) k5 k6 k7) : Ev M1 (Conf.pure 33 [AV.vec fl 2 (List.map G2.a gs), AV.vec false 1 (List.map (AV.int IntKind.i64) (Sp.rev o i.toNat j.toNat))]) (AV.int IntKind.i64 (Sp.way gs (Sp.rev o i.toNat j.toNat))) [])) allC_nil)) (pq_of (d := AV.bool false) (bs := []) (by kernel_rfl) (by kernel_rfl) allB_nil (by kernel_rfl) H)
    · have H := H.2 d9
      have k10 := H.1; have H := H.2
      have w11 : IntKind.i64.wrap (j + 1) = j + 1 := wI64 k10
      exact path_wp (G := given kp27 [(8, 4, .call (AV.vec false 1 (List.map (AV.int IntKind.i64) (Sp.rev o i.toNat j.toNat))) none), (8, 5, .call (AV.int IntKind.i64 (Sp.way gs (Sp.rev o i.toNat j.toNat))) none)] []) 1000 [true, false] ⟨(atC (cd Try.f27) [1, 1, 0, 1, 0, 0, 1, 0, 0, 1, 0, 0]), [(0, AV.vec fl 2 (List.map G2.a gs)), (1, AV.vec fm 1 (List.map (AV.int IntKind.i64) o)), (5, AV.int IntKind.i64 n), (6, AV.int IntKind.i64 i), (7, AV.int IntKind.i64 (IntKind.i64.wrap (j + 1)))], [], [(decide (j < (↑(List.map (AV.int IntKind.i64) o).length : Int))) == true, (decide (Sp.way gs (Sp.rev o i.toNat j.toNat) < n)) == false], [], [⟨true, false, 44, [AV.vec fm 1 (List.map (AV.int IntKind.i64) o), AV.int IntKind.i64 i, AV.int IntKind.i64 j], [], AV.vec false 1 (List.map (AV.int IntKind.i64) (Sp.rev o i.toNat j.toNat)), []⟩, ⟨true, false, 33, [AV.vec fl 2 (List.map G2.a gs), AV.vec false 1 (List.map (AV.int IntKind.i64) (Sp.rev o i.toNat j.toNat))], [], AV.int IntKind.i64 (Sp.way gs (Sp.rev o i.toNat j.toNat)), []⟩]⟩ (by kernel_rfl) (allB_cons (beq_t (i2.2 d3)) (allB_cons (beq_f (fun h => d9 (i8.1 h))) allB_nil)) allP_nil (allC_cons (fun _ => ((@ev44 (fm) (o) (i) (j) k4) : Ev M1 (Conf.pure 44 [AV.vec fm 1 (List.map (AV.int IntKind.i64) o), AV.int IntKind.i64 i, AV.int IntKind.i64 j]) (AV.vec false 1 (List.map (AV.int IntKind.i64) (Sp.rev o i.toNat j.toNat))) [])) (allC_cons (fun _ => ((@ev33 (fl) (false) (gs) (Sp.rev o i.toNat j.toNat) k5 k6 k7) : Ev M1 (Conf.pure 33 [AV.vec fl 2 (List.map G2.a gs), AV.vec false 1 (List.map (AV.int IntKind.i64) (Sp.rev o i.toNat j.toNat))]) (AV.int IntKind.i64 (Sp.way gs (Sp.rev o i.toNat j.toNat))) [])) allC_nil)) (by rw [w11] <;> exact H)
  · have H := H.2 d3
    have k12 := H.1; have H := H.2
    have w13 : IntKind.i64.wrap (i + 1) = i + 1 := wI64 k12
    exact path_wp (G := given kp27 [] []) 1000 [false] ⟨(atC (cd Try.f27) [1, 1, 0, 1, 0, 0]), [(0, AV.vec fl 2 (List.map G2.a gs)), (1, AV.vec fm 1 (List.map (AV.int IntKind.i64) o)), (5, AV.int IntKind.i64 n), (6, AV.int IntKind.i64 (IntKind.i64.wrap (i + 1)))], [], [(decide (j < (↑(List.map (AV.int IntKind.i64) o).length : Int))) == false], [], []⟩ (by kernel_rfl) (allB_cons (beq_f (fun h => d3 (i2.1 h))) allB_nil) allP_nil allC_nil (by rw [w13] <;> exact H)


end Go.Av

/- PATHS, written by a program of the prover's. -/
namespace Go.Av
open Go.Proofs
set_option maxRecDepth 100000
def fi22 : Fi := ⟨29, [.tmp 2, .tmp 3, .tmp 4]⟩
def kp22 : List (Nat × List Nat) := [(0, [0]), (1, [0, 5]), (2, [0, 5, 10]), (3, [2, 3, 4]), (4, [0, 14]), (5, [2, 3, 4]), (6, [6]), (7, [6]), (8, [2, 3, 4])]
def fi23 : Fi := ⟨22, [.tmp 2, .tmp 3, .tmp 4]⟩
def kp23 : List (Nat × List Nat) := [(0, [0]), (1, [0, 5]), (2, [0, 5, 10]), (3, [2, 3, 4]), (4, [0, 14]), (5, [2, 3, 4]), (6, [0, 6]), (7, [2, 3, 4])]
def v22_at (fl : Bool) (gs : List G2) (Q : AV → Heap → Prop) : Prop := Wp M1 (.run fi22 (atC (cd Try.f22) []) [(0, .vec fl 2 (gs.map G2.a))] []) Q
def v23_at (fl : Bool) (gs : List G2) (Q : AV → Heap → Prop) : Prop := Wp M1 (.run fi23 (atC (cd Try.f23) []) [(0, .vec fl 2 (gs.map G2.a))] []) Q
theorem call22 {args : List AV} {d : AV} (h : Wp M1 (.run fi22 [.code (cd Try.f22)] (argVars 0 args) []) (PureQ d)) : Ev M1 (.pure 22 args) d [] :=
  pure_pq Try.f22 fi22 (by kernel_rfl) (by kernel_rfl) (by kernel_rfl) (by kernel_rfl) h
theorem owncall22 {args : List AV} {L : Heap} {Q : AV → Heap → Prop} (h : Wp M1 (.run fi22 [.code (cd Try.f22)] (argVars 0 args) L) Q) : Wp M1 (.own 22 args L) Q :=
  own_wp Try.f22 fi22 (by kernel_rfl) (by kernel_rfl) (by kernel_rfl) (by kernel_rfl) h
theorem keepcall22 {args : List AV} {L : Heap} {v : AV} {K : Heap} (hk : keepOk L.length v K = true) (h : Wp M1 (.run fi22 [.code (cd Try.f22)] (argVars 0 args) L) (KeepQ v K)) : Ev M1 (.own 22 args L) v K :=
  own_keep Try.f22 fi22 (by kernel_rfl) (by kernel_rfl) (by kernel_rfl) (by kernel_rfl) hk h
theorem call23 {args : List AV} {d : AV} (h : Wp M1 (.run fi23 [.code (cd Try.f23)] (argVars 0 args) []) (PureQ d)) : Ev M1 (.pure 23 args) d [] :=
  pure_pq Try.f23 fi23 (by kernel_rfl) (by kernel_rfl) (by kernel_rfl) (by kernel_rfl) h
theorem owncall23 {args : List AV} {L : Heap} {Q : AV → Heap → Prop} (h : Wp M1 (.run fi23 [.code (cd Try.f23)] (argVars 0 args) L) Q) : Wp M1 (.own 23 args L) Q :=
  own_wp Try.f23 fi23 (by kernel_rfl) (by kernel_rfl) (by kernel_rfl) (by kernel_rfl) h
theorem keepcall23 {args : List AV} {L : Heap} {v : AV} {K : Heap} (hk : keepOk L.length v K = true) (h : Wp M1 (.run fi23 [.code (cd Try.f23)] (argVars 0 args) L) (KeepQ v K)) : Ev M1 (.own 23 args L) v K :=
  own_keep Try.f23 fi23 (by kernel_rfl) (by kernel_rfl) (by kernel_rfl) (by kernel_rfl) hk h
theorem v22 (fl : Bool) (gs : List G2) (r0 rl : Int) (rt : List Int) (rf rb : Bool) (dq : AV) (H :
    (Sp.mOk 10) ∧
    ((¬Sp.checkE gs 10 = 0) → Weak (AV.tup [AV.vnil, AV.int IntKind.i64 0, AV.int IntKind.i64 (Sp.checkE gs 10)]) dq) ∧
    (¬(¬Sp.checkE gs 10 = 0) → (((↑gs.length : Int) = 0) → Weak (AV.tup [AV.vnil, AV.int IntKind.i64 0, AV.int IntKind.i64 0]) dq) ∧
      (¬((↑gs.length : Int) = 0) → (Ev M1 (Conf.own 38 [AV.ptr 0 0 0 0, AV.row 1 0, AV.int IntKind.i64 0] [{ elems := [AV.agg [AV.vec fl 2 (List.map G2.a gs), AV.vnil, AV.int IntKind.i64 0]], es := 3, ver := 0, frozen := false, clean := false }, { elems := [AV.int IntKind.i64 0], es := 1, ver := 0, frozen := false, clean := true }]) (AV.tup []) [{ elems := [AV.agg [AV.vec fl 2 (List.map G2.a gs), AV.vec rb 1 (AV.int IntKind.i64 r0 :: List.map (AV.int IntKind.i64) rt), AV.int IntKind.i64 rl]], es := 3, ver := 0, frozen := false, clean := false }, { elems := [AV.int IntKind.i64 0], es := 1, ver := 0, frozen := rf, clean := true }]) ∧
        Weak (AV.tup [AV.vec rb 1 (AV.int IntKind.i64 r0 :: List.map (AV.int IntKind.i64) rt), AV.int IntKind.i64 rl, AV.int IntKind.i64 0]) dq))) :
  v22_at fl gs (PureQ dq) := by
  unfold v22_at
  have k1 := H.1; have H := H.2
  have i2 : (Sp.checkE gs 10 != 0) = true ↔ (¬Sp.checkE gs 10 = 0) := i_ne
  rcases Classical.em (¬Sp.checkE gs 10 = 0) with d3 | d3
  · have H := H.1 d3
    exact path_ret (G := given kp22 [(1, 1, .call (AV.int IntKind.i64 (Sp.checkE gs 10)) none)] []) 1000 [true] (k := ((atC (cd Try.f22) [1, 0, 1, 1, 0, 1])).tail) (env' := [(2, AV.vnil), (3, AV.int IntKind.i64 0), (4, AV.int IntKind.i64 (Sp.checkE gs 10))]) (L' := []) (asm := [(Sp.checkE gs 10 != 0) == true]) (eqs := []) (calls := [⟨true, false, 28, [AV.vec fl 2 (List.map G2.a gs), AV.int IntKind.i64 10], [], AV.int IntKind.i64 (Sp.checkE gs 10), []⟩]) (AV.tup [AV.vnil, AV.int IntKind.i64 0, AV.int IntKind.i64 (Sp.checkE gs 10)]) (by kernel_rfl) (by kernel_rfl) (allB_cons (beq_t (i2.2 d3)) allB_nil) allP_nil (allC_cons (fun _ => ((@ev28 (fl) (gs) (10) k1) : Ev M1 (Conf.pure 28 [AV.vec fl 2 (List.map G2.a gs), AV.int IntKind.i64 10]) (AV.int IntKind.i64 (Sp.checkE gs 10)) [])) allC_nil) (pq_weak (d := AV.tup [AV.vnil, AV.int IntKind.i64 0, AV.int IntKind.i64 (Sp.checkE gs 10)]) (bs := []) (by kernel_rfl) (by kernel_rfl) allB_nil (by kernel_rfl) H)
  · have H := H.2 d3
    have w4 : (List.map G2.a gs).length = gs.length := List.length_map ..
    have i5 : ((↑(List.map G2.a gs).length : Int) == 0) = true ↔ ((↑gs.length : Int) = 0) := (by rw [w4] <;> exact i_eq)
    rcases Classical.em ((↑gs.length : Int) = 0) with d6 | d6
    · have H := H.1 d6
      exact path_ret (G := given kp22 [(1, 1, .call (AV.int IntKind.i64 (Sp.checkE gs 10)) none)] []) 1000 [false, true] (k := ((atC (cd Try.f22) [1, 1, 0, 1, 0, 1])).tail) (env' := [(2, AV.vnil), (3, AV.int IntKind.i64 0), (4, AV.int IntKind.i64 0)]) (L' := []) (asm := [(Sp.checkE gs 10 != 0) == false, ((↑(List.map G2.a gs).length : Int) == 0) == true]) (eqs := []) (calls := [⟨true, false, 28, [AV.vec fl 2 (List.map G2.a gs), AV.int IntKind.i64 10], [], AV.int IntKind.i64 (Sp.checkE gs 10), []⟩]) (AV.tup [AV.vnil, AV.int IntKind.i64 0, AV.int IntKind.i64 0]) (by kernel_rfl) (by kernel_rfl) (allB_cons (beq_f (fun h => d3 (i2.1 h))) (allB_cons (beq_t (i5.2 d6)) allB_nil)) allP_nil (allC_cons (fun _ => ((@ev28 (fl) (gs) (10) k1) : Ev M1 (Conf.pure 28 [AV.vec fl 2 (List.map G2.a gs), AV.int IntKind.i64 10]) (AV.int IntKind.i64 (Sp.checkE gs 10)) [])) allC_nil) (pq_weak (d := AV.tup [AV.vnil, AV.int IntKind.i64 0, AV.int IntKind.i64 0]) (bs := []) (by kernel_rfl) (by kernel_rfl) allB_nil (by kernel_rfl) H)
    · have H := H.2 d6
      have k7 := H.1; have H := H.2
      exact path_ret (G := given kp22 [(1, 1, .call (AV.int IntKind.i64 (Sp.checkE gs 10)) none), (7, 1, .keep), (7, 2, (.call (.tup []) (some [⟨[.agg [.vec fl 2 (gs.map G2.a), .vec rb 1 ((r0 :: rt).map (.int .i64)), .int .i64 rl]], 3, 0, false, false⟩, ⟨[.int .i64 0], 1, 0, rf, true⟩]) : Ans))] []) 1000 [false, false] (k := ((atC (cd Try.f22) [1, 1, 1, 1, 1, 1])).tail) (env' := [(2, AV.vec rb 1 (AV.int IntKind.i64 r0 :: List.map (AV.int IntKind.i64) rt)), (3, AV.int IntKind.i64 rl), (4, AV.int IntKind.i64 0)]) (L' := [{ elems := [AV.agg [AV.vec fl 2 (List.map G2.a gs), AV.vec rb 1 (AV.int IntKind.i64 r0 :: List.map (AV.int IntKind.i64) rt), AV.int IntKind.i64 rl]], es := 3, ver := 0, frozen := false, clean := false }, { elems := [AV.int IntKind.i64 0], es := 1, ver := 0, frozen := rf, clean := true }]) (asm := [(Sp.checkE gs 10 != 0) == false, ((↑(List.map G2.a gs).length : Int) == 0) == false, true, true]) (eqs := []) (calls := [⟨true, false, 28, [AV.vec fl 2 (List.map G2.a gs), AV.int IntKind.i64 10], [], AV.int IntKind.i64 (Sp.checkE gs 10), []⟩, ⟨true, true, 38, [AV.ptr 0 0 0 0, AV.row 1 0, AV.int IntKind.i64 0], [{ elems := [AV.agg [AV.vec fl 2 (List.map G2.a gs), AV.vnil, AV.int IntKind.i64 0]], es := 3, ver := 0, frozen := false, clean := false }, { elems := [AV.int IntKind.i64 0], es := 1, ver := 0, frozen := false, clean := true }], AV.tup [], [{ elems := [AV.agg [AV.vec fl 2 (List.map G2.a gs), AV.vec rb 1 (AV.int IntKind.i64 r0 :: List.map (AV.int IntKind.i64) rt), AV.int IntKind.i64 rl]], es := 3, ver := 0, frozen := false, clean := false }, { elems := [AV.int IntKind.i64 0], es := 1, ver := 0, frozen := rf, clean := true }]⟩]) (AV.tup [AV.vec rb 1 (AV.int IntKind.i64 r0 :: List.map (AV.int IntKind.i64) rt), AV.int IntKind.i64 rl, AV.int IntKind.i64 0]) (by kernel_rfl) (by kernel_rfl) (allB_cons (beq_f (fun h => d3 (i2.1 h))) (allB_cons (beq_f (fun h => d6 (i5.1 h))) (allB_cons rfl (allB_cons rfl allB_nil)))) allP_nil (allC_cons (fun _ => ((@ev28 (fl) (gs) (10) k1) : Ev M1 (Conf.pure 28 [AV.vec fl 2 (List.map G2.a gs), AV.int IntKind.i64 10]) (AV.int IntKind.i64 (Sp.checkE gs 10)) [])) (allC_cons (fun _ => (k7 : Ev M1 (Conf.own 38 [AV.ptr 0 0 0 0, AV.row 1 0, AV.int IntKind.i64 0] [{ elems := [AV.agg [AV.vec fl 2 (List.map G2.a gs), AV.vnil, AV.int IntKind.i64 0]], es := 3, ver := 0, frozen := false, clean := false }, { elems := [AV.int IntKind.i64 0], es := 1, ver := 0, frozen := false, clean := true }]) (AV.tup []) [{ elems := [AV.agg [AV.vec fl 2 (List.map G2.a gs), AV.vec rb 1 (AV.int IntKind.i64 r0 :: List.map (AV.int IntKind.i64) rt), AV.int IntKind.i64 rl]], es := 3, ver := 0, frozen := false, clean := false }, { elems := [AV.int IntKind.i64 0], es := 1, ver := 0, frozen := rf, clean := true }])) allC_nil)) (pq_weak (d := AV.tup [AV.vec rb 1 (AV.int IntKind.i64 r0 :: List.map (AV.int IntKind.i64) rt), AV.int IntKind.i64 rl, AV.int IntKind.i64 0]) (bs := []) (by kernel_rfl) (by kernel_rfl) allB_nil (by kernel_rfl) H)

theorem v23 (fl : Bool) (gs : List G2)  (dq : AV) (H :
    (Sp.mOk 10) ∧
    ((¬Sp.checkE gs 10 = 0) → Weak (AV.tup [AV.vnil, AV.int IntKind.i64 0, AV.int IntKind.i64 (Sp.checkE gs 10)]) dq) ∧
    (¬(¬Sp.checkE gs 10 = 0) → (((↑gs.length : Int) = 0) → Weak (AV.tup [AV.vnil, AV.int IntKind.i64 0, AV.int IntKind.i64 0]) dq) ∧
      (¬((↑gs.length : Int) = 0) → ∃ (l1 : List (Int)),
        (Ev M1 (Conf.pure 39 [AV.vec fl 2 (List.map G2.a gs), AV.vec true 1 [AV.int IntKind.i64 0], AV.vnil]) (AV.vec false 1 (List.map (AV.int IntKind.i64) l1)) []) ∧
        (Sp.okG gs) ∧
        (Sp.okO gs l1) ∧
        (l1.length ≤ 1000) ∧
        Weak (AV.tup [AV.vec false 1 (List.map (AV.int IntKind.i64) l1), AV.int IntKind.i64 (Sp.way gs l1), AV.int IntKind.i64 0]) dq))) :
  v23_at fl gs (PureQ dq) := by
  unfold v23_at
  have k1 := H.1; have H := H.2
  have i2 : (Sp.checkE gs 10 != 0) = true ↔ (¬Sp.checkE gs 10 = 0) := i_ne
  rcases Classical.em (¬Sp.checkE gs 10 = 0) with d3 | d3
  · have H := H.1 d3
    exact path_ret (G := given kp23 [(1, 1, .call (AV.int IntKind.i64 (Sp.checkE gs 10)) none)] []) 1000 [true] (k := ((atC (cd Try.f23) [1, 0, 1, 1, 0, 1])).tail) (env' := [(2, AV.vnil), (3, AV.int IntKind.i64 0), (4, AV.int IntKind.i64 (Sp.checkE gs 10))]) (L' := []) (asm := [(Sp.checkE gs 10 != 0) == true]) (eqs := []) (calls := [⟨true, false, 31, [AV.vec fl 2 (List.map G2.a gs), AV.int IntKind.i64 10], [], AV.int IntKind.i64 (Sp.checkE gs 10), []⟩]) (AV.tup [AV.vnil, AV.int IntKind.i64 0, AV.int IntKind.i64 (Sp.checkE gs 10)]) (by kernel_rfl) (by kernel_rfl) (allB_cons (beq_t (i2.2 d3)) allB_nil) allP_nil (allC_cons (fun _ => ((@ev31 (fl) (gs) (10) k1) : Ev M1 (Conf.pure 31 [AV.vec fl 2 (List.map G2.a gs), AV.int IntKind.i64 10]) (AV.int IntKind.i64 (Sp.checkE gs 10)) [])) allC_nil) (pq_weak (d := AV.tup [AV.vnil, AV.int IntKind.i64 0, AV.int IntKind.i64 (Sp.checkE gs 10)]) (bs := []) (by kernel_rfl) (by kernel_rfl) allB_nil (by kernel_rfl) H)
  · have H := H.2 d3
    have w4 : (List.map G2.a gs).length = gs.length := List.length_map ..
    have i5 : ((↑(List.map G2.a gs).length : Int) == 0) = true ↔ ((↑gs.length : Int) = 0) := (by rw [w4] <;> exact i_eq)
    rcases Classical.em ((↑gs.length : Int) = 0) with d6 | d6
    · have H := H.1 d6
      exact path_ret (G := given kp23 [(1, 1, .call (AV.int IntKind.i64 (Sp.checkE gs 10)) none)] []) 1000 [false, true] (k := ((atC (cd Try.f23) [1, 1, 0, 1, 0, 1])).tail) (env' := [(2, AV.vnil), (3, AV.int IntKind.i64 0), (4, AV.int IntKind.i64 0)]) (L' := []) (asm := [(Sp.checkE gs 10 != 0) == false, ((↑(List.map G2.a gs).length : Int) == 0) == true]) (eqs := []) (calls := [⟨true, false, 31, [AV.vec fl 2 (List.map G2.a gs), AV.int IntKind.i64 10], [], AV.int IntKind.i64 (Sp.checkE gs 10), []⟩]) (AV.tup [AV.vnil, AV.int IntKind.i64 0, AV.int IntKind.i64 0]) (by kernel_rfl) (by kernel_rfl) (allB_cons (beq_f (fun h => d3 (i2.1 h))) (allB_cons (beq_t (i5.2 d6)) allB_nil)) allP_nil (allC_cons (fun _ => ((@ev31 (fl) (gs) (10) k1) : Ev M1 (Conf.pure 31 [AV.vec fl 2 (List.map G2.a gs), AV.int IntKind.i64 10]) (AV.int IntKind.i64 (Sp.checkE gs 10)) [])) allC_nil) (pq_weak (d := AV.tup [AV.vnil, AV.int IntKind.i64 0, AV.int IntKind.i64 0]) (bs := []) (by kernel_rfl) (by kernel_rfl) allB_nil (by kernel_rfl) H)
    · have H := H.2 d6
      obtain ⟨l1, H⟩ := H
      have k7 := H.1; have H := H.2
      have k8 := H.1; have H := H.2
      have k9 := H.1; have H := H.2
      have k10 := H.1; have H := H.2
      exact path_ret (G := given kp23 [(1, 1, .call (AV.int IntKind.i64 (Sp.checkE gs 10)) none), (6, 2, .call (AV.vec false 1 (List.map (AV.int IntKind.i64) l1)) none), (7, 3, .call (AV.int IntKind.i64 (Sp.way gs l1)) none)] []) 1000 [false, false] (k := ((atC (cd Try.f23) [1, 1, 1, 1, 1])).tail) (env' := [(2, AV.vec false 1 (List.map (AV.int IntKind.i64) l1)), (3, AV.int IntKind.i64 (Sp.way gs l1)), (4, AV.int IntKind.i64 0)]) (L' := []) (asm := [(Sp.checkE gs 10 != 0) == false, ((↑(List.map G2.a gs).length : Int) == 0) == false]) (eqs := []) (calls := [⟨true, false, 31, [AV.vec fl 2 (List.map G2.a gs), AV.int IntKind.i64 10], [], AV.int IntKind.i64 (Sp.checkE gs 10), []⟩, ⟨true, false, 39, [AV.vec fl 2 (List.map G2.a gs), AV.vec true 1 [AV.int IntKind.i64 0], AV.vnil], [], AV.vec false 1 (List.map (AV.int IntKind.i64) l1), []⟩, ⟨true, false, 33, [AV.vec fl 2 (List.map G2.a gs), AV.vec false 1 (List.map (AV.int IntKind.i64) l1)], [], AV.int IntKind.i64 (Sp.way gs l1), []⟩]) (AV.tup [AV.vec false 1 (List.map (AV.int IntKind.i64) l1), AV.int IntKind.i64 (Sp.way gs l1), AV.int IntKind.i64 0]) (by kernel_rfl) (by kernel_rfl) (allB_cons (beq_f (fun h => d3 (i2.1 h))) (allB_cons (beq_f (fun h => d6 (i5.1 h))) allB_nil)) allP_nil (allC_cons (fun _ => ((@ev31 (fl) (gs) (10) k1) : Ev M1 (Conf.pure 31 [AV.vec fl 2 (List.map G2.a gs), AV.int IntKind.i64 10]) (AV.int IntKind.i64 (Sp.checkE gs 10)) [])) (allC_cons (fun _ => (k7 : Ev M1 (Conf.pure 39 [AV.vec fl 2 (List.map G2.a gs), AV.vec true 1 [AV.int IntKind.i64 0], AV.vnil]) (AV.vec false 1 (List.map (AV.int IntKind.i64) l1)) [])) (allC_cons (fun _ => ((@ev33 (fl) (false) (gs) (l1) k8 k9 k10) : Ev M1 (Conf.pure 33 [AV.vec fl 2 (List.map G2.a gs), AV.vec false 1 (List.map (AV.int IntKind.i64) l1)]) (AV.int IntKind.i64 (Sp.way gs l1)) [])) allC_nil))) (pq_weak (d := AV.tup [AV.vec false 1 (List.map (AV.int IntKind.i64) l1), AV.int IntKind.i64 (Sp.way gs l1), AV.int IntKind.i64 0]) (bs := []) (by kernel_rfl) (by kernel_rfl) allB_nil (by kernel_rfl) H)


end Go.Av

/- WHAT Exact ANSWERS. -/
namespace Go.Av
open Go.Proofs

namespace Sp
/-- The first shortest order. -/
def exactL (gs : List G2) : List Int := if checkE gs 10 = 0 ∧ ¬gs.length = 0 then srch gs (gs.length - 1) [0] [] else []
end Sp

theorem weak_tup3 {a a' b c : AV} (h : Weak a a') : Weak (.tup [a, b, c]) (.tup [a', b, c]) := by
  refine .tup _ _ rfl fun i x y hx hy => ?_
  match i with
  | 0 => simp at hx hy; subst hx; subst hy; exact h
  | 1 => simp at hx hy; subst hx; subst hy; exact .refl _
  | 2 => simp at hx hy; subst hx; subst hy; exact .refl _
  | i + 3 => simp at hx

theorem begins0 {gs : List G2} (h : ¬gs.length = 0) : Sp.begins gs (gs.length - 1) [0] := ⟨by simp; omega, by simp, by simp; omega, by simp⟩
theorem exact_eq {gs : List G2} (h : Sp.checkE gs 10 = 0) (h0 : ¬gs.length = 0) : Sp.exactL gs = Sp.srch gs (gs.length - 1) [0] [] := if_pos ⟨h, h0⟩
theorem exact_ord {gs : List G2} (h : Sp.checkE gs 10 = 0) : IsOrd gs.length (Sp.exactL gs) := by
  by_cases h0 : gs.length = 0
  · have e : Sp.exactL gs = [] := if_neg (fun x => x.2 h0)
    rw [e, h0]; exact ⟨rfl, by simp, by simp, fun h => by omega⟩
  · rw [exact_eq h h0]
    exact srch_ord _ _ [] (begins0 h0) rfl (fun h => absurd rfl h) (srch_full _ _ (begins0 h0))
theorem exact_least {gs : List G2} (h : Sp.checkE gs 10 = 0) {o : List Int} (ho : IsOrd gs.length o) : Sp.way gs (Sp.exactL gs) ≤ Sp.way gs o := by
  have hg := (check_okG h).1
  have hl := ho.len
  by_cases h0 : gs.length = 0
  · have e : Sp.exactL gs = [] := if_neg (fun x => x.2 h0)
    have e2 : o = [] := List.length_eq_zero_iff.1 (by omega)
    rw [e, e2]; exact Int.le_refl _
  · rw [exact_eq h h0]
    cases o with
    | nil => simp at hl; omega
    | cons x o =>
      have hx : x = 0 := ho.zero (by omega)
      subst hx
      exact (srch_least hg _ [0] [] (begins0 h0)).2 o (by simp at hl; omega) (fun x hx => ho.rng x (List.mem_cons_of_mem _ hx)) ho.nod

theorem ev22 (fl : Bool) (gs : List G2) : Ev M1 (.pure 22 [gsA fl gs]) (.tup [isA false (Sp.exactL gs), .int .i64 (Sp.way gs (Sp.exactL gs)), .int .i64 (Sp.checkE gs 10)]) [] := by
  by_cases h : Sp.checkE gs 10 = 0
  · obtain ⟨hg, hl⟩ := check_okG h
    by_cases h0 : gs.length = 0
    · have e : Sp.exactL gs = [] := if_neg (fun x => x.2 h0)
      rw [e, h]
      exact call22 (v22 fl gs 0 0 [] false false _ ⟨by simp [Sp.mOk], fun k => absurd h k, fun _ => ⟨fun _ => weak_tup3 (.vnil 1), fun k => by omega⟩⟩)
    · obtain ⟨fb', fz, hE⟩ := (ext38 (fl := fl) hg (by omega) (gs.length - 1) [0] 0 (begins0 h0)).1 0
      have hne := srch_full _ _ (begins0 h0)
      rw [h, exact_eq h h0]
      have e2 : ∀ r : List Int, r ≠ [] → (AV.int .i64 (Sp.hd r) :: (Sp.tl r).map (.int .i64)) = r.map (.int .i64) := fun r hr => by rw [← List.map_cons, hd_tl hr]
      refine call22 (v22 fl gs (Sp.hd (Sp.srch gs (gs.length - 1) [0] [])) (Sp.way gs (Sp.srch gs (gs.length - 1) [0] [])) (Sp.tl (Sp.srch gs (gs.length - 1) [0] [])) fz fb' _ ⟨by simp [Sp.mOk], fun k => absurd h k, fun _ => ⟨fun k => by omega, fun _ => ⟨?_, ?_⟩⟩⟩)
      · rw [e2 _ hne]; exact hE
      · rw [e2 _ hne]
        refine weak_tup3 ?_
        cases fb' with
        | true => exact .full 1 _
        | false => exact .refl _
  · have e : Sp.exactL gs = [] := if_neg (fun x => h x.1)
    rw [e]
    exact call22 (v22 fl gs 0 0 [] false false _ ⟨by simp [Sp.mOk], fun _ => weak_tup3 (.vnil 1), fun k => absurd h k⟩)

theorem ev23 (fl : Bool) (gs : List G2) : Ev M1 (.pure 23 [gsA fl gs]) (.tup [isA false (Sp.exactL gs), .int .i64 (Sp.way gs (Sp.exactL gs)), .int .i64 (Sp.checkE gs 10)]) [] := by
  by_cases h : Sp.checkE gs 10 = 0
  · obtain ⟨hg, hl⟩ := check_okG h
    by_cases h0 : gs.length = 0
    · have e : Sp.exactL gs = [] := if_neg (fun x => x.2 h0)
      rw [e, h]
      exact call23 (v23 fl gs _ ⟨by simp [Sp.mOk], fun k => absurd h k, fun _ => ⟨fun _ => weak_tup3 (.vnil 1), fun k => by omega⟩⟩)
    · have ho := exact_ord h
      have hol := ho.len
      rw [h]
      refine call23 (v23 fl gs _ ⟨by simp [Sp.mOk], fun k => absurd h k, fun _ => ⟨fun k => by omega, fun _ => ⟨Sp.exactL gs, ?_, hg, ho.okO, by omega, .refl _⟩⟩⟩)
      rw [exact_eq h h0]
      exact (srch39 (fl := fl) hg (by omega) (gs.length - 1) true 0 [] rfl (begins0 h0)).1
  · have e : Sp.exactL gs = [] := if_neg (fun x => h x.1)
    rw [e]
    exact call23 (v23 fl gs _ ⟨by simp [Sp.mOk], fun _ => weak_tup3 (.vnil 1), fun k => absurd h k⟩)
end Go.Av

/- WHAT Improve AND Local ANSWER. -/
namespace Go.Av
open Go.Proofs

namespace Sp
def impJ (gs : List G2) (i : Nat) : Nat → Nat → List Int → Bool → List Int × Bool
  | 0, _, o, ag => (o, ag)
  | c + 1, j, o, ag => if gain gs o i j > 0 then impJ gs i c (j + 1) (rev o i j) true else impJ gs i c (j + 1) o ag
def impI (gs : List G2) : Nat → Nat → List Int → Bool → List Int × Bool
  | 0, _, o, ag => (o, ag)
  | c + 1, i, o, ag => impI gs c (i + 1) (impJ gs i (gs.length - (i + 1)) (i + 1) o ag).1 (impJ gs i (gs.length - (i + 1)) (i + 1) o ag).2
def imp (gs : List G2) : Nat → List Int → List Int
  | 0, o => o
  | f + 1, o => if (impI gs (gs.length - 1) 1 o false).2 = true then imp gs f (impI gs (gs.length - 1) 1 o false).1 else (impI gs (gs.length - 1) 1 o false).1
/-- The order that Improve returns. -/
def improve (gs : List G2) (o : List Int) : List Int := if lengthE gs o = 0 then imp gs ((way gs o).toNat + 1) o else []
/-- No reversal shortens it. -/
def local_ (gs : List G2) (o : List Int) : Prop := ∀ i j : Nat, 1 ≤ i → i < j → j < gs.length → gain gs o i j ≤ 0
end Sp

/-- What some steps have done. -/
structure ImpF (gs : List G2) (o : List Int) (ag : Bool) (r : List Int × Bool) (P : Nat → Nat → Prop) : Prop where
  ord : IsOrd gs.length r.1
  le : Sp.way gs r.1 ≤ Sp.way gs o
  yes : r.2 = true → ag = true ∨ Sp.way gs r.1 < Sp.way gs o
  no : r.2 = false → ag = false ∧ r.1 = o ∧ ∀ i j, P i j → Sp.gain gs o i j ≤ 0

theorem impJ_facts {gs : List G2} {i : Nat} (hi : 1 ≤ i) : ∀ (c j : Nat) (o : List Int) (ag : Bool), IsOrd gs.length o → i < j → j + c ≤ gs.length → ImpF gs o ag (Sp.impJ gs i c j o ag) (fun i' j' => i' = i ∧ j ≤ j' ∧ j' < j + c)
  | 0, j, o, ag, h, _, _ => ⟨h, Int.le_refl _, fun k => .inl k, fun k => ⟨k, rfl, fun i' j' hp => by omega⟩⟩
  | c + 1, j, o, ag, h, hij, hj => by
    have hl := h.len
    rw [Sp.impJ]
    split
    · rename_i hg
      have hw := rev_way gs hi hij (show j < o.length by omega)
      obtain ⟨f1, f2, f3, f4⟩ := impJ_facts hi c (j + 1) (Sp.rev o i j) true (rev_ord h hi (by omega) (by omega)) (by omega) (by omega)
      refine ⟨f1, by omega, fun _ => .inr (by omega), fun k => ?_⟩
      have := (f4 k).1
      simp at this
    · rename_i hg
      obtain ⟨f1, f2, f3, f4⟩ := impJ_facts hi c (j + 1) o ag h (by omega) (by omega)
      refine ⟨f1, f2, f3, fun k => ?_⟩
      obtain ⟨k1, k2, k3⟩ := f4 k
      refine ⟨k1, k2, fun i' j' hp => ?_⟩
      obtain ⟨rfl, h1, h2⟩ := hp
      by_cases he : j' = j
      · subst he; omega
      · exact k3 _ j' ⟨rfl, by omega, by omega⟩

theorem impI_facts {gs : List G2} : ∀ (c i : Nat) (o : List Int) (ag : Bool), IsOrd gs.length o → 1 ≤ i → i + c ≤ gs.length ∨ c = 0 → ImpF gs o ag (Sp.impI gs c i o ag) (fun i' j' => i ≤ i' ∧ i' < i + c ∧ i' < j' ∧ j' < gs.length)
  | 0, i, o, ag, h, _, _ => ⟨h, Int.le_refl _, fun k => .inl k, fun k => ⟨k, rfl, fun i' j' hp => by omega⟩⟩
  | c + 1, i, o, ag, h, hi, hc => by
    rw [Sp.impI]
    obtain ⟨g1, g2, g3, g4⟩ := impJ_facts hi (gs.length - (i + 1)) (i + 1) o ag h (by omega) (by omega)
    generalize Sp.impJ gs i (gs.length - (i + 1)) (i + 1) o ag = r at g1 g2 g3 g4
    obtain ⟨f1, f2, f3, f4⟩ := impI_facts c (i + 1) r.1 r.2 g1 (by omega) (by omega)
    refine ⟨f1, by omega, fun k => ?_, fun k => ?_⟩
    · rcases f3 k with k1 | k1
      · rcases g3 k1 with k2 | k2
        · exact .inl k2
        · exact .inr (by omega)
      · exact .inr (by omega)
    · obtain ⟨k1, k2, k3⟩ := f4 k
      obtain ⟨m1, m2, m3⟩ := g4 k1
      refine ⟨m1, by rw [k2, m2], fun i' j' hp => ?_⟩
      by_cases he : i' = i
      · exact m3 i' j' ⟨he, by omega, by omega⟩
      · rw [m2] at k3
        exact k3 i' j' (by omega)

theorem imp_facts {gs : List G2} (hg : Sp.okG gs) : ∀ (f : Nat) (o : List Int), IsOrd gs.length o → Sp.way gs o < f → IsOrd gs.length (Sp.imp gs f o) ∧ Sp.way gs (Sp.imp gs f o) ≤ Sp.way gs o ∧ Sp.local_ gs (Sp.imp gs f o)
  | 0, o, h, hf => by have := (way_le hg o).1; omega
  | f + 1, o, h, hf => by
    rw [Sp.imp]
    obtain ⟨f1, f2, f3, f4⟩ := impI_facts (gs.length - 1) 1 o false h (by omega) (by omega)
    generalize Sp.impI gs (gs.length - 1) 1 o false = r at f1 f2 f3 f4
    split
    · rename_i hr
      have hlt := f3 hr
      simp at hlt
      obtain ⟨k1, k2, k3⟩ := imp_facts hg f r.1 f1 (by omega)
      exact ⟨k1, by omega, k3⟩
    · rename_i hr
      obtain ⟨k1, k2, k3⟩ := f4 (by simpa using hr)
      refine ⟨f1, f2, fun i j h1 h2 h3 => ?_⟩
      rw [k2]; exact k3 i j (by omega)

theorem loop26c {fl : Bool} {gs : List G2} {v : Nat} {i : Nat} {dq : AV} (hg : Sp.okG gs) (hl : gs.length ≤ 200) (hi : 1 ≤ i) :
    ∀ (c j : Nat) (o : List Int) (ag : Bool), IsOrd gs.length o → i < j → j + c = gs.length → v26b_at fl gs (Sp.impJ gs i c j o ag).1 v (Sp.impJ gs i c j o ag).2 ((i : Int) + 1) (PureQ dq) → v26c_at fl gs o v ag i j (PureQ dq)
  | 0, j, o, ag, h, hij, hj, hq => by
    have hol := h.len
    exact v26c _ _ _ _ _ _ _ _ ⟨fun k => by omega, fun _ => ⟨by omega, hq⟩⟩
  | c + 1, j, o, ag, h, hij, hj, hq => by
    have hol := h.len
    rw [Sp.impJ] at hq
    refine v26c _ _ _ _ _ _ _ _ ⟨fun _ => ⟨⟨hg, h.okO, by omega, by omega, by omega, by omega⟩, ?_⟩, fun k => by omega⟩
    rw [Int.toNat_natCast, Int.toNat_natCast]
    refine ⟨fun k => ⟨by omega, ⟨by omega, by omega, by omega⟩, by omega, by omega, by omega, by omega, ?_⟩, fun k => ⟨by omega, ?_⟩⟩
    · rw [if_pos k] at hq
      have e : i + (((j : Int) + 1).toNat - i - 1) = j := by omega
      rw [e]
      exact loop26c hg hl hi c (j + 1) _ true (rev_ord h hi (by omega) (by omega)) (by omega) (by omega) hq
    · rw [if_neg k] at hq
      exact loop26c hg hl hi c (j + 1) o ag h (by omega) (by omega) hq

theorem loop26b {fl : Bool} {gs : List G2} {v : Nat} {dq : AV} (hg : Sp.okG gs) (hl : gs.length ≤ 200) :
    ∀ (c i : Nat) (o : List Int) (ag : Bool), IsOrd gs.length o → 1 ≤ i → (i + c = gs.length ∨ (c = 0 ∧ gs.length ≤ i)) → (∀ k b, v26d_at fl gs (Sp.impI gs c i o ag).1 v (Sp.impI gs c i o ag).2 k b (PureQ dq)) → v26b_at fl gs o v ag i (PureQ dq)
  | 0, i, o, ag, h, hi, hc, hq => by
    have hol := h.len
    exact v26b _ _ _ _ _ _ _ ⟨fun k => by omega, fun _ => hq _ _⟩
  | c + 1, i, o, ag, h, hi, hc, hq => by
    have hol := h.len
    rw [Sp.impI] at hq
    have hf := impJ_facts hi (gs.length - (i + 1)) (i + 1) o ag h (by omega) (by omega)
    refine v26b _ _ _ _ _ _ _ ⟨fun _ => ⟨by omega, ?_⟩, fun k => by omega⟩
    exact loop26c hg hl hi (gs.length - (i + 1)) (i + 1) o ag h (by omega) (by omega) (loop26b hg hl c (i + 1) _ _ hf.ord (by omega) (by omega) hq)

theorem loop26 {fl : Bool} {gs : List G2} {v : Nat} {dq : AV} (hg : Sp.okG gs) (hl : gs.length ≤ 200) :
    ∀ (f : Nat) (o : List Int), IsOrd gs.length o → Sp.way gs o < f → AV.tup [isA false (Sp.imp gs f o), .int .i64 0] = dq → v26b_at fl gs o v false 1 (PureQ dq)
  | 0, o, h, hf, hq => by have := (way_le hg o).1; omega
  | f + 1, o, h, hf, hq => by
    rw [Sp.imp] at hq
    have hF := impI_facts (gs.length - 1) 1 o false h (by omega) (by omega)
    refine loop26b hg hl (gs.length - 1) 1 o false h (by omega) (by omega) fun k b => v26d _ _ _ _ _ _ _ _ ⟨fun hr => ?_, fun hr => ?_⟩
    · rw [if_pos hr] at hq
      have hlt := hF.yes hr
      simp at hlt
      exact loop26 hg hl f _ hF.ord (by omega) hq
    · rw [if_neg hr] at hq
      rw [← hq]; exact .refl _

theorem weak_tup2 {a a' b : AV} (h : Weak a a') : Weak (.tup [a, b]) (.tup [a', b]) := by
  refine .tup _ _ rfl fun i x y hx hy => ?_
  match i with
  | 0 => simp at hx hy; subst hx; subst hy; exact h
  | 1 => simp at hx hy; subst hx; subst hy; exact .refl _
  | i + 2 => simp at hx

theorem ev26 (fl fm : Bool) (gs : List G2) (o : List Int) : Ev M1 (.pure 26 [gsA fl gs, isA fm o]) (.tup [isA false (Sp.improve gs o), .int .i64 (Sp.lengthE gs o)]) [] := by
  by_cases hc : Sp.checkE gs 200 = 0
  · obtain ⟨hg, hl⟩ := check_okG hc
    by_cases ho : Sp.isOrd o gs.length = true
    · have e : Sp.lengthE gs o = 0 := by rw [Sp.lengthE, if_pos hc, if_pos ho]
      have hO := ord_of ho
      have hol := hO.len
      have ei : Sp.improve gs o = Sp.imp gs ((Sp.way gs o).toNat + 1) o := if_pos e
      rw [e, ei]
      cases o with
      | nil =>
        have h0 : gs.length = 0 := by simpa using hol.symm
        have e2 : Sp.imp gs ((Sp.way gs []).toNat + 1) [] = [] := by
          rw [Sp.imp, h0]; rfl
        rw [e2]
        refine call26 (v26n fl fm gs _ ⟨by simp [Sp.mOk], fun k => absurd hc k, fun _ => ⟨_, ev29 fm [] gs.length (by omega), fun k => absurd ho k, fun _ => ⟨[], ev41 fm [] (by simp), ?_⟩⟩⟩)
        refine v26x fl gs true _ ⟨fun _ => v26y fl gs false _ (v26z fl gs false 1 false _ ⟨fun k => by simp at k, fun _ => .refl _⟩), fun k => by simp at k⟩
      | cons y o =>
        refine call26 (v26 fl fm gs (y :: o) _ ⟨by simp [Sp.mOk], fun k => absurd hc k, fun _ => ⟨by omega, fun k => absurd ho k, fun _ => ⟨⟨by omega, by simp⟩, ?_⟩⟩⟩)
        have hw := (way_le hg (y :: o)).1
        exact v26a _ _ _ _ _ _ ⟨fun _ => loop26 hg (by omega) _ _ hO (by omega) rfl, fun k => by simp at k⟩
    · have e : Sp.lengthE gs o = 1 := by rw [Sp.lengthE, if_pos hc, if_neg ho]
      have ei : Sp.improve gs o = [] := if_neg (by omega)
      rw [e, ei]
      cases o with
      | nil => exact call26 (v26n fl fm gs _ ⟨by simp [Sp.mOk], fun k => absurd hc k, fun _ => ⟨_, ev29 fm [] gs.length (by omega), fun _ => weak_tup2 (.vnil 1), fun k => absurd (Classical.not_not.1 k) ho⟩⟩)
      | cons y o => exact call26 (v26 fl fm gs (y :: o) _ ⟨by simp [Sp.mOk], fun k => absurd hc k, fun _ => ⟨by omega, fun _ => weak_tup2 (.vnil 1), fun k => absurd (Classical.not_not.1 k) ho⟩⟩)
  · have e : Sp.lengthE gs o = Sp.checkE gs 200 := if_neg hc
    have ei : Sp.improve gs o = [] := if_neg (by omega)
    rw [e, ei]
    cases o with
    | nil => exact call26 (v26n fl fm gs _ ⟨by simp [Sp.mOk], fun _ => weak_tup2 (.vnil 1), fun k => absurd hc k⟩)
    | cons y o => exact call26 (v26 fl fm gs (y :: o) _ ⟨by simp [Sp.mOk], fun _ => weak_tup2 (.vnil 1), fun k => absurd hc k⟩)

theorem loop27b {fl fm : Bool} {gs : List G2} {o : List Int} {i : Nat} {dq : AV} (hg : Sp.okG gs) (hl : gs.length ≤ 1000) (hO : IsOrd gs.length o) (hL : Sp.local_ gs o) (hi : 1 ≤ i) (hq : v27a_at fl fm gs o (Sp.way gs o) ((i : Int) + 1) (PureQ dq)) :
    ∀ (c j : Nat), i < j → j + c = gs.length → v27b_at fl fm gs o (Sp.way gs o) i j (PureQ dq)
  | 0, j, hij, hj => by
    have hol := hO.len
    exact v27b _ _ _ _ _ _ _ _ ⟨fun k => by omega, fun _ => ⟨by omega, hq⟩⟩
  | c + 1, j, hij, hj => by
    have hol := hO.len
    have hR := rev_ord hO hi (show i ≤ j + 1 by omega) (show j < gs.length by omega)
    refine v27b _ _ _ _ _ _ _ _ ⟨fun _ => ?_, fun k => by omega⟩
    rw [Int.toNat_natCast, Int.toNat_natCast]
    have hw := rev_way gs hi hij (show j < o.length by omega)
    have hl2 := hL i j hi hij (by omega)
    refine ⟨by omega, hg, hR.okO, by have := hR.len; omega, fun k => by omega, fun k => ⟨by omega, ?_⟩⟩
    exact loop27b hg hl hO hL hi hq c (j + 1) (by omega) (by omega)

theorem loop27a {fl fm : Bool} {gs : List G2} {o : List Int} (hg : Sp.okG gs) (hl : gs.length ≤ 1000) (hO : IsOrd gs.length o) (hL : Sp.local_ gs o) :
    ∀ (c i : Nat), 1 ≤ i → (i + c = gs.length ∨ (c = 0 ∧ gs.length ≤ i)) → v27a_at fl fm gs o (Sp.way gs o) i (PureQ (.bool true))
  | 0, i, hi, hc => by
    have hol := hO.len
    exact v27a _ _ _ _ _ _ _ ⟨fun k => by omega, fun _ => rfl⟩
  | c + 1, i, hi, hc => by
    have hol := hO.len
    refine v27a _ _ _ _ _ _ _ ⟨fun _ => ⟨by omega, ?_⟩, fun k => by omega⟩
    exact loop27b hg hl hO hL hi (loop27a hg hl hO hL c (i + 1) (by omega) (by omega)) (gs.length - (i + 1)) (i + 1) (by omega) (by omega)

theorem ev27 (fl fm : Bool) (gs : List G2) (o : List Int) (h : Sp.okG gs ∧ gs.length ≤ 1000 ∧ IsOrd gs.length o ∧ Sp.local_ gs o) : Ev M1 (.pure 27 [gsA fl gs, isA fm o]) (.bool true) [] := by
  obtain ⟨hg, hl, hO, hL⟩ := h
  have hol := hO.len
  exact call27 (v27 fl fm gs o _ ⟨hg, hO.okO, by omega, loop27a hg hl hO hL (gs.length - 1) 1 (by omega) (by omega)⟩)

theorem improve_facts {gs : List G2} {o : List Int} (h : Sp.lengthE gs o = 0) : Sp.okG gs ∧ gs.length ≤ 200 ∧ IsOrd gs.length o ∧ IsOrd gs.length (Sp.improve gs o) ∧ Sp.way gs (Sp.improve gs o) ≤ Sp.way gs o ∧ Sp.local_ gs (Sp.improve gs o) := by
  have ei : Sp.improve gs o = Sp.imp gs ((Sp.way gs o).toNat + 1) o := if_pos h
  unfold Sp.lengthE at h
  split at h
  · rename_i hc
    split at h
    · rename_i ho
      obtain ⟨hg, hl⟩ := check_okG hc
      have hO := ord_of ho
      have hw := (way_le hg o).1
      obtain ⟨k1, k2, k3⟩ := imp_facts hg ((Sp.way gs o).toNat + 1) o hO (by omega)
      rw [ei]
      exact ⟨hg, by omega, hO, k1, k2, k3⟩
    · simp at h
  · rename_i hc; exact absurd h hc
end Go.Av

/- PATHS, written by a program of the prover's. -/
namespace Go.Av
open Go.Proofs
set_option maxRecDepth 100000
def fi8 : Fi := ⟨87, [.tmp 4]⟩
def kp8 : List (Nat × List Nat) := [(0, [0, 1]), (1, [0, 1, 34]), (2, [4]), (3, [0, 1, 5, 6]), (4, [0, 1, 5, 6, 48]), (5, [4]), (6, [0, 5, 6, 7, 8]), (7, [0, 5, 6, 7, 8, 56]), (8, [4]), (9, [0, 5, 7, 8, 9, 10]), (10, [4])]
def fi9 : Fi := ⟨71, [.tmp 2]⟩
def kp9 : List (Nat × List Nat) := [(0, [0]), (1, [0, 19]), (2, [2]), (3, [0, 3]), (4, [0, 3, 4, 5]), (5, [0, 3, 4, 5, 7, 8]), (6, [0, 3, 5, 7, 8, 9, 10]), (7, [5, 7, 8, 9, 10, 11, 12]), (8, [2])]
def v8_at (fl fm : Bool) (gs : List G2) (o : List Int) (Q : AV → Heap → Prop) : Prop := Wp M1 (.run fi8 (atC (cd Try.f8) []) [(0, .vec fl 2 (gs.map G2.a)), (1, .vec fm 1 (o.map (.int .i64)))] []) Q
def v9_at (fl : Bool) (gs : List G2) (Q : AV → Heap → Prop) : Prop := Wp M1 (.run fi9 (atC (cd Try.f9) []) [(0, .vec fl 2 (gs.map G2.a))] []) Q
theorem call8 {args : List AV} {d : AV} (h : Wp M1 (.run fi8 [.code (cd Try.f8)] (argVars 0 args) []) (PureQ d)) : Ev M1 (.pure 8 args) d [] :=
  pure_pq Try.f8 fi8 (by kernel_rfl) (by kernel_rfl) (by kernel_rfl) (by kernel_rfl) h
theorem owncall8 {args : List AV} {L : Heap} {Q : AV → Heap → Prop} (h : Wp M1 (.run fi8 [.code (cd Try.f8)] (argVars 0 args) L) Q) : Wp M1 (.own 8 args L) Q :=
  own_wp Try.f8 fi8 (by kernel_rfl) (by kernel_rfl) (by kernel_rfl) (by kernel_rfl) h
theorem keepcall8 {args : List AV} {L : Heap} {v : AV} {K : Heap} (hk : keepOk L.length v K = true) (h : Wp M1 (.run fi8 [.code (cd Try.f8)] (argVars 0 args) L) (KeepQ v K)) : Ev M1 (.own 8 args L) v K :=
  own_keep Try.f8 fi8 (by kernel_rfl) (by kernel_rfl) (by kernel_rfl) (by kernel_rfl) hk h
theorem call9 {args : List AV} {d : AV} (h : Wp M1 (.run fi9 [.code (cd Try.f9)] (argVars 0 args) []) (PureQ d)) : Ev M1 (.pure 9 args) d [] :=
  pure_pq Try.f9 fi9 (by kernel_rfl) (by kernel_rfl) (by kernel_rfl) (by kernel_rfl) h
theorem owncall9 {args : List AV} {L : Heap} {Q : AV → Heap → Prop} (h : Wp M1 (.run fi9 [.code (cd Try.f9)] (argVars 0 args) L) Q) : Wp M1 (.own 9 args L) Q :=
  own_wp Try.f9 fi9 (by kernel_rfl) (by kernel_rfl) (by kernel_rfl) (by kernel_rfl) h
theorem keepcall9 {args : List AV} {L : Heap} {v : AV} {K : Heap} (hk : keepOk L.length v K = true) (h : Wp M1 (.run fi9 [.code (cd Try.f9)] (argVars 0 args) L) (KeepQ v K)) : Ev M1 (.own 9 args L) v K :=
  own_keep Try.f9 fi9 (by kernel_rfl) (by kernel_rfl) (by kernel_rfl) (by kernel_rfl) hk h
theorem v8 (fl fm : Bool) (gs : List G2) (o : List Int)  (dq : AV) (H :
    ((((¬(((↑gs.length : Int) ≤ 12) ∨ (((↑gs.length : Int) > 199) ∧ ((↑gs.length : Int) < 203)))) ∨ ((↑o.length : Int) > 205)) ∨ (((↑gs.length : Int) > 200) ∧ (¬(↑o.length : Int) = (↑gs.length : Int)))) → AV.bool true = dq) ∧
    (¬(((¬(((↑gs.length : Int) ≤ 12) ∨ (((↑gs.length : Int) > 199) ∧ ((↑gs.length : Int) < 203)))) ∨ ((↑o.length : Int) > 205)) ∨ (((↑gs.length : Int) > 200) ∧ (¬(↑o.length : Int) = (↑gs.length : Int)))) → ((((↑gs.length : Int) > 12) ∧ (Sp.lengthE gs o = 0)) → AV.bool true = dq) ∧
      (¬(((↑gs.length : Int) > 12) ∧ (Sp.lengthE gs o = 0)) → ((¬Sp.lengthE gs o = 0) → AV.bool (bif Sp.lengthE gs o == Sp.lengthE gs o then (↑(Sp.improve gs o).length : Int) == 0 else false) = dq) ∧
        (¬(¬Sp.lengthE gs o = 0) → ((((Sp.lengthE gs o = 0) ∧ (Sp.lengthE gs (Sp.improve gs o) = 0)) ∧ (Sp.lengthV gs (Sp.improve gs o) ≤ Sp.lengthV gs o)) → (Sp.okG gs ∧ gs.length ≤ 1000 ∧ IsOrd gs.length (Sp.improve gs o) ∧ Sp.local_ gs (Sp.improve gs o))) ∧
          AV.bool (bif bif bif Sp.lengthE gs o == 0 then Sp.lengthE gs (Sp.improve gs o) == 0 else false then decide (Sp.lengthV gs (Sp.improve gs o) ≤ Sp.lengthV gs o) else false then true else false) = dq)))) :
  v8_at fl fm gs o (PureQ dq) := by
  unfold v8_at
  have w1 : (List.map (AV.int IntKind.i64) o).length = o.length := List.length_map ..
  have w2 : (List.map G2.a gs).length = gs.length := List.length_map ..
  have i3 : (bif bif !bif decide ((↑gs.length : Int) ≤ 12) then true else bif decide ((↑gs.length : Int) > 199) then decide ((↑gs.length : Int) < 203) else false then true else decide ((↑(List.map (AV.int IntKind.i64) o).length : Int) > 205) then true else bif decide ((↑(List.map G2.a gs).length : Int) > 200) then (↑(List.map (AV.int IntKind.i64) o).length : Int) != (↑(List.map G2.a gs).length : Int) else false) = true ↔ (((¬(((↑gs.length : Int) ≤ 12) ∨ (((↑gs.length : Int) > 199) ∧ ((↑gs.length : Int) < 203)))) ∨ ((↑o.length : Int) > 205)) ∨ (((↑gs.length : Int) > 200) ∧ (¬(↑o.length : Int) = (↑gs.length : Int)))) := (by rw [w1, w2] <;> exact (i_bor (i_bor (i_not (i_bor i_dec (i_band i_dec i_dec))) i_dec) (i_band i_dec i_ne)))
  rcases Classical.em (((¬(((↑gs.length : Int) ≤ 12) ∨ (((↑gs.length : Int) > 199) ∧ ((↑gs.length : Int) < 203)))) ∨ ((↑o.length : Int) > 205)) ∨ (((↑gs.length : Int) > 200) ∧ (¬(↑o.length : Int) = (↑gs.length : Int)))) with d4 | d4
  · have H := H.1 d4
    exact path_ret (G := given kp8 [(1, 0, .call (AV.bool true) none), (1, 4, .call (AV.bool (bif decide ((↑gs.length : Int) ≤ 12) then true else bif decide ((↑gs.length : Int) > 199) then decide ((↑gs.length : Int) < 203) else false)) none), (2, 0, .call (AV.bool true) none)] []) 1000 [true] (k := ((atC (cd Try.f8) [1, 0, 1, 0, 1])).tail) (env' := [(4, AV.bool true)]) (L' := []) (asm := [(bif bif !bif decide ((↑gs.length : Int) ≤ 12) then true else bif decide ((↑gs.length : Int) > 199) then decide ((↑gs.length : Int) < 203) else false then true else decide ((↑(List.map (AV.int IntKind.i64) o).length : Int) > 205) then true else bif decide ((↑(List.map G2.a gs).length : Int) > 200) then (↑(List.map (AV.int IntKind.i64) o).length : Int) != (↑(List.map G2.a gs).length : Int) else false) == true]) (eqs := []) (calls := [⟨true, false, 10, [], [], AV.bool true, []⟩, ⟨true, false, 11, [AV.vec fl 2 (List.map G2.a gs), AV.int IntKind.i64 12], [], AV.bool (bif decide ((↑gs.length : Int) ≤ 12) then true else bif decide ((↑gs.length : Int) > 199) then decide ((↑gs.length : Int) < 203) else false), []⟩, ⟨true, false, 10, [], [], AV.bool true, []⟩]) (AV.bool true) (by kernel_rfl) (by kernel_rfl) (allB_cons (beq_t (i3.2 d4)) allB_nil) allP_nil (allC_cons (fun _ => ((@ev10 ) : Ev M1 (Conf.pure 10 []) (AV.bool true) [])) (allC_cons (fun _ => ((@ev11 (fl) (gs) (12)) : Ev M1 (Conf.pure 11 [AV.vec fl 2 (List.map G2.a gs), AV.int IntKind.i64 12]) (AV.bool (bif decide ((↑gs.length : Int) ≤ 12) then true else bif decide ((↑gs.length : Int) > 199) then decide ((↑gs.length : Int) < 203) else false)) [])) (allC_cons (fun _ => ((@ev10 ) : Ev M1 (Conf.pure 10 []) (AV.bool true) [])) allC_nil))) (pq_of (d := AV.bool true) (bs := []) (by kernel_rfl) (by kernel_rfl) allB_nil (by kernel_rfl) H)
  · have H := H.2 d4
    have i5 : (bif decide ((↑(List.map G2.a gs).length : Int) > 12) then Sp.lengthE gs o == 0 else false) = true ↔ (((↑gs.length : Int) > 12) ∧ (Sp.lengthE gs o = 0)) := (by rw [w2] <;> exact (i_band i_dec i_eq))
    rcases Classical.em (((↑gs.length : Int) > 12) ∧ (Sp.lengthE gs o = 0)) with d6 | d6
    · have H := H.1 d6
      exact path_ret (G := given kp8 [(1, 0, .call (AV.bool true) none), (1, 4, .call (AV.bool (bif decide ((↑gs.length : Int) ≤ 12) then true else bif decide ((↑gs.length : Int) > 199) then decide ((↑gs.length : Int) < 203) else false)) none), (3, 2, .call (AV.tup [AV.int IntKind.i64 (Sp.lengthV gs o), AV.int IntKind.i64 (Sp.lengthE gs o)]) none)] []) 1000 [false, true] (k := ((atC (cd Try.f8) [1, 1, 1, 0, 1, 0, 1])).tail) (env' := [(4, AV.bool true)]) (L' := []) (asm := [(bif bif !bif decide ((↑gs.length : Int) ≤ 12) then true else bif decide ((↑gs.length : Int) > 199) then decide ((↑gs.length : Int) < 203) else false then true else decide ((↑(List.map (AV.int IntKind.i64) o).length : Int) > 205) then true else bif decide ((↑(List.map G2.a gs).length : Int) > 200) then (↑(List.map (AV.int IntKind.i64) o).length : Int) != (↑(List.map G2.a gs).length : Int) else false) == false, (bif decide ((↑(List.map G2.a gs).length : Int) > 12) then Sp.lengthE gs o == 0 else false) == true]) (eqs := []) (calls := [⟨true, false, 10, [], [], AV.bool true, []⟩, ⟨true, false, 11, [AV.vec fl 2 (List.map G2.a gs), AV.int IntKind.i64 12], [], AV.bool (bif decide ((↑gs.length : Int) ≤ 12) then true else bif decide ((↑gs.length : Int) > 199) then decide ((↑gs.length : Int) < 203) else false), []⟩, ⟨true, false, 13, [AV.vec fl 2 (List.map G2.a gs), AV.vec fm 1 (List.map (AV.int IntKind.i64) o)], [], AV.tup [AV.int IntKind.i64 (Sp.lengthV gs o), AV.int IntKind.i64 (Sp.lengthE gs o)], []⟩]) (AV.bool true) (by kernel_rfl) (by kernel_rfl) (allB_cons (beq_f (fun h => d4 (i3.1 h))) (allB_cons (beq_t (i5.2 d6)) allB_nil)) allP_nil (allC_cons (fun _ => ((@ev10 ) : Ev M1 (Conf.pure 10 []) (AV.bool true) [])) (allC_cons (fun _ => ((@ev11 (fl) (gs) (12)) : Ev M1 (Conf.pure 11 [AV.vec fl 2 (List.map G2.a gs), AV.int IntKind.i64 12]) (AV.bool (bif decide ((↑gs.length : Int) ≤ 12) then true else bif decide ((↑gs.length : Int) > 199) then decide ((↑gs.length : Int) < 203) else false)) [])) (allC_cons (fun _ => ((@ev13 (fl) (fm) (gs) (o)) : Ev M1 (Conf.pure 13 [AV.vec fl 2 (List.map G2.a gs), AV.vec fm 1 (List.map (AV.int IntKind.i64) o)]) (AV.tup [AV.int IntKind.i64 (Sp.lengthV gs o), AV.int IntKind.i64 (Sp.lengthE gs o)]) [])) allC_nil))) (pq_of (d := AV.bool true) (bs := []) (by kernel_rfl) (by kernel_rfl) allB_nil (by kernel_rfl) H)
    · have H := H.2 d6
      have i7 : (Sp.lengthE gs o != 0) = true ↔ (¬Sp.lengthE gs o = 0) := i_ne
      rcases Classical.em (¬Sp.lengthE gs o = 0) with d8 | d8
      · have H := H.1 d8
        have w9 : (List.map (AV.int IntKind.i64) (Sp.improve gs o)).length = (Sp.improve gs o).length := List.length_map ..
        exact path_ret (G := given kp8 [(1, 0, .call (AV.bool true) none), (1, 4, .call (AV.bool (bif decide ((↑gs.length : Int) ≤ 12) then true else bif decide ((↑gs.length : Int) > 199) then decide ((↑gs.length : Int) < 203) else false)) none), (3, 2, .call (AV.tup [AV.int IntKind.i64 (Sp.lengthV gs o), AV.int IntKind.i64 (Sp.lengthE gs o)]) none), (6, 2, .call (AV.tup [AV.vec false 1 (List.map (AV.int IntKind.i64) (Sp.improve gs o)), AV.int IntKind.i64 (Sp.lengthE gs o)]) none)] []) 1000 [false, false, true] (k := ((atC (cd Try.f8) [1, 1, 1, 1, 1, 0, 1, 0, 1])).tail) (env' := [(4, AV.bool (bif Sp.lengthE gs o == Sp.lengthE gs o then (↑(List.map (AV.int IntKind.i64) (Sp.improve gs o)).length : Int) == 0 else false))]) (L' := []) (asm := [(bif bif !bif decide ((↑gs.length : Int) ≤ 12) then true else bif decide ((↑gs.length : Int) > 199) then decide ((↑gs.length : Int) < 203) else false then true else decide ((↑(List.map (AV.int IntKind.i64) o).length : Int) > 205) then true else bif decide ((↑(List.map G2.a gs).length : Int) > 200) then (↑(List.map (AV.int IntKind.i64) o).length : Int) != (↑(List.map G2.a gs).length : Int) else false) == false, (bif decide ((↑(List.map G2.a gs).length : Int) > 12) then Sp.lengthE gs o == 0 else false) == false, (Sp.lengthE gs o != 0) == true]) (eqs := []) (calls := [⟨true, false, 10, [], [], AV.bool true, []⟩, ⟨true, false, 11, [AV.vec fl 2 (List.map G2.a gs), AV.int IntKind.i64 12], [], AV.bool (bif decide ((↑gs.length : Int) ≤ 12) then true else bif decide ((↑gs.length : Int) > 199) then decide ((↑gs.length : Int) < 203) else false), []⟩, ⟨true, false, 13, [AV.vec fl 2 (List.map G2.a gs), AV.vec fm 1 (List.map (AV.int IntKind.i64) o)], [], AV.tup [AV.int IntKind.i64 (Sp.lengthV gs o), AV.int IntKind.i64 (Sp.lengthE gs o)], []⟩, ⟨true, false, 26, [AV.vec fl 2 (List.map G2.a gs), AV.vec fm 1 (List.map (AV.int IntKind.i64) o)], [], AV.tup [AV.vec false 1 (List.map (AV.int IntKind.i64) (Sp.improve gs o)), AV.int IntKind.i64 (Sp.lengthE gs o)], []⟩]) (AV.bool (bif Sp.lengthE gs o == Sp.lengthE gs o then (↑(List.map (AV.int IntKind.i64) (Sp.improve gs o)).length : Int) == 0 else false)) (by kernel_rfl) (by kernel_rfl) (allB_cons (beq_f (fun h => d4 (i3.1 h))) (allB_cons (beq_f (fun h => d6 (i5.1 h))) (allB_cons (beq_t (i7.2 d8)) allB_nil))) allP_nil (allC_cons (fun _ => ((@ev10 ) : Ev M1 (Conf.pure 10 []) (AV.bool true) [])) (allC_cons (fun _ => ((@ev11 (fl) (gs) (12)) : Ev M1 (Conf.pure 11 [AV.vec fl 2 (List.map G2.a gs), AV.int IntKind.i64 12]) (AV.bool (bif decide ((↑gs.length : Int) ≤ 12) then true else bif decide ((↑gs.length : Int) > 199) then decide ((↑gs.length : Int) < 203) else false)) [])) (allC_cons (fun _ => ((@ev13 (fl) (fm) (gs) (o)) : Ev M1 (Conf.pure 13 [AV.vec fl 2 (List.map G2.a gs), AV.vec fm 1 (List.map (AV.int IntKind.i64) o)]) (AV.tup [AV.int IntKind.i64 (Sp.lengthV gs o), AV.int IntKind.i64 (Sp.lengthE gs o)]) [])) (allC_cons (fun _ => ((@ev26 (fl) (fm) (gs) (o)) : Ev M1 (Conf.pure 26 [AV.vec fl 2 (List.map G2.a gs), AV.vec fm 1 (List.map (AV.int IntKind.i64) o)]) (AV.tup [AV.vec false 1 (List.map (AV.int IntKind.i64) (Sp.improve gs o)), AV.int IntKind.i64 (Sp.lengthE gs o)]) [])) allC_nil)))) (pq_of (d := AV.bool (bif Sp.lengthE gs o == Sp.lengthE gs o then (↑(List.map (AV.int IntKind.i64) (Sp.improve gs o)).length : Int) == 0 else false)) (bs := []) (by kernel_rfl) (by kernel_rfl) allB_nil (by kernel_rfl) (by rw [w9] <;> exact H))
      · have H := H.2 d8
        have i10 : ((bif bif Sp.lengthE gs o == 0 then Sp.lengthE gs (Sp.improve gs o) == 0 else false then decide (Sp.lengthV gs (Sp.improve gs o) ≤ Sp.lengthV gs o) else false) == true && true && true) = true ↔ (((Sp.lengthE gs o = 0) ∧ (Sp.lengthE gs (Sp.improve gs o) = 0)) ∧ (Sp.lengthV gs (Sp.improve gs o) ≤ Sp.lengthV gs o)) := (i_at (i_at (i_bt (i_band (i_band i_eq i_eq) i_dec))))
        have k11 := H.1; have H := H.2
        exact path_ret (G := given kp8 [(1, 0, .call (AV.bool true) none), (1, 4, .call (AV.bool (bif decide ((↑gs.length : Int) ≤ 12) then true else bif decide ((↑gs.length : Int) > 199) then decide ((↑gs.length : Int) < 203) else false)) none), (3, 2, .call (AV.tup [AV.int IntKind.i64 (Sp.lengthV gs o), AV.int IntKind.i64 (Sp.lengthE gs o)]) none), (6, 2, .call (AV.tup [AV.vec false 1 (List.map (AV.int IntKind.i64) (Sp.improve gs o)), AV.int IntKind.i64 (Sp.lengthE gs o)]) none), (9, 2, .call (AV.tup [AV.int IntKind.i64 (Sp.lengthV gs (Sp.improve gs o)), AV.int IntKind.i64 (Sp.lengthE gs (Sp.improve gs o))]) none), (10, 14, .call (AV.bool true) none)] []) 1000 [false, false, false] (k := ((atC (cd Try.f8) [1, 1, 1, 1, 1, 1, 1, 1])).tail) (env' := [(4, AV.bool (bif bif bif Sp.lengthE gs o == 0 then Sp.lengthE gs (Sp.improve gs o) == 0 else false then decide (Sp.lengthV gs (Sp.improve gs o) ≤ Sp.lengthV gs o) else false then true else false))]) (L' := []) (asm := [(bif bif !bif decide ((↑gs.length : Int) ≤ 12) then true else bif decide ((↑gs.length : Int) > 199) then decide ((↑gs.length : Int) < 203) else false then true else decide ((↑(List.map (AV.int IntKind.i64) o).length : Int) > 205) then true else bif decide ((↑(List.map G2.a gs).length : Int) > 200) then (↑(List.map (AV.int IntKind.i64) o).length : Int) != (↑(List.map G2.a gs).length : Int) else false) == false, (bif decide ((↑(List.map G2.a gs).length : Int) > 12) then Sp.lengthE gs o == 0 else false) == false, (Sp.lengthE gs o != 0) == false]) (eqs := []) (calls := [⟨true, false, 10, [], [], AV.bool true, []⟩, ⟨true, false, 11, [AV.vec fl 2 (List.map G2.a gs), AV.int IntKind.i64 12], [], AV.bool (bif decide ((↑gs.length : Int) ≤ 12) then true else bif decide ((↑gs.length : Int) > 199) then decide ((↑gs.length : Int) < 203) else false), []⟩, ⟨true, false, 13, [AV.vec fl 2 (List.map G2.a gs), AV.vec fm 1 (List.map (AV.int IntKind.i64) o)], [], AV.tup [AV.int IntKind.i64 (Sp.lengthV gs o), AV.int IntKind.i64 (Sp.lengthE gs o)], []⟩, ⟨true, false, 26, [AV.vec fl 2 (List.map G2.a gs), AV.vec fm 1 (List.map (AV.int IntKind.i64) o)], [], AV.tup [AV.vec false 1 (List.map (AV.int IntKind.i64) (Sp.improve gs o)), AV.int IntKind.i64 (Sp.lengthE gs o)], []⟩, ⟨true, false, 13, [AV.vec fl 2 (List.map G2.a gs), AV.vec false 1 (List.map (AV.int IntKind.i64) (Sp.improve gs o))], [], AV.tup [AV.int IntKind.i64 (Sp.lengthV gs (Sp.improve gs o)), AV.int IntKind.i64 (Sp.lengthE gs (Sp.improve gs o))], []⟩, ⟨(bif bif Sp.lengthE gs o == 0 then Sp.lengthE gs (Sp.improve gs o) == 0 else false then decide (Sp.lengthV gs (Sp.improve gs o) ≤ Sp.lengthV gs o) else false) == true && true && true, false, 27, [AV.vec fl 2 (List.map G2.a gs), AV.vec false 1 (List.map (AV.int IntKind.i64) (Sp.improve gs o))], [], AV.bool true, []⟩]) (AV.bool (bif bif bif Sp.lengthE gs o == 0 then Sp.lengthE gs (Sp.improve gs o) == 0 else false then decide (Sp.lengthV gs (Sp.improve gs o) ≤ Sp.lengthV gs o) else false then true else false)) (by kernel_rfl) (by kernel_rfl) (allB_cons (beq_f (fun h => d4 (i3.1 h))) (allB_cons (beq_f (fun h => d6 (i5.1 h))) (allB_cons (beq_f (fun h => d8 (i7.1 h))) allB_nil))) allP_nil (allC_cons (fun _ => ((@ev10 ) : Ev M1 (Conf.pure 10 []) (AV.bool true) [])) (allC_cons (fun _ => ((@ev11 (fl) (gs) (12)) : Ev M1 (Conf.pure 11 [AV.vec fl 2 (List.map G2.a gs), AV.int IntKind.i64 12]) (AV.bool (bif decide ((↑gs.length : Int) ≤ 12) then true else bif decide ((↑gs.length : Int) > 199) then decide ((↑gs.length : Int) < 203) else false)) [])) (allC_cons (fun _ => ((@ev13 (fl) (fm) (gs) (o)) : Ev M1 (Conf.pure 13 [AV.vec fl 2 (List.map G2.a gs), AV.vec fm 1 (List.map (AV.int IntKind.i64) o)]) (AV.tup [AV.int IntKind.i64 (Sp.lengthV gs o), AV.int IntKind.i64 (Sp.lengthE gs o)]) [])) (allC_cons (fun _ => ((@ev26 (fl) (fm) (gs) (o)) : Ev M1 (Conf.pure 26 [AV.vec fl 2 (List.map G2.a gs), AV.vec fm 1 (List.map (AV.int IntKind.i64) o)]) (AV.tup [AV.vec false 1 (List.map (AV.int IntKind.i64) (Sp.improve gs o)), AV.int IntKind.i64 (Sp.lengthE gs o)]) [])) (allC_cons (fun _ => ((@ev13 (fl) (false) (gs) (Sp.improve gs o)) : Ev M1 (Conf.pure 13 [AV.vec fl 2 (List.map G2.a gs), AV.vec false 1 (List.map (AV.int IntKind.i64) (Sp.improve gs o))]) (AV.tup [AV.int IntKind.i64 (Sp.lengthV gs (Sp.improve gs o)), AV.int IntKind.i64 (Sp.lengthE gs (Sp.improve gs o))]) [])) (allC_cons (fun hc => ((@ev27 (fl) (false) (gs) (Sp.improve gs o) (k11 (i10.1 hc))) : Ev M1 (Conf.pure 27 [AV.vec fl 2 (List.map G2.a gs), AV.vec false 1 (List.map (AV.int IntKind.i64) (Sp.improve gs o))]) (AV.bool true) [])) allC_nil)))))) (pq_of (d := AV.bool (bif bif bif Sp.lengthE gs o == 0 then Sp.lengthE gs (Sp.improve gs o) == 0 else false then decide (Sp.lengthV gs (Sp.improve gs o) ≤ Sp.lengthV gs o) else false then true else false)) (bs := []) (by kernel_rfl) (by kernel_rfl) allB_nil (by kernel_rfl) H)

theorem v9 (fl : Bool) (gs : List G2)  (dq : AV) (H :
    (Sp.mOk 7) ∧
    ((¬Sp.checkE gs 7 = 0) → AV.bool true = dq) ∧
    (¬(¬Sp.checkE gs 7 = 0) → (Sp.okG gs ∧ gs.length ≤ 1000) ∧
      AV.bool (bif bif bif bif bif Sp.lengthE gs (Sp.nearest gs) == 0 then Sp.checkE gs 10 == 0 else false then Sp.lengthE gs (Sp.improve gs (Sp.nearest gs)) == 0 else false then Sp.lengthE gs (Sp.nearest gs) == 0 else false then decide (Sp.way gs (Sp.exactL gs) ≤ Sp.lengthV gs (Sp.improve gs (Sp.nearest gs))) else false then decide (Sp.lengthV gs (Sp.improve gs (Sp.nearest gs)) ≤ Sp.lengthV gs (Sp.nearest gs)) else false) = dq)) :
  v9_at fl gs (PureQ dq) := by
  unfold v9_at
  have k1 := H.1; have H := H.2
  have i2 : (!Sp.checkE gs 7 == 0) = true ↔ (¬Sp.checkE gs 7 = 0) := i_neq
  rcases Classical.em (¬Sp.checkE gs 7 = 0) with d3 | d3
  · have H := H.1 d3
    exact path_ret (G := given kp9 [(1, 0, .call (AV.bool true) none), (1, 4, .call (AV.bool (Sp.checkE gs 7 == 0)) none), (2, 0, .call (AV.bool true) none)] []) 1000 [true] (k := ((atC (cd Try.f9) [1, 0, 1, 0, 1])).tail) (env' := [(2, AV.bool true)]) (L' := []) (asm := [(!Sp.checkE gs 7 == 0) == true]) (eqs := []) (calls := [⟨true, false, 10, [], [], AV.bool true, []⟩, ⟨true, false, 14, [AV.vec fl 2 (List.map G2.a gs), AV.int IntKind.i64 7], [], AV.bool (Sp.checkE gs 7 == 0), []⟩, ⟨true, false, 10, [], [], AV.bool true, []⟩]) (AV.bool true) (by kernel_rfl) (by kernel_rfl) (allB_cons (beq_t (i2.2 d3)) allB_nil) allP_nil (allC_cons (fun _ => ((@ev10 ) : Ev M1 (Conf.pure 10 []) (AV.bool true) [])) (allC_cons (fun _ => ((@ev14 (fl) (gs) (7) k1) : Ev M1 (Conf.pure 14 [AV.vec fl 2 (List.map G2.a gs), AV.int IntKind.i64 7]) (AV.bool (Sp.checkE gs 7 == 0)) [])) (allC_cons (fun _ => ((@ev10 ) : Ev M1 (Conf.pure 10 []) (AV.bool true) [])) allC_nil))) (pq_of (d := AV.bool true) (bs := []) (by kernel_rfl) (by kernel_rfl) allB_nil (by kernel_rfl) H)
  · have H := H.2 d3
    have k4 := H.1; have H := H.2
    exact path_ret (G := given kp9 [(1, 0, .call (AV.bool true) none), (1, 4, .call (AV.bool (Sp.checkE gs 7 == 0)) none), (3, 1, .call (AV.vec false 1 (List.map (AV.int IntKind.i64) (Sp.nearest gs))) none), (4, 2, .call (AV.tup [AV.vec false 1 (List.map (AV.int IntKind.i64) (Sp.improve gs (Sp.nearest gs))), AV.int IntKind.i64 (Sp.lengthE gs (Sp.nearest gs))]) none), (5, 1, .call (AV.tup [AV.vec false 1 (List.map (AV.int IntKind.i64) (Sp.exactL gs)), AV.int IntKind.i64 (Sp.way gs (Sp.exactL gs)), AV.int IntKind.i64 (Sp.checkE gs 10)]) none), (6, 2, .call (AV.tup [AV.int IntKind.i64 (Sp.lengthV gs (Sp.improve gs (Sp.nearest gs))), AV.int IntKind.i64 (Sp.lengthE gs (Sp.improve gs (Sp.nearest gs)))]) none), (7, 2, .call (AV.tup [AV.int IntKind.i64 (Sp.lengthV gs (Sp.nearest gs)), AV.int IntKind.i64 (Sp.lengthE gs (Sp.nearest gs))]) none)] []) 1000 [false] (k := ((atC (cd Try.f9) [1, 1, 1, 1, 1, 1, 1, 1])).tail) (env' := [(2, AV.bool (bif bif bif bif bif Sp.lengthE gs (Sp.nearest gs) == 0 then Sp.checkE gs 10 == 0 else false then Sp.lengthE gs (Sp.improve gs (Sp.nearest gs)) == 0 else false then Sp.lengthE gs (Sp.nearest gs) == 0 else false then decide (Sp.way gs (Sp.exactL gs) ≤ Sp.lengthV gs (Sp.improve gs (Sp.nearest gs))) else false then decide (Sp.lengthV gs (Sp.improve gs (Sp.nearest gs)) ≤ Sp.lengthV gs (Sp.nearest gs)) else false))]) (L' := []) (asm := [(!Sp.checkE gs 7 == 0) == false]) (eqs := []) (calls := [⟨true, false, 10, [], [], AV.bool true, []⟩, ⟨true, false, 14, [AV.vec fl 2 (List.map G2.a gs), AV.int IntKind.i64 7], [], AV.bool (Sp.checkE gs 7 == 0), []⟩, ⟨true, false, 19, [AV.vec fl 2 (List.map G2.a gs)], [], AV.vec false 1 (List.map (AV.int IntKind.i64) (Sp.nearest gs)), []⟩, ⟨true, false, 26, [AV.vec fl 2 (List.map G2.a gs), AV.vec false 1 (List.map (AV.int IntKind.i64) (Sp.nearest gs))], [], AV.tup [AV.vec false 1 (List.map (AV.int IntKind.i64) (Sp.improve gs (Sp.nearest gs))), AV.int IntKind.i64 (Sp.lengthE gs (Sp.nearest gs))], []⟩, ⟨true, false, 22, [AV.vec fl 2 (List.map G2.a gs)], [], AV.tup [AV.vec false 1 (List.map (AV.int IntKind.i64) (Sp.exactL gs)), AV.int IntKind.i64 (Sp.way gs (Sp.exactL gs)), AV.int IntKind.i64 (Sp.checkE gs 10)], []⟩, ⟨true, false, 12, [AV.vec fl 2 (List.map G2.a gs), AV.vec false 1 (List.map (AV.int IntKind.i64) (Sp.improve gs (Sp.nearest gs)))], [], AV.tup [AV.int IntKind.i64 (Sp.lengthV gs (Sp.improve gs (Sp.nearest gs))), AV.int IntKind.i64 (Sp.lengthE gs (Sp.improve gs (Sp.nearest gs)))], []⟩, ⟨true, false, 12, [AV.vec fl 2 (List.map G2.a gs), AV.vec false 1 (List.map (AV.int IntKind.i64) (Sp.nearest gs))], [], AV.tup [AV.int IntKind.i64 (Sp.lengthV gs (Sp.nearest gs)), AV.int IntKind.i64 (Sp.lengthE gs (Sp.nearest gs))], []⟩]) (AV.bool (bif bif bif bif bif Sp.lengthE gs (Sp.nearest gs) == 0 then Sp.checkE gs 10 == 0 else false then Sp.lengthE gs (Sp.improve gs (Sp.nearest gs)) == 0 else false then Sp.lengthE gs (Sp.nearest gs) == 0 else false then decide (Sp.way gs (Sp.exactL gs) ≤ Sp.lengthV gs (Sp.improve gs (Sp.nearest gs))) else false then decide (Sp.lengthV gs (Sp.improve gs (Sp.nearest gs)) ≤ Sp.lengthV gs (Sp.nearest gs)) else false)) (by kernel_rfl) (by kernel_rfl) (allB_cons (beq_f (fun h => d3 (i2.1 h))) allB_nil) allP_nil (allC_cons (fun _ => ((@ev10 ) : Ev M1 (Conf.pure 10 []) (AV.bool true) [])) (allC_cons (fun _ => ((@ev14 (fl) (gs) (7) k1) : Ev M1 (Conf.pure 14 [AV.vec fl 2 (List.map G2.a gs), AV.int IntKind.i64 7]) (AV.bool (Sp.checkE gs 7 == 0)) [])) (allC_cons (fun _ => ((@ev19 (fl) (gs) k4) : Ev M1 (Conf.pure 19 [AV.vec fl 2 (List.map G2.a gs)]) (AV.vec false 1 (List.map (AV.int IntKind.i64) (Sp.nearest gs))) [])) (allC_cons (fun _ => ((@ev26 (fl) (false) (gs) (Sp.nearest gs)) : Ev M1 (Conf.pure 26 [AV.vec fl 2 (List.map G2.a gs), AV.vec false 1 (List.map (AV.int IntKind.i64) (Sp.nearest gs))]) (AV.tup [AV.vec false 1 (List.map (AV.int IntKind.i64) (Sp.improve gs (Sp.nearest gs))), AV.int IntKind.i64 (Sp.lengthE gs (Sp.nearest gs))]) [])) (allC_cons (fun _ => ((@ev22 (fl) (gs)) : Ev M1 (Conf.pure 22 [AV.vec fl 2 (List.map G2.a gs)]) (AV.tup [AV.vec false 1 (List.map (AV.int IntKind.i64) (Sp.exactL gs)), AV.int IntKind.i64 (Sp.way gs (Sp.exactL gs)), AV.int IntKind.i64 (Sp.checkE gs 10)]) [])) (allC_cons (fun _ => ((@ev12 (fl) (false) (gs) (Sp.improve gs (Sp.nearest gs))) : Ev M1 (Conf.pure 12 [AV.vec fl 2 (List.map G2.a gs), AV.vec false 1 (List.map (AV.int IntKind.i64) (Sp.improve gs (Sp.nearest gs)))]) (AV.tup [AV.int IntKind.i64 (Sp.lengthV gs (Sp.improve gs (Sp.nearest gs))), AV.int IntKind.i64 (Sp.lengthE gs (Sp.improve gs (Sp.nearest gs)))]) [])) (allC_cons (fun _ => ((@ev12 (fl) (false) (gs) (Sp.nearest gs)) : Ev M1 (Conf.pure 12 [AV.vec fl 2 (List.map G2.a gs), AV.vec false 1 (List.map (AV.int IntKind.i64) (Sp.nearest gs))]) (AV.tup [AV.int IntKind.i64 (Sp.lengthV gs (Sp.nearest gs)), AV.int IntKind.i64 (Sp.lengthE gs (Sp.nearest gs))]) [])) allC_nil))))))) (pq_of (d := AV.bool (bif bif bif bif bif Sp.lengthE gs (Sp.nearest gs) == 0 then Sp.checkE gs 10 == 0 else false then Sp.lengthE gs (Sp.improve gs (Sp.nearest gs)) == 0 else false then Sp.lengthE gs (Sp.nearest gs) == 0 else false then decide (Sp.way gs (Sp.exactL gs) ≤ Sp.lengthV gs (Sp.improve gs (Sp.nearest gs))) else false then decide (Sp.lengthV gs (Sp.improve gs (Sp.nearest gs)) ≤ Sp.lengthV gs (Sp.nearest gs)) else false)) (bs := []) (by kernel_rfl) (by kernel_rfl) allB_nil (by kernel_rfl) H)


end Go.Av
