/- WHAT THE EVALUATION RELATION MEANS: a run of the model. No program in sight. -/
import Derived.Test.YtablgkhmbcegkaaAvDraw2
namespace Go.Av
open Go.RowKit

def VRel (S : St) (env : Vars) (tm : Array Value) : Prop := ∀ t, Rel S (env.get t) (tm.getD t undef)

def RunSnd (M : Mach) (fi : Fi) (todo : List Item) (env : Vars) (L : Heap) (Q : AV → Heap → Prop) : Prop :=
  ∀ (S : St) (b : Frame) (a : Act) (cs : List Frame) (fn : Func), (M.P ()).funcs[b.fn]? = some fn → fn.results.toList = fi.res → b.kind = .normal → a.defers = [] →
    HeapOk S → S.L = L → VRel S env a.tmps → fi.n ≤ a.tmps.size →
    ∃ fr w' β' cv v L', Q v L' ∧ Steps (M.P ()) (lone (b.at a todo) cs S.w) (lone fr cs w') ∧ fr.fn = b.fn ∧ fr.leaving (M.P ()) w' (.returned cv) ∧
      HeapOk ⟨S.base, S.acc, L', β', w'⟩ ∧ Ext S ⟨S.base, S.acc, L', β', w'⟩ ∧ Rel ⟨S.base, S.acc, L', β', w'⟩ v cv

theorem lift_get (env : Vars) (t : Nat) : Env.get (lift env) t = ([], env.get t) := by
  induction env with
  | nil => rfl
  | cons e env ih =>
    obtain ⟨k, v⟩ := e
    simp only [lift, List.map_cons, Env.get, Vars.get]
    cases k == t with
    | true => rfl
    | false => exact ih

theorem lift_rel {S : St} {env : Vars} {tm : Array Value} (h : VRel S env tm) : TRel S (lift env) tm := by
  refine ⟨fun t => ?_, fun t _ => ?_, fun t ht => ?_⟩
  · rw [lift_get]; exact .nil
  · rw [lift_get]; exact h t
  · rw [lift_get] at ht; simp [chainVal] at ht

theorem forget_rel {S : St} {env : Env} {tm : Array Value} (h : TRel S env tm) (keep : List Nat) : VRel S (forget keep env) tm := by
  intro t
  induction keep with
  | nil => exact .any _
  | cons k keep ih =>
    simp only [forget, List.map_cons, Vars.get]
    cases hk : k == t with
    | false => exact ih
    | true =>
      have hk : k = t := by simpa using hk
      subst hk
      simp only [cond_true]
      split
      · rename_i v hv
        have := h.yes k (by rw [hv]; rfl)
        rw [hv] at this; exact this
      · exact .any _

theorem vget_rel {S : St} {env : Vars} {a : Act} (h : VRel S env a.tmps) (x : Operand) : Rel S (evV env x) (a.eval x) := by
  cases x with
  | tmp t => exact h t
  | const v => exact rel_ofC S v
  | global g => exact .any _
  | func f => exact .data _ _ (.func _ [] [] [] [] rfl rfl (by simp) (by simp))

theorem args_rel {S : St} : ∀ (i : Nat) (args : List AV) (vs : List Value) (t : Nat), RelL S args vs → Rel S ((argVars i args).get t) (if i ≤ t then vs.getD (t - i) undef else undef)
  | i, [], vs, t, _ => .any _
  | i, c :: args, [], t, h => by have := h.1; simp at this
  | i, c :: args, u :: vs, t, h => by
    simp only [argVars, Vars.get]
    cases hk : i == t with
    | true =>
      have hk : i = t := by simpa using hk
      subst hk
      simp only [cond_true, Nat.le_refl, if_true, Nat.sub_self, List.getD_cons_zero]
      exact h.2 0 c u rfl rfl
    | false =>
      have hk : i ≠ t := by simpa using hk
      have := args_rel (S := S) (i + 1) args vs t ⟨by simpa using h.1, fun j c v hc hv => h.2 (j + 1) c v (by simpa using hc) (by simpa using hv)⟩
      simp only [cond_false]
      by_cases hlt : i + 1 ≤ t
      · rw [if_pos hlt] at this
        rw [if_pos (by omega)]
        obtain ⟨m, rfl⟩ : ∃ m, t = i + 1 + m := ⟨t - (i + 1), by omega⟩
        have e1 : i + 1 + m - (i + 1) = m := by omega
        have e2 : i + 1 + m - i = m + 1 := by omega
        rw [e1] at this
        rw [e2]; simpa using this
      · rw [if_neg hlt] at this
        rw [if_neg (by omega)]; exact this

theorem enter_rel {S : St} {args : List AV} {vs : List Value} (n : Nat) (h : RelL S args vs) : VRel S (argVars 0 args) ((⟨vs⟩ : Array Value) ++ Array.replicate n undef) := by
  intro t
  have := args_rel (S := S) 0 args vs t h
  simp only [Nat.zero_le, if_true, Nat.sub_zero] at this
  have e : ((⟨vs⟩ : Array Value) ++ Array.replicate n undef).getD t undef = vs.getD t undef := by
    simp only [Array.getD_eq_getD_getElem?, List.getD_eq_getElem?_getD, Array.getElem?_append, List.size_toArray, List.getElem?_toArray]
    by_cases ht : t < vs.length
    · rw [if_pos ht]
    · rw [if_neg ht, List.getElem?_eq_none (by omega : vs.length ≤ t)]
      simp only [Array.getElem?_replicate, Option.getD_none]
      split <;> rfl
  rw [e]; exact this

def resF (tm : Array Value) : ResultVar → Sem Value
  | .tmp t => pure (tm.getD t undef)
  | .cell a t => do loadVar t (← asAddr (tm.getD a undef))

theorem resultsA_sound {P : Unit → Program} {S : St} (hS : HeapOk S) {env : Vars} {tm : Array Value} (hV : VRel S env tm) : ∀ (l : List ResultVar) {vs : List AV}, resultsA P env S.L l = some vs →
    ∃ cvs : List Value, RelL S vs cvs ∧ (l.mapM (resF tm)).run (P ()) S.w = .ok cvs S.w
  | [], vs, h => by
    simp only [resultsA, Option.some.injEq] at h; subst h
    exact ⟨[], .nil S, by simp⟩
  | .tmp t :: r, vs, h => by
    simp only [resultsA] at h
    split at h
    · rename_i vs' h'
      simp only [Option.some.injEq] at h; subst h
      obtain ⟨cvs, h1, h2⟩ := resultsA_sound hS hV r h'
      have h3 : (resF tm (.tmp t)).run (P ()) S.w = .ok (tm.getD t undef) S.w := rfl
      exact ⟨tm.getD t undef :: cvs, .cons (hV t) h1, by simp only [List.mapM_cons, Sem.run_bind, h3, Result.andThen_ok, h2, Sem.run_pure]⟩
    · simp at h
  | .cell a T :: r, vs, h => by
    simp only [resultsA] at h
    split at h
    · rename_i x vs' hx h'
      cases hall : x.asm.all fun b => b with
      | false => simp [hall] at h
      | true =>
        simp only [hall, cond_true, Option.some.injEq] at h; subst h
        obtain ⟨cvs, h1, h2⟩ := resultsA_sound hS hV r h'
        have hel : ∀ {xs : List AV} {i : Nat} {x : AV} {q : List Prop}, elemA none xs i = some (x, q) → q = [] := by
          intro xs i x q he
          unfold elemA at he
          simp only at he
          split at he
          · simp only [Option.some.injEq, Prod.mk.injEq] at he; exact he.2.symm
          · simp at he
        have hva := hV a
        have key : x.eqs = [] ∧ ∃ ad, tm.getD a undef = .pointer (some ad) := by
          unfold loadA at hx
          split at hx
          · rename_i q ver i j hv
            rw [hv] at hva
            obtain ⟨hp, _⟩ := rel_ptr' hva
            split at hx
            · split at hx
              · rename_i he
                split at hx
                · simp only [Option.some.injEq] at hx; subst hx
                  exact ⟨hel he, hp⟩
                · simp at hx
              · simp at hx
            · simp at hx
          · rename_i es xs i j hv
            rw [hv] at hva
            have hp : ∃ ad, tm.getD a undef = .pointer (some ad) := by
              have hd := rel_eptr hva
              generalize tm.getD a undef = pv at *
              cases hd with
              | eptr _ _ _ _ b off h1 h2 h3 => exact ⟨_, rfl⟩
            split at hx
            · rename_i he
              split at hx
              · simp only [Option.some.injEq] at hx; subst hx
                exact ⟨hel he, hp⟩
              · simp at hx
            · simp at hx
          · simp at hx
        obtain ⟨heq, ad, had⟩ := key
        obtain ⟨_, _, cv, k1, k2⟩ := load_sound (P := P) hS (hV a) hx (by simpa using hall) (by rw [heq]; simp)
        have h3 : (resF tm (.cell a T)).run (P ()) S.w = .ok cv S.w := by
          rw [← k1, had]
          simp [resF, asAddr, Instr.loadAt, Instr.sureAddr, had]
        exact ⟨cv :: cvs, .cons k2 h1, by simp only [List.mapM_cons, Sem.run_bind, h3, Result.andThen_ok, h2, Sem.run_pure]⟩
    · simp at h

theorem finish_sound {P : Unit → Program} {S : St} (hS : HeapOk S) {env : Vars} {tm : Array Value} (hV : VRel S env tm) {fi : Fi} {fn : Func} (hfi : fn.results.toList = fi.res) {v : AV} (h : finish P fi env S.L = some v) :
    ∃ cv, (results fn tm).run (P ()) S.w = .ok cv S.w ∧ Rel S v cv := by
  have hrun : ∀ {cvs : List Value}, (fi.res.mapM (resF tm)).run (P ()) S.w = .ok cvs S.w → (results fn tm).run (P ()) S.w = .ok (if h : cvs.length = 1 then cvs[0] else .tuple ⟨cvs⟩) S.w := by
    intro cvs h
    have hm : results fn tm = (do let vs ← fn.results.mapM (resF tm); pure (if h : vs.size = 1 then vs[0] else .tuple vs)) := by
      unfold results
      congr 1
    rw [hm, Array.mapM_eq_mapM_toList, hfi]
    rw [map_eq_pure_bind]
    simp only [Sem.run_bind, h, Result.andThen_ok, Sem.run_pure]
    rfl
  unfold finish at h
  split at h
  · rename_i u hr
    simp only [Option.some.injEq] at h; subst h
    obtain ⟨cvs, h1, h2⟩ := resultsA_sound hS hV _ hr
    have := h1.1
    match cvs, this, h1, h2 with
    | [cv], _, h1, h2 => exact ⟨cv, by simpa using hrun h2, h1.head⟩
  · rename_i vs hne hr
    simp only [Option.some.injEq] at h; subst h
    obtain ⟨cvs, h1, h2⟩ := resultsA_sound hS hV _ hr
    have hl : cvs.length ≠ 1 := by
      rw [← h1.1]
      intro e
      obtain ⟨x, rfl⟩ := List.length_eq_one_iff.1 e
      exact hne x rfl
    exact ⟨.tuple ⟨cvs⟩, by simpa [hl] using hrun h2, .tup vs cvs h1.1 h1.2⟩
  · simp at h

theorem call_runs {P : Program} {f : FuncId} {fn : Func} {c : Code} {args : Array Value} (hf : P.funcs[f]? = some fn) (hb : fn.body = some c) (hn : (fn.name == "runtime.NumGoroutine") = false) (w : World) :
    (callFunc f args).run P w = .ok (.enter f args) w := by
  have hn' : fn.name ≠ "runtime.NumGoroutine" := by simpa using hn
  simp [callFunc, hf, hb, hn']

theorem weak_rel {S : St} {a d : AV} (h : Weak a d) : ∀ {v : Value}, DRel S a v → DRel S d v := by
  induction h with
  | refl a => exact fun h => h
  | vnil es => intro v h; cases h; exact .vecE false es none 0 (by simp)
  | full es xs =>
    intro v h
    cases h with
    | vecE f es a cap hf => exact .vecE false es a cap (by simp)
    | vec f es xs b off cap ho hf hl hc hr => exact .vec false es xs b off cap ho (by simp) hl hc hr
  | tup xs ys hl _ ih =>
    intro v h
    cases h with
    | tup _ vs h1 h2 =>
      refine .tup ys vs (hl.symm.trans h1) fun i c v hc hv => ?_
      have hi : i < xs.length := by rw [hl]; exact (List.getElem?_eq_some_iff.1 hc).1
      exact ih i xs[i] c (List.getElem?_eq_getElem hi) hc (h2 i xs[i] v (List.getElem?_eq_getElem hi) hv)
  | agg xs ys hl _ ih =>
    intro v h
    cases h with
    | agg _ vs h1 h2 =>
      refine .agg ys vs (hl.symm.trans h1) fun i c v hc hv => ?_
      have hi : i < xs.length := by rw [hl]; exact (List.getElem?_eq_some_iff.1 hc).1
      exact ih i xs[i] c (List.getElem?_eq_getElem hi) hc (h2 i xs[i] v (List.getElem?_eq_getElem hi) hv)

def OwnQ (M : Mach) (f : FuncId) (args : List AV) (L : Heap) (Q : AV → Heap → Prop) : Prop :=
  ∀ (S : St) (cargs : List Value), HeapOk S → S.L = L → RelL S args cargs →
    (∀ w, (callFunc f ⟨cargs⟩).run (M.P ()) w = .ok (.enter f ⟨cargs⟩) w) ∧
    Calls (M.P ()) f ⟨cargs⟩ S.w fun
      | .returned cv, w' => ∃ v L' β', Q v L' ∧ HeapOk ⟨S.base, S.acc, L', β', w'⟩ ∧ Ext S ⟨S.base, S.acc, L', β', w'⟩ ∧ Rel ⟨S.base, S.acc, L', β', w'⟩ v cv
      | _, _ => False

def PureR (M : Mach) (f : FuncId) (args : List AV) (Q : AV → Heap → Prop) : Prop :=
  ∀ (base : Nat) (acc : Nat → Nat → Prop) (w : World) (cargs : List Value), base ≤ w.heap.size → (∀ b off, base ≤ b → acc b off) → RelL ⟨base, acc, [], [], w⟩ args cargs →
    (∀ w, (callFunc f ⟨cargs⟩).run (M.P ()) w = .ok (.enter f ⟨cargs⟩) w) ∧
    Calls (M.P ()) f ⟨cargs⟩ w fun
      | .returned cv, w' => ∃ d, Q d [] ∧ Below base w w' ∧ DRel ⟨base, acc, [], [], w'⟩ d cv
      | _, _ => False

theorem OwnQ.snd {M : Mach} {f : FuncId} {args : List AV} {L L' : Heap} {v : AV} (h : OwnQ M f args L (isR v L')) : OwnSnd M f args L v L' := by
  intro S cargs h1 h2 h3
  obtain ⟨k1, k2⟩ := h S cargs h1 h2 h3
  refine ⟨k1, Calls.mono k2 fun e w' he => ?_⟩
  cases e with
  | returned cv =>
    obtain ⟨v', K, β', ⟨rfl, rfl⟩, m1, m2, m3⟩ := he
    exact ⟨β', m1, m2, m3⟩
  | panicked c => exact he.elim
  | outgrown => exact he.elim

theorem PureR.snd {M : Mach} {f : FuncId} {args : List AV} {v : AV} (h : PureR M f args (isR v [])) : PureSnd M f args v := by
  intro base acc w cargs h1 h2 h3
  obtain ⟨k1, k2⟩ := h base acc w cargs h1 h2 h3
  refine ⟨k1, Calls.mono k2 fun e w' he => ?_⟩
  cases e with
  | returned cv =>
    obtain ⟨d, ⟨rfl, _⟩, m1, m2⟩ := he
    exact ⟨m1, m2⟩
  | panicked c => exact he.elim
  | outgrown => exact he.elim

/-- What the relation means. -/
def Means (M : Mach) : Conf → (AV → Heap → Prop) → Prop
  | .run fi todo env L, Q => RunSnd M fi todo env L Q
  | .own f args L, Q => OwnQ M f args L Q
  | .pure f args, Q => PureR M f args Q

theorem RunSnd.step {M : Mach} {fi : Fi} {k k' : List Item} {env : Vars} {L : Heap} {Q : AV → Heap → Prop} (h : RunSnd M fi k' env L Q)
    (hs : ∀ (b : Frame) (a : Act) (cs : List Frame) (S : St), VRel S env a.tmps → step (M.P ()) (lone (b.at a k) cs S.w) = .next (lone (b.at a k') cs S.w)) : RunSnd M fi k env L Q := by
  intro S b a cs fn h1 h2 h3 h4 h5 h6 h7 h8
  obtain ⟨fr, w', β', cv, v, L', hq, k1, k2⟩ := h S b a cs fn h1 h2 h3 h4 h5 h6 h7 h8
  exact ⟨fr, w', β', cv, v, L', hq, .head (hs b a cs S h7) k1, k2⟩

theorem run_eq_nil {P : Unit → Program} {d : Nat} {T e : TypeId} (hu : (P ()).underlying T = some (.slice e)) (a : Option Addr) (c : Nat) (w : World) :
    (Op.equalIn (d + 1) T (.slice a 0 c) (.slice none 0 0)).run (P ()) w = .ok a.isNone w ∧ (Op.equalIn (d + 1) T (.slice none 0 0) (.slice a 0 c)).run (P ()) w = .ok a.isNone w := by
  constructor <;> cases a <;> simp [Op.equalIn, run_underlying hu]

/-- A test for nil of an empty slice: a bool. -/
theorem nilTest_runs {P : Unit → Program} {env : Env} {o : Oper} {d : Nat} (h : nilTest P env o = some d) {S : St} {ρ : Operand → Value} (hρ : ∀ x, Rel S (ev env [] x) (ρ x)) :
    o.guard = none ∧ o.dst = some d ∧ ∃ b, (execOp ρ o).run (P ()) S.w = .ok (.value (.bool b)) S.w := by
  unfold nilTest at h
  split at h
  · rename_i d' op T x y yT hg hd ho
    have hx := hρ x
    have hy := hρ y
    have emp : ∀ {f : Bool} {es : Nat} {v : Value}, Rel S (.vec f es []) v → ∃ a c, v = .slice a 0 c := by
      intro f es v hv
      have := rel_vec hv
      cases this with
      | vecE f es a cap _ => exact ⟨a, cap, rfl⟩
      | vec f es xs b off cap => exact ⟨_, _, rfl⟩
    refine ⟨hg, ?_⟩
    have eqn' : ∀ {e : TypeId}, (P ()).underlying T = some (.slice e) → ∀ (a : Option Addr) (c : Nat), (Op.equalIn Op.maxDepth T (.slice a 0 c) (.slice none 0 0)).run (P ()) S.w = .ok a.isNone S.w ∧ (Op.equalIn Op.maxDepth T (.slice none 0 0) (.slice a 0 c)).run (P ()) S.w = .ok a.isNone S.w :=
      fun hu a c => run_eq_nil (d := Op.maxDepth - 1) hu a c S.w
    split at h
    · rename_i e f es hu hvx hvy
      have eqn := eqn' hu
      simp only [Option.some.injEq] at h; subst h
      rw [hvx] at hx; rw [hvy] at hy
      obtain ⟨a, c, ex⟩ := emp hx
      exact ⟨hd, a.isNone, by simp [execOp, ho, ex, rel_vnil hy, eqGuard, binOp, Op.equal, (eqn a c).1]⟩
    · rename_i e f es hu hvx hvy
      have eqn := eqn' hu
      simp only [Option.some.injEq] at h; subst h
      rw [hvx] at hx; rw [hvy] at hy
      obtain ⟨a, c, ey⟩ := emp hy
      exact ⟨hd, a.isNone, by simp [execOp, ho, ey, rel_vnil hx, eqGuard, binOp, Op.equal, (eqn a c).2]⟩
    · rename_i e f es hu hvx hvy
      have eqn := eqn' hu
      simp only [Option.some.injEq] at h; subst h
      rw [hvx] at hx; rw [hvy] at hy
      obtain ⟨a, c, ex⟩ := emp hx
      exact ⟨hd, !a.isNone, by simp [execOp, ho, ex, rel_vnil hy, eqGuard, binOp, Op.equal, (eqn a c).1]⟩
    · rename_i e f es hu hvx hvy
      have eqn := eqn' hu
      simp only [Option.some.injEq] at h; subst h
      rw [hvx] at hx; rw [hvy] at hy
      obtain ⟨a, c, ey⟩ := emp hy
      exact ⟨hd, !a.isNone, by simp [execOp, ho, ey, rel_vnil hx, eqGuard, binOp, Op.equal, (eqn a c).2]⟩
    · simp at h
  · simp at h

theorem rel_in {S : St} {a : AV} {v : Value} (h : Rel S a v) : ∀ r ∈ rowsA a, r < S.L.length := by
  have lt : ∀ {r : Nat} {row : Row}, S.L[r]? = some row → r < S.L.length := fun h => (List.getElem?_eq_some_iff.1 h).1
  have all : ∀ {cs : List AV} {vs : List Value}, cs.length = vs.length → (∀ (i : Nat) c v, cs[i]? = some c → vs[i]? = some v → ∀ r ∈ rowsA c, r < S.L.length) → ∀ r ∈ rowsL cs, r < S.L.length := by
    intro cs
    induction cs with
    | nil => intro vs _ _ r hr; simp [rowsL] at hr
    | cons c cs ih =>
      intro vs hl h r hr
      cases vs with
      | nil => simp at hl
      | cons u vs =>
        simp only [rowsL, List.mem_append] at hr
        rcases hr with hr | hr
        · exact h 0 c u rfl rfl r hr
        · exact ih (vs := vs) (by simpa using hl) (fun i c v hc hv => h (i + 1) c v (by simpa using hc) (by simpa using hv)) r hr
  induction h with
  | any v => intro r hr; simp [rowsA] at hr
  | data a v h =>
    intro r hr
    have h1 := rowsA_ren (fun _ => S.L.length) a
    have h2 := dren h (fun _ => S.L.length)
    have h3 := dren h (fun _ => S.L.length + 1)
    have h4 := rowsA_ren (fun _ => S.L.length + 1) a
    rw [h2] at h1
    rw [h3, h1] at h4
    cases hra : rowsA a with
    | nil => rw [hra] at hr; simp at hr
    | cons q l => rw [hra] at h4; simp at h4
  | agg cs vs hl _ ih => exact all hl ih
  | tup cs vs hl _ ih => exact all hl ih
  | func fn a b va vb ha hb _ _ ih1 ih2 =>
    intro r hr
    simp only [rowsA, List.mem_append] at hr
    rcases hr with hr | hr
    · exact all ha ih1 r hr
    · exact all hb ih2 r hr
  | ptr r0 ver i j row info v _ h1 => intro r hr; simp only [rowsA, List.mem_singleton] at hr; subst hr; exact lt h1
  | row r0 ver row info v _ h1 => intro r hr; simp only [rowsA, List.mem_singleton] at hr; subst hr; exact lt h1
  | ref r0 ver lo len row info v _ h1 => intro r hr; simp only [rowsA, List.mem_singleton] at hr; subst hr; exact lt h1

theorem refs_in {S : St} (hS : HeapOk S) : ∀ row ∈ S.L, ∀ r ∈ rowRefs row, r < S.L.length := by
  intro row hm r hr
  obtain ⟨q, hq⟩ := List.getElem?_of_mem hm
  have hlt : q < S.β.length := by rw [← hS.len]; exact (List.getElem?_eq_some_iff.1 hq).1
  obtain ⟨info, hi⟩ : ∃ info, S.β[q]? = some info := ⟨_, List.getElem?_eq_getElem hlt⟩
  obtain ⟨he, hle, cs, T, hb, hsz⟩ := hS.cells q row info hq hi
  unfold rowRefs at hr
  cases hc : row.clean with
  | true => rw [hc] at hr; simp at hr
  | false =>
    rw [hc] at hr
    simp only [cond_false] at hr
    -- an element, and a cell of it
    have hx : ∀ (l : List AV), r ∈ rowsL l → ∃ (i : Nat) (x : AV), l[i]? = some x ∧ r ∈ rowsA x := by
      intro l
      induction l with
      | nil => intro h; simp [rowsL] at h
      | cons c l ih =>
        intro h
        simp only [rowsL, List.mem_append] at h
        rcases h with h | h
        · exact ⟨0, c, rfl, h⟩
        · obtain ⟨i, x, h1, h2⟩ := ih h
          exact ⟨i + 1, x, by simpa using h1, h2⟩
    obtain ⟨i, x, h1, h2⟩ := hx _ hr
    have hcell : ∃ (k : Nat) (c : AV), x.cells[k]? = some c ∧ r ∈ rowsA c := by
      cases x with
      | agg cs => exact hx cs h2
      | _ => exact ⟨0, _, rfl, h2⟩
    obtain ⟨k, c, h3, h4⟩ := hcell
    have hok := hS.elems q row hq
    obtain ⟨cv, _, hcr⟩ := row_cells hS hq hi h1 k c h3
    exact rel_in hcr r h4

theorem get_renV (f : Nat → Nat) (env : Vars) (t : Nat) : (renV f env).get t = renA f (env.get t) := by
  induction env with
  | nil => rfl
  | cons e env ih =>
    obtain ⟨k, v⟩ := e
    simp only [renV, List.map_cons, Vars.get]
    cases k == t with
    | true => rfl
    | false => exact ih

theorem rows_get {env : Vars} {t r : Nat} (h : r ∈ rowsA (env.get t)) : r ∈ rowsL (env.map (·.2)) := by
  induction env with
  | nil => simp [Vars.get, rowsA] at h
  | cons e env ih =>
    obtain ⟨k, v⟩ := e
    simp only [Vars.get] at h
    simp only [List.map_cons, rowsL, List.mem_append]
    cases hk : k == t with
    | true => rw [hk] at h; exact .inl h
    | false => rw [hk] at h; exact .inr (ih h)

theorem getRows_take (l : List Row) : ∀ n, n ≤ l.length → getRows l (List.range n) = some (l.take n) := by
  intro n hn
  have gen : ∀ (k m : Nat), k + m ≤ l.length → getRows l (List.range' k m) = some ((l.drop k).take m) := by
    intro k m
    induction m generalizing k with
    | zero => intro _; rfl
    | succ m ih =>
      intro h
      have hk : k < l.length := by omega
      simp only [List.range'_succ, getRows, List.getElem?_eq_getElem hk, ih (k + 1) (by omega)]
      rw [List.drop_eq_getElem_cons hk]; rfl
  have := gen 0 n (by omega)
  rw [List.range_eq_range']; simpa using this

theorem getRows_drop (l : List Row) (n : Nat) (hn : n ≤ l.length) : getRows l (List.range' n (l.length - n)) = some (l.drop n) := by
  have gen : ∀ (k m : Nat), k + m ≤ l.length → getRows l (List.range' k m) = some ((l.drop k).take m) := by
    intro k m
    induction m generalizing k with
    | zero => intro _; rfl
    | succ m ih =>
      intro h
      have hk : k < l.length := by omega
      simp only [List.range'_succ, getRows, List.getElem?_eq_getElem hk, ih (k + 1) (by omega)]
      rw [List.drop_eq_getElem_cons hk]; rfl
  rw [gen n _ (by omega), List.take_of_length_le (by simp)]

theorem posOf_range' : ∀ (m k i : Nat), k ≤ i → i < k + m → posOf (List.range' k m) i = i - k
  | 0, k, i, h1, h2 => by omega
  | m + 1, k, i, h1, h2 => by
    simp only [List.range'_succ, posOf]
    by_cases he : k = i
    · subst he; simp
    · have : (k == i) = false := by simpa using he
      rw [this, posOf_range' m (k + 1) i (by omega) (by omega)]
      simp only [cond_false]; omega

theorem narrow_sound {M : Mach} {fi : Fi} {k : List Item} {env env' : Vars} {L Lc : Heap} {Q : AV → Heap → Prop} {rs : List Nat} (hn : narrowIn L rs env = some (env', Lc))
    (ih : RunSnd M fi k env' Lc fun v L1 => Q (renA (backAt L.length rs) v) (backAll L rs L1)) : RunSnd M fi k env L Q := by
  unfold narrowIn at hn
  split at hn
  · rename_i rows hrows
    split at hn
    · rename_i hc
      simp only [Option.some.injEq, Prod.mk.injEq] at hn
      obtain ⟨rfl, rfl⟩ := hn
      simp only [Bool.and_eq_true, List.all_eq_true, List.contains_iff_mem] at hc
      obtain ⟨hnd, ha, hcl⟩ := hc
      have hnd := (noDup_iff rs).1 hnd
      intro S b a cs fn h1 h2 h3 h4 h5 h6 h7 h8
      subst h6
      obtain ⟨hSc, _, hrelc⟩ := sub_ok h5 hrows hnd hcl
      obtain ⟨gl, _⟩ := getRows_spec hrows
      have hV : VRel ⟨S.base, accOf S rs, rows.map (renRow (posOf rs)), subβ S.β rs, S.w⟩ (renV (posOf rs) env) a.tmps := by
        intro t
        rw [get_renV]
        exact hrelc _ _ (h7 t) fun r hr => ha r (rows_get hr)
      obtain ⟨fr, w', β', cv, v, L1, hq, k1, k2, k3, k4, k5, k6⟩ := ih _ b a cs fn h1 h2 h3 h4 hSc rfl hV h8
      have hle : rs.length ≤ L1.length := by
        by_cases hz : rs.length = 0
        · omega
        · have hlt : rs.length - 1 < (rows.map (renRow (posOf rs))).length := by simp; omega
          have hβ : rs.length - 1 < (subβ S.β rs).length := by simp [subβ]; omega
          obtain ⟨row', info', q1, _⟩ := k5.rows (rs.length - 1) _ _ (List.getElem?_eq_getElem hlt) (List.getElem?_eq_getElem hβ)
          have := (List.getElem?_eq_some_iff.1 q1).1
          simp only at this; omega
      let ns := List.range' rs.length (L1.length - rs.length)
      have hmem : ∀ i, i ∈ ns ↔ rs.length ≤ i ∧ i < L1.length := by
        intro i; simp only [ns, List.mem_range'_1]; omega
      have hrefs := refs_in k4
      obtain ⟨m1, m2, m3⟩ := back_ok (S1 := ⟨S.base, accOf S rs, L1, β', w'⟩) (ns := ns) (old := L1.take rs.length) (new := L1.drop rs.length) h5 hrows hnd hcl k4 k5 List.nodup_range' (fun i hi => ((hmem i).1 hi).1)
        (getRows_take L1 _ hle) (getRows_drop L1 _ hle) (fun row hr r hrr => by
          have hm : row ∈ L1 := by
            rcases List.mem_append.1 hr with h | h
            · exact List.mem_of_mem_take h
            · exact List.mem_of_mem_drop h
          have := hrefs row hm r hrr
          by_cases hlt : r < rs.length
          · exact .inl hlt
          · exact .inr ((hmem r).2 ⟨by omega, this⟩))
      have heq : ∀ r, r < L1.length → backOf S.L.length rs ns r = backAt S.L.length rs r := by
        intro r hr
        unfold backOf backAt
        cases hb : Nat.blt r rs.length with
        | true => rfl
        | false =>
          have hge : rs.length ≤ r := by
            rcases Nat.lt_or_ge r rs.length with h | h
            · rw [Nat.blt_eq.mpr h] at hb; simp at hb
            · exact h
          simp only [cond_false, ns]
          rw [posOf_range' _ _ _ hge (by omega)]
      have hrow : ∀ row ∈ L1, renRow (backOf S.L.length rs ns) row = renRow (backAt S.L.length rs) row := by
        intro row hm
        unfold renRow
        cases hcr : row.clean with
        | true => rfl
        | false =>
          simp only [cond_false]
          rw [renL_ext _ fun r hr => heq r (hrefs row hm r (by unfold rowRefs; rw [hcr]; exact hr))]
      have hLL : backL S.L rs ns (L1.take rs.length) (L1.drop rs.length) = backAll S.L rs L1 := by
        unfold backL backAll
        rw [List.map_congr_left fun row hm => hrow row (List.mem_of_mem_take hm), List.map_congr_left fun row hm => hrow row (List.mem_of_mem_drop hm)]
      have hin := rel_in k6
      have m3' := m3 v cv k6 fun r hr => by
        have := hin r hr
        by_cases hlt : r < rs.length
        · exact .inl hlt
        · exact .inr ((hmem r).2 ⟨by omega, this⟩)
      rw [renA_ext v fun r hr => heq r (hin r hr)] at m3'
      rw [hLL] at m1 m2 m3'
      exact ⟨fr, w', _, cv, _, _, hq, k1, k2, k3, m1, m2, m3'⟩
    · simp at hn
  · simp at hn

/-- The first operations of a region in the text's order. -/
theorem text_app {M : Mach} {call : Answer} {n : Nat} {ops : Array Oper} {ans : Nat → Option Ans} {hot : Nat → Nat} {Q : Exit → Act → World → Prop} (l2 : List Nat) : ∀ (l : List Nat) {s sf : RS} {S : St} {a : Act}, runOps M.P M.inl call n ops ans hot l s = some sf →
    (∀ b ∈ sf.asm, b = true) → (∀ q ∈ sf.eqs, q) → (∀ c ∈ sf.calls, c.cond = true → CFSnd M c) →
    HeapOk S → S.L = s.L → TRel S s.env a.tmps → n ≤ a.tmps.size →
    (∀ S' a', HeapOk S' → Ext S S' → S'.L = sf.L → TRel S' sf.env a'.tmps → a'.tmps.size = a.tmps.size → a'.defers = a.defers → wpOps (M.P ()) ops Q l2 a' S'.w) →
    wpOps (M.P ()) ops Q (l ++ l2) a S.w
  | [], s, sf, S, a, h, _, _, _, hS, hL, hT, _, hK => by
    simp only [runOps, Option.some.injEq] at h; subst h
    exact hK S a hS (Ext.refl S) hL hT rfl rfl
  | i :: rest, s, sf, S, a, h, hA, hQ, hC, hS, hL, hT, hn, hK => by
    rw [List.cons_append, wpOps_cons]
    simp only [runOps] at h
    cases ho : ops[i]? with
    | none =>
      rw [ho] at h
      unfold wpOp
      simp only [ho]
      exact text_app l2 rest h hA hQ hC hS hL hT hn hK
    | some o =>
      rw [ho] at h
      simp only at h
      cases h1 : runOp M.P M.inl call n ops (ans i) (hot i) o s with
      | none => rw [h1] at h; simp at h
      | some s1 =>
        rw [h1] at h
        simp only at h
        obtain ⟨env, L, x, y, z, rfl, _⟩ := runOps_adds _ h
        refine op_sound hS hL hT hn ho h1 (fun b hb => hA b (by simp [hb])) (fun b hb => hQ b (by simp [hb])) (fun b hb => hC b (by simp [hb])) fun S' a' k1 k2 k3 k4 k5 k6 => ?_
        exact text_app l2 rest h hA hQ hC k1 k3 k4 (by rw [k5]; exact hn) fun S'' a'' m1 m2 m3 m4 m5 m6 => hK S'' a'' m1 (k2.trans m2) m3 m4 (m5.trans k5) (m6.trans k6)

theorem range_split {n i : Nat} (h : i < n) : List.range n = List.range i ++ i :: (List.range n).drop (i + 1) := by
  have h1 : List.range i = (List.range n).take i := by rw [List.take_range, Nat.min_eq_left (by omega)]
  have h2 : (List.range n).drop i = i :: (List.range n).drop (i + 1) := by
    have h3 : i < (List.range n).length := by simpa using h
    rw [List.drop_eq_getElem_cons h3]; simp
  rw [h1, ← h2, List.take_append_drop]

theorem nil_sound {M : Mach} {fi : Fi} {id i : Nat} {ops : Array Oper} {k : List Item} {env : Vars} {L : Heap} {Q : AV → Heap → Prop} {keep : List Nat} {s : Bool → RS}
    (hr : ∀ b, nilRun M.P M.inl fi.n ops i env L b = some (s b)) (hA : ∀ b, (∀ x ∈ (s b).asm, x = true) ∧ (s b).eqs = [] ∧ (s b).calls = [])
    (ih : ∀ b, RunSnd M fi k (forget keep (s b).env) (s b).L Q) : RunSnd M fi (.code (.region id ops false) :: k) env L Q := by
  intro S b a cs fn h1 h2 h3 h4 h5 h6 h7 h8
  let Q' : Exit → Act → World → Prop := fun e a' w' => match e with
    | .normal => ∃ (t : Bool) (S' : St), S'.w = w' ∧ HeapOk S' ∧ Ext S S' ∧ S'.L = (s t).L ∧ TRel S' (s t).env a'.tmps ∧ a'.tmps.size = a.tmps.size ∧ a'.defers = a.defers
    | _ => False
  have hwp : (Code.region id ops false).wp (M.P ()) Q' a S.w := by
    refine wp_region ?_
    have h0 := hr true
    unfold nilRun at h0
    cases ho : ops[i]? with
    | none => simp [ho] at h0
    | some o =>
    cases hs1 : runOps M.P M.inl (fun _ _ _ => none) fi.n ops (fun _ => none) (fun _ => 2) (List.range i) ⟨lift env, L, [], [], []⟩ with
    | none => simp [hs1] at h0
    | some s1 =>
    simp only [ho, hs1] at h0
    cases hd : nilTest M.P s1.env o with
    | none => simp [hd] at h0
    | some d =>
    -- what is behind the test
    have hb : ∀ t, ∃ env1, putE fi.n (some d) [] (.bool t) s1.env = some env1 ∧ runOps M.P M.inl (fun _ _ _ => none) fi.n ops (fun _ => none) (fun _ => 2) ((List.range ops.size).drop (i + 1)) ⟨env1, s1.L, s1.asm, s1.eqs, s1.calls⟩ = some (s t) := by
      intro t
      have ht := hr t
      unfold nilRun at ht
      simp only [ho, hs1, hd] at ht
      split at ht
      · rename_i env1 he; exact ⟨env1, he, ht⟩
      · simp at ht
    have hin : (∀ x ∈ s1.asm, x = true) ∧ s1.eqs = [] ∧ s1.calls = [] := by
      obtain ⟨env1, _, ht⟩ := hb true
      obtain ⟨e2, L2, x, y, z, he, _⟩ := runOps_adds _ ht
      have := hA true
      rw [he] at this
      simp only [List.append_eq_nil_iff] at this
      exact ⟨fun w hw => this.1 w (by simp [hw]), this.2.1.1, this.2.2.1⟩
    have hlt : i < ops.size := (Array.getElem?_eq_some_iff.1 ho).1
    rw [range_split hlt]
    refine text_app _ (List.range i) hs1 hin.1 (by rw [hin.2.1]; simp) (by rw [hin.2.2]; simp) h5 h6 (lift_rel h7) h8 fun S' a' k1 k2 k3 k4 k5 k6 => ?_
    rw [wpOps_cons]
    have hρ : ∀ x, Rel S' (ev s1.env [] x) (a'.eval x) := ev_rel k4 (by intro x hx; simp at hx)
    obtain ⟨n1, n2, t, n3⟩ := nilTest_runs hd (S := S') hρ
    obtain ⟨env1, he, ht⟩ := hb t
    have hc : chainOf ops s1.env o = some (some []) := by unfold chainOf; rw [n1]
    obtain ⟨hco, hw⟩ := chainOf_yes k4 hc
    unfold wpOp
    simp only [ho]
    rw [hw]
    simp only [chainVal, if_true]
    left
    unfold Oper.wp
    rw [n3, Oper.upon_value, n2]
    have hput := put_rel (cv := .bool t) k4 (by rw [k5]; exact h8) hco he (fun _ => .data _ _ (.bool t)) (fun h => by simp [chainVal] at h)
    obtain ⟨p1, p2, p3⟩ := hA t
    refine text_sound _ ht p1 (by rw [p2]; simp) (by rw [p3]; simp) k1 k3 hput (by rw [size_put, k5]; exact h8) fun S'' a'' m1 m2 m3 m4 m5 m6 => ?_
    exact ⟨t, S'', rfl, m1, k2.trans m2, m3, m4, by rw [m5, size_put, k5], by rw [m6]; simpa [Act.put] using k6⟩
  obtain ⟨e, a', w', hq, harr⟩ := hwp b k cs
  cases e with
  | normal =>
    obtain ⟨t, S', rfl, k1, k2, k3, k4, k5, k6⟩ := hq
    obtain ⟨fr, w'', β', cv, v, L', hq, m1, m2, m3, m4, m5, m6⟩ := ih t S' b a' cs fn h1 h2 h3 (k6.trans h4) k1 k3 (forget_rel k4 keep) (by rw [k5]; exact h8)
    rw [k2.base, k2.acc] at m4 m5 m6
    exact ⟨fr, w'', β', cv, v, L', hq, Steps.trans harr m1, m2, m3, m4, k2.trans m5, m6⟩
  | exit => exact hq.elim
  | goto => exact hq.elim
  | ret => exact hq.elim
  | panic => exact hq.elim
  | outgrown => exact hq.elim

theorem wp_sound {M : Mach} (hm : (M.P ()).follows .mixedOrders = true) {c : Conf} {Q : AV → Heap → Prop} (h : Wp M c Q) : Means M c Q := by
  induction h with
  | skip _ ih => exact RunSnd.step ih fun b a cs S _ => step_skip
  | seq _ ih => exact RunSnd.step ih fun b a cs S _ => step_seq
  | @cond fi c x y k env L Q t ht _ ih =>
    refine RunSnd.step ih fun b a cs S hV => ?_
    have := vget_rel (a := a) hV c
    rw [ht] at this
    have hc := rel_bool this
    cases t with
    | true => exact step_cond (t := true) hc
    | false => exact step_cond (t := false) hc
  | block _ ih => exact RunSnd.step ih fun b a cs S _ => step_block
  | inBlock _ ih => exact RunSnd.step ih fun b a cs S _ => step_inBlock
  | loop _ ih => exact RunSnd.step ih fun b a cs S _ => step_loop
  | inLoop _ ih => exact RunSnd.step ih fun b a cs S _ => step_inLoop
  | exit he _ ih => exact RunSnd.step ih fun b a cs S _ => step_exit he
  | @region fi id ops draw k env L Q0 call ans hot keep s hd hr hA hQ ho hp _ iho ihp ih =>
    intro S b a cs fn h1 h2 h3 h4 h5 h6 h7 h8
    have hC : ∀ c ∈ s.calls, c.cond = true → CFSnd M c := by
      intro c hc hcc
      unfold CFSnd
      cases hown : c.own with
      | true => exact OwnQ.snd (iho c hc hcc hown)
      | false => exact PureR.snd (ihp c hc hcc hown)
    let Q : Exit → Act → World → Prop := fun e a' w' => match e with
      | .normal => ∃ S' : St, S'.w = w' ∧ HeapOk S' ∧ Ext S S' ∧ S'.L = s.L ∧ TRel S' s.env a'.tmps ∧ a'.tmps.size = a.tmps.size ∧ a'.defers = a.defers
      | _ => False
    have hwp : (Code.region id ops draw).wp (M.P ()) Q a S.w := by
      cases draw with
      | false =>
        exact wp_region (text_sound _ hr hA hQ hC h5 h6 (lift_rel h7) h8 fun S' a' k1 k2 k3 k4 k5 k6 => ⟨S', rfl, k1, k2, k3, k4, k5, k6⟩)
      | true =>
        refine wp_region_any hm ?_
        obtain ⟨n1, n2⟩ := more_heap h5 (w' := { S.w with drawn := S.w.drawn + 1 }) ⟨rfl, rfl, rfl, Nat.le_refl _, fun _ _ => rfl⟩ (fun _ _ => rfl)
        refine draw_sound (hd rfl) ops.size (Array.replicate ops.size false) (List.range ops.size) (S := ⟨S.base, S.acc, S.L, S.β, { S.w with drawn := S.w.drawn + 1 }⟩) (by simp) List.pairwise_lt_range (fun i => ?_) (fun j o _ hj => ?_) (by simp) hr hA hQ hC n1 h6 ((lift_rel h7).mono n2) h8 fun S' a' k1 k2 k3 k4 k5 k6 => ⟨S', rfl, k1, n2.trans k2, k3, k4, k5, k6⟩
        · simp only [List.mem_range]
          constructor
          · intro h; exact ⟨h, by simp [h]⟩
          · intro h; exact h.1
        · by_cases hlt : j < ops.size <;> simp [hlt] at hj
    obtain ⟨e, a', w', hq, harr⟩ := hwp b k cs
    cases e with
    | normal =>
      obtain ⟨S', rfl, k1, k2, k3, k4, k5, k6⟩ := hq
      obtain ⟨fr, w'', β', cv, v, L', hq, m1, m2, m3, m4, m5, m6⟩ := ih S' b a' cs fn h1 h2 h3 (k6.trans h4) k1 k3 (forget_rel k4 keep) (by rw [k5]; exact h8)
      rw [k2.base, k2.acc] at m4 m5 m6
      exact ⟨fr, w'', β', cv, v, L', hq, Steps.trans harr m1, m2, m3, m4, k2.trans m5, m6⟩
    | exit => exact hq.elim
    | goto => exact hq.elim
    | ret => exact hq.elim
    | panic => exact hq.elim
    | outgrown => exact hq.elim
  | @ret fi k env L v Q hf hq =>
    intro S b a cs fn h1 h2 h3 h4 h5 h6 h7 h8
    subst h6
    obtain ⟨cv, r1, r2⟩ := finish_sound h5 h7 h2 hf
    exact ⟨_, S.w, S.β, cv, v, _, hq, .one step_ret, rfl, ⟨rfl, h4, h3, fn, h1, r1⟩, h5, Ext.refl S, r2⟩
  | @done fi env L v Q hf hq =>
    intro S b a cs fn h1 h2 h3 h4 h5 h6 h7 h8
    subst h6
    obtain ⟨cv, r1, r2⟩ := finish_sound h5 h7 h2 hf
    exact ⟨_, S.w, S.β, cv, v, _, hq, .one step_end, rfl, ⟨rfl, h4, h3, fn, h1, r1⟩, h5, Ext.refl S, r2⟩
  | @own f args L Q fn c hf hb hn _ ih =>
    intro S cargs hS hL hr
    refine ⟨call_runs hf hb hn, fun cs => ?_⟩
    have henter : Frame.enter (M.P ()) f ⟨cargs⟩ .normal =
        ({ (default : Frame) with fn := f, kind := .normal } : Frame).at { tmps := ⟨cargs⟩ ++ Array.replicate (fn.ntmps - (⟨cargs⟩ : Array Value).size) undef, defers := [] } [.code c] := by
      simp [Frame.enter, Frame.at, hf, hb]
    obtain ⟨fr, w', β', cv, v, L', hq, k1, k2, k3, k4, k5, k6⟩ := ih S { (default : Frame) with fn := f, kind := .normal } { tmps := ⟨cargs⟩ ++ Array.replicate (fn.ntmps - (⟨cargs⟩ : Array Value).size) undef, defers := [] } cs fn hf rfl rfl rfl hS hL
      (enter_rel _ hr) (by simp; omega)
    rw [← henter] at k1
    exact ⟨.returned cv, w', fr, ⟨v, L', β', hq, k4, k5, k6⟩, k1, k2, k3⟩
  | @pure f args Q _ ih =>
    intro base acc w cargs hb hac hr
    have hS : HeapOk ⟨base, acc, [], [], w⟩ := ⟨hb, rfl, by simp, by simp, by simp, by simp, by simp, by simp, by simp, fun b off h => hac b off (Nat.le_trans hb h)⟩
    obtain ⟨k1, k2⟩ := ih ⟨base, acc, [], [], w⟩ cargs hS rfl hr
    refine ⟨k1, Calls.mono k2 fun e w' he => ?_⟩
    cases e with
    | returned cv =>
      obtain ⟨v, L', β', ⟨d, d', hd, hv, hcl, hw, hq⟩, m1, m2, m3⟩ := he
      refine ⟨d', hq, m2.below, weak_rel hw (pure_rel (S := ⟨base, acc, L', β', w'⟩) (S' := ⟨base, acc, [], [], w'⟩) m1 rfl (fun b off hi _ => ?_) v m3 hd hv fun r hr row info q1 q2 off _ _ => ?_)⟩
      · exact ⟨hi.1, by simp⟩
      · exact ⟨m1.acq r info off q2, by simp⟩
    | panicked c => exact he.elim
    | outgrown => exact he.elim
  | @narrow fi k env L Q rs env' Lc hn _ ih => exact narrow_sound hn ih
  | @nilq fi id ops k env L Q i keep s hr hA _ ih => exact nil_sound hr hA ih
  | @mono c Q Q' _ hq ih =>
    cases c with
    | run fi todo env L =>
      intro S b a cs fn h1 h2 h3 h4 h5 h6 h7 h8
      obtain ⟨fr, w', β', cv, v, L', hqq, k⟩ := ih S b a cs fn h1 h2 h3 h4 h5 h6 h7 h8
      exact ⟨fr, w', β', cv, v, L', hq v L' hqq, k⟩
    | own f args L =>
      intro S cargs h1 h2 h3
      obtain ⟨k1, k2⟩ := ih S cargs h1 h2 h3
      refine ⟨k1, Calls.mono k2 fun e w' he => ?_⟩
      cases e with
      | returned cv =>
        obtain ⟨v, L', β', hqq, m⟩ := he
        exact ⟨v, L', β', hq v L' hqq, m⟩
      | panicked c => exact he.elim
      | outgrown => exact he.elim
    | pure f args =>
      intro base acc w cargs h1 h2 h3
      obtain ⟨k1, k2⟩ := ih base acc w cargs h1 h2 h3
      refine ⟨k1, Calls.mono k2 fun e w' he => ?_⟩
      cases e with
      | returned cv =>
        obtain ⟨d, hqq, m⟩ := he
        exact ⟨d, hq d [] hqq, m⟩
      | panicked c => exact he.elim
      | outgrown => exact he.elim
  | @weak f args v d _ hw ih =>
    intro base acc w cargs hb hac hr
    obtain ⟨k1, k2⟩ := ih base acc w cargs hb hac hr
    refine ⟨k1, Calls.mono k2 fun e w' he => ?_⟩
    cases e with
    | returned cv =>
      obtain ⟨d0, ⟨rfl, _⟩, m1, m2⟩ := he
      exact ⟨d, ⟨rfl, rfl⟩, m1, weak_rel hw m2⟩
    | panicked c => exact he.elim
    | outgrown => exact he.elim

/-- What a call's answer means. -/
theorem ev_sound {M : Mach} (hm : (M.P ()).follows .mixedOrders = true) {f : FuncId} {args : List AV} {v : AV} (h : Ev M (.pure f args) v []) : PureSnd M f args v :=
  PureR.snd (wp_sound hm h)
end Go.Av
