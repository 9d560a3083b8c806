/- RUNS WITHOUT UNKNOWNS: an evaluator with fuel, and that it gives the evaluation relation. No program in sight. -/
import Derived.Test.YtablgkhmbcegkaaAvWp
namespace Go.Av

section
variable {P : Unit → Program} {inl : FuncId → Bool} {call : Answer}

/-- A call's facts come from the answers. -/
def FromCall (inl : FuncId → Bool) (call : Answer) (c : CF) : Prop :=
  match c.own with
  | true => ∃ o, call c.f c.args c.L = some (c.v, o) ∧ c.L' = o.getD c.L ∧ (inl c.f = true ∨ (inl c.f = false ∧ ∃ L1, o = some L1))
  | false => inl c.f = false ∧ call c.f c.args [] = some (c.v, none)

theorem callF_from {L : Heap} {g : FuncId} {args : List AV} {r : SR} (h : callF inl call L g args = some r) : ∀ c ∈ r.calls, FromCall inl call c := by
  unfold callF at h
  cases hin : inl g with
  | true =>
    simp only [hin, cond_true] at h
    split at h
    · split at h
      · rename_i v o hc
        split at h
        · simp only [Option.some.injEq] at h; subst h
          intro c hcm
          simp only [List.mem_singleton] at hcm; subst hcm
          exact ⟨o, hc, rfl, .inl hin⟩
        · simp at h
      · simp at h
    · simp at h
  | false =>
    simp only [hin, cond_false] at h
    split at h
    · rename_i ds _
      split at h
      · rename_i d hc
        split at h
        · have : ∀ r' : SR, r'.calls = [⟨true, false, g, ds, [], d, []⟩] → ∀ c ∈ r'.calls, FromCall inl call c := by
            intro r' e c hcm
            rw [e] at hcm
            simp only [List.mem_singleton] at hcm; subst hcm
            exact ⟨hin, hc⟩
          split at h <;> (simp only [Option.some.injEq] at h; subst h; exact this _ rfl)
        · simp at h
      · rename_i v L1 hc
        split at h
        · split at h
          · split at h
            · simp only [Option.some.injEq] at h; subst h
              intro c hcm
              simp only [List.mem_singleton] at hcm; subst hcm
              exact ⟨some L1, hc, rfl, .inr ⟨hin, L1, rfl⟩⟩
            · simp at h
          · simp at h
        · simp at h
      · simp at h
    · simp at h

theorem quiet_calls {x : Option AV} {r : SR} (h : quiet x = some r) : r.calls = [] := by
  unfold quiet at h
  split at h
  · simp only [Option.some.injEq] at h; subst h; rfl
  · simp at h

theorem loadA_calls {el : Option AV} {L : Heap} {T : TypeId} {p : AV} {r : SR} (h : loadA P el L T p = some r) : r.calls = [] := by
  unfold loadA at h
  repeat' split at h
  all_goals first | (simp only [Option.some.injEq] at h; subst h; rfl) | simp at h
theorem storeA_calls {el : Option AV} {L : Heap} {T : TypeId} {p v : AV} {r : SR} (h : storeA P el L T p v = some r) : r.calls = [] := by
  unfold storeA at h
  repeat' split at h
  all_goals first | (simp only [Option.some.injEq] at h; subst h; rfl) | simp at h
theorem boxA_calls {L : Heap} {x : AV} {r : SR} (h : boxA L x = some r) : r.calls = [] := by
  unfold boxA at h
  repeat' split at h
  all_goals first | (simp only [Option.some.injEq] at h; subst h; rfl) | simp at h
theorem binA_calls {op : BinOp} {T : TypeId} {x y : AV} {r : SR} (h : binA P op T x y = some r) : r.calls = [] := by
  unfold binA intBin strBin at h
  repeat' split at h
  all_goals first | exact quiet_calls h | (simp only [Option.some.injEq] at h; subst h; rfl) | simp at h
theorem indexA_calls {T : TypeId} {x y : AV} {r : SR} (h : indexA P T x y = some r) : r.calls = [] := by
  unfold indexA at h
  repeat' split at h
  all_goals first | (simp only [Option.some.injEq] at h; subst h; rfl) | simp at h
theorem indexAddrA_calls {L : Heap} {T : TypeId} {x y : AV} {r : SR} (h : indexAddrA P L T x y = some r) : r.calls = [] := by
  unfold indexAddrA at h
  repeat' split at h
  all_goals first | (simp only [Option.some.injEq] at h; subst h; rfl) | simp at h
theorem sliceA_calls {L : Heap} {T : TypeId} {x : AV} {a b c : Option AV} {r : SR} (h : sliceA P L T x a b c = some r) : r.calls = [] := by
  unfold sliceA at h
  repeat' split at h
  all_goals first | (simp only [Option.some.injEq] at h; subst h; rfl) | simp at h
theorem makeSliceA_calls {L : Heap} {T : TypeId} {x y : AV} {r : SR} (h : makeSliceA P L T x y = some r) : r.calls = [] := by
  unfold makeSliceA at h
  repeat' split at h
  all_goals first | (simp only [Option.some.injEq] at h; subst h; rfl) | simp at h
theorem buildSliceA_calls {keep : Bool} {L : Heap} {T : TypeId} {n : Nat} {ps : List (Nat × AV)} {r : SR} (h : buildSliceA P keep L T n ps = some r) : r.calls = [] := by
  unfold buildSliceA at h
  cases keep <;> simp only [cond_true, cond_false] at h <;> (repeat' split at h) <;> first | (simp only [Option.some.injEq] at h; subst h; rfl) | simp at h
theorem appendA_calls {L : Heap} {T : TypeId} {x y : AV} {r : SR} (h : appendA P L T x y = some r) : r.calls = [] := by
  unfold appendA at h
  repeat' split at h
  all_goals first | (simp only [Option.some.injEq] at h; subst h; rfl) | simp at h
theorem clearA_calls {L : Heap} {T : TypeId} {x : AV} {r : SR} (h : clearA P L T x = some r) : r.calls = [] := by
  unfold clearA at h
  repeat' split at h
  all_goals first | (simp only [Option.some.injEq] at h; subst h; rfl) | simp at h
theorem lenA_calls {L : Heap} {T : TypeId} {x : AV} {r : SR} (h : lenA P L T x = some r) : r.calls = [] := by
  unfold lenA at h
  repeat' split at h
  all_goals first | (simp only [Option.some.injEq] at h; subst h; rfl) | simp at h

theorem stepA_from {ρ : Chain → Operand → AV} {L : Heap} {o : Oper} {r : SR} (h : stepA P inl call none ρ L o = some r) : ∀ c ∈ r.calls, FromCall inl call c := by
  have nil : r.calls = [] → ∀ c ∈ r.calls, FromCall inl call c := fun e => by rw [e]; simp
  have hc : ∀ c : Call, callA P inl call (ρ []) L c = some r → ∀ c ∈ r.calls, FromCall inl call c := by
    intro c h
    unfold callA at h
    repeat' split at h
    all_goals first
      | exact callF_from h
      | exact nil (appendA_calls h)
      | exact nil (clearA_calls h)
      | exact nil (lenA_calls h)
      | exact nil (quiet_calls h)
      | simp at h
  obtain ⟨dst, op, type, pos, after, guard⟩ := o
  cases op <;> simp only [stepA] at h
  all_goals first
    | exact nil (quiet_calls h)
    | exact nil (boxA_calls h)
    | exact nil (loadA_calls h)
    | exact nil (storeA_calls h)
    | exact nil (binA_calls h)
    | exact nil (buildSliceA_calls h)
    | exact nil (makeSliceA_calls h)
    | exact nil (sliceA_calls h)
    | exact nil (indexAddrA_calls h)
    | exact nil (indexA_calls h)
    | exact hc _ h
    | (simp only [Option.some.injEq] at h; subst h; exact nil rfl)
    | (split at h <;> first
        | exact nil (quiet_calls h)
        | exact nil (boxA_calls h)
        | (simp only [Option.some.injEq] at h; subst h; exact nil rfl)
        | simp at h)
    | simp at h

theorem runOp_from {n : Nat} {ops : Array Oper} {hot : Nat} {o : Oper} {s s' : RS} (h : runOp P inl call n ops none hot o s = some s') (hs : ∀ c ∈ s.calls, c.cond = true → FromCall inl call c) :
    ∀ c ∈ s'.calls, c.cond = true → FromCall inl call c := by
  unfold runOp at h
  split at h
  · simp at h
  · split at h
    · simp only [Option.some.injEq] at h; subst h; exact hs
    · simp at h
  · rename_i c hc
    split at h
    · split at h
      · simp at h
      · split at h
        · simp only [Option.some.injEq] at h; subst h; exact hs
        · simp at h
    · rename_i r hr
      have hfrom := stepA_from hr
      split at h
      · simp at h
      · split at h
        · simp at h
        · split at h
          · simp only [Option.some.injEq] at h; subst h
            intro c hcm hcc
            rcases List.mem_append.1 hcm with hcm | hcm
            · exact hs c hcm hcc
            · exact hfrom c hcm
          · simp only [Option.some.injEq] at h; subst h
            intro c hcm hcc
            rcases List.mem_append.1 hcm with hcm | hcm
            · exact hs c hcm hcc
            · obtain ⟨c', h1, rfl⟩ := List.mem_map.1 hcm
              exact hfrom c' h1

theorem runOps_from {n : Nat} {ops : Array Oper} {hot : Nat → Nat} : ∀ (l : List Nat) {s s' : RS}, runOps P inl call n ops (fun _ => none) hot l s = some s' → (∀ c ∈ s.calls, c.cond = true → FromCall inl call c) →
    ∀ c ∈ s'.calls, c.cond = true → FromCall inl call c
  | [], s, s', h, hs => by simp only [runOps, Option.some.injEq] at h; subst h; exact hs
  | i :: l, s, s', h, hs => by
    simp only [runOps] at h
    split at h
    · exact runOps_from l h hs
    · split at h
      · rename_i s1 h1
        exact runOps_from l h (runOp_from h1 hs)
      · simp at h
end

/-- What is told for a run: the temporaries that are read later, by function and region; the calls that change the memory. -/
structure Told where
  keep : FuncId → Nat → List Nat
  hot : FuncId → Nat → Nat → List Nat := fun _ _ _ => []
  fresh : FuncId → Bool := fun _ => false

def pureC (r : Option (AV × Heap)) : Option AV :=
  match r with
  | some (v, L') => match pureA L' v with
    | some d => if (versA L' v).all (fun b => b) = true ∧ d.clean = true then some d else none
    | none => none
  | none => none

def runC (M : Mach) (T : Told) : Nat → FuncId → Fi → List Item → Vars → Heap → Option (AV × Heap)
  | 0, _, _, _, _, _ => none
  | n + 1, f, fi, todo, env, L =>
    match todo with
    | [] => match finish M.P fi env L with
      | some v => some (v, L)
      | none => none
    | .inBlock _ :: k => runC M T n f fi k env L
    | .inLoop b :: k => runC M T n f fi (.code b :: .inLoop b :: k) env L
    | .code c :: k =>
      match c with
      | .skip => runC M T n f fi k env L
      | .seq a b => runC M T n f fi (.code a :: .code b :: k) env L
      | .cond c a b => match evV env c with
        | .bool t => runC M T n f fi (.code (bif t then a else b) :: k) env L
        | _ => none
      | .block id b => runC M T n f fi (.code b :: .inBlock id :: k) env L
      | .loop b => runC M T n f fi (.code b :: .inLoop b :: k) env L
      | .exit id => match exitTo id k with
        | some k' => runC M T n f fi k' env L
        | none => none
      | .ret => match finish M.P fi env L with
        | some v => some (v, L)
        | none => none
      | .region id ops draw =>
        match (bif draw then drawOk (hotOf ops (T.hot f id L.length)) ops else true) with
        | false => none
        | true =>
          match runOps M.P M.inl (fun g args L =>
              let r := match (M.P ()).funcs[g]? with
                | some fn => match fn.body, fn.name == "runtime.NumGoroutine" with
                  | some c, false => runC M T n g ⟨fn.ntmps, fn.results.toList⟩ [.code c] (argVars 0 args) L
                  | _, _ => none
                | none => none
              bif M.inl g || T.fresh g then (match r with | some (v, L') => some (v, some L') | none => none) else (match pureC r with | some d => some (d, none) | none => none))
              fi.n ops (fun _ => none) (bif draw then hotOf ops (T.hot f id L.length) else fun _ => 2) (List.range ops.size) ⟨lift env, L, [], [], []⟩ with
          | some s => match s.asm.all (fun b => b), s.eqs with
            | true, [] => runC M T n f fi k (forget (T.keep f id) s.env) s.L
            | _, _ => none
          | none => none
      | _ => none
    | _ => none

def ownC (M : Mach) (T : Told) (n : Nat) (g : FuncId) (args : List AV) (L : Heap) : Option (AV × Heap) :=
  match (M.P ()).funcs[g]? with
  | some fn => match fn.body, fn.name == "runtime.NumGoroutine" with
    | some c, false => runC M T n g ⟨fn.ntmps, fn.results.toList⟩ [.code c] (argVars 0 args) L
    | _, _ => none
  | none => none

theorem own_of {M : Mach} {T : Told} {n : Nat} (ih : ∀ f fi todo env L v L', runC M T n f fi todo env L = some (v, L') → Ev M (.run fi todo env L) v L') {g : FuncId} {args : List AV} {L L' : Heap} {v : AV}
    (h : ownC M T n g args L = some (v, L')) : Ev M (.own g args L) v L' := by
  unfold ownC at h
  split at h
  · rename_i fn hf
    split at h
    · rename_i c hb hn
      exact .own fn c hf hb hn (ih _ _ _ _ _ _ _ h)
    · simp at h
  · simp at h

theorem pure_of_own {M : Mach} {g : FuncId} {args : List AV} {r : Option (AV × Heap)} {d : AV} (hr : ∀ v L', r = some (v, L') → Ev M (.own g args []) v L') (h : pureC r = some d) : Ev M (.pure g args) d [] := by
  unfold pureC at h
  split at h
  · rename_i v L'
    split at h
    · rename_i d' hd
      split at h
      · rename_i hc
        simp only [Option.some.injEq] at h; subst h
        exact .pure (.mono (hr v L' rfl) fun v' K' ⟨e1, e2⟩ => by subst e1; subst e2; exact ⟨d', d', hd, by simpa using hc.1, hc.2, .refl _, rfl, rfl⟩)
      · simp at h
    · simp at h
  · simp at h

theorem runC_sound {M : Mach} {T : Told} : ∀ (n : Nat) (f : FuncId) (fi : Fi) (todo : List Item) (env : Vars) (L : Heap) (v : AV) (L' : Heap), runC M T n f fi todo env L = some (v, L') → Ev M (.run fi todo env L) v L' := by
  intro n
  induction n with
  | zero => intro f fi todo env L v L' h; simp [runC] at h
  | succ n ih =>
    intro f fi todo env L v L' h
    unfold runC at h
    split at h
    · split at h
      · rename_i v' hf
        simp only [Option.some.injEq, Prod.mk.injEq] at h
        obtain ⟨rfl, rfl⟩ := h
        exact .done hf ⟨rfl, rfl⟩
      · simp at h
    · exact .inBlock (ih _ _ _ _ _ _ _ h)
    · exact .inLoop (ih _ _ _ _ _ _ _ h)
    · split at h
      · exact .skip (ih _ _ _ _ _ _ _ h)
      · exact .seq (ih _ _ _ _ _ _ _ h)
      · split at h
        · rename_i t ht
          exact .cond t ht (ih _ _ _ _ _ _ _ h)
        · simp at h
      · exact .block (ih _ _ _ _ _ _ _ h)
      · exact .loop (ih _ _ _ _ _ _ _ h)
      · split at h
        · rename_i k' hk
          exact .exit hk (ih _ _ _ _ _ _ _ h)
        · simp at h
      · split at h
        · rename_i v' hf
          simp only [Option.some.injEq, Prod.mk.injEq] at h
          obtain ⟨rfl, rfl⟩ := h
          exact .ret hf ⟨rfl, rfl⟩
        · simp at h
      · split at h
        · simp at h
        · rename_i id ops draw k hd
          split at h
          · rename_i s hr
            split at h
            · rename_i hA hE
              have hfrom := runOps_from _ hr (by simp)
              refine .region _ (fun _ => none) _ (T.keep f id) s (fun e => ?_) hr (by simpa using hA) (by rw [hE]; simp) (fun c hc h1 h2 => ?_) (fun c hc h1 h2 => ?_) (ih _ _ _ _ _ _ _ h)
              · subst e; simpa using hd
              · have := hfrom c hc h1
                unfold FromCall at this
                rw [h2] at this
                obtain ⟨o, k2, k3, k1⟩ := this
                cases hif : M.inl c.f || T.fresh c.f with
                | true =>
                  simp only [hif, cond_true] at k2
                  split at k2
                  · rename_i v' L2 hown
                    simp only [Option.some.injEq, Prod.mk.injEq] at k2
                    obtain ⟨rfl, rfl⟩ := k2
                    rw [k3]
                    exact own_of ih hown
                  · simp at k2
                | false =>
                  simp only [hif, cond_false] at k2
                  rcases k1 with k1 | ⟨k1, L3, k4⟩
                  · rw [k1] at hif; simp at hif
                  · subst k4
                    split at k2
                    · simp at k2
                    · simp at k2
              · have := hfrom c hc h1
                unfold FromCall at this
                rw [h2] at this
                obtain ⟨hin, k2⟩ := this
                cases hif : M.inl c.f || T.fresh c.f with
                | true =>
                  simp only [hif, cond_true] at k2
                  split at k2
                  · simp at k2
                  · simp at k2
                | false =>
                  simp only [hif, cond_false] at k2
                  split at k2
                  · rename_i d hp
                    simp only [Option.some.injEq, Prod.mk.injEq] at k2
                    obtain ⟨rfl, _⟩ := k2
                    exact pure_of_own (fun v' L2 hown => own_of ih hown) hp
                  · simp at k2
            · simp at h
          · simp at h
      · simp at h
    · simp at h

/-- A call without unknowns. -/
theorem closed {M : Mach} (T : Told) (n : Nat) {g : FuncId} {args : List AV} {d : AV} (h : pureC (ownC M T n g args []) = some d) : Ev M (.pure g args) d [] :=
  pure_of_own (fun _ _ hown => own_of (runC_sound n) hown) h
end Go.Av
