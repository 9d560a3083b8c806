/- REGIONS WHOSE ORDER IS DRAWN: operations that may be swapped. No program in sight. -/
import Derived.Test.YtablgkhmbcegkaaAvRun
namespace Go.Av
open Go.RowKit

section
variable {P : Unit → Program} {inl : FuncId → Bool} {call : Answer}

theorem map_congr_of {α β : Type} {f g : α → β} {a : Array α} (h : ∀ x ∈ a, f x = g x) : a.toList.map f = a.toList.map g :=
  List.map_congr_left fun x hx => h x (by simpa using hx)

/-- An operation sees its own operands alone. -/
theorem stepA_congr {an : Option Ans} {ρ ρ' : Chain → Operand → AV} {L : Heap} {o : Oper} (h : ∀ ex, ∀ x ∈ o.op.operands, ρ ex x = ρ' ex x) :
    stepA P inl call an ρ L o = stepA P inl call an ρ' L o := by
  obtain ⟨dst, op, type, pos, after, guard⟩ := o
  have pairs : ∀ ps : Array (Nat × Operand), (∀ x ∈ ps.map (·.2), ρ [] x = ρ' [] x) →
      (ps.toList.map fun (i, x) => (i, ρ [] x)) = (ps.toList.map fun (i, x) => (i, ρ' [] x)) := fun ps hp =>
    List.map_congr_left fun p hm => by
      obtain ⟨i, x⟩ := p
      simp only [hp x (Array.mem_map.2 ⟨(i, x), by simpa using hm, rfl⟩)]
  have calls : ∀ c : Call, (∀ x ∈ c.operands, ρ [] x = ρ' [] x) → ∀ call' L, callA P inl call' (ρ []) L c = callA P inl call' (ρ' []) L c := by
    intro c hc call' L
    have hargs : ∀ x ∈ c.args, ρ [] x = ρ' [] x := fun x hx => hc x (by simp [Call.operands, hx])
    unfold callA
    cases hcal : c.callee with
    | builtin b =>
      simp only
      have mem : ∀ {l : List Operand}, c.args.toList = l → ∀ x ∈ l, ρ [] x = ρ' [] x := fun e x hx => hargs x (by rw [← e] at hx; simpa using hx)
      split <;> first
        | (rename_i e _; have := mem e; simp_all; done)
        | (rename_i e; have hm := mem e; rw [hm _ (List.mem_cons_self ..), List.map_congr_left (fun y hy => hm y (List.mem_cons_of_mem _ hy))]; done)
        | rfl
    | value f =>
      have hf : ρ [] f = ρ' [] f := hc f (by simp [Call.operands, hcal])
      simp only [hf, map_congr_of hargs]
    | invoke r m => rfl
  cases op <;> simp only [Op.operands] at h <;> simp only [stepA]
  case build t ps => rw [pairs ps fun x hx => h [] x (by simpa using hx)]
  case buildSlice t n ps => rw [pairs ps fun x hx => h [] x (by simpa using hx)]
  case makeFunc fn first captured =>
    rw [map_congr_of (a := first) fun x hx => h [] x (by simp [hx]), map_congr_of (a := captured) fun x hx => h [] x (by simp [hx])]
  case call c =>
    split
    · exact calls c (fun x hx => h [] x hx) _ _
    · exact calls c (fun x hx => h [] x hx) _ _
  case slice t x lo hi mx => cases lo <;> cases hi <;> cases mx <;> simp_all
  all_goals (first | rfl | (simp_all; done))

theorem fits_congr {ρ ρ' : Operand → AV} {L : Heap} {o : Oper} {hot : Nat} {L' : Option Heap} {k : List CF} (h : ∀ x ∈ o.op.operands, ρ x = ρ' x) : fits ρ L o hot L' k = fits ρ' L o hot L' k := by
  have hcall : ∀ c, o.op = .call c → (∀ f, c.callee = .value f → ρ f = ρ' f) ∧ (∀ x ∈ c.args.toList, ρ x = ρ' x) := by
    intro c hc
    rw [hc] at h
    exact ⟨fun f hf => h f (by simp [Op.operands, Call.operands, hf]), fun x hx => h x (by simp only [Op.operands, Call.operands, Array.mem_append]; right; exact Array.mem_toList_iff.1 hx)⟩
  have h1 : readsA ρ o = readsA ρ' o := by
    unfold readsA
    split <;> rename_i e
    · rw [h _ (by rw [e]; simp [Op.operands])]
    · rw [h _ (by rw [e]; simp [Op.operands])]
    · rw [h _ (by rw [e]; simp [Op.operands])]
    · rfl
    · obtain ⟨g1, g2⟩ := hcall _ e
      split
      · rename_i h1 h2
        rw [g2 _ (by rw [h2]; exact List.mem_cons_self ..)]
      · rename_i f hf
        rw [g1 f hf, List.map_congr_left g2]
      · rfl
    · rfl
  have h2 : writesA ρ L o = writesA ρ' L o := by
    unfold writesA
    split <;> rename_i e
    · rfl
    · rfl
    · rw [h _ (by rw [e]; simp [Op.operands])]
    · obtain ⟨g1, g2⟩ := hcall _ e
      split
      · rename_i h1 h2
        rw [g2 _ (by rw [h2]; exact List.mem_cons_self ..)]
      · rfl
      · rfl
    · rfl
  unfold fits rowFits
  rw [h1, h2]

theorem fits_free {ρ : Operand → AV} {L L2 : Heap} {o : Oper} {hot : Nat} {L' : Option Heap} {k : List CF} (h : memFree o = true) : fits ρ L o hot L' k = fits ρ L2 o hot L' k := by
  have h2 : writesA ρ L o = none ∧ writesA ρ L2 o = none ∧ laysOne L o L' k = laysOne L2 o L' k := by
    obtain ⟨dst, op, type, pos, after, guard⟩ := o
    cases op <;> simp [memFree] at h <;> exact ⟨rfl, rfl, rfl⟩
  unfold fits rowFits
  rw [h2.1, h2.2.1, h2.2.2]

/-- What touches no memory. -/
theorem stepA_free {an : Option Ans} {ρ : Chain → Operand → AV} {L L2 : Heap} {o : Oper} (h : memFree o = true) :
    stepA P inl call an ρ L o = stepA P inl call an ρ L2 o ∧ ∀ r, stepA P inl call an ρ L o = some r → r.L' = none := by
  have hq : ∀ {x : Option AV} {r : SR}, quiet x = some r → r.L' = none := by
    intro x r hr
    unfold quiet at hr
    split at hr
    · simp only [Option.some.injEq] at hr; subst hr; rfl
    · simp at hr
  obtain ⟨dst, op, type, pos, after, guard⟩ := o
  unfold memFree at h
  refine ⟨by cases op <;> simp only [Bool.false_eq_true] at h <;> rfl, fun r hr => ?_⟩
  cases op <;> simp only [Bool.false_eq_true] at h <;> simp only [stepA] at hr
  case nilCheck x =>
    split at hr
    · simp only [Option.some.injEq] at hr; subst hr; rfl
    · simp only [Option.some.injEq] at hr; subst hr; rfl
    · simp at hr
  case binOp op T x y yT =>
    unfold binA at hr
    split at hr <;> first
      | (simp only [Option.some.injEq] at hr; subst hr; rfl)
      | (split at hr <;> first | exact hq hr | simp at hr | (unfold intBin at hr; split at hr <;> first | (simp only [Option.some.injEq] at hr; subst hr; rfl) | simp at hr))
      | (unfold strBin at hr; split at hr <;> first | (simp only [Option.some.injEq] at hr; subst hr; rfl) | simp at hr)
      | simp at hr
  case index T x i =>
    unfold indexA at hr
    split at hr
    · split at hr
      · split at hr
        · simp only [Option.some.injEq] at hr; subst hr; rfl
        · simp at hr
      · simp at hr
    · simp only [Option.some.injEq] at hr; subst hr; rfl
    · simp at hr
  all_goals first
    | exact hq hr
    | (simp only [Option.some.injEq] at hr; subst hr; rfl)
    | (split at hr <;> first | exact hq hr | simp at hr)

theorem append_get {L : Heap} {row0 row : Row} {r : Nat} (h : L[r]? = some row) : (L ++ [row0])[r]? = some row := by
  rw [List.getElem?_append_left (List.getElem?_eq_some_iff.1 h).1]; exact h

theorem verOk_append {L : Heap} {row0 row : Row} {r v : Nat} (h : L[r]? = some row) : verOk (L ++ [row0]) r v = verOk L r v := by
  unfold verOk; rw [append_get h, h]

mutual
theorem pureA_append {L : Heap} (row0 : Row) : ∀ (a : AV) {d : AV}, pureA L a = some d → pureA (L ++ [row0]) a = some d ∧ versA (L ++ [row0]) a = versA L a
  | .any, _, h => by simp [pureA] at h
  | .bool b, _, h => ⟨h, rfl⟩
  | .int k n, _, h => ⟨h, rfl⟩
  | .str s, _, h => ⟨h, rfl⟩
  | .nilp, _, h => ⟨h, rfl⟩
  | .nilf, _, h => ⟨h, rfl⟩
  | .vnil, _, h => ⟨h, rfl⟩
  | .eptr .., _, h => ⟨h, rfl⟩
  | .vec .., _, h => ⟨h, rfl⟩
  | .row r v, _, h => by
    cases hr : L[r]? with
    | none => simp [pureA, hr] at h
    | some row => exact ⟨by simpa only [pureA, append_get hr, hr] using h, by simp only [versA, verOk_append hr]⟩
  | .ref r v lo len, _, h => by
    cases hr : L[r]? with
    | none => simp [pureA, hr] at h
    | some row => exact ⟨by simpa only [pureA, append_get hr, hr] using h, by simp only [versA, verOk_append hr]⟩
  | .ptr r v i j, _, h => by
    cases hr : L[r]? with
    | none => simp [pureA, hr] at h
    | some row => exact ⟨by simpa only [pureA, append_get hr, hr] using h, by simp only [versA, verOk_append hr]⟩
  | .agg cs, _, h => by
    cases hr : pureL L cs with
    | none => simp [pureA, hr] at h
    | some ds =>
      obtain ⟨h1, h2⟩ := pureL_append row0 cs hr
      exact ⟨by simpa only [pureA, h1, hr] using h, by simp only [versA, h2]⟩
  | .tup cs, _, h => by
    cases hr : pureL L cs with
    | none => simp [pureA, hr] at h
    | some ds =>
      obtain ⟨h1, h2⟩ := pureL_append row0 cs hr
      exact ⟨by simpa only [pureA, h1, hr] using h, by simp only [versA, h2]⟩
  | .func fn a b, _, h => by
    cases hr : pureL L a with
    | none => simp [pureA, hr] at h
    | some ds =>
      cases hr2 : pureL L b with
      | none => simp [pureA, hr, hr2] at h
      | some ds2 =>
        obtain ⟨h1, h2⟩ := pureL_append row0 a hr
        obtain ⟨h3, h4⟩ := pureL_append row0 b hr2
        exact ⟨by simpa only [pureA, h1, h3, hr, hr2] using h, by simp only [versA, h2, h4]⟩
theorem pureL_append {L : Heap} (row0 : Row) : ∀ (l : List AV) {ds : List AV}, pureL L l = some ds → pureL (L ++ [row0]) l = some ds ∧ versL (L ++ [row0]) l = versL L l
  | [], _, h => ⟨h, rfl⟩
  | c :: l, _, h => by
    cases hr : pureA L c with
    | none => simp [pureL, hr] at h
    | some d =>
      cases hr2 : pureL L l with
      | none => simp [pureL, hr, hr2] at h
      | some ds2 =>
        obtain ⟨h1, h2⟩ := pureA_append row0 c hr
        obtain ⟨h3, h4⟩ := pureL_append row0 l hr2
        exact ⟨by simpa only [pureL, h1, h3, hr, hr2] using h, by simp only [versL, h2, h4]⟩
end

mutual
theorem pureA_same {L L2 : Heap} : ∀ (a : AV), (∀ q ∈ rowsA a, L2[q]? = L[q]?) → pureA L2 a = pureA L a ∧ versA L2 a = versA L a
  | .any, _ => ⟨rfl, rfl⟩
  | .bool _, _ => ⟨rfl, rfl⟩
  | .int _ _, _ => ⟨rfl, rfl⟩
  | .str _, _ => ⟨rfl, rfl⟩
  | .nilp, _ => ⟨rfl, rfl⟩
  | .nilf, _ => ⟨rfl, rfl⟩
  | .vnil, _ => ⟨rfl, rfl⟩
  | .eptr .., _ => ⟨rfl, rfl⟩
  | .vec .., _ => ⟨rfl, rfl⟩
  | .row r v, h => by
    have := h r (by simp [rowsA])
    exact ⟨by simp only [pureA, this], by simp only [versA, verOk, this]⟩
  | .ref r v lo n, h => by
    have := h r (by simp [rowsA])
    exact ⟨by simp only [pureA, this], by simp only [versA, verOk, this]⟩
  | .ptr r v i j, h => by
    have := h r (by simp [rowsA])
    exact ⟨by simp only [pureA, this], by simp only [versA, verOk, this]⟩
  | .agg cs, h => by
    obtain ⟨h1, h2⟩ := pureL_same cs (by simpa only [rowsA] using h)
    exact ⟨by simp only [pureA, h1], by simp only [versA, h2]⟩
  | .tup cs, h => by
    obtain ⟨h1, h2⟩ := pureL_same cs (by simpa only [rowsA] using h)
    exact ⟨by simp only [pureA, h1], by simp only [versA, h2]⟩
  | .func fn a b, h => by
    simp only [rowsA, List.mem_append] at h
    obtain ⟨h1, h2⟩ := pureL_same a (fun q hq => h q (.inl hq))
    obtain ⟨h3, h4⟩ := pureL_same b (fun q hq => h q (.inr hq))
    exact ⟨by simp only [pureA, h1, h3], by simp only [versA, h2, h4]⟩
theorem pureL_same {L L2 : Heap} : ∀ (l : List AV), (∀ q ∈ rowsL l, L2[q]? = L[q]?) → pureL L2 l = pureL L l ∧ versL L2 l = versL L l
  | [], _ => ⟨rfl, rfl⟩
  | c :: l, h => by
    simp only [rowsL, List.mem_append] at h
    obtain ⟨h1, h2⟩ := pureA_same c (fun q hq => h q (.inl hq))
    obtain ⟨h3, h4⟩ := pureL_same l (fun q hq => h q (.inr hq))
    exact ⟨by simp only [pureL, h1, h3], by simp only [versL, h2, h4]⟩
end

theorem callF_wait {L : Heap} {g : FuncId} {args : List AV} {r : SR} (row0 : Row) (h : callF inl call L g args = some r) (hf1 : r.L' = none) (hf2 : ∀ x ∈ r.calls, ¬x.own = true) :
    callF inl call (L ++ [row0]) g args = some r := by
  unfold callF at h ⊢
  cases hin : inl g with
  | true =>
    simp only [hin, cond_true] at h
    split at h
    · split at h
      · split at h
        · simp only [Option.some.injEq] at h; subst h
          simp at hf2
        · simp at h
      · simp at h
    · simp at h
  | false =>
    simp only [hin, cond_false] at h ⊢
    split at h
    · rename_i ds hds
      obtain ⟨h1, h2⟩ := pureL_append row0 _ hds
      rw [h1]
      simp only
      split at h
      · rename_i d hcl
        split at h
        · rename_i hd
          rw [if_pos hd, h2]
          cases hsc : d.scalar with
          | true => simp only [hsc] at h ⊢; exact h
          | false =>
            cases hrs : rowsL args with
            | nil => simp only [hsc, hrs] at h ⊢; exact h
            | cons q qs => simp only [hsc, hrs, Option.some.injEq] at h; subst h; simp at hf1
        · simp at h
      · split at h
        · split at h
          · split at h
            · simp only [Option.some.injEq] at h; subst h; simp at hf1
            · simp at h
          · simp at h
        · simp at h
      · simp at h
    · simp at h

/-- A call that sees values alone, where the rows that it sees are as before. -/
theorem callF_same {L L2 : Heap} {g : FuncId} {args : List AV} {r : SR} (hrows : ∀ q ∈ rowsL args, L2[q]? = L[q]?) (h : callF inl call L g args = some r) (hf1 : r.L' = none) (hf2 : ∀ x ∈ r.calls, ¬x.own = true) :
    callF inl call L2 g args = some r := by
  obtain ⟨p1, p2⟩ := pureL_same args hrows
  unfold callF at h ⊢
  cases hin : inl g with
  | true =>
    simp only [hin, cond_true] at h
    split at h
    · split at h
      · split at h
        · simp only [Option.some.injEq] at h; subst h
          simp at hf2
        · simp at h
      · simp at h
    · simp at h
  | false =>
    simp only [hin, cond_false, p1, p2] at h ⊢
    split at h
    · rename_i ds hds
      split at h
      · rename_i d hcl
        split at h
        · rename_i hd
          rw [if_pos hd]
          cases hsc : d.scalar with
          | true => simp only [hsc] at h ⊢; exact h
          | false =>
            cases hrs : rowsL args with
            | nil => simp only [hsc, hrs] at h ⊢; exact h
            | cons q qs => simp only [hsc, hrs, Option.some.injEq] at h; subst h; simp at hf1
        · simp at h
      · split at h
        · split at h
          · split at h
            · simp only [Option.some.injEq] at h; subst h; simp at hf1
            · simp at h
          · simp at h
        · simp at h
      · simp at h
    · simp at h

/-- What reads as before when a row is added. -/
theorem stepA_wait {an : Option Ans} {ρ : Chain → Operand → AV} {L : Heap} {o : Oper} (row0 : Row) (h : canWait o = true) {r : SR} (hr : stepA P inl call an ρ L o = some r)
    {ρ2 : Operand → AV} {L2 : Heap} (hf : fits ρ2 L2 o 0 r.L' r.calls = true) : stepA P inl call an ρ (L ++ [row0]) o = some r := by
  simp only [fits, Bool.and_eq_true, Option.isNone_iff_eq_none, Bool.not_eq_true', List.any_eq_false] at hf
  obtain ⟨hf1, hf2⟩ := hf
  have hcall : ∀ c call', (∃ f, c.callee = .value f) → callA P inl call' (ρ []) L c = some r → callA P inl call' (ρ []) (L ++ [row0]) c = some r := by
    intro c call' ⟨f, hc⟩ h
    unfold callA at h ⊢
    rw [hc] at h ⊢
    dsimp only at h ⊢
    split at h
    · rename_i g first captured hfv
      exact callF_wait row0 h hf1 hf2
    · simp at h
  obtain ⟨dst, op, type, pos, after, guard⟩ := o
  cases op <;> simp [canWait] at h
  case load T a =>
    simp only [stepA] at hr ⊢
    unfold loadA at hr ⊢
    split at hr
    · rename_i q ver i j hv
      cases hq : L[q]? with
      | none => simp [hq] at hr
      | some row => rw [append_get hq]; rw [hq] at hr; exact hr
    · exact hr
    · simp at hr
  case call c =>
    have hc : ∃ f, c.callee = .value f := by
      cases hcal : c.callee <;> simp [hcal] at h
      exact ⟨_, rfl⟩
    simp only [stepA] at hr ⊢
    split at hr
    · exact hcall c _ hc hr
    · exact hcall c _ hc hr

/-- What an operation does: its chain, its value, the memory if it has changed, checks, equations, calls. -/
structure Eff where
  c : Chain
  v : AV
  L' : Option Heap
  a : List Bool
  q : List Prop
  k : List CF

def effOp (P : Unit → Program) (inl : FuncId → Bool) (call : Answer) (ops : Array Oper) (an : Option Ans) (hot : Nat) (o : Oper) (env : Env) (L : Heap) : Option Eff :=
  match chainOf ops env o with
  | none => none
  | some none => some ⟨[], .tup [], none, [], [], []⟩
  | some (some c) =>
    match stepA P inl call an (fun ex => ev env (ex ++ c)) L o with
    | none => match chainVal env c with
      | true => none
      | false => some ⟨c, .any, none, [], [], []⟩
    | some r =>
      match fits (ev env c) L o hot r.L' r.calls with
      | false => none
      | true =>
        match c with
        | [] => some ⟨c, r.v, r.L', r.asm, r.eqs, r.calls⟩
        | _ => some ⟨c, r.v, bif chainVal env c then r.L' else none, r.asm.map (fun a => !(chainVal env c) || a), r.eqs.map (fun p => (chainVal env c = true → p)), r.calls.map (CF.under (chainVal env c))⟩

theorem runOp_eff {n : Nat} {ops : Array Oper} {an : Option Ans} {hot : Nat} {o : Oper} {s s' : RS} :
    runOp P inl call n ops an hot o s = some s' ↔ ∃ e env, effOp P inl call ops an hot o s.env s.L = some e ∧ putE n o.dst e.c e.v s.env = some env ∧
      s' = ⟨env, e.L'.getD s.L, s.asm ++ e.a, s.eqs ++ e.q, s.calls ++ e.k⟩ := by
  unfold runOp effOp
  cases chainOf ops s.env o with
  | none => simp
  | some oc =>
    cases oc with
    | none =>
      simp only [Option.some.injEq]
      cases hp : putE n o.dst [] (.tup []) s.env with
      | none => simp; intro e h; simp [hp] at h
      | some env =>
        simp only [Option.some.injEq]
        constructor
        · rintro rfl; exact ⟨_, env, rfl, hp, by simp⟩
        · rintro ⟨e, env', rfl, h2, rfl⟩
          simp only [hp, Option.some.injEq] at h2; subst h2; simp
    | some c =>
      simp only
      cases hs : stepA P inl call an (fun ex => ev s.env (ex ++ c)) s.L o with
      | none =>
        simp only
        cases hcv : chainVal s.env c with
        | true => simp
        | false =>
          simp only [Option.some.injEq]
          cases hp : putE n o.dst c .any s.env with
          | none => simp; intro e h; simp [hp] at h
          | some env =>
            simp only [Option.some.injEq]
            constructor
            · rintro rfl; exact ⟨_, env, rfl, hp, by simp⟩
            · rintro ⟨e, env', rfl, h2, rfl⟩
              simp only [hp, Option.some.injEq] at h2; subst h2; simp
      | some r =>
        simp only
        cases hf : fits (ev s.env c) s.L o hot r.L' r.calls with
        | false => cases putE n o.dst c r.v s.env <;> simp
        | true =>
          simp only
          cases c with
          | nil =>
            simp only [Option.some.injEq]
            cases hp : putE n o.dst [] r.v s.env with
            | none => simp; intro e h; simp [hp] at h
            | some env =>
              simp only [Option.some.injEq]
              constructor
              · rintro rfl; exact ⟨_, env, rfl, hp, rfl⟩
              · rintro ⟨e, env', rfl, h2, rfl⟩
                simp only [hp, Option.some.injEq] at h2; subst h2; rfl
          | cons x c =>
            simp only [Option.some.injEq]
            have hm : ∀ b, mergeH b s.L r.L' = (bif b then r.L' else none).getD s.L := by intro b; cases b <;> cases r.L' <;> rfl
            cases hp : putE n o.dst (x :: c) r.v s.env with
            | none => simp; intro e h; simp [hp] at h
            | some env =>
              simp only [Option.some.injEq, hm]
              constructor
              · rintro rfl; exact ⟨_, env, rfl, hp, rfl⟩
              · rintro ⟨e, env', rfl, h2, rfl⟩
                simp only [hp, Option.some.injEq] at h2; subst h2; rfl

/-- A temporary that the operation does not look at. -/
theorem effOp_cons {ops : Array Oper} {an : Option Ans} {hot : Nat} {o : Oper} {env : Env} {L : Heap} {d : Nat} {c0 : Chain} {v : AV} (hd : d ∉ o.looksAt ops) (hno : ∀ t, noD d (env.get t).1 = true) :
    effOp P inl call ops an hot o ((d, c0, v) :: env) L = effOp P inl call ops an hot o env L ∧ ∀ e, effOp P inl call ops an hot o env L = some e → noD d e.c = true := by
  have hget : ∀ t, t ≠ d → Env.get ((d, c0, v) :: env) t = env.get t := by
    intro t ht
    have : (d == t) = false := by simpa using fun e => ht e.symm
    simp [Env.get, this]
  have hch : chainOf ops ((d, c0, v) :: env) o = chainOf ops env o ∧ ∀ c, chainOf ops env o = some (some c) → noD d c = true := by
    unfold chainOf
    cases hg : o.guard with
    | none => exact ⟨rfl, fun c h => by simp only [Option.some.injEq] at h; subst h; rfl⟩
    | some gw =>
      obtain ⟨j, want⟩ := gw
      simp only
      cases hj : (ops[j]?).bind (·.dst) with
      | none => exact ⟨rfl, fun c h => by simp at h⟩
      | some t =>
        have ht : t ≠ d := fun e => hd (by subst e; simp [Oper.looksAt, hg, hj])
        simp only [hget t ht]
        refine ⟨trivial, fun c h => ?_⟩
        split at h
        · rename_i ch b hgt
          simp only [Option.some.injEq] at h; subst h
          have := hno t
          rw [hgt] at this
          simp only [noD, List.any_cons, Bool.not_or, Bool.and_eq_true, Bool.not_eq_true', beq_eq_false_iff_ne]
          exact ⟨ht, by simpa [noD] using this⟩
        · simp at h
        · simp at h
  unfold effOp
  rw [hch.1]
  cases hc : chainOf ops env o with
  | none => simp
  | some oc =>
    cases oc with
    | none =>
      refine ⟨rfl, fun e h => ?_⟩
      simp only [Option.some.injEq] at h; subst h; rfl
    | some c =>
      have hnd := hch.2 c hc
      have hst : stepA P inl call an (fun ex => ev ((d, c0, v) :: env) (ex ++ c)) L o = stepA P inl call an (fun ex => ev env (ex ++ c)) L o := by
        refine stepA_congr fun ex x hx => ?_
        cases x with
        | tmp t =>
          have ht : t ≠ d := fun e => hd (by subst e; exact List.mem_append_left _ (List.mem_filterMap.2 ⟨.tmp t, by simpa using hx, rfl⟩))
          simp only [ev, hget t ht]
        | _ => rfl
      have hfi : ∀ L' k, fits (ev ((d, c0, v) :: env) c) L o hot L' k = fits (ev env c) L o hot L' k := fun L' k => by
        refine fits_congr fun x hx => ?_
        cases x with
        | tmp t =>
          have ht : t ≠ d := fun e => hd (by subst e; exact List.mem_append_left _ (List.mem_filterMap.2 ⟨.tmp t, by simpa using hx, rfl⟩))
          simp only [ev, hget t ht]
        | _ => rfl
      simp only [hst, chainVal_cons hnd, hfi]
      refine ⟨trivial, fun e h => ?_⟩
      split at h
      · split at h
        · simp at h
        · simp only [Option.some.injEq] at h; subst h; exact hnd
      · split at h
        · simp at h
        · split at h
          · simp only [Option.some.injEq] at h; subst h; exact hnd
          · simp only [Option.some.injEq] at h; subst h; exact hnd

theorem effOp_free {ops : Array Oper} {an : Option Ans} {hot : Nat} {o : Oper} {env : Env} {L : Heap} (hm : memFree o = true) :
    (∀ L2, effOp P inl call ops an hot o env L = effOp P inl call ops an hot o env L2) ∧ ∀ e, effOp P inl call ops an hot o env L = some e → e.L' = none := by
  refine ⟨fun L2 => ?_, fun e h => ?_⟩
  · unfold effOp
    split <;> try rfl
    rw [(stepA_free (P := P) (inl := inl) (call := call) (L2 := L2) hm).1]
    simp only [fits_free (L := L) (L2 := L2) hm]
  · unfold effOp at h
    split at h
    · simp at h
    · simp only [Option.some.injEq] at h; subst h; rfl
    · split at h
      · split at h
        · simp at h
        · simp only [Option.some.injEq] at h; subst h; rfl
      · rename_i r hr
        have := (stepA_free (P := P) (inl := inl) (call := call) (L := L) (L2 := L) hm).2 r hr
        split at h
        · simp at h
        · split at h
          · simp only [Option.some.injEq] at h; subst h; exact this
          · simp only [Option.some.injEq] at h; subst h; simp [this]

theorem effOp_cool {ops : Array Oper} {an : Option Ans} {hot : Nat} {o : Oper} {env : Env} {L : Heap} {e : Eff} (hh : cool hot = true) (h : effOp P inl call ops an hot o env L = some e) : e.L' = none := by
  unfold effOp at h
  split at h
  · simp at h
  · simp only [Option.some.injEq] at h; subst h; rfl
  · split at h
    · split at h
      · simp at h
      · simp only [Option.some.injEq] at h; subst h; rfl
    · rename_i r hr
      split at h
      · simp at h
      · rename_i hf
        have : r.L' = none := by
          match hot, hh, hf with
          | 0, _, hf => simp [fits] at hf; exact hf.1
          | 1, _, hf => simpa [fits] using hf
          | 2, hh, _ => simp [cool, Nat.blt_eq, Nat.ble_eq] at hh
          | h + 3, hh, hf =>
            simp only [cool, Bool.or_eq_true, Nat.blt_eq, Bool.and_eq_true, Nat.ble_eq, Nat.beq_eq] at hh
            have hb : Nat.beq ((h + 3) % 2) 1 = true := by
              rcases hh with h1 | h1
              · omega
              · simpa [Nat.beq_eq] using h1.2
            simp only [fits, hb, cond_true, Bool.and_eq_true, Option.isNone_iff_eq_none] at hf
            exact hf.2.1
        split at h
        · simp only [Option.some.injEq] at h; subst h; exact this
        · simp only [Option.some.injEq] at h; subst h; simp [this]

/-- A slice that is written out of values. -/
theorem buildSlice_same {L L2 : Heap} {keep : Bool} {T : TypeId} {len : Nat} {parts : List (Nat × AV)} {res : SR} (h : buildSliceA P keep L T len parts = some res) (hn : res.L' = none) : buildSliceA P keep L2 T len parts = some res := by
  unfold buildSliceA at h ⊢
  cases hu : (P ()).underlying T with
  | none => rw [hu] at h; simp at h
  | some td =>
  rw [hu] at h
  cases td <;> simp only at h ⊢ <;> try (simp at h; done)
  rename_i elem
  cases hi : (P ()).info? elem with
  | none => rw [hi] at h; simp at h
  | some i =>
  rw [hi] at h
  simp only at h ⊢
  by_cases hl : len = 0
  · rw [if_pos hl] at h ⊢; exact h
  · rw [if_neg hl] at h ⊢
    cases hz : i.zero with
    | none => rw [hz] at h; simp at h
    | some z0 =>
    rw [hz] at h
    simp only at h ⊢
    split at h
    · rename_i hc
      rw [if_pos hc]
      split at h
      · rename_i xs hx
        cases keep with
        | true => simp only [cond_true, Option.some.injEq] at h; subst h; simp at hn
        | false =>
          simp only [cond_false] at h ⊢
          split at h
          · rename_i ys hy
            split at h
            · rename_i hr
              have := (pureL_same (L := L) (L2 := L2) xs (by rw [hr]; simp)).1
              rw [this, hy]
              exact h
            · simp only [Option.some.injEq] at h; subst h; simp at hn
          · simp at h
      · simp at h
    · simp at h

/-- An operation that reads one row reads as before where this row is as before. -/
theorem stepA_reads {an : Option Ans} {ρ : Chain → Operand → AV} {L L2 : Heap} {o : Oper} {l : List Nat} {w : Nat} {res : SR} (h : readsA (ρ []) o = some l) (hl : ∀ r ∈ l, r = w) (hw : L2[w]? = L[w]?)
    (hres : stepA P inl call an ρ L o = some res) (hn : res.L' = none) (ho : ∀ x ∈ res.calls, ¬x.own = true) : stepA P inl call an ρ L2 o = some res := by
  have hr : ∀ {v : AV} {r : Nat}, rowsA v = l → r ∈ rowsA v → L2[r]? = L[r]? := fun e hm => by rw [e] at hm; rw [hl _ hm, hw]
  rw [← hres]
  obtain ⟨dst, op, type, pos, after, guard⟩ := o
  cases op <;> simp only [readsA, Option.some.injEq, reduceCtorEq] at h
  case load T a =>
    simp only [stepA]
    unfold loadA
    generalize ρ [] a = v at h
    cases v <;> try rfl
    case ptr r ver i j => simp only [hr (v := .ptr r ver i j) (r := r) h (by simp [rowsA])]
  case indexAddr T x i =>
    simp only [stepA]
    generalize ρ [] x = v at h
    generalize ρ [] i = n
    unfold indexAddrA
    cases (P ()).underlying T with
    | none => rfl
    | some td =>
    cases td <;> cases v <;> cases n <;> try rfl
    case slice.row.int r ver _ _ => simp only [hr (v := .row r ver) (r := r) h (by simp [rowsA])]
    case slice.ref.int r ver lo len _ _ => simp only [hr (v := .ref r ver lo len) (r := r) h (by simp [rowsA])]
  case slice T x lo hi mx =>
    simp only [stepA]
    generalize ρ [] x = v at h
    unfold sliceA
    cases (P ()).underlying T with
    | none => rfl
    | some td =>
    cases td <;> cases v <;> try rfl
    case slice.row r ver => simp only [hr (v := .row r ver) (r := r) h (by simp [rowsA])]
    case slice.ref r ver low len => simp only [hr (v := .ref r ver low len) (r := r) h (by simp [rowsA])]
  case buildSlice T len parts =>
    rw [hres]
    simp only [stepA] at hres ⊢
    exact buildSlice_same hres hn
  case call c =>
    have hcalls : ∀ call', callA P inl call' (ρ []) L c = some res → callA P inl call' (ρ []) L2 c = some res := by
      intro call' hc
      split at h
      · rename_i hcal hargs
        rename_i x
        simp only [Option.some.injEq] at h
        unfold callA at hc ⊢
        simp only [hcal, hargs] at hc ⊢
        cases hT : c.argTypes.toList with
        | nil => rw [hT] at hc; simp at hc
        | cons T ts =>
          rw [hT] at hc
          simp only at hc ⊢
          rw [← hc]
          unfold lenA
          generalize ρ [] x = v at h
          cases (P ()).underlying T with
          | none => rfl
          | some td =>
          cases td <;> cases v <;> try rfl
          case slice.row r ver => simp only [hr (v := .row r ver) (r := r) h (by simp [rowsA])]
          case slice.ref r ver low len => simp only [hr (v := .ref r ver low len) (r := r) h (by simp [rowsA])]
      · rename_i f hcal
        unfold callA at hc ⊢
        rw [hcal] at hc ⊢
        dsimp only at hc ⊢
        split at h
        · rename_i g first captured hfv
          simp only [Option.some.injEq] at h
          try rw [hfv] at hc
          try simp only at hc
          exact callF_same (fun q hq => by rw [h] at hq; rw [hl _ hq, hw]) hc hn ho
        · simp at h
      · simp at h
    rw [hres]
    simp only [stepA] at hres ⊢
    split at hres
    · exact hcalls _ hres
    · exact hcalls _ hres

/-- A call that is handed no rows lays new rows at most. -/
theorem callF_lays {L : Heap} {g : FuncId} {args : List AV} {r : SR} (h : callF inl call L g args = some r) (hc : (r.calls.all fun c => c.own && c.L.isEmpty) = true) : ∀ L2, r.L' = some L2 → ∃ news, L2 = L ++ news := by
  intro L2 hL2
  unfold callF at h
  cases hin : inl g with
  | true =>
    simp only [hin, cond_true] at h
    split at h
    · rename_i rs args' Lc hoi
      split at h
      · rename_i v o hcall
        split at h
        · rename_i v' L' hoo
          simp only [Option.some.injEq] at h; subst h
          simp only [List.all_cons, List.all_nil, Bool.and_true, Bool.true_and, List.isEmpty_iff] at hc
          subst hc
          have hrs : rs = [] := by
            obtain ⟨rows, hrows, _, _, _, _, e⟩ := own_in hoi
            obtain ⟨hlen, _⟩ := getRows_spec hrows
            have : rows = [] := by
              cases rows with
              | nil => rfl
              | cons a l => simp at e
            subst this
            cases rs with
            | nil => rfl
            | cons a l => simp at hlen
          subst hrs
          simp only at hL2
          subst hL2
          unfold ownOut at hoo
          split at hoo
          · split at hoo
            · simp at hoo
            · simp at hoo
          · dsimp only at hoo
            split at hoo
            · split at hoo
              · simp only [Option.some.injEq, Prod.mk.injEq] at hoo
                have e0 : ∀ xs : List Row, putAt L [] xs = L := fun xs => by cases xs <;> rfl
                rw [e0] at hoo
                exact ⟨_, hoo.2.symm⟩
              · simp at hoo
            · simp at hoo
        · simp at h
      · simp at h
    · simp at h
  | false =>
    simp only [hin, cond_false] at h
    split at h
    · split at h
      · split at h
        · split at h
          · simp only [Option.some.injEq] at h; subst h; simp at hL2
          · simp only [Option.some.injEq] at h; subst h; simp at hL2
          · simp only [Option.some.injEq] at h; subst h; simp at hc
        · simp at h
      · split at h
        · split at h
          · split at h
            · simp only [Option.some.injEq] at h; subst h
              simp only [Option.some.injEq] at hL2
              exact ⟨_, hL2.symm⟩
            · simp at h
          · simp at h
        · simp at h
      · simp at h
    · simp at h

/-- An operation that changes one row leaves the others. -/
theorem stepA_writes {an : Option Ans} {ρ : Chain → Operand → AV} {L : Heap} {o : Oper} {l : List Nat} {w : Nat} (h : writesA (ρ []) L o = some l) (hl : ∀ r ∈ l, r = w) {r : SR} (hs : stepA P inl call an ρ L o = some r) (hone : laysOne L o r.L' r.calls = true) :
    ∀ q, q ≠ w → ∀ L2, r.L' = some L2 → L2[q]? = L[q]? := by
  have add : ∀ {q : Nat} {row : Row}, l = [L.length] → q ≠ w → (L ++ [row])[q]? = L[q]? := by
    intro q row e hq
    subst e
    have := hl _ (List.mem_singleton.2 rfl)
    rw [List.getElem?_append]
    split
    · rfl
    · rename_i hlt
      rw [List.getElem?_eq_none (by simp; omega), List.getElem?_eq_none (by omega)]
  have put : ∀ {q k : Nat} {row : Row}, k ∈ l → q ≠ w → (L.set k row)[q]? = L[q]? := by
    intro q k row e hq
    have := hl _ e
    exact List.getElem?_set_ne (by omega)
  intro q hq L2 hL2
  obtain ⟨dst, op, type, pos, after, guard⟩ := o
  have hbox : ∀ {v : AV}, l = [L.length] → boxA L v = some r → L2[q]? = L[q]? := by
    intro v e hb
    unfold boxA at hb
    split at hb
    · simp only [Option.some.injEq] at hb; subst hb
      simp only [Option.some.injEq] at hL2; subst hL2
      exact add e hq
    · simp at hb
  cases op <;> simp only [writesA, Option.some.injEq, reduceCtorEq] at h
  case alloc T =>
    simp only [stepA] at hs
    split at hs
    · exact hbox h.symm hs
    · simp at hs
  case box T x => exact hbox h.symm hs
  case store T a x =>
    simp only [stepA] at hs
    unfold storeA at hs
    split at hs
    · rename_i k ver i j hv
      rw [hv] at h
      simp only [rowsA] at h
      split at hs
      · split at hs
        · split at hs
          · split at hs
            · split at hs
              · simp only [Option.some.injEq] at hs; subst hs
                simp only [Option.some.injEq] at hL2; subst hL2
                exact put (by rw [← h]; exact List.mem_singleton.2 rfl) hq
              · simp at hs
            · simp at hs
          · simp at hs
        · simp at hs
      · simp at hs
    · simp at hs
  case call c =>
    split at h <;> try (simp at h; done)
    rotate_left
    · rename_i f hcal
      simp only [Option.some.injEq] at h
      have hcalls : ∀ call', callA P inl call' (ρ []) L c = some r → L2[q]? = L[q]? := by
        intro call' hs
        unfold callA at hs
        rw [hcal] at hs
        dsimp only at hs
        split at hs
        · rename_i g first captured hfv
          obtain ⟨news, hnews⟩ := callF_lays hs (by
            unfold laysOne at hone
            simp only [hcal, Bool.and_eq_true] at hone
            exact hone.1) L2 hL2
          unfold laysOne at hone
          simp only [hcal, hL2, Bool.and_eq_true] at hone
          have hlen := Nat.eq_of_beq_eq_true hone.2
          have hw := hl _ (by rw [← h]; exact List.mem_singleton.2 rfl)
          subst hnews
          rw [List.length_append] at hlen
          rw [List.getElem?_append]
          split
          · rfl
          · rename_i hge
            rw [List.getElem?_eq_none (by omega), List.getElem?_eq_none (by omega)]
        · simp at hs
      simp only [stepA] at hs
      split at hs
      · exact hcalls _ hs
      · exact hcalls _ hs
    rename_i s x hcal hargs
    have happ : ∀ T v, appendA P L T (ρ [] s) v = some r → L2[q]? = L[q]? := by
      intro T v hs
      unfold appendA at hs
      split at hs <;> try (simp at hs; done)
      split at hs <;> try (simp at hs; done)
      split at hs <;> try (simp at hs; done)
      split at hs <;> try (simp at hs; done)
      split at hs
      · rename_i hv
        rw [hv] at h
        split at hs
        · simp only [Option.some.injEq] at hs; subst hs; simp at hL2
        · simp only [Option.some.injEq] at hs; subst hs
          simp only [Option.some.injEq] at hL2; subst hL2
          exact add (by simpa using h.symm) hq
      · rename_i hv
        rw [hv] at h
        split at hs
        · split at hs
          · simp only [Option.some.injEq] at hs; subst hs; simp at hL2
          · simp only [Option.some.injEq] at hs; subst hs
            simp only [Option.some.injEq] at hL2; subst hL2
            exact add (by simpa using h.symm) hq
        · simp at hs
      · rename_i hv
        rw [hv] at h
        split at hs
        · split at hs
          · simp only [Option.some.injEq] at hs; subst hs
            simp only [Option.some.injEq] at hL2; subst hL2
            exact put (by rw [← Option.some.inj h]; exact List.mem_singleton.2 rfl) hq
          · simp at hs
        · simp at hs
      · rename_i hv
        rw [hv] at h
        split at hs
        · split at hs
          · split at hs
            · simp only [Option.some.injEq] at hs; subst hs; simp at hL2
            · simp only [Option.some.injEq] at hs; subst hs
              simp only [Option.some.injEq] at hL2; subst hL2
              exact put (by rw [← Option.some.inj h]; exact List.mem_singleton.2 rfl) hq
          · simp at hs
        · simp at hs
      · simp at hs
    have hcalls : ∀ call', callA P inl call' (ρ []) L c = some r → L2[q]? = L[q]? := by
      intro call' hs
      unfold callA at hs
      simp only [hcal, hargs] at hs
      split at hs
      · rename_i ha1 _
        simp only [List.cons.injEq, and_true] at ha1
        obtain ⟨rfl, rfl⟩ := ha1
        split at hs
        · exact happ _ _ hs
        · exact happ _ _ hs
        · simp at hs
      all_goals first
        | (simp at hs; done)
        | (simp_all; done)
    simp only [stepA] at hs
    split at hs
    · exact hcalls _ hs
    · exact hcalls _ hs

theorem effOp_plain {ops : Array Oper} {an : Option Ans} {h : Nat} {o : Oper} {env : Env} {L : Heap} {e : Eff} (hg : o.guard = none) :
    effOp P inl call ops an h o env L = some e ↔ ∃ r, stepA P inl call an (fun ex => ev env (ex ++ [])) L o = some r ∧ fits (ev env []) L o h r.L' r.calls = true ∧ e = ⟨[], r.v, r.L', r.asm, r.eqs, r.calls⟩ := by
  unfold effOp chainOf
  simp only [hg]
  cases hs : stepA P inl call an (fun ex => ev env (ex ++ [])) L o with
  | none => simp [chainVal]
  | some r =>
    simp only [Option.some.injEq]
    cases hf : fits (ev env []) L o h r.L' r.calls with
    | false => simp [hf]
    | true => simp only [Option.some.injEq]; exact ⟨fun h => ⟨r, rfl, hf, h.symm⟩, fun ⟨r', h1, _, h2⟩ => by subst h1; exact h2.symm⟩

/-- A reading operation, where its row is as before. -/
theorem effOp_reads {ops : Array Oper} {an : Option Ans} {h : Nat} {o : Oper} {env : Env} {L L2 : Heap} {e : Eff} (hg : o.guard = none) (h3 : 3 ≤ h) (hodd : h % 2 = 1) (hw : L2[(h - 3) / 2]? = L[(h - 3) / 2]?) (he : effOp P inl call ops an h o env L = some e) :
    effOp P inl call ops an h o env L2 = some e := by
  obtain ⟨r, h1, h2, h4⟩ := (effOp_plain hg).1 he
  refine (effOp_plain hg).2 ⟨r, ?_, ?_, h4⟩
  · match h, h3, h2 with
    | h + 3, _, h2 =>
      have hb : Nat.beq ((h + 3) % 2) 1 = true := by simpa [Nat.beq_eq] using hodd
      simp only [fits, rowFits, hb, cond_true, Bool.and_eq_true, Option.isNone_iff_eq_none, Bool.not_eq_true', List.any_eq_false] at h2
      obtain ⟨⟨_, h5⟩, h6, h7⟩ := h2
      split at h5
      · rename_i l hl
        exact stepA_reads (ρ := fun ex => ev env (ex ++ [])) (L := L) (l := l) hl (fun r hr => Nat.eq_of_beq_eq_true (List.all_eq_true.1 h5 r hr)) hw h1 h6 h7
      · simp at h5
  · match h, h3, h2 with
    | h + 3, _, h2 =>
      have hb : Nat.beq ((h + 3) % 2) 1 = true := by simpa [Nat.beq_eq] using hodd
      simp only [fits, rowFits, hb, cond_true] at h2 ⊢
      exact h2

/-- An operation that changes one row, at the others. -/
theorem effOp_writes {ops : Array Oper} {an : Option Ans} {h : Nat} {o : Oper} {env : Env} {L : Heap} {e : Eff} (hg : o.guard = none) (h3 : 3 ≤ h) (hev : h % 2 = 0) (he : effOp P inl call ops an h o env L = some e) {q : Nat} (hq : q ≠ (h - 3) / 2) :
    (e.L'.getD L)[q]? = L[q]? := by
  obtain ⟨r, h1, h2, rfl⟩ := (effOp_plain hg).1 he
  match h, h3, h2 with
  | h + 3, _, h2 =>
    have hb : Nat.beq ((h + 3) % 2) 1 = false := by
      rw [hev]; rfl
    simp only [fits, rowFits, hb, cond_false, Bool.and_eq_true] at h2
    obtain ⟨⟨_, h5⟩, h6⟩ := h2
    split at h5
    · rename_i l hl
      cases hL : r.L' with
      | none => rfl
      | some L2 => exact stepA_writes (l := l) hl (fun r hr => Nat.eq_of_beq_eq_true (List.all_eq_true.1 h5 r hr)) h1 h6 q hq L2 hL
    · simp at h5

theorem effOp_wait {ops : Array Oper} {an : Option Ans} {o : Oper} {env : Env} {L : Heap} {e : Eff} (row0 : Row) (hw : canWait o = true) (h : effOp P inl call ops an 0 o env L = some e) :
    effOp P inl call ops an 0 o env (L ++ [row0]) = some e := by
  have hg : o.guard = none := by
    unfold canWait at hw
    simp only [Bool.and_eq_true, Option.isNone_iff_eq_none] at hw
    exact hw.1
  unfold effOp chainOf at h ⊢
  rw [hg] at h ⊢
  simp only at h ⊢
  split at h
  · simp [chainVal] at h
  · rename_i r hr
    split at h
    · simp at h
    · rename_i hf
      rw [stepA_wait row0 hw hr hf]
      have hf' : fits (ev env []) (L ++ [row0]) o 0 r.L' r.calls = true := hf
      simp only [hf']
      exact h

theorem effOp_grow {ops : Array Oper} {an : Option Ans} {hot : Nat} {o : Oper} {env : Env} {L : Heap} {e : Eff} (hg : growsOnly o = true) (h : effOp P inl call ops an hot o env L = some e) :
    e.L' = none ∨ ∃ row, e.L' = some (L ++ [row]) := by
  have hbox : ∀ {L : Heap} {v : AV} {r : SR}, boxA L v = some r → ∃ row, r.L' = some (L ++ [row]) := by
    intro L v r hr
    unfold boxA at hr
    split at hr
    · simp only [Option.some.injEq] at hr; subst hr; exact ⟨_, rfl⟩
    · simp at hr
  have hst : ∀ {an ρ L r}, stepA P inl call an ρ L o = some r → ∃ row, r.L' = some (L ++ [row]) := by
    intro an ρ L r hr
    obtain ⟨dst, op, type, pos, after, guard⟩ := o
    cases op <;> simp [growsOnly] at hg
    case alloc T =>
      simp only [stepA] at hr
      split at hr
      · exact hbox hr
      · simp at hr
    case box T x => exact hbox hr
  unfold effOp at h
  split at h
  · simp at h
  · simp only [Option.some.injEq] at h; subst h; exact .inl rfl
  · split at h
    · split at h
      · simp at h
      · simp only [Option.some.injEq] at h; subst h; exact .inl rfl
    · rename_i r hr
      obtain ⟨row, hrow⟩ := hst hr
      split at h
      · simp at h
      · split at h
        · simp only [Option.some.injEq] at h; subst h; exact .inr ⟨row, hrow⟩
        · simp only [Option.some.injEq] at h; subst h
          simp only [hrow]
          cases chainVal env _ with
          | true => exact .inr ⟨row, rfl⟩
          | false => exact .inl rfl
end
end Go.Av
