/- WHOLE PATHS of the evaluation relation, for use. -/
import Derived.Test.YtablgkhmbcegkaaAvEv
import Derived.KernelRfl
namespace Go.Av

def cd (f : Func) : Code := f.body.getD .skip

def ansOf : List (Nat × Nat × Ans) → Nat → Nat → Option Ans
  | [], _, _ => none
  | (r, i, a) :: l, r', i' => bif r == r' && i == i' then some a else ansOf l r' i'
def hotCalls : List (Nat × List Nat) → Nat → List Nat
  | [], _ => []
  | (r, l) :: t, r' => bif r == r' then l else hotCalls t r'
def given (kp : List (Nat × List Nat)) (a : List (Nat × Nat × Ans)) (h : List (Nat × List Nat)) : Given := { ans := ansOf a, hot := hotCalls h, keep := hotCalls kp }

def allB : List Bool → Prop
  | [] => True
  | b :: l => b = true ∧ allB l
def allP : List Prop → Prop
  | [] => True
  | p :: l => p ∧ allP l
/-- The call was answered rightly. -/
def CF.ok (M : Mach) (c : CF) : Prop :=
  match c.own with
  | true => Ev M (.own c.f c.args c.L) c.v c.L'
  | false => Ev M (.pure c.f c.args) c.v []
def allC (M : Mach) : List CF → Prop
  | [] => True
  | c :: l => (c.cond = true → c.ok M) ∧ allC M l

theorem allB_nil : allB [] := trivial
theorem allB_cons {b : Bool} {l : List Bool} (h : b = true) (r : allB l) : allB (b :: l) := ⟨h, r⟩
theorem allP_nil : allP [] := trivial
theorem allP_cons {p : Prop} {l : List Prop} (h : p) (r : allP l) : allP (p :: l) := ⟨h, r⟩
theorem allC_nil {M : Mach} : allC M [] := trivial
theorem allC_cons {M : Mach} {c : CF} {l : List CF} (h : c.cond = true → c.ok M) (r : allC M l) : allC M (c :: l) := ⟨h, r⟩
theorem beq_of {a b : Bool} (h : a = b) : (a == b) = true := by simp [h]

theorem allB_iff (l : List Bool) : allB l ↔ ∀ b ∈ l, b = true := by
  induction l with
  | nil => simp [allB]
  | cons b l ih => simp [allB, ih]
theorem allP_iff (l : List Prop) : allP l ↔ ∀ p ∈ l, p := by
  induction l with
  | nil => simp [allP]
  | cons b l ih => rw [allP, ih, List.forall_mem_cons]
theorem allC_iff (M : Mach) (l : List CF) : allC M l ↔ ∀ c ∈ l, c.cond = true → c.ok M := by
  induction l with
  | nil => simp [allC]
  | cons b l ih => simp [allC, ih]

/-- What one operation adds. -/
theorem runOp_adds {P : Unit → Program} {inl : FuncId → Bool} {call : Answer} {n : Nat} {ops : Array Oper} {an : Option Ans} {hot : Nat} {o : Oper} {s s' : RS}
    (h : runOp P inl call n ops an hot o s = some s') :
    ∃ env L a q c, s' = ⟨env, L, s.asm ++ a, s.eqs ++ q, s.calls ++ c⟩ ∧
      ∀ a0 q0 c0, runOp P inl call n ops an hot o ⟨s.env, s.L, a0, q0, c0⟩ = some ⟨env, L, a0 ++ a, q0 ++ q, c0 ++ c⟩ := by
  unfold runOp at h ⊢
  split at h
  · simp at h
  · rename_i hc
    split at h
    · rename_i env he
      refine ⟨env, s.L, [], [], [], by simpa using h.symm, fun a0 q0 c0 => ?_⟩
      simp only [hc, he, List.append_nil]
    · simp at h
  · rename_i c hc
    split at h
    · rename_i hr
      split at h
      · simp at h
      · rename_i hv
        split at h
        · rename_i env he
          refine ⟨env, s.L, [], [], [], by simpa using h.symm, fun a0 q0 c0 => ?_⟩
          simp only [hc, hr, hv, he, List.append_nil]
        · simp at h
    · rename_i r hr
      split at h
      · simp at h
      · rename_i env he
        split at h
        · simp at h
        · rename_i hL
          split at h
          · simp only [Option.some.injEq] at h
            refine ⟨env, _, r.asm, r.eqs, r.calls, h.symm, fun a0 q0 c0 => ?_⟩
            simp only [hc, hr, he, hL]
          · rename_i hcne
            simp only [Option.some.injEq] at h
            refine ⟨env, _, _, _, _, h.symm, fun a0 q0 c0 => ?_⟩
            simp only [hc, hr, he, hL]

theorem runOps_adds {P : Unit → Program} {inl : FuncId → Bool} {call : Answer} {n : Nat} {ops : Array Oper} {ans : Nat → Option Ans} {hot : Nat → Nat} (l : List Nat) :
    ∀ {s s' : RS}, runOps P inl call n ops ans hot l s = some s' →
    ∃ env L a q c, s' = ⟨env, L, s.asm ++ a, s.eqs ++ q, s.calls ++ c⟩ ∧
      ∀ a0 q0 c0, runOps P inl call n ops ans hot l ⟨s.env, s.L, a0, q0, c0⟩ = some ⟨env, L, a0 ++ a, q0 ++ q, c0 ++ c⟩ := by
  induction l with
  | nil =>
    intro s s' h
    simp only [runOps, Option.some.injEq] at h
    subst h
    exact ⟨s.env, s.L, [], [], [], by simp, fun _ _ _ => by simp [runOps]⟩
  | cons i rest ih =>
    intro s s' h
    simp only [runOps] at h
    cases ho : ops[i]? with
    | none =>
      rw [ho] at h
      obtain ⟨env, L, a, q, c, he, hall⟩ := ih h
      exact ⟨env, L, a, q, c, he, fun a0 q0 c0 => by simp only [runOps, ho]; exact hall a0 q0 c0⟩
    | some o =>
      rw [ho] at h
      simp only at h
      cases hr : runOp P inl call n ops (ans i) (hot i) o s with
      | none => rw [hr] at h; simp at h
      | some s1 =>
        rw [hr] at h
        obtain ⟨env1, L1, a1, q1, c1, he1, hall1⟩ := runOp_adds hr
        obtain ⟨env, L, a, q, c, he, hall⟩ := ih h
        subst he1
        refine ⟨env, L, a1 ++ a, q1 ++ q, c1 ++ c, by simpa [List.append_assoc] using he, fun a0 q0 c0 => ?_⟩
        simp only [runOps, ho, hall1 a0 q0 c0]
        rw [hall]
        simp [List.append_assoc]

theorem path_mono {M : Mach} {fi : Fi} {G : Given} (n : Nat) : ∀ {ds : List Bool} {s t : PS}, path M fi G n ds s = some t →
    (∀ b ∈ s.asm, b ∈ t.asm) ∧ (∀ p ∈ s.eqs, p ∈ t.eqs) ∧ (∀ c ∈ s.calls, c ∈ t.calls) := by
  induction n with
  | zero => intro ds s t h; simp only [path, Option.some.injEq] at h; subst h; exact ⟨fun _ h => h, fun _ h => h, fun _ h => h⟩
  | succ n ih =>
    intro ds s t h
    unfold path at h
    split at h
    · simp only [Option.some.injEq] at h; subst h; exact ⟨fun _ h => h, fun _ h => h, fun _ h => h⟩
    · (have h2 := ih h; exact h2)
    · simp only [Option.some.injEq] at h; subst h; exact ⟨fun _ h => h, fun _ h => h, fun _ h => h⟩
    · split at h
      · (have h2 := ih h; exact h2)
      · (have h2 := ih h; exact h2)
      · split at h
        · simp only [Option.some.injEq] at h; subst h; exact ⟨fun _ h => h, fun _ h => h, fun _ h => h⟩
        · split at h
          · obtain ⟨h1, h2, h3⟩ := ih h
            exact ⟨fun b hb => h1 b (by simp [hb]), h2, h3⟩
          · simp at h
      · (have h2 := ih h; exact h2)
      · simp only [Option.some.injEq] at h; subst h; exact ⟨fun _ h => h, fun _ h => h, fun _ h => h⟩
      · split at h
        · (have h2 := ih h; exact h2)
        · simp at h
      · split at h
        · simp at h
        · split at h
          · rename_i s1 hr
            obtain ⟨env, L, a, q, c, he, _⟩ := runOps_adds _ hr
            obtain ⟨h1, h2, h3⟩ := ih h
            subst he
            exact ⟨fun b hb => h1 b (by simp [hb]), fun b hb => h2 b (by simp [hb]), fun b hb => h3 b (by simp [hb])⟩
          · simp at h
      · simp only [Option.some.injEq] at h; subst h; exact ⟨fun _ h => h, fun _ h => h, fun _ h => h⟩
      · simp at h
    · simp at h

theorem path_sound {M : Mach} {fi : Fi} {G : Given} (n : Nat) : ∀ {ds : List Bool} {s t : PS} {Q : AV → Heap → Prop}, path M fi G n ds s = some t →
    (∀ b ∈ t.asm, b = true) → (∀ p ∈ t.eqs, p) → (∀ c ∈ t.calls, c.cond = true → c.ok M) →
    Wp M (.run fi t.todo t.env t.L) Q → Wp M (.run fi s.todo s.env s.L) Q := by
  induction n with
  | zero => intro ds s t Q h _ _ _ he; simp only [path, Option.some.injEq] at h; subst h; exact he
  | succ n ih =>
    intro ds s t Q h hA hQ hC he
    obtain ⟨todo, env, L, asm, eqs, calls⟩ := s
    unfold path at h
    split at h
    · simp only [Option.some.injEq] at h; subst h; exact he
    · rename_i k heq; simp only at heq; subst heq
      exact .inBlock (ih h hA hQ hC he)
    · rename_i b k heq; simp only at heq; subst heq
      simp only [Option.some.injEq] at h; subst h; exact .inLoop he
    · rename_i c k heq; simp only at heq; subst heq
      split at h
      · exact .skip (ih h hA hQ hC he)
      · exact .seq (ih h hA hQ hC he)
      · split at h
        · simp only [Option.some.injEq] at h; subst h; exact he
        · rename_i d ds'
          split at h
          · rename_i t' hev
            have hm := (path_mono n h).1 (t' == d) (by simp)
            have := hA _ hm
            simp only [beq_iff_eq] at this
            subst this
            exact .cond t' hev (ih h hA hQ hC he)
          · simp at h
      · exact .block (ih h hA hQ hC he)
      · simp only [Option.some.injEq] at h; subst h; exact .loop he
      · split at h
        · rename_i k' hk; exact .exit hk (ih h hA hQ hC he)
        · simp at h
      · split at h
        · simp at h
        · rename_i id ops draw _ _ hdr
          split at h
          · rename_i s1 hr
            obtain ⟨env1, L1, a, q, cs, he1, hall⟩ := runOps_adds _ hr
            obtain ⟨m1, m2, m3⟩ := path_mono n h
            subst he1
            refine .region G.call (G.ans id) _ (G.keep id) ⟨env1, L1, [] ++ a, [] ++ q, [] ++ cs⟩ ?_ (hall [] [] []) ?_ ?_ ?_ ?_ (ih h hA hQ hC he)
            · intro hd
              subst hd
              cases hk : drawOk (hotOf ops (G.hot id)) ops with
              | true => simpa using hk
              | false => exact (hdr rfl (by simpa using hk)).elim
            · exact fun b hb => hA b (m1 b (by simp at hb; simp [hb]))
            · exact fun b hb => hQ b (m2 b (by simp at hb; simp [hb]))
            · intro c hb h1 h2
              have := hC c (m3 c (by simp at hb; simp [hb])) h1
              simpa [CF.ok, h2] using this
            · intro c hb h1 h2
              have := hC c (m3 c (by simp at hb; simp [hb])) h1
              simpa [CF.ok, h2] using this
          · simp at h
      · simp only [Option.some.injEq] at h; subst h; exact he
      · simp at h
    · simp at h

/-- A path to a place where one goes on by other means. -/
theorem path_wp {M : Mach} {fi : Fi} {G : Given} (n : Nat) (ds : List Bool) {todo : List Item} {env : Vars} {L : Heap} (t : PS) {Q : AV → Heap → Prop}
    (h : path M fi G n ds ⟨todo, env, L, [], [], []⟩ = some t) (hA : allB t.asm) (hQ : allP t.eqs) (hC : allC M t.calls)
    (hw : Wp M (.run fi t.todo t.env t.L) Q) : Wp M (.run fi todo env L) Q :=
  path_sound n h ((allB_iff _).1 hA) ((allP_iff _).1 hQ) ((allC_iff _ _).1 hC) hw

/-- A path to a return. -/
theorem path_ret {M : Mach} {fi : Fi} {G : Given} (n : Nat) (ds : List Bool) {todo k : List Item} {env env' : Vars} {L L' : Heap} {asm : List Bool} {eqs : List Prop} {calls : List CF} (v : AV) {Q : AV → Heap → Prop}
    (h : path M fi G n ds ⟨todo, env, L, [], [], []⟩ = some ⟨.code .ret :: k, env', L', asm, eqs, calls⟩) (hv : finish M.P fi env' L' = some v)
    (hA : allB asm) (hQ : allP eqs) (hC : allC M calls) (hq : Q v L') : Wp M (.run fi todo env L) Q :=
  path_wp n ds _ h hA hQ hC (.ret hv hq)

/-- A path to the function's end. -/
theorem path_end {M : Mach} {fi : Fi} {G : Given} (n : Nat) (ds : List Bool) {todo : List Item} {env env' : Vars} {L L' : Heap} {asm : List Bool} {eqs : List Prop} {calls : List CF} (v : AV) {Q : AV → Heap → Prop}
    (h : path M fi G n ds ⟨todo, env, L, [], [], []⟩ = some ⟨[], env', L', asm, eqs, calls⟩) (hv : finish M.P fi env' L' = some v)
    (hA : allB asm) (hQ : allP eqs) (hC : allC M calls) (hq : Q v L') : Wp M (.run fi todo env L) Q :=
  path_wp n ds _ h hA hQ hC (.done hv hq)

def nilRunT (M : Mach) (n : Nat) (todo : List Item) (i : Nat) (env : Vars) (L : Heap) (b : Bool) : Option RS :=
  match todo with
  | .code (.region _ ops false) :: _ => nilRun M.P M.inl n ops i env L b
  | _ => none

/-- A region with a test for nil whose answer is not known. -/
theorem wp_nil {M : Mach} {fi : Fi} {todo : List Item} {env e1 e2 : Vars} {L L1 L2 : Heap} {a1 a2 : List Bool} {v1 v2 : Env} {Q : AV → Heap → Prop} (i : Nat) (keep : List Nat)
    (h1 : nilRunT M fi.n todo i env L true = some ⟨v1, L1, a1, [], []⟩) (h2 : nilRunT M fi.n todo i env L false = some ⟨v2, L2, a2, [], []⟩) (hA1 : allB a1) (hA2 : allB a2)
    (f1 : forget keep v1 = e1) (f2 : forget keep v2 = e2) (w1 : Wp M (.run fi todo.tail e1 L1) Q) (w2 : Wp M (.run fi todo.tail e2 L2) Q) : Wp M (.run fi todo env L) Q := by
  unfold nilRunT at h1 h2
  split at h1
  · simp only at h2
    refine .nilq i keep (fun b => bif b then ⟨v1, L1, a1, [], []⟩ else ⟨v2, L2, a2, [], []⟩) (fun b => ?_) (fun b => ?_) (fun b => ?_)
    · cases b with
      | true => exact h1
      | false => exact h2
    · cases b with
      | true => exact ⟨(allB_iff _).1 hA1, rfl, rfl⟩
      | false => exact ⟨(allB_iff _).1 hA2, rfl, rfl⟩
    · cases b with
      | true => simp only [cond_true]; rw [f1]; exact w1
      | false => simp only [cond_false]; rw [f2]; exact w2
  · simp at h1

/-- A call, by its body. -/
theorem own_wp {M : Mach} {f : FuncId} {args : List AV} {L : Heap} {Q : AV → Heap → Prop} (fn : Func) (fi : Fi)
    (hf : (M.P ()).funcs[f]? = some fn) (hb : fn.body = some (cd fn)) (hn : (fn.name == "runtime.NumGoroutine") = false)
    (hi : (⟨fn.ntmps, fn.results.toList⟩ : Fi) = fi) (h : Wp M (.run fi [.code (cd fn)] (argVars 0 args) L) Q) : Wp M (.own f args L) Q :=
  .own fn (cd fn) hf hb hn (by rw [hi]; exact h)

/-- A call that sees none of its caller's rows. -/
theorem pure_of {M : Mach} {f : FuncId} {args : List AV} {d : AV} (h : Wp M (.own f args []) fun v L => pureA L v = some d ∧ allB (versA L v)) (hd : d.clean = true) : Ev M (.pure f args) d [] :=
  .pure (.mono h fun _ _ hq => ⟨d, d, hq.1, (allB_iff _).1 hq.2, hd, .refl d, rfl, rfl⟩)
end Go.Av
