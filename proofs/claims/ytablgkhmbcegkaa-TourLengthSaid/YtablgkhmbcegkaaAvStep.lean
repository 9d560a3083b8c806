/- ONE OPERATION of the evaluator against the model's own 'execOp': everything but the calls of functions. No program in sight. -/
import Derived.Test.YtablgkhmbcegkaaAvOps9
namespace Go.Av
open Go.RowKit
section
variable {P : Unit → Program}

theorem done_of_made {S : St} {v : AV} {L' : Heap} {s : Sem Value} (h : Made S v L' (s.run (P ()) S.w)) : Done S v L' ((do pure (Next.value (← s)) : Sem Next).run (P ()) S.w) := by
  obtain ⟨β', w', cv, h1, h2, h3, h4⟩ := h
  exact ⟨β', w', cv, h1, h2, h3, .inl (by simp [h4])⟩

theorem done_of_run {S : St} (hS : HeapOk S) {v : AV} {s : Sem Value} (h : ∃ vv, s.run (P ()) S.w = .ok vv S.w ∧ Rel S v vv) : Done S v S.L ((do pure (Next.value (← s)) : Sem Next).run (P ()) S.w) := by
  obtain ⟨vv, h1, h2⟩ := h
  exact done_quiet hS h2 (by simp [h1])

/-- The conditions of a chain hold of the model's temporaries. -/
def ChainTrue (ρc : Operand → Value) (ex : Chain) : Prop := ∀ x ∈ ex, ρc (.tmp x.1) = .bool x.2

/-- What is left of a call of a function. -/
structure CallLeft (P : Unit → Program) (inl : FuncId → Bool) (S : St) (r : SR) (ρc : Operand → Value) (o : Oper) (g : FuncId) (args : List AV) (cargs : List Value) : Prop where
  run : (execOp ρc o).run (P ()) S.w = (callFunc g ⟨cargs⟩).run (P ()) S.w
  rel : RelL S args cargs
  call : ∃ call, callF inl call S.L g args = some r

theorem arr_of_list {α : Type} {a : Array α} {l : List α} (h : a.toList = l) : a = ⟨l⟩ := by
  subst h; rfl

theorem bopt {S : St} {ρ : Operand → AV} {ρc : Operand → Value} (hρ : ∀ x, Rel S (ρ x) (ρc x)) (x : Option Operand) : BRel S (x.map ρ) (x.map ρc) := by
  cases x with
  | none => exact .none
  | some x => exact .some _ _ (hρ x)

theorem builtin_step {S : St} (hS : HeapOk S) {inl : FuncId → Bool} {call : Answer} {ρ : Operand → AV} {ρc : Operand → Value} {o : Oper} {c : Call} {b : Builtin} {r : SR} (hρ : ∀ x, Rel S (ρ x) (ρc x))
    (ho : o.op = .call c) (hb : c.callee = .builtin b) (h : callA P inl call ρ S.L c = some r) (hA : ∀ b ∈ r.asm, b = true) :
    r.calls = [] ∧ Done S r.v (r.L'.getD S.L) ((execOp ρc o).run (P ()) S.w) := by
  have hrun : (execOp ρc o).run (P ()) S.w = (builtin b c.argTypes o.type (c.args.map fun | .const _ => true | _ => false) (c.args.map ρc)).run (P ()) S.w := by
    simp [execOp, ho, resolve, hb, invoke]
    rfl
  rw [hrun]
  unfold callA at h
  rw [hb] at h
  simp only at h
  split at h
  · rename_i s x T X h1 h2
    have e1 := arr_of_list h1
    have e2 := arr_of_list h2
    rw [e1, e2]
    have fin : ((∃ e', (P ()).underlying X = some (.slice e')) ∨ (P ()).underlying X = some .string) → appendA P S.L T (ρ s) (ρ x) = some r → r.calls = [] ∧ Done S r.v (r.L'.getD S.L) ((builtin .append ⟨[T, X]⟩ o.type ((⟨[s, x]⟩ : Array Operand).map fun | .const _ => true | _ => false) ((⟨[s, x]⟩ : Array Operand).map ρc)).run (P ()) S.w) := by
      intro hX h
      obtain ⟨_, k2, k3⟩ := append_made (P := P) (ty := o.type) hS (hρ s) (hρ x) hX h hA
      refine ⟨k2, ?_⟩
      have := done_of_made k3
      simpa [builtin] using this
    split at h
    · rename_i e' hX; exact fin (.inl ⟨e', hX⟩) h
    · rename_i hX; exact fin (.inr hX) h
    · simp at h
  · rename_i d T rest h1 h2
    have e1 := arr_of_list h1
    have e2 := arr_of_list h2
    rw [e1, e2]
    obtain ⟨_, k2, k3⟩ := clear_made (P := P) (ty := o.type) (ts := ⟨T :: rest⟩) hS (by simp) (hρ d) h hA
    refine ⟨k2, ?_⟩
    have := done_of_made k3
    simpa [builtin] using this
  · rename_i x T rest h1 h2
    have e1 := arr_of_list h1
    have e2 := arr_of_list h2
    rw [e1, e2]
    obtain ⟨k1, k2, _, k3⟩ := len_sound (P := P) (ty := o.type) (ts := ⟨T :: rest⟩) (by simp) (hρ x) h hA
    refine ⟨k2, ?_⟩
    rw [k1]
    have := done_of_run hS k3
    simpa [builtin] using this
  · rename_i x T rest h1 h2
    have e1 := arr_of_list h1
    have e2 := arr_of_list h2
    rw [e1, e2]
    unfold quiet at h
    split at h
    · rename_i v hv
      simp only [Option.some.injEq] at h; subst h
      have := done_of_run hS (cap_sound (P := P) (ty := o.type) (ts := ⟨T :: rest⟩) (by simp) (hρ x) hv)
      exact ⟨rfl, by simpa [builtin] using this⟩
    · simp at h
  · rename_i tl x xs h1
    have e1 := arr_of_list h1
    rw [e1]
    unfold quiet at h
    split at h
    · rename_i v hv
      simp only [Option.some.injEq] at h; subst h
      have := done_of_run hS (min_sound (P := P) (ty := o.type) (ts := c.argTypes) (hρ x) (RelL.map (l := xs) hρ) hv)
      exact ⟨rfl, by simpa [builtin] using this⟩
    · simp at h
  · rename_i tl x xs h1
    have e1 := arr_of_list h1
    rw [e1]
    unfold quiet at h
    split at h
    · rename_i v hv
      simp only [Option.some.injEq] at h; subst h
      have := done_of_run hS (max_sound (P := P) (ty := o.type) (ts := c.argTypes) (hρ x) (RelL.map (l := xs) hρ) hv)
      exact ⟨rfl, by simpa [builtin] using this⟩
    · simp at h
  · simp at h

theorem value_step {S : St} {inl : FuncId → Bool} {call : Answer} {ρ : Operand → AV} {ρc : Operand → Value} {o : Oper} {c : Call} {f : Operand} {r : SR} (hρ : ∀ x, Rel S (ρ x) (ρc x))
    (ho : o.op = .call c) (hf : c.callee = .value f) (h : callA P inl call ρ S.L c = some r) : ∃ g args cargs, CallLeft P inl S r ρc o g args cargs := by
  unfold callA at h
  rw [hf] at h
  simp only at h
  split at h
  · rename_i g a b hfv
    have hr := hρ f
    rw [hfv] at hr
    obtain ⟨va, vb, e1, l1, l2, r1, r2⟩ := rel_func hr
    refine ⟨g, _, va ++ c.args.toList.map ρc ++ vb, ?_, ?_, _, h⟩
    · have e2 : (⟨va⟩ : Array Value) ++ c.args.map ρc ++ ⟨vb⟩ = ⟨va ++ c.args.toList.map ρc ++ vb⟩ := by
        apply Array.ext'; simp
      simp only [execOp, ho, resolve, hf, e1, Deferred.ofValue, Sem.run_bind, Sem.run_pure, Result.andThen_ok, invoke, e2]
    · exact (RelL.append (RelL.append ⟨l1, r1⟩ (RelL.map hρ)) ⟨l2, r2⟩)
  · simp at h

theorem quiet_done {S : St} (hS : HeapOk S) {x : Option AV} {r : SR} {s : Sem Value} (h : quiet x = some r) (hs : ∀ v, x = some v → ∃ vv, s.run (P ()) S.w = .ok vv S.w ∧ Rel S v vv) :
    r.calls = [] ∧ Done S r.v (r.L'.getD S.L) ((do pure (Next.value (← s)) : Sem Next).run (P ()) S.w) := by
  unfold quiet at h
  split at h
  · rename_i v
    simp only [Option.some.injEq] at h; subst h
    exact ⟨rfl, done_of_run hS (hs v rfl)⟩
  · simp at h

/-- One operation. -/
theorem step_sound {S : St} (hS : HeapOk S) {inl : FuncId → Bool} {call : Answer} {an : Option Ans} {ρ' : Chain → Operand → AV} {ρc : Operand → Value} {o : Oper} {r : SR}
    (hρ : ∀ ex, ChainTrue ρc ex → ∀ x, Rel S (ρ' ex x) (ρc x)) (h : stepA P inl call an ρ' S.L o = some r) (hA : ∀ b ∈ r.asm, b = true) (hQ : ∀ q ∈ r.eqs, q) :
    (r.calls = [] ∧ Done S r.v (r.L'.getD S.L) ((execOp ρc o).run (P ()) S.w)) ∨ ∃ g args cargs, CallLeft P inl S r ρc o g args cargs := by
  have hρ0 : ∀ x, Rel S (ρ' [] x) (ρc x) := hρ [] (by intro x hx; simp at hx)
  unfold stepA at h
  simp only at h
  split at h
  · rename_i x ho
    simp only [Option.some.injEq] at h; subst h
    exact .inl ⟨rfl, done_quiet hS (hρ0 x) (by simp [execOp, ho])⟩
  · rename_i x ho
    simp only [Option.some.injEq] at h; subst h
    exact .inl ⟨rfl, done_quiet hS (hρ0 x) (by simp [execOp, ho])⟩
  · rename_i c a b ho
    have hex : ∀ t, ρc c = .bool t → (execOp ρc o).run (P ()) S.w = .ok (.value (if t then ρc a else ρc b)) S.w := by
      intro t ht
      simp [execOp, ho, ht, asBool]
    left
    split at h
    · rename_i d
      unfold quiet at h
      split at h
      · rename_i v hv
        simp only [Option.some.injEq] at h; subst h
        obtain ⟨t, e1, e2⟩ := pick_sound (av := ρc a) (bv := ρc b) (hρ0 (.tmp d)) (fun e => hρ [(d, true)] (by intro x hx; simp at hx; subst hx; exact e) a) (fun e => hρ [(d, false)] (by intro x hx; simp at hx; subst hx; exact e) b) hv
        exact ⟨rfl, done_quiet hS e2 (hex t e1)⟩
      · simp at h
    · unfold quiet at h
      split at h
      · rename_i v hv
        simp only [Option.some.injEq] at h; subst h
        obtain ⟨t, e1, e2⟩ := pick_sound (hρ0 c) (fun _ => hρ0 a) (fun _ => hρ0 b) hv
        exact ⟨rfl, done_quiet hS e2 (hex t e1)⟩
      · simp at h
  · rename_i T ho
    split at h
    · rename_i z hz
      obtain ⟨zv, e1, e2⟩ := zero_rel S hz
      obtain ⟨_, _, k3, L', k4, k5⟩ := box_made (P := P) (T := T) hS e2 h
      refine .inl ⟨k3, ?_⟩
      rw [k4]
      have : (execOp ρc o).run (P ()) S.w = (do pure (Next.value (← (newVar T zv >>= fun a => pure (Value.pointer (some a)) : Sem Value))) : Sem Next).run (P ()) S.w := by
        simp [execOp, ho, Instr.alloc, e1]
      rw [this]
      exact done_of_made k5
    · simp at h
  · rename_i T x ho
    obtain ⟨_, _, k3, L', k4, k5⟩ := box_made (P := P) (T := T) hS (hρ0 x) h
    refine .inl ⟨k3, ?_⟩
    rw [k4]
    have : (execOp ρc o).run (P ()) S.w = (do pure (Next.value (← (newVar T (ρc x) >>= fun a => pure (Value.pointer (some a)) : Sem Value))) : Sem Next).run (P ()) S.w := by
      simp [execOp, ho, Instr.box]
    rw [this]
    exact done_of_made k5
  · rename_i T parts ho
    have := quiet_done (P := P) hS (s := Instr.build T (parts.map fun (i, x) => (i, ρc x))) h (fun v hv => build_sound hρ0 hv)
    exact .inl (by simpa [execOp, ho] using this)
  · rename_i T len parts ho
    obtain ⟨_, k2, k3⟩ := buildSlice_made (P := P) hS hρ0 h hA
    exact .inl ⟨k2, by simpa [execOp, ho] using done_of_made k3⟩
  · rename_i T a ho
    obtain ⟨k1, k2, k3⟩ := load_sound (P := P) hS (hρ0 a) h hA hQ
    refine .inl ⟨k2, ?_⟩
    rw [k1]
    simpa [execOp, ho] using done_of_run hS k3
  · rename_i T a x ho
    obtain ⟨k1, k2, L', β', w', k3, k4, k5, k6⟩ := store_made (P := P) hS (hρ0 a) (hρ0 x) h hA hQ
    refine .inl ⟨k2, ?_⟩
    rw [k1, k3]
    exact ⟨β', w', undef, k4, k5, .tup [] [] rfl (by simp), .inr ⟨by simp [execOp, ho, k6], rfl⟩⟩
  · rename_i x ho
    have hx := hρ0 x
    split at h
    · rename_i r' ver i j hv
      simp only [Option.some.injEq] at h; subst h
      rw [hv] at hx
      obtain ⟨⟨a, e⟩, _⟩ := rel_ptr' hx
      exact .inl ⟨rfl, done_quiet hS hx (by simp [execOp, ho, e])⟩
    · rename_i es xs i j hv
      simp only [Option.some.injEq] at h; subst h
      rw [hv] at hx
      have hd := rel_eptr hx
      generalize hpv : ρc x = pv at *
      cases hd with
      | eptr _ _ _ _ b off h1 h2 h3 => exact .inl ⟨rfl, done_quiet hS hx (by simp [execOp, ho, hpv])⟩
    · simp at h
  · rename_i op T x y yT ho
    obtain ⟨k1, k2, vv, k3, k4⟩ := bin_sound (P := P) (xo := x) (yo := y) (hρ0 x) (hρ0 y) h hA
    refine .inl ⟨k2, ?_⟩
    rw [k1]
    have := done_of_run (P := P) hS ⟨vv, k3, k4⟩
    simpa [execOp, ho] using this
  · rename_i op T x ho
    have := quiet_done (P := P) hS h (fun v hv => un_sound (hρ0 x) hv)
    exact .inl (by simpa [execOp, ho] using this)
  · rename_i src dst x ho
    have := quiet_done (P := P) hS h (fun v hv => conv_sound (hρ0 x) hv)
    exact .inl (by simpa [execOp, ho] using this)
  · rename_i fn first captured ho
    simp only [Option.some.injEq] at h; subst h
    refine .inl ⟨rfl, done_quiet hS (cv := .func fn ⟨first.toList.map ρc⟩ ⟨captured.toList.map ρc⟩) ?_ ?_⟩
    · exact .func fn _ _ _ _ (RelL.map hρ0).1 (RelL.map hρ0).1 (RelL.map hρ0).2 (RelL.map hρ0).2
    · have e1 : first.map ρc = ⟨first.toList.map ρc⟩ := by apply Array.ext'; simp
      have e2 : captured.map ρc = ⟨captured.toList.map ρc⟩ := by apply Array.ext'; simp
      simp [execOp, ho, Instr.makeFunc, e1, e2]
  · rename_i T l c ho
    obtain ⟨_, k2, L', k3, k4⟩ := make_made (P := P) hS (hρ0 l) (hρ0 c) h hA
    refine .inl ⟨k2, ?_⟩
    rw [k3]
    simpa [execOp, ho] using done_of_made k4
  · rename_i T x lo hi mx ho
    obtain ⟨k1, k2, _, k3⟩ := slice_sound (P := P) hS (hρ0 x) (bopt hρ0 lo) (bopt hρ0 hi) (bopt hρ0 mx) h hA
    refine .inl ⟨k2, ?_⟩
    rw [k1]
    simpa [execOp, ho] using done_of_run hS k3
  · rename_i T x f ho
    have := quiet_done (P := P) hS h (fun v hv => fieldAddr_sound (hρ0 x) hv)
    exact .inl (by simpa [execOp, ho] using this)
  · rename_i T x f ho
    have := quiet_done (P := P) hS h (fun v hv => field_sound (hρ0 x) hv)
    exact .inl (by simpa [execOp, ho] using this)
  · rename_i T x i ho
    obtain ⟨k1, k2, _, k3⟩ := indexAddr_sound (P := P) hS (hρ0 x) (hρ0 i) h hA
    refine .inl ⟨k2, ?_⟩
    rw [k1]
    simpa [execOp, ho] using done_of_run hS k3
  · rename_i T x i ho
    obtain ⟨k1, k2, _, k3⟩ := index_sound (P := P) (hρ0 x) (hρ0 i) h hA
    refine .inl ⟨k2, ?_⟩
    rw [k1]
    simpa [execOp, ho] using done_of_run hS k3
  · rename_i t i ho
    have ht := hρ0 t
    split at h
    · rename_i vs hv
      rw [hv] at ht
      have := quiet_done (P := P) hS h (fun v hv => extract_sound ht hv)
      exact .inl (by simpa [execOp, ho] using this)
    · simp at h
  · rename_i c ho
    have key : ∀ call', callA P inl call' (ρ' []) S.L c = some r → (r.calls = [] ∧ Done S r.v (r.L'.getD S.L) ((execOp ρc o).run (P ()) S.w)) ∨ ∃ g args cargs, CallLeft P inl S r ρc o g args cargs := by
      intro call' h
      cases hc : c.callee with
      | value f => exact .inr (value_step hρ0 ho hc h)
      | builtin b => exact .inl (builtin_step hS hρ0 ho hc h hA)
      | invoke x m => simp [callA, hc] at h
    split at h
    · exact key _ h
    · exact key _ h
  · simp at h
end
end Go.Av
