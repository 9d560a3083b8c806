/- REGIONS WHOSE ORDER IS DRAWN: every order gives what the text's order gives. And regions in the text's order. No program in sight. -/
import Derived.Test.YtablgkhmbcegkaaAvDraw
namespace Go.Av
open Go.RowKit

structure RSEq (s s' : RS) : Prop where
  get : ∀ t, s.env.get t = s'.env.get t
  any : ∀ d, (s.env.any fun e => e.2.1.any fun x => x.1 == d) = (s'.env.any fun e => e.2.1.any fun x => x.1 == d)
  L : s.L = s'.L
  a : ∀ b, b ∈ s.asm ↔ b ∈ s'.asm
  q : ∀ b, b ∈ s.eqs ↔ b ∈ s'.eqs
  k : ∀ b, b ∈ s.calls ↔ b ∈ s'.calls

theorem RSEq.refl (s : RS) : RSEq s s := ⟨fun _ => rfl, fun _ => rfl, rfl, fun _ => .rfl, fun _ => .rfl, fun _ => .rfl⟩
theorem RSEq.trans {s s' s'' : RS} (h : RSEq s s') (k : RSEq s' s'') : RSEq s s'' :=
  ⟨fun t => (h.get t).trans (k.get t), fun t => (h.any t).trans (k.any t), h.L.trans k.L, fun b => (h.a b).trans (k.a b), fun b => (h.q b).trans (k.q b), fun b => (h.k b).trans (k.k b)⟩

section
variable {P : Unit → Program} {inl : FuncId → Bool} {call : Answer} {n : Nat} {ops : Array Oper} {ans : Nat → Option Ans} {hot : Nat → Nat}

theorem chainVal_congr {env env' : Env} (h : ∀ t, env.get t = env'.get t) (c : Chain) : chainVal env c = chainVal env' c := by
  induction c with
  | nil => rfl
  | cons x c ih => simp only [chainVal, h, ih]

theorem effOp_congr {an : Option Ans} {hot : Nat} {o : Oper} {env env' : Env} {L : Heap} (h : ∀ t, env.get t = env'.get t) :
    effOp P inl call ops an hot o env L = effOp P inl call ops an hot o env' L := by
  have h1 : chainOf ops env o = chainOf ops env' o := by unfold chainOf; simp only [h]
  have h2 : ∀ c, ev env c = ev env' c := by
    intro c; funext x
    cases x <;> simp only [ev, h]
  unfold effOp
  simp only [h1, h2, chainVal_congr h]

theorem putE_noD {d : Nat} {c : Chain} {v : AV} {env e1 : Env} (h : putE n (some d) c v env = some e1) : d < n ∧ noD d c = true ∧ (env.any fun e => e.2.1.any fun x => x.1 == d) = false ∧ e1 = (d, c, v) :: env := by
  unfold putE at h
  simp only at h
  split at h
  · rename_i h1
    simp only [Option.some.injEq] at h
    obtain ⟨h2, h3⟩ := h1
    simp only [List.any_cons, Bool.or_eq_false_iff] at h3
    exact ⟨h2, by simpa [noD] using h3.1, h3.2, h.symm⟩
  · simp at h

theorem putE_mk {d : Nat} {c : Chain} {v : AV} {env : Env} (h1 : d < n) (h2 : noD d c = true) (h3 : (env.any fun e => e.2.1.any fun x => x.1 == d) = false) :
    putE n (some d) c v env = some ((d, c, v) :: env) := by
  have h2' : (c.any fun x => x.1 == d) = false := by simpa [noD] using h2
  unfold putE
  simp only
  rw [if_pos ⟨h1, by simp only [List.any_cons, h2', h3, Bool.or_self]⟩]

theorem putE_congr {d : Option Tmp} {c : Chain} {v : AV} {env env' e1 : Env} (hg : ∀ t, env.get t = env'.get t)
    (ha : ∀ d, (env.any fun e => e.2.1.any fun x => x.1 == d) = (env'.any fun e => e.2.1.any fun x => x.1 == d)) (h : putE n d c v env = some e1) :
    ∃ e2, putE n d c v env' = some e2 ∧ (∀ t, e1.get t = e2.get t) ∧ (∀ d, (e1.any fun e => e.2.1.any fun x => x.1 == d) = (e2.any fun e => e.2.1.any fun x => x.1 == d)) := by
  cases d with
  | none =>
    simp only [putE, Option.some.injEq] at h; subst h
    exact ⟨env', rfl, hg, ha⟩
  | some d =>
    obtain ⟨h1, h2, h3, rfl⟩ := putE_noD h
    refine ⟨_, putE_mk h1 h2 (by rw [← ha]; exact h3), fun t => ?_, fun d => ?_⟩
    · simp only [Env.get, hg]
    · simp only [List.any_cons, ha]

/-- Runs from states alike. -/
theorem runOps_congr : ∀ (l : List Nat) {s s' t : RS}, RSEq s s' → runOps P inl call n ops ans hot l s = some t → ∃ t', runOps P inl call n ops ans hot l s' = some t' ∧ RSEq t t'
  | [], s, s', t, h, hr => by
    simp only [runOps, Option.some.injEq] at hr; subst hr
    exact ⟨s', rfl, h⟩
  | i :: rest, s, s', t, h, hr => by
    simp only [runOps] at hr ⊢
    cases ho : ops[i]? with
    | none => rw [ho] at hr; exact runOps_congr rest h hr
    | some o =>
      rw [ho] at hr
      simp only at hr ⊢
      cases h1 : runOp P inl call n ops (ans i) (hot i) o s with
      | none => rw [h1] at hr; simp at hr
      | some s1 =>
        rw [h1] at hr
        obtain ⟨e, env, k1, k2, rfl⟩ := runOp_eff.1 h1
        rw [effOp_congr h.get, h.L] at k1
        obtain ⟨env2, m1, m2, m3⟩ := putE_congr h.get h.any k2
        have h2 : runOp P inl call n ops (ans i) (hot i) o s' = some ⟨env2, e.L'.getD s'.L, s'.asm ++ e.a, s'.eqs ++ e.q, s'.calls ++ e.k⟩ := runOp_eff.2 ⟨e, env2, k1, m1, rfl⟩
        rw [h2]
        exact runOps_congr rest ⟨m2, m3, by simp only [h.L], fun b => by simp [h.a], fun b => by simp [h.q], fun b => by simp [h.k]⟩ hr

theorem noD_of_any {env : Env} {d : Nat} (h : (env.any fun e => e.2.1.any fun x => x.1 == d) = false) (t : Nat) : noD d (env.get t).1 = true := get_any h t

/-- The effect of an operation does not see what an operation apart from it has set. -/
theorem effOp_after {an : Option Ans} {hot : Nat} {o : Oper} {env e1 : Env} {L : Heap} {d : Option Tmp} {c0 : Chain} {v : AV} (hd : ∀ t, d = some t → t ∉ o.looksAt ops) (hp : putE n d c0 v env = some e1) :
    effOp P inl call ops an hot o e1 L = effOp P inl call ops an hot o env L ∧ ∀ e t, d = some t → effOp P inl call ops an hot o env L = some e → noD t e.c = true := by
  cases d with
  | none => simp only [putE, Option.some.injEq] at hp; subst hp; exact ⟨rfl, by simp⟩
  | some d =>
    obtain ⟨_, h2, h3, rfl⟩ := putE_noD hp
    obtain ⟨k1, k2⟩ := effOp_cons (P := P) (inl := inl) (call := call) (an := an) (hot := hot) (L := L) (c0 := c0) (v := v) (hd d rfl) (get_any h3)
    exact ⟨k1, fun e t ht he => by cases ht; exact k2 e he⟩

/-- Two temporaries set in either order. -/
theorem putE_swap {di dj : Option Tmp} {ci cj : Chain} {vi vj : AV} {env e1 e2 : Env} (hne : ∀ t, di = some t → dj ≠ some t) (h1 : putE n di ci vi env = some e1) (h2 : putE n dj cj vj e1 = some e2)
    (hij : ∀ t, di = some t → noD t cj = true) :
    ∃ f1 f2, putE n dj cj vj env = some f1 ∧ putE n di ci vi f1 = some f2 ∧ (∀ t, e2.get t = f2.get t) ∧ (∀ d, (e2.any fun e => e.2.1.any fun x => x.1 == d) = (f2.any fun e => e.2.1.any fun x => x.1 == d)) := by
  cases di with
  | none =>
    simp only [putE, Option.some.injEq] at h1; subst h1
    exact ⟨e2, e2, h2, rfl, fun _ => rfl, fun _ => rfl⟩
  | some i =>
    cases dj with
    | none =>
      simp only [putE, Option.some.injEq] at h2; subst h2
      exact ⟨env, e1, rfl, h1, fun _ => rfl, fun _ => rfl⟩
    | some j =>
      have hij' : i ≠ j := fun e => hne i rfl (by rw [e])
      obtain ⟨a1, a2, a3, rfl⟩ := putE_noD h1
      obtain ⟨b1, b2, b3, rfl⟩ := putE_noD h2
      simp only [List.any_cons, Bool.or_eq_false_iff] at b3
      have hic := hij i rfl
      refine ⟨_, _, putE_mk b1 b2 b3.2, putE_mk a1 a2 ?_, fun t => ?_, fun d => ?_⟩
      · have : (cj.any fun x => x.1 == i) = false := by simpa [noD] using hic
        simp only [List.any_cons, this, a3, Bool.or_self]
      · simp only [Env.get]
        by_cases e1 : j = t
        · subst e1
          have : (i == j) = false := by simpa using hij'
          simp [this]
        · have : (j == t) = false := by simpa using e1
          simp [this]
      · simp only [List.any_cons]
        generalize (cj.any fun x => x.1 == d) = A
        generalize (ci.any fun x => x.1 == d) = B
        generalize (env.any fun e => e.2.1.any fun x => x.1 == d) = C
        cases A <;> cases B <;> cases C <;> rfl

/-- Two operations in either order. -/
theorem swap_two {i j : Nat} {oi oj : Oper} {s s1 s2 : RS} (hm : maySwap hot ops i j oi oj = true) (h1 : runOp P inl call n ops (ans i) (hot i) oi s = some s1) (h2 : runOp P inl call n ops (ans j) (hot j) oj s1 = some s2) :
    ∃ t1 t2, runOp P inl call n ops (ans j) (hot j) oj s = some t1 ∧ runOp P inl call n ops (ans i) (hot i) oi t1 = some t2 ∧ RSEq s2 t2 := by
  unfold maySwap at hm
  simp only [Bool.and_eq_true, Bool.or_eq_true] at hm
  obtain ⟨hap, hAB⟩ := hm
  obtain ⟨ap1, ap2, ap3⟩ := Oper.apart_spec hap
  obtain ⟨ei, env1, a1, a2, rfl⟩ := runOp_eff.1 h1
  obtain ⟨ej, env2, b1, b2, rfl⟩ := runOp_eff.1 h2
  simp only at b1 b2
  obtain ⟨c1, c2⟩ := effOp_after (P := P) (inl := inl) (call := call) (an := ans j) (hot := hot j) (o := oj) (L := ei.L'.getD s.L) ap1 a2
  rw [c1] at b1
  obtain ⟨f1, f2, p1, p2, p3, p4⟩ := putE_swap ap2 a2 b2 (fun t ht => c2 ej t ht b1)
  -- the memory
  have key : effOp P inl call ops (ans j) (hot j) oj s.env s.L = some ej ∧ effOp P inl call ops (ans i) (hot i) oi s.env (ej.L'.getD s.L) = some ei ∧ ej.L'.getD (ei.L'.getD s.L) = ei.L'.getD (ej.L'.getD s.L) := by
    rcases hAB with ⟨hA, hB⟩ | ⟨hR, hgi, hgj⟩
    rotate_left
    · have hgi : oi.guard = none := by simpa using hgi
      have hgj : oj.guard = none := by simpa using hgj
      simp only [rowSwap, Bool.and_eq_true, Nat.ble_eq, Nat.beq_eq, Bool.not_eq_true', ← Bool.not_eq_true] at hR
      obtain ⟨⟨⟨r1, r2⟩, r3⟩, r4⟩ := hR
      rcases Nat.mod_two_eq_zero_or_one (hot i) with hi | hi
      · have hj : hot j % 2 = 1 := by omega
        have hjn := effOp_cool (by simp [cool, Nat.blt_eq, Nat.ble_eq, r2, hj]) b1
        have := effOp_reads (L2 := s.L) hgj r2 hj (effOp_writes hgi r1 hi a1 (Ne.symm r4)).symm b1
        exact ⟨this, by rw [hjn]; exact a1, by rw [hjn]; rfl⟩
      · have hj : hot j % 2 = 0 := by omega
        have hin := effOp_cool (by simp [cool, Nat.blt_eq, Nat.ble_eq, r1, hi]) a1
        rw [hin] at b1
        simp only [Option.getD_none] at b1
        exact ⟨b1, effOp_reads hgi r1 hi (effOp_writes hgj r2 hj b1 r4) a1, by rw [hin]; rfl⟩
    rcases hA with hA | hA
    · have hi := effOp_cool hA a1
      rw [hi] at b1
      simp only [Option.getD_none] at b1
      refine ⟨b1, ?_, by rw [hi]; rfl⟩
      rcases hB with (hB | hB) | hB
      · rw [effOp_cool hB b1]; exact a1
      · rw [(effOp_free hB).1 s.L]; exact a1
      · obtain ⟨g1, g2, g3⟩ := hB
        have g3 : hot i = 0 := Nat.eq_of_beq_eq_true g3
        rw [g3] at a1 ⊢
        rcases effOp_grow g1 b1 with h | ⟨row, h⟩
        · rw [h]; exact a1
        · rw [h]; exact effOp_wait row g2 a1
    · have hj := (effOp_free hA).2 ej b1
      rw [(effOp_free hA).1 s.L] at b1
      exact ⟨b1, by rw [hj]; exact a1, by rw [hj]; rfl⟩
  obtain ⟨k1, k2, k3⟩ := key
  have q1 : runOp P inl call n ops (ans j) (hot j) oj s = some ⟨f1, ej.L'.getD s.L, s.asm ++ ej.a, s.eqs ++ ej.q, s.calls ++ ej.k⟩ := runOp_eff.2 ⟨ej, f1, k1, p1, rfl⟩
  refine ⟨_, _, q1, runOp_eff.2 ⟨ei, f2, ?_, p2, rfl⟩, p3, p4, k3, fun b => ?_, fun b => ?_, fun b => ?_⟩
  · obtain ⟨d1, _⟩ := effOp_after (P := P) (inl := inl) (call := call) (an := ans i) (hot := hot i) (o := oi) (L := ej.L'.getD s.L) ap3 p1
    rw [d1]; exact k2
  · simp only [List.mem_append]; constructor <;> (intro h; rcases h with (h | h) | h <;> simp [h])
  · simp only [List.mem_append]; constructor <;> (intro h; rcases h with (h | h) | h <;> simp [h])
  · simp only [List.mem_append]; constructor <;> (intro h; rcases h with (h | h) | h <;> simp [h])

theorem runOps_append (l1 l2 : List Nat) : ∀ s, runOps P inl call n ops ans hot (l1 ++ l2) s = (runOps P inl call n ops ans hot l1 s).bind (runOps P inl call n ops ans hot l2) := by
  induction l1 with
  | nil => intro s; rfl
  | cons i l1 ih =>
    intro s
    simp only [List.cons_append, runOps]
    cases ops[i]? with
    | none => exact ih s
    | some o =>
      simp only
      cases runOp P inl call n ops (ans i) (hot i) o s with
      | none => rfl
      | some s1 => exact ih s1

/-- An operation taken ahead of others. -/
theorem bubble {j : Nat} {oj : Oper} (hj : ops[j]? = some oj) : ∀ (l1 l2 : List Nat) {s t : RS}, (∀ i ∈ l1, ∃ oi, ops[i]? = some oi ∧ maySwap hot ops i j oi oj = true) →
    runOps P inl call n ops ans hot (l1 ++ j :: l2) s = some t → ∃ t', runOps P inl call n ops ans hot (j :: (l1 ++ l2)) s = some t' ∧ RSEq t t'
  | [], l2, s, t, _, h => ⟨t, h, RSEq.refl t⟩
  | i :: l1, l2, s, t, hall, h => by
    obtain ⟨oi, hoi, hm⟩ := hall i (List.mem_cons_self ..)
    simp only [List.cons_append, runOps, hoi] at h
    cases h1 : runOp P inl call n ops (ans i) (hot i) oi s with
    | none => rw [h1] at h; simp at h
    | some s1 =>
      rw [h1] at h
      obtain ⟨t', k1, k2⟩ := bubble hj l1 l2 (fun i hi => hall i (List.mem_cons_of_mem _ hi)) h
      simp only [runOps, hj] at k1
      cases h2 : runOp P inl call n ops (ans j) (hot j) oj s1 with
      | none => rw [h2] at k1; simp at k1
      | some s2 =>
        rw [h2] at k1
        obtain ⟨t1, t2, m1, m2, m3⟩ := swap_two hm h1 h2
        obtain ⟨t'', n1, n2⟩ := runOps_congr _ m3 k1
        refine ⟨t'', ?_, k2.trans n2⟩
        simp only [List.cons_append, runOps, hj, hoi, m1, m2]
        exact n1
end

theorem TRel.congr {S : St} {env env' : Env} {tm : Array Value} (h : ∀ t, env.get t = env'.get t) (hT : TRel S env tm) : TRel S env' tm := by
  have hc : ∀ {c : Chain}, ChainOk env c → ChainOk env' c := by
    intro c hc
    induction hc with
    | nil => exact .nil
    | cons d w b hb _ ih =>
      have := ChainOk.cons (env := env') d w b (by rw [← h]; exact hb) (by rw [← h]; exact ih)
      rwa [← h] at this
  refine ⟨fun t => ?_, fun t ht => ?_, fun t ht => ?_⟩
  · rw [← h]; exact hc (hT.chain t)
  · rw [← h] at ht ⊢; rw [← chainVal_congr h] at ht; exact hT.yes t ht
  · rw [← h, ← chainVal_congr h] at ht; exact hT.no t ht

section
variable {M : Mach} {call : Answer} {n : Nat} {ops : Array Oper} {ans : Nat → Option Ans} {hot : Nat → Nat} {Q : Exit → Act → World → Prop}

/-- A region in the text's order. -/
theorem text_sound : ∀ (l : List Nat) {s sf : RS} {S : St} {a : Act}, runOps M.P M.inl call n ops ans hot l s = some sf →
    (∀ b ∈ sf.asm, b = true) → (∀ q ∈ sf.eqs, q) → (∀ c ∈ sf.calls, c.cond = true → CFSnd M c) →
    HeapOk S → S.L = s.L → TRel S s.env a.tmps → n ≤ a.tmps.size →
    (∀ S' a', HeapOk S' → Ext S S' → S'.L = sf.L → TRel S' sf.env a'.tmps → a'.tmps.size = a.tmps.size → a'.defers = a.defers → Q .normal a' S'.w) →
    wpOps (M.P ()) ops Q l a S.w
  | [], s, sf, S, a, h, _, _, _, hS, hL, hT, _, hK => by
    simp only [runOps, Option.some.injEq] at h; subst h
    exact hK S a hS (Ext.refl S) hL hT rfl rfl
  | i :: rest, s, sf, S, a, h, hA, hQ, hC, hS, hL, hT, hn, hK => by
    rw [wpOps_cons]
    simp only [runOps] at h
    cases ho : ops[i]? with
    | none =>
      rw [ho] at h
      unfold wpOp
      simp only [ho]
      exact text_sound rest h hA hQ hC hS hL hT hn hK
    | some o =>
      rw [ho] at h
      simp only at h
      cases h1 : runOp M.P M.inl call n ops (ans i) (hot i) o s with
      | none => rw [h1] at h; simp at h
      | some s1 =>
        rw [h1] at h
        simp only at h
        obtain ⟨env, L, x, y, z, rfl, _⟩ := runOps_adds _ h
        refine op_sound hS hL hT hn ho h1 (fun b hb => hA b (by simp [hb])) (fun b hb => hQ b (by simp [hb])) (fun b hb => hC b (by simp [hb])) fun S' a' k1 k2 k3 k4 k5 k6 => ?_
        exact text_sound rest h hA hQ hC k1 k3 k4 (by rw [k5]; exact hn) fun S'' a'' m1 m2 m3 m4 m5 m6 => hK S'' a'' m1 (k2.trans m2) m3 m4 (m5.trans k5) (m6.trans k6)

theorem reach_listed {listed : Array Bool} (hcl : ∀ (j : Nat) (o : Oper), ops[j]? = some o → listed.getD j false = true → ∀ e ∈ o.after, Region.binds .any e = true → listed.getD e.on false = true) (i : Nat) :
    ∀ (fuel j : Nat), (∀ o, ops[j]? = some o → ∀ e ∈ o.after, Region.binds .any e = true → listed.getD e.on false = true) → reach ops i fuel j = true → listed.getD i false = true
  | 0, j, _, h => by simp [reach] at h
  | fuel + 1, j, hj, h => by
    simp only [reach] at h
    cases ho : ops[j]? with
    | none => rw [ho] at h; simp at h
    | some o =>
      rw [ho] at h
      obtain ⟨e, he, hb⟩ := List.any_eq_true.1 h
      have he : e ∈ o.after := by simpa using he
      simp only [Bool.and_eq_true, Bool.or_eq_true, beq_iff_eq] at hb
      have h1 := hj o ho e he hb.1
      rcases hb.2 with h2 | h2
      · rw [← h2]; exact h1
      · exact reach_listed hcl i fuel e.on (fun o' ho' => hcl e.on o' ho' h1) h2

theorem getD_flip {a : Array Bool} {i : Nat} (h : i < a.size) (d d' : Bool) : a.getD i d = a.getD i d' := by
  simp [h]

/-- A region in any order. -/
theorem draw_sound (hd : drawOk hot ops = true) : ∀ (fuel : Nat) (listed : Array Bool) (rest : List Nat) {s sf : RS} {S : St} {a : Act}, listed.size = ops.size → rest.Pairwise (· < ·) →
    (∀ i, i ∈ rest ↔ i < ops.size ∧ listed.getD i true = false) →
    (∀ (j : Nat) (o : Oper), ops[j]? = some o → listed.getD j false = true → ∀ e ∈ o.after, Region.binds .any e = true → listed.getD e.on false = true) → rest.length ≤ fuel →
    runOps M.P M.inl call n ops ans hot rest s = some sf → (∀ b ∈ sf.asm, b = true) → (∀ q ∈ sf.eqs, q) → (∀ c ∈ sf.calls, c.cond = true → CFSnd M c) →
    HeapOk S → S.L = s.L → TRel S s.env a.tmps → n ≤ a.tmps.size →
    (∀ S' a', HeapOk S' → Ext S S' → S'.L = sf.L → TRel S' sf.env a'.tmps → a'.tmps.size = a.tmps.size → a'.defers = a.defers → Q .normal a' S'.w) →
    wpAny (M.P ()) .any ops Q fuel listed a S.w := by
  unfold drawOk at hd
  simp only [Bool.and_eq_true, List.all_eq_true, List.mem_range] at hd
  obtain ⟨hedges, hswap⟩ := hd
  have hedge : ∀ (j : Nat) (o : Oper), ops[j]? = some o → ∀ e ∈ o.after, Region.binds .any e = true → e.on < j := by
    intro j o ho e he hb
    unfold edgesOk at hedges
    simp only [List.all_eq_true, List.mem_range] at hedges
    have := hedges j (Array.getElem?_eq_some_iff.1 ho).1
    rw [ho] at this
    have := List.all_eq_true.1 this e (by simpa using he)
    simpa [hb, Nat.blt_eq] using this
  have none_ready : ∀ (listed : Array Bool) (rest : List Nat), listed.size = ops.size → rest.Pairwise (· < ·) → (∀ i, i ∈ rest ↔ i < ops.size ∧ listed.getD i true = false) →
      Region.ready .any ops listed = [] → rest = [] := by
    intro listed rest hsz hp hr hnil
    cases rest with
    | nil => rfl
    | cons j rest =>
      exfalso
      obtain ⟨h1, h2⟩ := (hr j).1 (List.mem_cons_self ..)
      have : j ∈ Region.ready .any ops listed := by
        refine mem_ready.2 ⟨h2, ops[j], Array.getElem?_eq_getElem h1, fun e he hb => ?_⟩
        have hlt := hedge j _ (Array.getElem?_eq_getElem h1) e he hb
        have hes : e.on < listed.size := by omega
        cases hl : listed.getD e.on true with
        | true => rw [getD_flip hes false true]; exact hl
        | false =>
          have := (hr e.on).2 ⟨by omega, hl⟩
          rcases List.mem_cons.1 this with h | h
          · omega
          · have := (List.pairwise_cons.1 hp).1 _ h
            omega
      rw [hnil] at this
      cases this
  intro fuel
  induction fuel with
  | zero =>
    intro listed rest s sf S a hsz hp hr hcl hlen h hA hQ hC hS hL hT hn hK
    have : rest = [] := List.length_eq_zero_iff.1 (Nat.le_zero.1 hlen)
    subst this
    simp only [runOps, Option.some.injEq] at h; subst h
    refine ⟨?_, hK S a hS (Ext.refl S) hL hT rfl rfl⟩
    apply List.eq_nil_iff_forall_not_mem.2
    intro j hj
    obtain ⟨h1, o, h2, _⟩ := mem_ready.1 hj
    have := (hr j).2 ⟨(Array.getElem?_eq_some_iff.1 h2).1, h1⟩
    cases this
  | succ fuel ih =>
    intro listed rest s sf S a hsz hp hr hcl hlen h hA hQ hC hS hL hT hn hK
    refine ⟨fun hnil => ?_, fun j hj => ?_⟩
    · have := none_ready listed rest hsz hp hr hnil
      subst this
      simp only [runOps, Option.some.injEq] at h; subst h
      exact hK S a hS (Ext.refl S) hL hT rfl rfl
    · obtain ⟨h1, oj, hoj, hall⟩ := mem_ready.1 hj
      have hjlt := (Array.getElem?_eq_some_iff.1 hoj).1
      have hjr := (hr j).2 ⟨hjlt, h1⟩
      obtain ⟨l1, l2, rfl⟩ := List.append_of_mem hjr
      have hlt : ∀ i ∈ l1, i < j := fun i hi => (List.pairwise_append.1 hp).2.2 i hi j (List.mem_cons_self ..)
      obtain ⟨sf', k1, k2⟩ := bubble hoj l1 l2 (fun i hi => by
        obtain ⟨i1, i2⟩ := (hr i).1 (List.mem_append_left _ hi)
        refine ⟨ops[i], Array.getElem?_eq_getElem i1, ?_⟩
        have := hswap j hjlt i (hlt i hi)
        rw [Array.getElem?_eq_getElem i1, hoj] at this
        simp only [Bool.or_eq_true] at this
        rcases this with this | this
        · exact this
        · have := reach_listed hcl i ops.size j (fun o ho => by rw [hoj] at ho; cases ho; exact hall) this
          rw [getD_flip (by omega) false true, i2] at this
          cases this) h
      simp only [runOps, hoj] at k1
      cases h2 : runOp M.P M.inl call n ops (ans j) (hot j) oj s with
      | none => rw [h2] at k1; simp at k1
      | some s1 =>
        rw [h2] at k1
        simp only at k1
        obtain ⟨env, L, x, y, z, he, _⟩ := runOps_adds _ k1
        have hA' : ∀ b ∈ sf'.asm, b = true := fun b hb => hA b ((k2.a b).2 hb)
        have hQ' : ∀ b ∈ sf'.eqs, b := fun b hb => hQ b ((k2.q b).2 hb)
        have hC' : ∀ c ∈ sf'.calls, c.cond = true → CFSnd M c := fun b hb => hC b ((k2.k b).2 hb)
        refine op_sound hS hL hT hn hoj h2 (fun b hb => hA' b (by rw [he]; simp [hb])) (fun b hb => hQ' b (by rw [he]; simp [hb])) (fun b hb => hC' b (by rw [he]; simp [hb])) fun S' a' m1 m2 m3 m4 m5 m6 => ?_
        refine ih (listed.setIfInBounds j true) (l1 ++ l2) (by simpa using hsz) ?_ (fun i => ?_) (fun k o ho hk e he hb => ?_) ?_ k1 hA' hQ' hC' m1 m3 m4 (by rw [m5]; exact hn) fun S'' a'' q1 q2 q3 q4 q5 q6 => ?_
        · exact hp.sublist (List.Sublist.append (List.Sublist.refl _) (List.sublist_cons_self _ _))
        · by_cases e : j = i
          · subst e
            constructor
            · intro hm
              exfalso
              rcases List.mem_append.1 hm with hm | hm
              · exact Nat.lt_irrefl _ (hlt _ hm)
              · exact Nat.lt_irrefl _ ((List.pairwise_cons.1 (List.pairwise_append.1 hp).2.1).1 _ hm)
            · rintro ⟨_, hm⟩
              simp [show j < listed.size by omega] at hm
          · rw [getD_set_ne true e, ← hr]
            simp only [List.mem_append, List.mem_cons]
            constructor
            · rintro (h | h)
              · exact .inl h
              · exact .inr (.inr h)
            · rintro (h | h | h)
              · exact .inl h
              · exact absurd h.symm e
              · exact .inr h
        · by_cases e' : j = k
          · subst e'
            rw [hoj] at ho; cases ho
            exact getD_set_true (hall e he hb)
          · rw [getD_set_ne false e'] at hk
            exact getD_set_true (hcl k o ho hk e he hb)
        · simp only [List.length_append, List.length_cons] at hlen ⊢
          omega
        · exact hK S'' a'' q1 (m2.trans q2) (q3.trans k2.L.symm) (q4.congr fun t => (k2.get t).symm) (q5.trans m5) (q6.trans m6)
end
end Go.Av
