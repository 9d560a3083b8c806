/- PART 3 of the texts of a claim, joined by a program: what each part shows stands at its head. -/
import Derived.Test.YtfndgoannijhpaaPart7d2c6a3e21
import Derived.ProofKit
import Derived.OpenShut
import Derived.Test.YtfndgoannijhpaaRows
import Derived.Test.YtfndgoannijhpaaProg

/- REGIONS WHOSE ORDER IS DRAWN: every order gives what the text's order gives. And regions in the text's order. No program in sight. -/
namespace Go.Av
open Go.RowKit

structure RSEq (s s' : RS) : Prop where
  get : ∀ t, s.env.get t = s'.env.get t
  any : ∀ d, (s.env.any fun e => e.2.1.any fun x => x.1 == d) = (s'.env.any fun e => e.2.1.any fun x => x.1 == d)
  L : s.L = s'.L
  a : ∀ b, b ∈ s.asm ↔ b ∈ s'.asm
  q : ∀ b, b ∈ s.eqs ↔ b ∈ s'.eqs
  k : ∀ b, b ∈ s.calls ↔ b ∈ s'.calls

theorem RSEq.refl (s : RS) : RSEq s s := ⟨fun _ => rfl, fun _ => rfl, rfl, fun _ => .rfl, fun _ => .rfl, fun _ => .rfl⟩
theorem RSEq.trans {s s' s'' : RS} (h : RSEq s s') (k : RSEq s' s'') : RSEq s s'' :=
  ⟨fun t => (h.get t).trans (k.get t), fun t => (h.any t).trans (k.any t), h.L.trans k.L, fun b => (h.a b).trans (k.a b), fun b => (h.q b).trans (k.q b), fun b => (h.k b).trans (k.k b)⟩

section
variable {P : Unit → Program} {inl : FuncId → Bool} {call : Answer} {n : Nat} {ops : Array Oper} {ans : Nat → Option Ans} {hot : Nat → Nat}

theorem chainVal_congr {env env' : Env} (h : ∀ t, env.get t = env'.get t) (c : Chain) : chainVal env c = chainVal env' c := by
  induction c with
  | nil => rfl
  | cons x c ih => simp only [chainVal, h, ih]

theorem effOp_congr {an : Option Ans} {hot : Nat} {o : Oper} {env env' : Env} {L : Heap} (h : ∀ t, env.get t = env'.get t) :
    effOp P inl call ops an hot o env L = effOp P inl call ops an hot o env' L := by
  have h1 : chainOf ops env o = chainOf ops env' o := by unfold chainOf; simp only [h]
  have h2 : ∀ c, ev env c = ev env' c := by
    intro c; funext x
    cases x <;> simp only [ev, h]
  unfold effOp
  simp only [h1, h2, chainVal_congr h]

theorem putE_noD {d : Nat} {c : Chain} {v : AV} {env e1 : Env} (h : putE n (some d) c v env = some e1) : d < n ∧ noD d c = true ∧ (env.any fun e => e.2.1.any fun x => x.1 == d) = false ∧ e1 = (d, c, v) :: env := by
  unfold putE at h
  simp only at h
  split at h
  · rename_i h1
    simp only [Option.some.injEq] at h
    obtain ⟨h2, h3⟩ := h1
    simp only [List.any_cons, Bool.or_eq_false_iff] at h3
    exact ⟨h2, by simpa [noD] using h3.1, h3.2, h.symm⟩
  · simp at h

theorem putE_mk {d : Nat} {c : Chain} {v : AV} {env : Env} (h1 : d < n) (h2 : noD d c = true) (h3 : (env.any fun e => e.2.1.any fun x => x.1 == d) = false) :
    putE n (some d) c v env = some ((d, c, v) :: env) := by
  have h2' : (c.any fun x => x.1 == d) = false := by simpa [noD] using h2
  unfold putE
  simp only
  rw [if_pos ⟨h1, by simp only [List.any_cons, h2', h3, Bool.or_self]⟩]

theorem putE_congr {d : Option Tmp} {c : Chain} {v : AV} {env env' e1 : Env} (hg : ∀ t, env.get t = env'.get t)
    (ha : ∀ d, (env.any fun e => e.2.1.any fun x => x.1 == d) = (env'.any fun e => e.2.1.any fun x => x.1 == d)) (h : putE n d c v env = some e1) :
    ∃ e2, putE n d c v env' = some e2 ∧ (∀ t, e1.get t = e2.get t) ∧ (∀ d, (e1.any fun e => e.2.1.any fun x => x.1 == d) = (e2.any fun e => e.2.1.any fun x => x.1 == d)) := by
  cases d with
  | none =>
    simp only [putE, Option.some.injEq] at h; subst h
    exact ⟨env', rfl, hg, ha⟩
  | some d =>
    obtain ⟨h1, h2, h3, rfl⟩ := putE_noD h
    refine ⟨_, putE_mk h1 h2 (by rw [← ha]; exact h3), fun t => ?_, fun d => ?_⟩
    · simp only [Env.get, hg]
    · simp only [List.any_cons, ha]

/-- Runs from states alike. -/
theorem runOps_congr : ∀ (l : List Nat) {s s' t : RS}, RSEq s s' → runOps P inl call n ops ans hot l s = some t → ∃ t', runOps P inl call n ops ans hot l s' = some t' ∧ RSEq t t'
  | [], s, s', t, h, hr => by
    simp only [runOps, Option.some.injEq] at hr; subst hr
    exact ⟨s', rfl, h⟩
  | i :: rest, s, s', t, h, hr => by
    simp only [runOps] at hr ⊢
    cases ho : ops[i]? with
    | none => rw [ho] at hr; exact runOps_congr rest h hr
    | some o =>
      rw [ho] at hr
      simp only at hr ⊢
      cases h1 : runOp P inl call n ops (ans i) (hot i) o s with
      | none => rw [h1] at hr; simp at hr
      | some s1 =>
        rw [h1] at hr
        obtain ⟨e, env, k1, k2, rfl⟩ := runOp_eff.1 h1
        rw [effOp_congr h.get, h.L] at k1
        obtain ⟨env2, m1, m2, m3⟩ := putE_congr h.get h.any k2
        have h2 : runOp P inl call n ops (ans i) (hot i) o s' = some ⟨env2, e.L'.getD s'.L, s'.asm ++ e.a, s'.eqs ++ e.q, s'.calls ++ e.k⟩ := runOp_eff.2 ⟨e, env2, k1, m1, rfl⟩
        rw [h2]
        exact runOps_congr rest ⟨m2, m3, by simp only [h.L], fun b => by simp [h.a], fun b => by simp [h.q], fun b => by simp [h.k]⟩ hr

theorem noD_of_any {env : Env} {d : Nat} (h : (env.any fun e => e.2.1.any fun x => x.1 == d) = false) (t : Nat) : noD d (env.get t).1 = true := get_any h t

/-- The effect of an operation does not see what an operation apart from it has set. -/
theorem effOp_after {an : Option Ans} {hot : Nat} {o : Oper} {env e1 : Env} {L : Heap} {d : Option Tmp} {c0 : Chain} {v : AV} (hd : ∀ t, d = some t → t ∉ o.looksAt ops) (hp : putE n d c0 v env = some e1) :
    effOp P inl call ops an hot o e1 L = effOp P inl call ops an hot o env L ∧ ∀ e t, d = some t → effOp P inl call ops an hot o env L = some e → noD t e.c = true := by
  cases d with
  | none => simp only [putE, Option.some.injEq] at hp; subst hp; exact ⟨rfl, by simp⟩
  | some d =>
    obtain ⟨_, h2, h3, rfl⟩ := putE_noD hp
    obtain ⟨k1, k2⟩ := effOp_cons (P := P) (inl := inl) (call := call) (an := an) (hot := hot) (L := L) (c0 := c0) (v := v) (hd d rfl) (get_any h3)
    exact ⟨k1, fun e t ht he => by cases ht; exact k2 e he⟩

/-- Two temporaries set in either order. -/
theorem putE_swap {di dj : Option Tmp} {ci cj : Chain} {vi vj : AV} {env e1 e2 : Env} (hne : ∀ t, di = some t → dj ≠ some t) (h1 : putE n di ci vi env = some e1) (h2 : putE n dj cj vj e1 = some e2)
    (hij : ∀ t, di = some t → noD t cj = true) :
    ∃ f1 f2, putE n dj cj vj env = some f1 ∧ putE n di ci vi f1 = some f2 ∧ (∀ t, e2.get t = f2.get t) ∧ (∀ d, (e2.any fun e => e.2.1.any fun x => x.1 == d) = (f2.any fun e => e.2.1.any fun x => x.1 == d)) := by
  cases di with
  | none =>
    simp only [putE, Option.some.injEq] at h1; subst h1
    exact ⟨e2, e2, h2, rfl, fun _ => rfl, fun _ => rfl⟩
  | some i =>
    cases dj with
    | none =>
      simp only [putE, Option.some.injEq] at h2; subst h2
      exact ⟨env, e1, rfl, h1, fun _ => rfl, fun _ => rfl⟩
    | some j =>
      have hij' : i ≠ j := fun e => hne i rfl (by rw [e])
      obtain ⟨a1, a2, a3, rfl⟩ := putE_noD h1
      obtain ⟨b1, b2, b3, rfl⟩ := putE_noD h2
      simp only [List.any_cons, Bool.or_eq_false_iff] at b3
      have hic := hij i rfl
      refine ⟨_, _, putE_mk b1 b2 b3.2, putE_mk a1 a2 ?_, fun t => ?_, fun d => ?_⟩
      · have : (cj.any fun x => x.1 == i) = false := by simpa [noD] using hic
        simp only [List.any_cons, this, a3, Bool.or_self]
      · simp only [Env.get]
        by_cases e1 : j = t
        · subst e1
          have : (i == j) = false := by simpa using hij'
          simp [this]
        · have : (j == t) = false := by simpa using e1
          simp [this]
      · simp only [List.any_cons]
        generalize (cj.any fun x => x.1 == d) = A
        generalize (ci.any fun x => x.1 == d) = B
        generalize (env.any fun e => e.2.1.any fun x => x.1 == d) = C
        cases A <;> cases B <;> cases C <;> rfl

/-- Two operations in either order. -/
theorem swap_two {i j : Nat} {oi oj : Oper} {s s1 s2 : RS} (hm : maySwap hot ops i j oi oj = true) (h1 : runOp P inl call n ops (ans i) (hot i) oi s = some s1) (h2 : runOp P inl call n ops (ans j) (hot j) oj s1 = some s2) :
    ∃ t1 t2, runOp P inl call n ops (ans j) (hot j) oj s = some t1 ∧ runOp P inl call n ops (ans i) (hot i) oi t1 = some t2 ∧ RSEq s2 t2 := by
  unfold maySwap at hm
  simp only [Bool.and_eq_true, Bool.or_eq_true] at hm
  obtain ⟨hap, hAB⟩ := hm
  obtain ⟨ap1, ap2, ap3⟩ := Oper.apart_spec hap
  obtain ⟨ei, env1, a1, a2, rfl⟩ := runOp_eff.1 h1
  obtain ⟨ej, env2, b1, b2, rfl⟩ := runOp_eff.1 h2
  simp only at b1 b2
  obtain ⟨c1, c2⟩ := effOp_after (P := P) (inl := inl) (call := call) (an := ans j) (hot := hot j) (o := oj) (L := ei.L'.getD s.L) ap1 a2
  rw [c1] at b1
  obtain ⟨f1, f2, p1, p2, p3, p4⟩ := putE_swap ap2 a2 b2 (fun t ht => c2 ej t ht b1)
  -- the memory
  have key : effOp P inl call ops (ans j) (hot j) oj s.env s.L = some ej ∧ effOp P inl call ops (ans i) (hot i) oi s.env (ej.L'.getD s.L) = some ei ∧ ej.L'.getD (ei.L'.getD s.L) = ei.L'.getD (ej.L'.getD s.L) := by
    rcases hAB with ⟨hA, hB⟩ | ⟨hR, hgi, hgj⟩
    rotate_left
    · have hgi : oi.guard = none := by simpa using hgi
      have hgj : oj.guard = none := by simpa using hgj
      simp only [rowSwap, Bool.and_eq_true, Nat.ble_eq, Nat.beq_eq, Bool.not_eq_true', ← Bool.not_eq_true] at hR
      obtain ⟨⟨⟨r1, r2⟩, r3⟩, r4⟩ := hR
      rcases Nat.mod_two_eq_zero_or_one (hot i) with hi | hi
      · have hj : hot j % 2 = 1 := by omega
        have hjn := effOp_cool (by simp [cool, Nat.blt_eq, Nat.ble_eq, r2, hj]) b1
        have := effOp_reads (L2 := s.L) hgj r2 hj (effOp_writes hgi r1 hi a1 (Ne.symm r4)).symm b1
        exact ⟨this, by rw [hjn]; exact a1, by rw [hjn]; rfl⟩
      · have hj : hot j % 2 = 0 := by omega
        have hin := effOp_cool (by simp [cool, Nat.blt_eq, Nat.ble_eq, r1, hi]) a1
        rw [hin] at b1
        simp only [Option.getD_none] at b1
        exact ⟨b1, effOp_reads hgi r1 hi (effOp_writes hgj r2 hj b1 r4) a1, by rw [hin]; rfl⟩
    rcases hA with hA | hA
    · have hi := effOp_cool hA a1
      rw [hi] at b1
      simp only [Option.getD_none] at b1
      refine ⟨b1, ?_, by rw [hi]; rfl⟩
      rcases hB with (hB | hB) | hB
      · rw [effOp_cool hB b1]; exact a1
      · rw [(effOp_free hB).1 s.L]; exact a1
      · obtain ⟨g1, g2, g3⟩ := hB
        have g3 : hot i = 0 := Nat.eq_of_beq_eq_true g3
        rw [g3] at a1 ⊢
        rcases effOp_grow g1 b1 with h | ⟨row, h⟩
        · rw [h]; exact a1
        · rw [h]; exact effOp_wait row g2 a1
    · have hj := (effOp_free hA).2 ej b1
      rw [(effOp_free hA).1 s.L] at b1
      exact ⟨b1, by rw [hj]; exact a1, by rw [hj]; rfl⟩
  obtain ⟨k1, k2, k3⟩ := key
  have q1 : runOp P inl call n ops (ans j) (hot j) oj s = some ⟨f1, ej.L'.getD s.L, s.asm ++ ej.a, s.eqs ++ ej.q, s.calls ++ ej.k⟩ := runOp_eff.2 ⟨ej, f1, k1, p1, rfl⟩
  refine ⟨_, _, q1, runOp_eff.2 ⟨ei, f2, ?_, p2, rfl⟩, p3, p4, k3, fun b => ?_, fun b => ?_, fun b => ?_⟩
  · obtain ⟨d1, _⟩ := effOp_after (P := P) (inl := inl) (call := call) (an := ans i) (hot := hot i) (o := oi) (L := ej.L'.getD s.L) ap3 p1
    rw [d1]; exact k2
  · simp only [List.mem_append]; constructor <;> (intro h; rcases h with (h | h) | h <;> simp [h])
  · simp only [List.mem_append]; constructor <;> (intro h; rcases h with (h | h) | h <;> simp [h])
  · simp only [List.mem_append]; constructor <;> (intro h; rcases h with (h | h) | h <;> simp [h])

theorem runOps_append (l1 l2 : List Nat) : ∀ s, runOps P inl call n ops ans hot (l1 ++ l2) s = (runOps P inl call n ops ans hot l1 s).bind (runOps P inl call n ops ans hot l2) := by
  induction l1 with
  | nil => intro s; rfl
  | cons i l1 ih =>
    intro s
    simp only [List.cons_append, runOps]
    cases ops[i]? with
    | none => exact ih s
    | some o =>
      simp only
      cases runOp P inl call n ops (ans i) (hot i) o s with
      | none => rfl
      | some s1 => exact ih s1

/-- An operation taken ahead of others. -/
theorem bubble {j : Nat} {oj : Oper} (hj : ops[j]? = some oj) : ∀ (l1 l2 : List Nat) {s t : RS}, (∀ i ∈ l1, ∃ oi, ops[i]? = some oi ∧ maySwap hot ops i j oi oj = true) →
    runOps P inl call n ops ans hot (l1 ++ j :: l2) s = some t → ∃ t', runOps P inl call n ops ans hot (j :: (l1 ++ l2)) s = some t' ∧ RSEq t t'
  | [], l2, s, t, _, h => ⟨t, h, RSEq.refl t⟩
  | i :: l1, l2, s, t, hall, h => by
    obtain ⟨oi, hoi, hm⟩ := hall i (List.mem_cons_self ..)
    simp only [List.cons_append, runOps, hoi] at h
    cases h1 : runOp P inl call n ops (ans i) (hot i) oi s with
    | none => rw [h1] at h; simp at h
    | some s1 =>
      rw [h1] at h
      obtain ⟨t', k1, k2⟩ := bubble hj l1 l2 (fun i hi => hall i (List.mem_cons_of_mem _ hi)) h
      simp only [runOps, hj] at k1
      cases h2 : runOp P inl call n ops (ans j) (hot j) oj s1 with
      | none => rw [h2] at k1; simp at k1
      | some s2 =>
        rw [h2] at k1
        obtain ⟨t1, t2, m1, m2, m3⟩ := swap_two hm h1 h2
        obtain ⟨t'', n1, n2⟩ := runOps_congr _ m3 k1
        refine ⟨t'', ?_, k2.trans n2⟩
        simp only [List.cons_append, runOps, hj, hoi, m1, m2]
        exact n1
end

theorem TRel.congr {S : St} {env env' : Env} {tm : Array Value} (h : ∀ t, env.get t = env'.get t) (hT : TRel S env tm) : TRel S env' tm := by
  have hc : ∀ {c : Chain}, ChainOk env c → ChainOk env' c := by
    intro c hc
    induction hc with
    | nil => exact .nil
    | cons d w b hb _ ih =>
      have := ChainOk.cons (env := env') d w b (by rw [← h]; exact hb) (by rw [← h]; exact ih)
      rwa [← h] at this
  refine ⟨fun t => ?_, fun t ht => ?_, fun t ht => ?_⟩
  · rw [← h]; exact hc (hT.chain t)
  · rw [← h] at ht ⊢; rw [← chainVal_congr h] at ht; exact hT.yes t ht
  · rw [← h, ← chainVal_congr h] at ht; exact hT.no t ht

section
variable {M : Mach} {call : Answer} {n : Nat} {ops : Array Oper} {ans : Nat → Option Ans} {hot : Nat → Nat} {Q : Exit → Act → World → Prop}

/-- A region in the text's order. -/
theorem text_sound : ∀ (l : List Nat) {s sf : RS} {S : St} {a : Act}, runOps M.P M.inl call n ops ans hot l s = some sf →
    (∀ b ∈ sf.asm, b = true) → (∀ q ∈ sf.eqs, q) → (∀ c ∈ sf.calls, c.cond = true → CFSnd M c) →
    HeapOk S → S.L = s.L → TRel S s.env a.tmps → n ≤ a.tmps.size →
    (∀ S' a', HeapOk S' → Ext S S' → S'.L = sf.L → TRel S' sf.env a'.tmps → a'.tmps.size = a.tmps.size → a'.defers = a.defers → Q .normal a' S'.w) →
    wpOps (M.P ()) ops Q l a S.w
  | [], s, sf, S, a, h, _, _, _, hS, hL, hT, _, hK => by
    simp only [runOps, Option.some.injEq] at h; subst h
    exact hK S a hS (Ext.refl S) hL hT rfl rfl
  | i :: rest, s, sf, S, a, h, hA, hQ, hC, hS, hL, hT, hn, hK => by
    rw [wpOps_cons]
    simp only [runOps] at h
    cases ho : ops[i]? with
    | none =>
      rw [ho] at h
      unfold wpOp
      simp only [ho]
      exact text_sound rest h hA hQ hC hS hL hT hn hK
    | some o =>
      rw [ho] at h
      simp only at h
      cases h1 : runOp M.P M.inl call n ops (ans i) (hot i) o s with
      | none => rw [h1] at h; simp at h
      | some s1 =>
        rw [h1] at h
        simp only at h
        obtain ⟨env, L, x, y, z, rfl, _⟩ := runOps_adds _ h
        refine op_sound hS hL hT hn ho h1 (fun b hb => hA b (by simp [hb])) (fun b hb => hQ b (by simp [hb])) (fun b hb => hC b (by simp [hb])) fun S' a' k1 k2 k3 k4 k5 k6 => ?_
        exact text_sound rest h hA hQ hC k1 k3 k4 (by rw [k5]; exact hn) fun S'' a'' m1 m2 m3 m4 m5 m6 => hK S'' a'' m1 (k2.trans m2) m3 m4 (m5.trans k5) (m6.trans k6)

theorem reach_listed {listed : Array Bool} (hcl : ∀ (j : Nat) (o : Oper), ops[j]? = some o → listed.getD j false = true → ∀ e ∈ o.after, Region.binds .any e = true → listed.getD e.on false = true) (i : Nat) :
    ∀ (fuel j : Nat), (∀ o, ops[j]? = some o → ∀ e ∈ o.after, Region.binds .any e = true → listed.getD e.on false = true) → reach ops i fuel j = true → listed.getD i false = true
  | 0, j, _, h => by simp [reach] at h
  | fuel + 1, j, hj, h => by
    simp only [reach] at h
    cases ho : ops[j]? with
    | none => rw [ho] at h; simp at h
    | some o =>
      rw [ho] at h
      obtain ⟨e, he, hb⟩ := List.any_eq_true.1 h
      have he : e ∈ o.after := by simpa using he
      simp only [Bool.and_eq_true, Bool.or_eq_true, beq_iff_eq] at hb
      have h1 := hj o ho e he hb.1
      rcases hb.2 with h2 | h2
      · rw [← h2]; exact h1
      · exact reach_listed hcl i fuel e.on (fun o' ho' => hcl e.on o' ho' h1) h2

theorem getD_flip {a : Array Bool} {i : Nat} (h : i < a.size) (d d' : Bool) : a.getD i d = a.getD i d' := by
  simp [h]

/-- A region in any order. -/
theorem draw_sound (hd : drawOk hot ops = true) : ∀ (fuel : Nat) (listed : Array Bool) (rest : List Nat) {s sf : RS} {S : St} {a : Act}, listed.size = ops.size → rest.Pairwise (· < ·) →
    (∀ i, i ∈ rest ↔ i < ops.size ∧ listed.getD i true = false) →
    (∀ (j : Nat) (o : Oper), ops[j]? = some o → listed.getD j false = true → ∀ e ∈ o.after, Region.binds .any e = true → listed.getD e.on false = true) → rest.length ≤ fuel →
    runOps M.P M.inl call n ops ans hot rest s = some sf → (∀ b ∈ sf.asm, b = true) → (∀ q ∈ sf.eqs, q) → (∀ c ∈ sf.calls, c.cond = true → CFSnd M c) →
    HeapOk S → S.L = s.L → TRel S s.env a.tmps → n ≤ a.tmps.size →
    (∀ S' a', HeapOk S' → Ext S S' → S'.L = sf.L → TRel S' sf.env a'.tmps → a'.tmps.size = a.tmps.size → a'.defers = a.defers → Q .normal a' S'.w) →
    wpAny (M.P ()) .any ops Q fuel listed a S.w := by
  unfold drawOk at hd
  simp only [Bool.and_eq_true, List.all_eq_true, List.mem_range] at hd
  obtain ⟨hedges, hswap⟩ := hd
  have hedge : ∀ (j : Nat) (o : Oper), ops[j]? = some o → ∀ e ∈ o.after, Region.binds .any e = true → e.on < j := by
    intro j o ho e he hb
    unfold edgesOk at hedges
    simp only [List.all_eq_true, List.mem_range] at hedges
    have := hedges j (Array.getElem?_eq_some_iff.1 ho).1
    rw [ho] at this
    have := List.all_eq_true.1 this e (by simpa using he)
    simpa [hb, Nat.blt_eq] using this
  have none_ready : ∀ (listed : Array Bool) (rest : List Nat), listed.size = ops.size → rest.Pairwise (· < ·) → (∀ i, i ∈ rest ↔ i < ops.size ∧ listed.getD i true = false) →
      Region.ready .any ops listed = [] → rest = [] := by
    intro listed rest hsz hp hr hnil
    cases rest with
    | nil => rfl
    | cons j rest =>
      exfalso
      obtain ⟨h1, h2⟩ := (hr j).1 (List.mem_cons_self ..)
      have : j ∈ Region.ready .any ops listed := by
        refine mem_ready.2 ⟨h2, ops[j], Array.getElem?_eq_getElem h1, fun e he hb => ?_⟩
        have hlt := hedge j _ (Array.getElem?_eq_getElem h1) e he hb
        have hes : e.on < listed.size := by omega
        cases hl : listed.getD e.on true with
        | true => rw [getD_flip hes false true]; exact hl
        | false =>
          have := (hr e.on).2 ⟨by omega, hl⟩
          rcases List.mem_cons.1 this with h | h
          · omega
          · have := (List.pairwise_cons.1 hp).1 _ h
            omega
      rw [hnil] at this
      cases this
  intro fuel
  induction fuel with
  | zero =>
    intro listed rest s sf S a hsz hp hr hcl hlen h hA hQ hC hS hL hT hn hK
    have : rest = [] := List.length_eq_zero_iff.1 (Nat.le_zero.1 hlen)
    subst this
    simp only [runOps, Option.some.injEq] at h; subst h
    refine ⟨?_, hK S a hS (Ext.refl S) hL hT rfl rfl⟩
    apply List.eq_nil_iff_forall_not_mem.2
    intro j hj
    obtain ⟨h1, o, h2, _⟩ := mem_ready.1 hj
    have := (hr j).2 ⟨(Array.getElem?_eq_some_iff.1 h2).1, h1⟩
    cases this
  | succ fuel ih =>
    intro listed rest s sf S a hsz hp hr hcl hlen h hA hQ hC hS hL hT hn hK
    refine ⟨fun hnil => ?_, fun j hj => ?_⟩
    · have := none_ready listed rest hsz hp hr hnil
      subst this
      simp only [runOps, Option.some.injEq] at h; subst h
      exact hK S a hS (Ext.refl S) hL hT rfl rfl
    · obtain ⟨h1, oj, hoj, hall⟩ := mem_ready.1 hj
      have hjlt := (Array.getElem?_eq_some_iff.1 hoj).1
      have hjr := (hr j).2 ⟨hjlt, h1⟩
      obtain ⟨l1, l2, rfl⟩ := List.append_of_mem hjr
      have hlt : ∀ i ∈ l1, i < j := fun i hi => (List.pairwise_append.1 hp).2.2 i hi j (List.mem_cons_self ..)
      obtain ⟨sf', k1, k2⟩ := bubble hoj l1 l2 (fun i hi => by
        obtain ⟨i1, i2⟩ := (hr i).1 (List.mem_append_left _ hi)
        refine ⟨ops[i], Array.getElem?_eq_getElem i1, ?_⟩
        have := hswap j hjlt i (hlt i hi)
        rw [Array.getElem?_eq_getElem i1, hoj] at this
        simp only [Bool.or_eq_true] at this
        rcases this with this | this
        · exact this
        · have := reach_listed hcl i ops.size j (fun o ho => by rw [hoj] at ho; cases ho; exact hall) this
          rw [getD_flip (by omega) false true, i2] at this
          cases this) h
      simp only [runOps, hoj] at k1
      cases h2 : runOp M.P M.inl call n ops (ans j) (hot j) oj s with
      | none => rw [h2] at k1; simp at k1
      | some s1 =>
        rw [h2] at k1
        simp only at k1
        obtain ⟨env, L, x, y, z, he, _⟩ := runOps_adds _ k1
        have hA' : ∀ b ∈ sf'.asm, b = true := fun b hb => hA b ((k2.a b).2 hb)
        have hQ' : ∀ b ∈ sf'.eqs, b := fun b hb => hQ b ((k2.q b).2 hb)
        have hC' : ∀ c ∈ sf'.calls, c.cond = true → CFSnd M c := fun b hb => hC b ((k2.k b).2 hb)
        refine op_sound hS hL hT hn hoj h2 (fun b hb => hA' b (by rw [he]; simp [hb])) (fun b hb => hQ' b (by rw [he]; simp [hb])) (fun b hb => hC' b (by rw [he]; simp [hb])) fun S' a' m1 m2 m3 m4 m5 m6 => ?_
        refine ih (listed.setIfInBounds j true) (l1 ++ l2) (by simpa using hsz) ?_ (fun i => ?_) (fun k o ho hk e he hb => ?_) ?_ k1 hA' hQ' hC' m1 m3 m4 (by rw [m5]; exact hn) fun S'' a'' q1 q2 q3 q4 q5 q6 => ?_
        · exact hp.sublist (List.Sublist.append (List.Sublist.refl _) (List.sublist_cons_self _ _))
        · by_cases e : j = i
          · subst e
            constructor
            · intro hm
              exfalso
              rcases List.mem_append.1 hm with hm | hm
              · exact Nat.lt_irrefl _ (hlt _ hm)
              · exact Nat.lt_irrefl _ ((List.pairwise_cons.1 (List.pairwise_append.1 hp).2.1).1 _ hm)
            · rintro ⟨_, hm⟩
              simp [show j < listed.size by omega] at hm
          · rw [getD_set_ne true e, ← hr]
            simp only [List.mem_append, List.mem_cons]
            constructor
            · rintro (h | h)
              · exact .inl h
              · exact .inr (.inr h)
            · rintro (h | h | h)
              · exact .inl h
              · exact absurd h.symm e
              · exact .inr h
        · by_cases e' : j = k
          · subst e'
            rw [hoj] at ho; cases ho
            exact getD_set_true (hall e he hb)
          · rw [getD_set_ne false e'] at hk
            exact getD_set_true (hcl k o ho hk e he hb)
        · simp only [List.length_append, List.length_cons] at hlen ⊢
          omega
        · exact hK S'' a'' q1 (m2.trans q2) (q3.trans k2.L.symm) (q4.congr fun t => (k2.get t).symm) (q5.trans m5) (q6.trans m6)
end
end Go.Av

/- A REGION WHOSE ORDER IS DRAWN, with two neighbours whose order tells; and rows numbered anew. No program in sight. -/
namespace Go.Av
open Go.RowKit

theorem accOf_sub {S : St} (hS : HeapOk S) {rs : List Nat} {b off : Nat} (h : accOf S rs b off) : S.acc b off := by
  rcases h with h | ⟨r, info, _, h2, rfl⟩ | h
  · exact hS.anew b off h
  · exact hS.acq r info off h2
  · exact h.1

theorem perm_ok {S0 S : St} (hS : HeapOk S) (_h0 : HeapOk S0) (he : Ext S0 S) {rs : List Nat} {rows : List Row} (hrows : getRows S.L rs = some rows) (hnd : rs.Nodup) (hcl : ∀ row ∈ rows, ∀ r ∈ rowRefs row, r ∈ rs)
    (hid : ∀ r, r < S0.L.length → rs[r]? = some r) :
    HeapOk ⟨S.base, S.acc, rows.map (renRow (posOf rs)), subβ S.β rs, S.w⟩ ∧ Ext S0 ⟨S.base, S.acc, rows.map (renRow (posOf rs)), subβ S.β rs, S.w⟩ ∧
    ∀ a v, Rel S a v → (∀ r ∈ rowsA a, r ∈ rs) → Rel ⟨S.base, S.acc, rows.map (renRow (posOf rs)), subβ S.β rs, S.w⟩ (renA (posOf rs) a) v := by
  obtain ⟨k1, k2, k3⟩ := sub_ok hS hrows hnd hcl
  obtain ⟨hl, hg⟩ := getRows_spec hrows
  have himm : ∀ b off, Imm ⟨S.base, accOf S rs, rows.map (renRow (posOf rs)), subβ S.β rs, S.w⟩ b off → Imm ⟨S.base, S.acc, rows.map (renRow (posOf rs)), subβ S.β rs, S.w⟩ b off :=
    fun b off h => ⟨accOf_sub hS h.1, h.2⟩
  have hd : ∀ a v, DRel ⟨S.base, accOf S rs, rows.map (renRow (posOf rs)), subβ S.β rs, S.w⟩ a v → DRel ⟨S.base, S.acc, rows.map (renRow (posOf rs)), subβ S.β rs, S.w⟩ a v :=
    fun a v h => DRel.shift (S := ⟨S.base, accOf S rs, rows.map (renRow (posOf rs)), subβ S.β rs, S.w⟩) (S' := ⟨S.base, S.acc, rows.map (renRow (posOf rs)), subβ S.β rs, S.w⟩) rfl (fun b off hi _ => himm b off hi) h
  have hr : ∀ a v, Rel ⟨S.base, accOf S rs, rows.map (renRow (posOf rs)), subβ S.β rs, S.w⟩ a v → Rel ⟨S.base, S.acc, rows.map (renRow (posOf rs)), subβ S.β rs, S.w⟩ a v := by
    intro a v h
    have := ren_rel (f := fun r => r) (D := fun _ => True) (S := ⟨S.base, accOf S rs, rows.map (renRow (posOf rs)), subβ S.β rs, S.w⟩) (S' := ⟨S.base, S.acc, rows.map (renRow (posOf rs)), subβ S.β rs, S.w⟩)
      (fun r row info _ h1 h2 => ⟨row, h1, h2, rfl, rfl⟩) hd h (fun _ _ => trivial)
    rwa [renA_id] at this
  have hmap : ∀ {row : Row} {b : Nat}, MapOk ⟨S.base, accOf S rs, rows.map (renRow (posOf rs)), subβ S.β rs, S.w⟩ row b → MapOk ⟨S.base, S.acc, rows.map (renRow (posOf rs)), subβ S.β rs, S.w⟩ row b := by
    rintro row b ⟨es, h1, h2, h3, h4⟩
    refine ⟨es, h1, h2, h3, fun i e x he hx => ?_⟩
    obtain ⟨g1, k, n, v, g2, g3, g4, g5, g6⟩ := h4 i e x he hx
    exact ⟨g1, k, n, v, g2, g3, g4, hr _ _ g5, fun hc => hd _ _ (g6 hc)⟩
  refine ⟨⟨k1.base, k1.len, k1.blk, k1.inj, fun r row info h1 h2 hm => hmap (k1.maps r row info h1 h2 hm), k1.cells, k1.elems, fun r row info i x k c cv h1 h2 h3 h4 h5 => hr _ _ (k1.rel r row info i x k c cv h1 h2 h3 h4 h5),
    fun r row info i x k c cv h1 h2 h3 h4 h5 h6 => hd _ _ (k1.clean r row info i x k c cv h1 h2 h3 h4 h5 h6), fun r info off h => accOf_sub hS (k1.acq r info off h), hS.anew⟩, ?_, fun a v h h' => hr _ _ (k3 a v h h')⟩
  refine ⟨he.base, he.acc, fun b off hi hb => ?_, fun r row info h1 h2 => ?_, he.below, fun r info' h => ?_, he.other⟩
  · obtain ⟨m1, m2⟩ := he.imm b off hi hb
    exact ⟨himm b off (k2 b off m1), m2⟩
  · obtain ⟨row', info', m1, m2, m3, m4, m5, m6⟩ := he.rows r row info h1 h2
    have hrs := hid r (List.getElem?_eq_some_iff.1 h1).1
    obtain ⟨row1, n1, n2⟩ := hg r r hrs
    rw [m1] at n1
    simp only [Option.some.injEq] at n1; subst n1
    obtain ⟨_, s2, _, _, s5⟩ := renRow_spec (posOf rs) row'
    refine ⟨renRow (posOf rs) row', info', by show (rows.map _)[r]? = _; rw [List.getElem?_map, n2]; rfl, ?_, by rw [s2]; exact m3, by rw [s2, s5]; exact m4, m5, m6⟩
    show (subβ S.β rs)[r]? = _
    unfold subβ
    rw [List.getElem?_map, hrs]
    have hlt : r < S.β.length := lt_of_get m2
    have h3 := (List.getElem?_eq_some_iff.1 m2).2
    simp [hlt, h3]
  · unfold subβ at h
    simp only at h
    rw [List.getElem?_map] at h
    obtain ⟨q, q1, q2⟩ := Option.map_eq_some_iff.1 h
    obtain ⟨row, n1, _⟩ := hg r q q1
    have hlt : q < S.β.length := by rw [← hS.len]; exact lt_of_get n1
    have : S.β[q]? = some info' := by rw [← q2]; simp [hlt]
    exact he.fresh q info' this

theorem sw_def (p i : Nat) : sw p i = if i = p then p + 1 else if i = p + 1 then p else i := by
  unfold sw
  by_cases h1 : i = p
  · have : Nat.beq i p = true := Nat.beq_eq.mpr h1
    rw [this, if_pos h1]; rfl
  · have e1 : Nat.beq i p = false := by
      cases h : Nat.beq i p with
      | false => rfl
      | true => exact absurd (Nat.beq_eq.mp h) h1
    rw [e1, if_neg h1]
    by_cases h2 : i = p + 1
    · have : Nat.beq i (p + 1) = true := Nat.beq_eq.mpr h2
      rw [this, if_pos h2]; rfl
    · have e2 : Nat.beq i (p + 1) = false := by
        cases h : Nat.beq i (p + 1) with
        | false => rfl
        | true => exact absurd (Nat.beq_eq.mp h) h2
      rw [e2, if_neg h2]; rfl
theorem sw_l (p : Nat) : sw p p = p + 1 := by simp [sw_def]
theorem sw_r (p : Nat) : sw p (p + 1) = p := by simp [sw_def]
theorem sw_sw (p i : Nat) : sw p (sw p i) = i := by
  simp only [sw_def]
  split <;> (try split) <;> (try split) <;> omega
theorem sw_lt {p i n : Nat} (hp : p + 1 < n) : sw p i < n ↔ i < n := by
  simp only [sw_def]
  split
  · omega
  · split <;> omega

section
variable {M : Mach} {call : Answer} {n : Nat} {ops : Array Oper} {ans : Nat → Option Ans} {hot : Nat → Nat} {Q : Exit → Act → World → Prop}

/-- What is left to be done, in one of the orders. -/
structure Left (M : Mach) (call : Answer) (n : Nat) (ops : Array Oper) (ans : Nat → Option Ans) (hot : Nat → Nat) (R : Nat → Nat → Prop) (listed : Array Bool) (rest : List Nat) (s sf : RS) : Prop where
  size : listed.size = ops.size
  pw : rest.Pairwise R
  mem : ∀ i, i ∈ rest ↔ i < ops.size ∧ listed.getD i true = false
  closed : ∀ (j : Nat) (o : Oper), ops[j]? = some o → listed.getD j false = true → ∀ e ∈ o.after, Region.binds .any e = true → listed.getD e.on false = true
  run : runOps M.P M.inl call n ops ans hot rest s = some sf

theorem Left.none {R : Nat → Nat → Prop} {listed : Array Bool} {rest : List Nat} {s sf : RS} (h : Left M call n ops ans hot R listed rest s sf)
    (hedge : ∀ (j : Nat) (o : Oper), ops[j]? = some o → ∀ e ∈ o.after, Region.binds .any e = true → e.on < j ∧ ¬R j e.on) (hnil : Region.ready .any ops listed = []) : rest = [] := by
  obtain ⟨hsz, hp, hr, _, _⟩ := h
  cases rest with
  | nil => rfl
  | cons j rest =>
    exfalso
    obtain ⟨h1, h2⟩ := (hr j).1 (List.mem_cons_self ..)
    have : j ∈ Region.ready .any ops listed := by
      refine mem_ready.2 ⟨h2, ops[j], Array.getElem?_eq_getElem h1, fun e he hb => ?_⟩
      obtain ⟨hlt, hnR⟩ := hedge j _ (Array.getElem?_eq_getElem h1) e he hb
      have hes : e.on < listed.size := by omega
      cases hl : listed.getD e.on true with
      | true => rw [getD_flip hes false true]; exact hl
      | false =>
        have := (hr e.on).2 ⟨by omega, hl⟩
        rcases List.mem_cons.1 this with h | h
        · omega
        · exact absurd ((List.pairwise_cons.1 hp).1 _ h) hnR
    rw [hnil] at this
    cases this

theorem Left.pick {R : Nat → Nat → Prop} {listed : Array Bool} {rest : List Nat} {s sf : RS} (h : Left M call n ops ans hot R listed rest s sf) (hirr : ∀ i, ¬R i i) {j : Nat} (hj : j ∈ Region.ready .any ops listed)
    (hswap : ∀ i a b, R i j → ops[i]? = some a → ops[j]? = some b → maySwap hot ops i j a b = true ∨ reach ops i ops.size j = true) :
    ∃ oj s1 sf' rest', ops[j]? = some oj ∧ runOp M.P M.inl call n ops (ans j) (hot j) oj s = some s1 ∧ Left M call n ops ans hot R (listed.setIfInBounds j true) rest' s1 sf' ∧ RSEq sf sf' ∧ rest.length = rest'.length + 1 := by
  obtain ⟨hsz, hp, hr, hcl, h⟩ := h
  obtain ⟨h1, oj, hoj, hall⟩ := mem_ready.1 hj
  have hjlt := (Array.getElem?_eq_some_iff.1 hoj).1
  have hjr := (hr j).2 ⟨hjlt, h1⟩
  obtain ⟨l1, l2, rfl⟩ := List.append_of_mem hjr
  have hlt : ∀ i ∈ l1, R i j := fun i hi => (List.pairwise_append.1 hp).2.2 i hi j (List.mem_cons_self ..)
  obtain ⟨sf', k1, k2⟩ := bubble hoj l1 l2 (fun i hi => by
    obtain ⟨i1, i2⟩ := (hr i).1 (List.mem_append_left _ hi)
    refine ⟨ops[i], Array.getElem?_eq_getElem i1, ?_⟩
    rcases hswap i _ _ (hlt i hi) (Array.getElem?_eq_getElem i1) hoj with this | this
    · exact this
    · have := reach_listed hcl i ops.size j (fun o ho => by rw [hoj] at ho; cases ho; exact hall) this
      rw [getD_flip (by omega) false true, i2] at this
      cases this) h
  simp only [runOps, hoj] at k1
  cases h2 : runOp M.P M.inl call n ops (ans j) (hot j) oj s with
  | none => rw [h2] at k1; simp at k1
  | some s1 =>
    rw [h2] at k1
    simp only at k1
    refine ⟨oj, s1, sf', l1 ++ l2, hoj, h2, ⟨by simpa using hsz, hp.sublist (List.Sublist.append (List.Sublist.refl _) (List.sublist_cons_self _ _)), fun i => ?_, fun k o ho hk e he hb => ?_, k1⟩, k2, by simp only [List.length_append, List.length_cons]; omega⟩
    · by_cases e : j = i
      · subst e
        constructor
        · intro hm
          exfalso
          rcases List.mem_append.1 hm with hm | hm
          · exact hirr _ (hlt _ hm)
          · exact hirr _ ((List.pairwise_cons.1 (List.pairwise_append.1 hp).2.1).1 _ hm)
        · rintro ⟨_, hm⟩
          simp [show j < listed.size by omega] at hm
      · rw [getD_set_ne true e, ← hr]
        simp only [List.mem_append, List.mem_cons]
        constructor
        · rintro (h | h)
          · exact .inl h
          · exact .inr (.inr h)
        · rintro (h | h | h)
          · exact .inl h
          · exact absurd h.symm e
          · exact .inr h
    · by_cases e' : j = k
      · subst e'
        rw [hoj] at ho; cases ho
        exact getD_set_true (hall e he hb)
      · rw [getD_set_ne false e'] at hk
        exact getD_set_true (hcl k o ho hk e he hb)

/-- A region in any order, from the place where one order speaks for all. -/
theorem draw_one {R : Nat → Nat → Prop} (hirr : ∀ i, ¬R i i)
    (hedge : ∀ (j : Nat) (o : Oper), ops[j]? = some o → ∀ e ∈ o.after, Region.binds .any e = true → e.on < j ∧ ¬R j e.on)
    (hswap : ∀ i j a b, R i j → ops[i]? = some a → ops[j]? = some b → maySwap hot ops i j a b = true ∨ reach ops i ops.size j = true) :
    ∀ (fuel : Nat) (listed : Array Bool) (rest : List Nat) {s sf : RS} {S : St} {a : Act}, Left M call n ops ans hot R listed rest s sf → rest.length ≤ fuel →
    (∀ b ∈ sf.asm, b = true) → (∀ q ∈ sf.eqs, q) → (∀ c ∈ sf.calls, c.cond = true → CFSnd M c) →
    HeapOk S → S.L = s.L → TRel S s.env a.tmps → n ≤ a.tmps.size →
    (∀ S' a', HeapOk S' → Ext S S' → S'.L = sf.L → TRel S' sf.env a'.tmps → a'.tmps.size = a.tmps.size → a'.defers = a.defers → Q .normal a' S'.w) →
    wpAny (M.P ()) .any ops Q fuel listed a S.w := by
  intro fuel
  induction fuel with
  | zero =>
    intro listed rest s sf S a hl hlen hA hQ hC hS hL hT hn hK
    have : rest = [] := List.length_eq_zero_iff.1 (Nat.le_zero.1 hlen)
    subst this
    have h := hl.run
    simp only [runOps, Option.some.injEq] at h; subst h
    refine ⟨?_, hK S a hS (Ext.refl S) hL hT rfl rfl⟩
    apply List.eq_nil_iff_forall_not_mem.2
    intro j hj
    obtain ⟨h1, o, h2, _⟩ := mem_ready.1 hj
    have := (hl.mem j).2 ⟨(Array.getElem?_eq_some_iff.1 h2).1, h1⟩
    cases this
  | succ fuel ih =>
    intro listed rest s sf S a hl hlen hA hQ hC hS hL hT hn hK
    refine ⟨fun hnil => ?_, fun j hj => ?_⟩
    · have := hl.none hedge hnil
      subst this
      have h := hl.run
      simp only [runOps, Option.some.injEq] at h; subst h
      exact hK S a hS (Ext.refl S) hL hT rfl rfl
    · obtain ⟨oj, s1, sf', rest', hoj, h2, hl', k2, hlen'⟩ := hl.pick hirr hj fun i a b => hswap i j a b
      obtain ⟨env, L, x, y, z, he, _⟩ := runOps_adds _ hl'.run
      have hA' : ∀ b ∈ sf'.asm, b = true := fun b hb => hA b ((k2.a b).2 hb)
      have hQ' : ∀ b ∈ sf'.eqs, b := fun b hb => hQ b ((k2.q b).2 hb)
      have hC' : ∀ c ∈ sf'.calls, c.cond = true → CFSnd M c := fun b hb => hC b ((k2.k b).2 hb)
      refine op_sound hS hL hT hn hoj h2 (fun b hb => hA' b (by rw [he]; simp [hb])) (fun b hb => hQ' b (by rw [he]; simp [hb])) (fun b hb => hC' b (by rw [he]; simp [hb])) fun S' a' m1 m2 m3 m4 m5 m6 => ?_
      exact ih _ rest' hl' (by omega) hA' hQ' hC' m1 m3 m4 (by rw [m5]; exact hn) fun S'' a'' q1 q2 q3 q4 q5 q6 =>
        hK S'' a'' q1 (m2.trans q2) (q3.trans k2.L.symm) (q4.congr fun t => (k2.get t).symm) (q5.trans m5) (q6.trans m6)

/-- What is said of an operation decides only whether it is run. -/
theorem runOp_hot {P : Unit → Program} {inl : FuncId → Bool} {an : Option Ans} {h1 h2 : Nat} {o : Oper} {s s1 s2 : RS} (a : runOp P inl call n ops an h1 o s = some s1) (b : runOp P inl call n ops an h2 o s = some s2) : s1 = s2 := by
  unfold runOp at a b
  cases hc : chainOf ops s.env o with
  | none => rw [hc] at a; simp at a
  | some c0 =>
    rw [hc] at a b
    cases c0 with
    | none =>
      simp only at a b
      rw [a] at b; simpa using b
    | some c =>
      simp only at a b
      cases hs : stepA P inl call an (fun ex => ev s.env (ex ++ c)) s.L o with
      | none =>
        rw [hs] at a b
        simp only at a b
        rw [a] at b; simpa using b
      | some r =>
        rw [hs] at a b
        simp only at a b
        cases hp : putE n o.dst c r.v s.env with
        | none => rw [hp] at a; simp at a
        | some env =>
          rw [hp] at a b
          simp only at a b
          cases hf : fits (ev s.env c) s.L o h1 r.L' r.calls with
          | false => rw [hf] at a; simp at a
          | true =>
            cases hf2 : fits (ev s.env c) s.L o h2 r.L' r.calls with
            | false => rw [hf2] at b; simp at b
            | true =>
              rw [hf] at a; rw [hf2] at b
              simp only at a b
              cases c with
              | nil => simp only at a b; rw [a] at b; simpa using b
              | cons x l => simp only at a b; rw [a] at b; simpa using b

/-- A region in any order, where p and p + 1 tell. -/
theorem draw_two {hot2 : Nat → Nat} {p : Nat} (hd : drawOk2 hot ops p = true) (hd2 : drawOk2 hot2 ops p = true) :
    ∀ (fuel : Nat) (listed : Array Bool) (r1 r2 : List Nat) {s f1 f2 : RS} {S : St} {a : Act}, Left M call n ops ans hot (· < ·) listed r1 s f1 → Left M call n ops ans hot2 (fun i j => sw p i < sw p j) listed r2 s f2 →
    r1.length ≤ fuel → r2.length ≤ fuel →
    (∀ b ∈ f1.asm, b = true) → (∀ q ∈ f1.eqs, q) → (∀ c ∈ f1.calls, c.cond = true → CFSnd M c) →
    (∀ b ∈ f2.asm, b = true) → (∀ q ∈ f2.eqs, q) → (∀ c ∈ f2.calls, c.cond = true → CFSnd M c) →
    HeapOk S → S.L = s.L → TRel S s.env a.tmps → n ≤ a.tmps.size →
    (∀ S' a', HeapOk S' → Ext S S' → S'.L = f1.L → TRel S' f1.env a'.tmps → a'.tmps.size = a.tmps.size → a'.defers = a.defers → Q .normal a' S'.w) →
    (∀ S' a', HeapOk S' → Ext S S' → S'.L = f2.L → TRel S' f2.env a'.tmps → a'.tmps.size = a.tmps.size → a'.defers = a.defers → Q .normal a' S'.w) →
    wpAny (M.P ()) .any ops Q fuel listed a S.w := by
  unfold drawOk2 at hd hd2
  simp only [Bool.and_eq_true, List.all_eq_true, List.mem_range, Bool.or_eq_true, Nat.beq_eq] at hd hd2
  obtain ⟨hedges, hno, hsw⟩ := hd
  obtain ⟨_, _, hsw2⟩ := hd2
  have hswap2 : ∀ i j a b, i < j → ¬(i = p ∧ j = p + 1) → ops[i]? = some a → ops[j]? = some b → maySwap hot2 ops i j a b = true ∨ reach ops i ops.size j = true := by
    intro i j a b hij hp hi hj
    rcases hsw2 j (Array.getElem?_eq_some_iff.1 hj).1 i hij with h | h
    · exact absurd h hp
    · rw [hi, hj] at h
      simpa using h
  have hswap : ∀ i j a b, i < j → ¬(i = p ∧ j = p + 1) → ops[i]? = some a → ops[j]? = some b → maySwap hot ops i j a b = true ∨ reach ops i ops.size j = true := by
    intro i j a b hij hp hi hj
    rcases hsw j (Array.getElem?_eq_some_iff.1 hj).1 i hij with h | h
    · exact absurd h hp
    · rw [hi, hj] at h
      simpa using h
  have hedge0 : ∀ (j : Nat) (o : Oper), ops[j]? = some o → ∀ e ∈ o.after, Region.binds .any e = true → e.on < j := by
    intro j o ho e he hb
    unfold edgesOk at hedges
    simp only [List.all_eq_true, List.mem_range] at hedges
    have := hedges j (Array.getElem?_eq_some_iff.1 ho).1
    rw [ho] at this
    have := List.all_eq_true.1 this e (by simpa using he)
    simpa [hb, Nat.blt_eq] using this
  have hno : ∀ o, ops[p + 1]? = some o → ∀ e ∈ o.after, Region.binds .any e = true → e.on ≠ p := by
    intro o ho e he hb
    rw [ho] at hno
    have := List.all_eq_true.1 hno e (by simpa using he)
    intro h
    have h' : Nat.beq e.on p = true := Nat.beq_eq.mpr h
    rw [h', hb] at this
    cases this
  have sw3 : ∀ i j, sw p i < sw p j → i < j ∨ (i = p + 1 ∧ j = p) := by
    intro i j h
    simp only [sw_def] at h
    split at h <;> split at h <;> (try split at h) <;> (try split at h) <;> omega
  have edge1 : ∀ (j : Nat) (o : Oper), ops[j]? = some o → ∀ e ∈ o.after, Region.binds .any e = true → e.on < j ∧ ¬(j < e.on) := fun j o ho e he hb => by
    have := hedge0 j o ho e he hb
    omega
  have edge2 : ∀ (j : Nat) (o : Oper), ops[j]? = some o → ∀ e ∈ o.after, Region.binds .any e = true → e.on < j ∧ ¬(sw p j < sw p e.on) := fun j o ho e he hb => by
    have h := hedge0 j o ho e he hb
    refine ⟨h, fun h2 => ?_⟩
    rcases sw3 _ _ h2 with h3 | ⟨h3, h4⟩
    · omega
    · subst h3; exact hno o ho e he hb h4
  intro fuel
  induction fuel with
  | zero =>
    intro listed r1 r2 s f1 f2 S a hl _ hlen _ hA hQ hC _ _ _ hS hL hT hn hK _
    have : r1 = [] := List.length_eq_zero_iff.1 (Nat.le_zero.1 hlen)
    subst this
    have h := hl.run
    simp only [runOps, Option.some.injEq] at h; subst h
    refine ⟨?_, hK S a hS (Ext.refl S) hL hT rfl rfl⟩
    apply List.eq_nil_iff_forall_not_mem.2
    intro j hj
    obtain ⟨h1, o, h2, _⟩ := mem_ready.1 hj
    have := (hl.mem j).2 ⟨(Array.getElem?_eq_some_iff.1 h2).1, h1⟩
    cases this
  | succ fuel ih =>
    intro listed r1 r2 s f1 f2 S a hl1 hl2 hlen1 hlen2 hA1 hQ1 hC1 hA2 hQ2 hC2 hS hL hT hn hK1 hK2
    refine ⟨fun hnil => ?_, fun j hj => ?_⟩
    · have := hl1.none edge1 hnil
      subst this
      have h := hl1.run
      simp only [runOps, Option.some.injEq] at h; subst h
      exact hK1 S a hS (Ext.refl S) hL hT rfl rfl
    · have pick1 := fun (hne : j ≠ p + 1) => hl1.pick (fun i => Nat.lt_irrefl i) hj fun i a b h => hswap i j a b h (by omega)
      have pick2 := fun (hne : j ≠ p) => hl2.pick (fun i => Nat.lt_irrefl _) hj fun i a b h hi hb => by
        rcases sw3 _ _ h with h3 | ⟨h3, h4⟩
        · refine hswap2 i j a b h3 ?_ hi hb
          rintro ⟨rfl, rfl⟩
          rw [sw_l, sw_r] at h
          omega
        · omega
      by_cases e2 : j = p + 1
      · -- the second order it is
        obtain ⟨oj, s1, sf', rest', hoj, h2, hl', k2, hlen'⟩ := pick2 (by omega)
        obtain ⟨env, L, x, y, z, he, _⟩ := runOps_adds _ hl'.run
        have hA' : ∀ b ∈ sf'.asm, b = true := fun b hb => hA2 b ((k2.a b).2 hb)
        have hQ' : ∀ b ∈ sf'.eqs, b := fun b hb => hQ2 b ((k2.q b).2 hb)
        have hC' : ∀ c ∈ sf'.calls, c.cond = true → CFSnd M c := fun b hb => hC2 b ((k2.k b).2 hb)
        refine op_sound hS hL hT hn hoj h2 (fun b hb => hA' b (by rw [he]; simp [hb])) (fun b hb => hQ' b (by rw [he]; simp [hb])) (fun b hb => hC' b (by rw [he]; simp [hb])) fun S' a' m1 m2 m3 m4 m5 m6 => ?_
        have hnm : p + 1 ∉ rest' := by
          intro hm
          have h9 := ((hl'.mem _).1 hm).2
          have h10 : p + 1 < listed.size := by rw [hl1.size]; exact e2 ▸ (Array.getElem?_eq_some_iff.1 hoj).1
          rw [e2] at h9
          simp [h10] at h9
        have hl'' : Left M call n ops ans hot2 (fun i j => sw p i < sw p j ∧ i ≠ p + 1) (listed.setIfInBounds j true) rest' s1 sf' :=
          ⟨hl'.size, hl'.pw.imp_of_mem fun {x y} hx _ h => ⟨h, fun e => hnm (e ▸ hx)⟩, hl'.mem, hl'.closed, hl'.run⟩
        refine draw_one (fun i h => Nat.lt_irrefl _ h.1) (fun j o ho e he hb => ⟨(edge2 j o ho e he hb).1, fun h => (edge2 j o ho e he hb).2 h.1⟩) (fun i j a b h hi hb => ?_) fuel _ rest' hl'' (by omega) hA' hQ' hC' m1 m3 m4 (by rw [m5]; exact hn) fun S'' a'' q1 q2 q3 q4 q5 q6 =>
          hK2 S'' a'' q1 (m2.trans q2) (q3.trans k2.L.symm) (q4.congr fun t => (k2.get t).symm) (q5.trans m5) (q6.trans m6)
        rcases sw3 _ _ h.1 with h3 | ⟨h3, _⟩
        · refine hswap2 i j a b h3 ?_ hi hb
          rintro ⟨rfl, rfl⟩
          have := h.1
          rw [sw_l, sw_r] at this
          omega
        · exact absurd h3 h.2
      · obtain ⟨oj, s1, sf', rest', hoj, h2, hl', k2, hlen'⟩ := pick1 e2
        obtain ⟨env, L, x, y, z, he, _⟩ := runOps_adds _ hl'.run
        have hA' : ∀ b ∈ sf'.asm, b = true := fun b hb => hA1 b ((k2.a b).2 hb)
        have hQ' : ∀ b ∈ sf'.eqs, b := fun b hb => hQ1 b ((k2.q b).2 hb)
        have hC' : ∀ c ∈ sf'.calls, c.cond = true → CFSnd M c := fun b hb => hC1 b ((k2.k b).2 hb)
        refine op_sound hS hL hT hn hoj h2 (fun b hb => hA' b (by rw [he]; simp [hb])) (fun b hb => hQ' b (by rw [he]; simp [hb])) (fun b hb => hC' b (by rw [he]; simp [hb])) fun S' a' m1 m2 m3 m4 m5 m6 => ?_
        by_cases e1 : j = p
        · have hnm : p ∉ rest' := by
            intro hm
            have h9 := ((hl'.mem _).1 hm).2
            have h10 : p < listed.size := by rw [hl1.size]; exact e1 ▸ (Array.getElem?_eq_some_iff.1 hoj).1
            rw [e1] at h9
            simp [h10] at h9
          have hl'' : Left M call n ops ans hot (fun i j => i < j ∧ i ≠ p) (listed.setIfInBounds j true) rest' s1 sf' :=
            ⟨hl'.size, hl'.pw.imp_of_mem fun {x y} hx _ h => ⟨h, fun e => hnm (e ▸ hx)⟩, hl'.mem, hl'.closed, hl'.run⟩
          exact draw_one (fun i h => Nat.lt_irrefl _ h.1) (fun j o ho e he hb => ⟨(edge1 j o ho e he hb).1, fun h => (edge1 j o ho e he hb).2 h.1⟩) (fun i j a b h hi hb => hswap i j a b h.1 (fun h' => h.2 h'.1) hi hb) fuel _ rest' hl'' (by omega) hA' hQ' hC' m1 m3 m4 (by rw [m5]; exact hn) fun S'' a'' q1 q2 q3 q4 q5 q6 =>
            hK1 S'' a'' q1 (m2.trans q2) (q3.trans k2.L.symm) (q4.congr fun t => (k2.get t).symm) (q5.trans m5) (q6.trans m6)
        · obtain ⟨oj2, s2, sg, rest2, hoj2, h22, hl2', kk2, hlen2'⟩ := pick2 e1
          rw [hoj] at hoj2; cases hoj2
          have := runOp_hot h2 h22
          subst this
          exact ih _ rest' rest2 hl' hl2' (by omega) (by omega) hA' hQ' hC' (fun b hb => hA2 b ((kk2.a b).2 hb)) (fun b hb => hQ2 b ((kk2.q b).2 hb)) (fun b hb => hC2 b ((kk2.k b).2 hb)) m1 m3 m4 (by rw [m5]; exact hn)
            (fun S'' a'' q1 q2 q3 q4 q5 q6 => hK1 S'' a'' q1 (m2.trans q2) (q3.trans k2.L.symm) (q4.congr fun t => (k2.get t).symm) (q5.trans m5) (q6.trans m6))
            (fun S'' a'' q1 q2 q3 q4 q5 q6 => hK2 S'' a'' q1 (m2.trans q2) (q3.trans kk2.L.symm) (q4.congr fun t => (kk2.get t).symm) (q5.trans m5) (q6.trans m6))
end
end Go.Av

/- WHAT THE EVALUATION RELATION MEANS: a run of the model. No program in sight. -/
namespace Go.Av
open Go.RowKit

def VRel (S : St) (env : Vars) (tm : Array Value) : Prop := ∀ t, Rel S (env.get t) (tm.getD t undef)

def RunSnd (M : Mach) (fi : Fi) (todo : List Item) (env : Vars) (L : Heap) (Q : AV → Heap → Prop) : Prop :=
  ∀ (S : St) (b : Frame) (a : Act) (cs : List Frame) (fn : Func), (M.P ()).funcs[b.fn]? = some fn → fn.results.toList = fi.res → b.kind = .normal → a.defers = [] →
    HeapOk S → S.L = L → VRel S env a.tmps → fi.n ≤ a.tmps.size →
    ∃ fr w' β' cv v L', Q v L' ∧ Steps (M.P ()) (lone (b.at a todo) cs S.w) (lone fr cs w') ∧ fr.fn = b.fn ∧ fr.leaving (M.P ()) w' (.returned cv) ∧
      HeapOk ⟨S.base, S.acc, L', β', w'⟩ ∧ Ext S ⟨S.base, S.acc, L', β', w'⟩ ∧ Rel ⟨S.base, S.acc, L', β', w'⟩ v cv

theorem lift_get (env : Vars) (t : Nat) : Env.get (lift env) t = ([], env.get t) := by
  induction env with
  | nil => rfl
  | cons e env ih =>
    obtain ⟨k, v⟩ := e
    simp only [lift, List.map_cons, Env.get, Vars.get]
    cases k == t with
    | true => rfl
    | false => exact ih

theorem lift_rel {S : St} {env : Vars} {tm : Array Value} (h : VRel S env tm) : TRel S (lift env) tm := by
  refine ⟨fun t => ?_, fun t _ => ?_, fun t ht => ?_⟩
  · rw [lift_get]; exact .nil
  · rw [lift_get]; exact h t
  · rw [lift_get] at ht; simp [chainVal] at ht

theorem forget_rel {S : St} {env : Env} {tm : Array Value} (h : TRel S env tm) (keep : List Nat) : VRel S (forget keep env) tm := by
  intro t
  induction keep with
  | nil => exact .any _
  | cons k keep ih =>
    simp only [forget, List.map_cons, Vars.get]
    cases hk : k == t with
    | false => exact ih
    | true =>
      have hk : k = t := by simpa using hk
      subst hk
      simp only [cond_true]
      split
      · rename_i v hv
        have := h.yes k (by rw [hv]; rfl)
        rw [hv] at this; exact this
      · exact .any _

theorem vget_rel {S : St} {env : Vars} {a : Act} (h : VRel S env a.tmps) (x : Operand) : Rel S (evV env x) (a.eval x) := by
  cases x with
  | tmp t => exact h t
  | const v => exact rel_ofC S v
  | global g => exact .any _
  | func f => exact .data _ _ (.func _ [] [] [] [] rfl rfl (by simp) (by simp))

theorem args_rel {S : St} : ∀ (i : Nat) (args : List AV) (vs : List Value) (t : Nat), RelL S args vs → Rel S ((argVars i args).get t) (if i ≤ t then vs.getD (t - i) undef else undef)
  | i, [], vs, t, _ => .any _
  | i, c :: args, [], t, h => by have := h.1; simp at this
  | i, c :: args, u :: vs, t, h => by
    simp only [argVars, Vars.get]
    cases hk : i == t with
    | true =>
      have hk : i = t := by simpa using hk
      subst hk
      simp only [cond_true, Nat.le_refl, if_true, Nat.sub_self, List.getD_cons_zero]
      exact h.2 0 c u rfl rfl
    | false =>
      have hk : i ≠ t := by simpa using hk
      have := args_rel (S := S) (i + 1) args vs t ⟨by simpa using h.1, fun j c v hc hv => h.2 (j + 1) c v (by simpa using hc) (by simpa using hv)⟩
      simp only [cond_false]
      by_cases hlt : i + 1 ≤ t
      · rw [if_pos hlt] at this
        rw [if_pos (by omega)]
        obtain ⟨m, rfl⟩ : ∃ m, t = i + 1 + m := ⟨t - (i + 1), by omega⟩
        have e1 : i + 1 + m - (i + 1) = m := by omega
        have e2 : i + 1 + m - i = m + 1 := by omega
        rw [e1] at this
        rw [e2]; simpa using this
      · rw [if_neg hlt] at this
        rw [if_neg (by omega)]; exact this

theorem enter_rel {S : St} {args : List AV} {vs : List Value} (n : Nat) (h : RelL S args vs) : VRel S (argVars 0 args) ((⟨vs⟩ : Array Value) ++ Array.replicate n undef) := by
  intro t
  have := args_rel (S := S) 0 args vs t h
  simp only [Nat.zero_le, if_true, Nat.sub_zero] at this
  have e : ((⟨vs⟩ : Array Value) ++ Array.replicate n undef).getD t undef = vs.getD t undef := by
    simp only [Array.getD_eq_getD_getElem?, List.getD_eq_getElem?_getD, Array.getElem?_append, List.size_toArray, List.getElem?_toArray]
    by_cases ht : t < vs.length
    · rw [if_pos ht]
    · rw [if_neg ht, List.getElem?_eq_none (by omega : vs.length ≤ t)]
      simp only [Array.getElem?_replicate, Option.getD_none]
      split <;> rfl
  rw [e]; exact this

def resF (tm : Array Value) : ResultVar → Sem Value
  | .tmp t => pure (tm.getD t undef)
  | .cell a t => do loadVar t (← asAddr (tm.getD a undef))

theorem resultsA_sound {P : Unit → Program} {S : St} (hS : HeapOk S) {env : Vars} {tm : Array Value} (hV : VRel S env tm) : ∀ (l : List ResultVar) {vs : List AV}, resultsA P env S.L l = some vs →
    ∃ cvs : List Value, RelL S vs cvs ∧ (l.mapM (resF tm)).run (P ()) S.w = .ok cvs S.w
  | [], vs, h => by
    simp only [resultsA, Option.some.injEq] at h; subst h
    exact ⟨[], .nil S, by simp⟩
  | .tmp t :: r, vs, h => by
    simp only [resultsA] at h
    split at h
    · rename_i vs' h'
      simp only [Option.some.injEq] at h; subst h
      obtain ⟨cvs, h1, h2⟩ := resultsA_sound hS hV r h'
      have h3 : (resF tm (.tmp t)).run (P ()) S.w = .ok (tm.getD t undef) S.w := rfl
      exact ⟨tm.getD t undef :: cvs, .cons (hV t) h1, by simp only [List.mapM_cons, Sem.run_bind, h3, Result.andThen_ok, h2, Sem.run_pure]⟩
    · simp at h
  | .cell a T :: r, vs, h => by
    simp only [resultsA] at h
    split at h
    · rename_i x vs' hx h'
      cases hall : x.asm.all fun b => b with
      | false => simp [hall] at h
      | true =>
        simp only [hall, cond_true, Option.some.injEq] at h; subst h
        obtain ⟨cvs, h1, h2⟩ := resultsA_sound hS hV r h'
        have hel : ∀ {xs : List AV} {i : Nat} {x : AV} {q : List Prop}, elemA none xs i = some (x, q) → q = [] := by
          intro xs i x q he
          unfold elemA at he
          simp only at he
          split at he
          · simp only [Option.some.injEq, Prod.mk.injEq] at he; exact he.2.symm
          · simp at he
        have hva := hV a
        have key : x.eqs = [] ∧ ∃ ad, tm.getD a undef = .pointer (some ad) := by
          unfold loadA at hx
          split at hx
          · rename_i q ver i j hv
            rw [hv] at hva
            obtain ⟨hp, _⟩ := rel_ptr' hva
            split at hx
            · split at hx
              · rename_i he
                split at hx
                · simp only [Option.some.injEq] at hx; subst hx
                  exact ⟨hel he, hp⟩
                · simp at hx
              · simp at hx
            · simp at hx
          · rename_i es xs i j hv
            rw [hv] at hva
            have hp : ∃ ad, tm.getD a undef = .pointer (some ad) := by
              have hd := rel_eptr hva
              generalize tm.getD a undef = pv at *
              cases hd with
              | eptr _ _ _ _ b off h1 h2 h3 => exact ⟨_, rfl⟩
            split at hx
            · rename_i he
              split at hx
              · simp only [Option.some.injEq] at hx; subst hx
                exact ⟨hel he, hp⟩
              · simp at hx
            · simp at hx
          · simp at hx
        obtain ⟨heq, ad, had⟩ := key
        obtain ⟨_, _, cv, k1, k2⟩ := load_sound (P := P) hS (hV a) hx (by simpa using hall) (by rw [heq]; simp)
        have h3 : (resF tm (.cell a T)).run (P ()) S.w = .ok cv S.w := by
          rw [← k1, had]
          simp [resF, asAddr, Instr.loadAt, Instr.sureAddr, had]
        exact ⟨cv :: cvs, .cons k2 h1, by simp only [List.mapM_cons, Sem.run_bind, h3, Result.andThen_ok, h2, Sem.run_pure]⟩
    · simp at h

theorem finish_sound {P : Unit → Program} {S : St} (hS : HeapOk S) {env : Vars} {tm : Array Value} (hV : VRel S env tm) {fi : Fi} {fn : Func} (hfi : fn.results.toList = fi.res) {v : AV} (h : finish P fi env S.L = some v) :
    ∃ cv, (results fn tm).run (P ()) S.w = .ok cv S.w ∧ Rel S v cv := by
  have hrun : ∀ {cvs : List Value}, (fi.res.mapM (resF tm)).run (P ()) S.w = .ok cvs S.w → (results fn tm).run (P ()) S.w = .ok (if h : cvs.length = 1 then cvs[0] else .tuple ⟨cvs⟩) S.w := by
    intro cvs h
    have hm : results fn tm = (do let vs ← fn.results.mapM (resF tm); pure (if h : vs.size = 1 then vs[0] else .tuple vs)) := by
      unfold results
      congr 1
    rw [hm, Array.mapM_eq_mapM_toList, hfi]
    rw [map_eq_pure_bind]
    simp only [Sem.run_bind, h, Result.andThen_ok, Sem.run_pure]
    rfl
  unfold finish at h
  split at h
  · rename_i u hr
    simp only [Option.some.injEq] at h; subst h
    obtain ⟨cvs, h1, h2⟩ := resultsA_sound hS hV _ hr
    have := h1.1
    match cvs, this, h1, h2 with
    | [cv], _, h1, h2 => exact ⟨cv, by simpa using hrun h2, h1.head⟩
  · rename_i vs hne hr
    simp only [Option.some.injEq] at h; subst h
    obtain ⟨cvs, h1, h2⟩ := resultsA_sound hS hV _ hr
    have hl : cvs.length ≠ 1 := by
      rw [← h1.1]
      intro e
      obtain ⟨x, rfl⟩ := List.length_eq_one_iff.1 e
      exact hne x rfl
    exact ⟨.tuple ⟨cvs⟩, by simpa [hl] using hrun h2, .tup vs cvs h1.1 h1.2⟩
  · simp at h

theorem call_runs {P : Program} {f : FuncId} {fn : Func} {c : Code} {args : Array Value} (hf : P.funcs[f]? = some fn) (hb : fn.body = some c) (hn : (fn.name == "runtime.NumGoroutine") = false) (w : World) :
    (callFunc f args).run P w = .ok (.enter f args) w := by
  have hn' : fn.name ≠ "runtime.NumGoroutine" := by simpa using hn
  simp [callFunc, hf, hb, hn']

theorem weak_rel {S : St} {a d : AV} (h : Weak a d) : ∀ {v : Value}, DRel S a v → DRel S d v := by
  induction h with
  | refl a => exact fun h => h
  | vnil es => intro v h; cases h; exact .vecE false es none 0 (by simp)
  | full es xs =>
    intro v h
    cases h with
    | vecE f es a cap hf => exact .vecE false es a cap (by simp)
    | vec f es xs b off cap ho hf hl hc hr => exact .vec false es xs b off cap ho (by simp) hl hc hr
  | tup xs ys hl _ ih =>
    intro v h
    cases h with
    | tup _ vs h1 h2 =>
      refine .tup ys vs (hl.symm.trans h1) fun i c v hc hv => ?_
      have hi : i < xs.length := by rw [hl]; exact (List.getElem?_eq_some_iff.1 hc).1
      exact ih i xs[i] c (List.getElem?_eq_getElem hi) hc (h2 i xs[i] v (List.getElem?_eq_getElem hi) hv)
  | agg xs ys hl _ ih =>
    intro v h
    cases h with
    | agg _ vs h1 h2 =>
      refine .agg ys vs (hl.symm.trans h1) fun i c v hc hv => ?_
      have hi : i < xs.length := by rw [hl]; exact (List.getElem?_eq_some_iff.1 hc).1
      exact ih i xs[i] c (List.getElem?_eq_getElem hi) hc (h2 i xs[i] v (List.getElem?_eq_getElem hi) hv)

def OwnQ (M : Mach) (f : FuncId) (args : List AV) (L : Heap) (Q : AV → Heap → Prop) : Prop :=
  ∀ (S : St) (cargs : List Value), HeapOk S → S.L = L → RelL S args cargs →
    (∀ w, (callFunc f ⟨cargs⟩).run (M.P ()) w = .ok (.enter f ⟨cargs⟩) w) ∧
    Calls (M.P ()) f ⟨cargs⟩ S.w fun
      | .returned cv, w' => ∃ v L' β', Q v L' ∧ HeapOk ⟨S.base, S.acc, L', β', w'⟩ ∧ Ext S ⟨S.base, S.acc, L', β', w'⟩ ∧ Rel ⟨S.base, S.acc, L', β', w'⟩ v cv
      | _, _ => False

def PureR (M : Mach) (f : FuncId) (args : List AV) (Q : AV → Heap → Prop) : Prop :=
  ∀ (base : Nat) (acc : Nat → Nat → Prop) (w : World) (cargs : List Value), base ≤ w.heap.size → (∀ b off, base ≤ b → acc b off) → RelL ⟨base, acc, [], [], w⟩ args cargs →
    (∀ w, (callFunc f ⟨cargs⟩).run (M.P ()) w = .ok (.enter f ⟨cargs⟩) w) ∧
    Calls (M.P ()) f ⟨cargs⟩ w fun
      | .returned cv, w' => ∃ d, Q d [] ∧ Below base w w' ∧ DRel ⟨base, acc, [], [], w'⟩ d cv
      | _, _ => False

theorem OwnQ.snd {M : Mach} {f : FuncId} {args : List AV} {L L' : Heap} {v : AV} (h : OwnQ M f args L (isR v L')) : OwnSnd M f args L v L' := by
  intro S cargs h1 h2 h3
  obtain ⟨k1, k2⟩ := h S cargs h1 h2 h3
  refine ⟨k1, Calls.mono k2 fun e w' he => ?_⟩
  cases e with
  | returned cv =>
    obtain ⟨v', K, β', ⟨rfl, rfl⟩, m1, m2, m3⟩ := he
    exact ⟨β', m1, m2, m3⟩
  | panicked c => exact he.elim
  | outgrown => exact he.elim

theorem PureR.snd {M : Mach} {f : FuncId} {args : List AV} {v : AV} (h : PureR M f args (isR v [])) : PureSnd M f args v := by
  intro base acc w cargs h1 h2 h3
  obtain ⟨k1, k2⟩ := h base acc w cargs h1 h2 h3
  refine ⟨k1, Calls.mono k2 fun e w' he => ?_⟩
  cases e with
  | returned cv =>
    obtain ⟨d, ⟨rfl, _⟩, m1, m2⟩ := he
    exact ⟨m1, m2⟩
  | panicked c => exact he.elim
  | outgrown => exact he.elim

/-- What the relation means. -/
def Means (M : Mach) : Conf → (AV → Heap → Prop) → Prop
  | .run fi todo env L, Q => RunSnd M fi todo env L Q
  | .own f args L, Q => OwnQ M f args L Q
  | .pure f args, Q => PureR M f args Q

theorem RunSnd.step {M : Mach} {fi : Fi} {k k' : List Item} {env : Vars} {L : Heap} {Q : AV → Heap → Prop} (h : RunSnd M fi k' env L Q)
    (hs : ∀ (b : Frame) (a : Act) (cs : List Frame) (S : St), VRel S env a.tmps → step (M.P ()) (lone (b.at a k) cs S.w) = .next (lone (b.at a k') cs S.w)) : RunSnd M fi k env L Q := by
  intro S b a cs fn h1 h2 h3 h4 h5 h6 h7 h8
  obtain ⟨fr, w', β', cv, v, L', hq, k1, k2⟩ := h S b a cs fn h1 h2 h3 h4 h5 h6 h7 h8
  exact ⟨fr, w', β', cv, v, L', hq, .head (hs b a cs S h7) k1, k2⟩

theorem run_eq_nil {P : Unit → Program} {d : Nat} {T e : TypeId} (hu : (P ()).underlying T = some (.slice e)) (a : Option Addr) (c : Nat) (w : World) :
    (Op.equalIn (d + 1) T (.slice a 0 c) (.slice none 0 0)).run (P ()) w = .ok a.isNone w ∧ (Op.equalIn (d + 1) T (.slice none 0 0) (.slice a 0 c)).run (P ()) w = .ok a.isNone w := by
  constructor <;> cases a <;> simp [Op.equalIn, run_underlying hu]

/-- A test for nil of an empty slice: a bool. -/
theorem nilTest_runs {P : Unit → Program} {env : Env} {o : Oper} {d : Nat} (h : nilTest P env o = some d) {S : St} {ρ : Operand → Value} (hρ : ∀ x, Rel S (ev env [] x) (ρ x)) :
    o.guard = none ∧ o.dst = some d ∧ ∃ b, (execOp ρ o).run (P ()) S.w = .ok (.value (.bool b)) S.w := by
  unfold nilTest at h
  split at h
  · rename_i d' op T x y yT hg hd ho
    have hx := hρ x
    have hy := hρ y
    have emp : ∀ {f : Bool} {es : Nat} {v : Value}, Rel S (.vec f es []) v → ∃ a c, v = .slice a 0 c := by
      intro f es v hv
      have := rel_vec hv
      cases this with
      | vecE f es a cap _ => exact ⟨a, cap, rfl⟩
      | vec f es xs b off cap => exact ⟨_, _, rfl⟩
    refine ⟨hg, ?_⟩
    have eqn' : ∀ {e : TypeId}, (P ()).underlying T = some (.slice e) → ∀ (a : Option Addr) (c : Nat), (Op.equalIn Op.maxDepth T (.slice a 0 c) (.slice none 0 0)).run (P ()) S.w = .ok a.isNone S.w ∧ (Op.equalIn Op.maxDepth T (.slice none 0 0) (.slice a 0 c)).run (P ()) S.w = .ok a.isNone S.w :=
      fun hu a c => run_eq_nil (d := Op.maxDepth - 1) hu a c S.w
    split at h
    · rename_i e f es hu hvx hvy
      have eqn := eqn' hu
      simp only [Option.some.injEq] at h; subst h
      rw [hvx] at hx; rw [hvy] at hy
      obtain ⟨a, c, ex⟩ := emp hx
      exact ⟨hd, a.isNone, by simp [execOp, ho, ex, rel_vnil hy, eqGuard, binOp, Op.equal, (eqn a c).1]⟩
    · rename_i e f es hu hvx hvy
      have eqn := eqn' hu
      simp only [Option.some.injEq] at h; subst h
      rw [hvx] at hx; rw [hvy] at hy
      obtain ⟨a, c, ey⟩ := emp hy
      exact ⟨hd, a.isNone, by simp [execOp, ho, ey, rel_vnil hx, eqGuard, binOp, Op.equal, (eqn a c).2]⟩
    · rename_i e f es hu hvx hvy
      have eqn := eqn' hu
      simp only [Option.some.injEq] at h; subst h
      rw [hvx] at hx; rw [hvy] at hy
      obtain ⟨a, c, ex⟩ := emp hx
      exact ⟨hd, !a.isNone, by simp [execOp, ho, ex, rel_vnil hy, eqGuard, binOp, Op.equal, (eqn a c).1]⟩
    · rename_i e f es hu hvx hvy
      have eqn := eqn' hu
      simp only [Option.some.injEq] at h; subst h
      rw [hvx] at hx; rw [hvy] at hy
      obtain ⟨a, c, ey⟩ := emp hy
      exact ⟨hd, !a.isNone, by simp [execOp, ho, ey, rel_vnil hx, eqGuard, binOp, Op.equal, (eqn a c).2]⟩
    · simp at h
  · simp at h

theorem rel_in {S : St} {a : AV} {v : Value} (h : Rel S a v) : ∀ r ∈ rowsA a, r < S.L.length := by
  have lt : ∀ {r : Nat} {row : Row}, S.L[r]? = some row → r < S.L.length := fun h => (List.getElem?_eq_some_iff.1 h).1
  have all : ∀ {cs : List AV} {vs : List Value}, cs.length = vs.length → (∀ (i : Nat) c v, cs[i]? = some c → vs[i]? = some v → ∀ r ∈ rowsA c, r < S.L.length) → ∀ r ∈ rowsL cs, r < S.L.length := by
    intro cs
    induction cs with
    | nil => intro vs _ _ r hr; simp [rowsL] at hr
    | cons c cs ih =>
      intro vs hl h r hr
      cases vs with
      | nil => simp at hl
      | cons u vs =>
        simp only [rowsL, List.mem_append] at hr
        rcases hr with hr | hr
        · exact h 0 c u rfl rfl r hr
        · exact ih (vs := vs) (by simpa using hl) (fun i c v hc hv => h (i + 1) c v (by simpa using hc) (by simpa using hv)) r hr
  induction h with
  | any v => intro r hr; simp [rowsA] at hr
  | data a v h =>
    intro r hr
    have h1 := rowsA_ren (fun _ => S.L.length) a
    have h2 := dren h (fun _ => S.L.length)
    have h3 := dren h (fun _ => S.L.length + 1)
    have h4 := rowsA_ren (fun _ => S.L.length + 1) a
    rw [h2] at h1
    rw [h3, h1] at h4
    cases hra : rowsA a with
    | nil => rw [hra] at hr; simp at hr
    | cons q l => rw [hra] at h4; simp at h4
  | agg cs vs hl _ ih => exact all hl ih
  | tup cs vs hl _ ih => exact all hl ih
  | func fn a b va vb ha hb _ _ ih1 ih2 =>
    intro r hr
    simp only [rowsA, List.mem_append] at hr
    rcases hr with hr | hr
    · exact all ha ih1 r hr
    · exact all hb ih2 r hr
  | mapr r0 row info v _ _ h1 => intro r hr; simp only [rowsA, List.mem_singleton] at hr; subst hr; exact lt h1
  | ptr r0 ver i j row info v _ h1 => intro r hr; simp only [rowsA, List.mem_singleton] at hr; subst hr; exact lt h1
  | row r0 ver row info v _ h1 => intro r hr; simp only [rowsA, List.mem_singleton] at hr; subst hr; exact lt h1
  | ref r0 ver lo len row info v _ h1 => intro r hr; simp only [rowsA, List.mem_singleton] at hr; subst hr; exact lt h1

theorem refs_in {S : St} (hS : HeapOk S) : ∀ row ∈ S.L, ∀ r ∈ rowRefs row, r < S.L.length := by
  intro row hm r hr
  obtain ⟨q, hq⟩ := List.getElem?_of_mem hm
  have hlt : q < S.β.length := by rw [← hS.len]; exact (List.getElem?_eq_some_iff.1 hq).1
  obtain ⟨info, hi⟩ : ∃ info, S.β[q]? = some info := ⟨_, List.getElem?_eq_getElem hlt⟩
  unfold rowRefs at hr
  cases hc : row.clean with
  | true => rw [hc] at hr; simp at hr
  | false =>
    rw [hc] at hr
    simp only [cond_false] at hr
    obtain ⟨i, x, h1, h2⟩ := rowsL_at hr
    have hcell : ∃ (k : Nat) (c : AV), x.cells[k]? = some c ∧ r ∈ rowsA c := by
      cases x with
      | agg cs => exact rowsL_at h2
      | _ => exact ⟨0, _, rfl, h2⟩
    obtain ⟨k, c, h3, h4⟩ := hcell
    cases hmp : info.mp with
    | false =>
      obtain ⟨cv, _, hcr⟩ := row_cells hS hq hi hmp h1 k c h3
      exact rel_in hcr r h4
    | true =>
      obtain ⟨es, b1, b2, b3, b4⟩ := hS.maps q row info hq hi hmp
      have hil : i < es.size := by have := (List.getElem?_eq_some_iff.1 h1).1; omega
      obtain ⟨_, kk, n, v, rfl, _, _, g5, _⟩ := b4 i es[i] x (Array.getElem?_eq_getElem hil) h1
      match k with
      | 0 => simp [AV.cells] at h3; subst h3; simp [rowsA] at h4
      | 1 => simp [AV.cells] at h3; subst h3; exact rel_in g5 r h4
      | k + 2 => simp [AV.cells] at h3

theorem get_renV (f : Nat → Nat) (env : Vars) (t : Nat) : (renV f env).get t = renA f (env.get t) := by
  induction env with
  | nil => rfl
  | cons e env ih =>
    obtain ⟨k, v⟩ := e
    simp only [renV, List.map_cons, Vars.get]
    cases k == t with
    | true => rfl
    | false => exact ih

theorem rows_get {env : Vars} {t r : Nat} (h : r ∈ rowsA (env.get t)) : r ∈ rowsL (env.map (·.2)) := by
  induction env with
  | nil => simp [Vars.get, rowsA] at h
  | cons e env ih =>
    obtain ⟨k, v⟩ := e
    simp only [Vars.get] at h
    simp only [List.map_cons, rowsL, List.mem_append]
    cases hk : k == t with
    | true => rw [hk] at h; exact .inl h
    | false => rw [hk] at h; exact .inr (ih h)

theorem getRows_take (l : List Row) : ∀ n, n ≤ l.length → getRows l (List.range n) = some (l.take n) := by
  intro n hn
  have gen : ∀ (k m : Nat), k + m ≤ l.length → getRows l (List.range' k m) = some ((l.drop k).take m) := by
    intro k m
    induction m generalizing k with
    | zero => intro _; rfl
    | succ m ih =>
      intro h
      have hk : k < l.length := by omega
      simp only [List.range'_succ, getRows, List.getElem?_eq_getElem hk, ih (k + 1) (by omega)]
      rw [List.drop_eq_getElem_cons hk]; rfl
  have := gen 0 n (by omega)
  rw [List.range_eq_range']; simpa using this

theorem getRows_drop (l : List Row) (n : Nat) (hn : n ≤ l.length) : getRows l (List.range' n (l.length - n)) = some (l.drop n) := by
  have gen : ∀ (k m : Nat), k + m ≤ l.length → getRows l (List.range' k m) = some ((l.drop k).take m) := by
    intro k m
    induction m generalizing k with
    | zero => intro _; rfl
    | succ m ih =>
      intro h
      have hk : k < l.length := by omega
      simp only [List.range'_succ, getRows, List.getElem?_eq_getElem hk, ih (k + 1) (by omega)]
      rw [List.drop_eq_getElem_cons hk]; rfl
  rw [gen n _ (by omega), List.take_of_length_le (by simp)]

theorem posOf_range' : ∀ (m k i : Nat), k ≤ i → i < k + m → posOf (List.range' k m) i = i - k
  | 0, k, i, h1, h2 => by omega
  | m + 1, k, i, h1, h2 => by
    simp only [List.range'_succ, posOf]
    by_cases he : k = i
    · subst he; simp
    · have : (k == i) = false := by simpa using he
      rw [this, posOf_range' m (k + 1) i (by omega) (by omega)]
      simp only [cond_false]; omega

theorem narrow_sound {M : Mach} {fi : Fi} {k : List Item} {env env' : Vars} {L Lc : Heap} {Q : AV → Heap → Prop} {rs : List Nat} (hn : narrowIn L rs env = some (env', Lc))
    (ih : RunSnd M fi k env' Lc fun v L1 => Q (renA (backAt L.length rs) v) (backAll L rs L1)) : RunSnd M fi k env L Q := by
  unfold narrowIn at hn
  split at hn
  · rename_i rows hrows
    split at hn
    · rename_i hc
      simp only [Option.some.injEq, Prod.mk.injEq] at hn
      obtain ⟨rfl, rfl⟩ := hn
      simp only [Bool.and_eq_true, List.all_eq_true, List.contains_iff_mem] at hc
      obtain ⟨hnd, ha, hcl⟩ := hc
      have hnd := (noDup_iff rs).1 hnd
      intro S b a cs fn h1 h2 h3 h4 h5 h6 h7 h8
      subst h6
      obtain ⟨hSc, _, hrelc⟩ := sub_ok h5 hrows hnd hcl
      obtain ⟨gl, _⟩ := getRows_spec hrows
      have hV : VRel ⟨S.base, accOf S rs, rows.map (renRow (posOf rs)), subβ S.β rs, S.w⟩ (renV (posOf rs) env) a.tmps := by
        intro t
        rw [get_renV]
        exact hrelc _ _ (h7 t) fun r hr => ha r (rows_get hr)
      obtain ⟨fr, w', β', cv, v, L1, hq, k1, k2, k3, k4, k5, k6⟩ := ih _ b a cs fn h1 h2 h3 h4 hSc rfl hV h8
      have hle : rs.length ≤ L1.length := by
        by_cases hz : rs.length = 0
        · omega
        · have hlt : rs.length - 1 < (rows.map (renRow (posOf rs))).length := by simp; omega
          have hβ : rs.length - 1 < (subβ S.β rs).length := by simp [subβ]; omega
          obtain ⟨row', info', q1, _⟩ := k5.rows (rs.length - 1) _ _ (List.getElem?_eq_getElem hlt) (List.getElem?_eq_getElem hβ)
          have := (List.getElem?_eq_some_iff.1 q1).1
          simp only at this; omega
      let ns := List.range' rs.length (L1.length - rs.length)
      have hmem : ∀ i, i ∈ ns ↔ rs.length ≤ i ∧ i < L1.length := by
        intro i; simp only [ns, List.mem_range'_1]; omega
      have hrefs := refs_in k4
      obtain ⟨m1, m2, m3⟩ := back_ok (S1 := ⟨S.base, accOf S rs, L1, β', w'⟩) (ns := ns) (old := L1.take rs.length) (new := L1.drop rs.length) h5 hrows hnd hcl k4 k5 List.nodup_range' (fun i hi => ((hmem i).1 hi).1)
        (getRows_take L1 _ hle) (getRows_drop L1 _ hle) (fun row hr r hrr => by
          have hm : row ∈ L1 := by
            rcases List.mem_append.1 hr with h | h
            · exact List.mem_of_mem_take h
            · exact List.mem_of_mem_drop h
          have := hrefs row hm r hrr
          by_cases hlt : r < rs.length
          · exact .inl hlt
          · exact .inr ((hmem r).2 ⟨by omega, this⟩))
      have heq : ∀ r, r < L1.length → backOf S.L.length rs ns r = backAt S.L.length rs r := by
        intro r hr
        unfold backOf backAt
        cases hb : Nat.blt r rs.length with
        | true => rfl
        | false =>
          have hge : rs.length ≤ r := by
            rcases Nat.lt_or_ge r rs.length with h | h
            · rw [Nat.blt_eq.mpr h] at hb; simp at hb
            · exact h
          simp only [cond_false, ns]
          rw [posOf_range' _ _ _ hge (by omega)]
      have hrow : ∀ row ∈ L1, renRow (backOf S.L.length rs ns) row = renRow (backAt S.L.length rs) row := by
        intro row hm
        unfold renRow
        cases hcr : row.clean with
        | true => rfl
        | false =>
          simp only [cond_false]
          rw [renL_ext _ fun r hr => heq r (hrefs row hm r (by unfold rowRefs; rw [hcr]; exact hr))]
      have hLL : backL S.L rs ns (L1.take rs.length) (L1.drop rs.length) = backAll S.L rs L1 := by
        unfold backL backAll
        rw [List.map_congr_left fun row hm => hrow row (List.mem_of_mem_take hm), List.map_congr_left fun row hm => hrow row (List.mem_of_mem_drop hm)]
      have hin := rel_in k6
      have m3' := m3 v cv k6 fun r hr => by
        have := hin r hr
        by_cases hlt : r < rs.length
        · exact .inl hlt
        · exact .inr ((hmem r).2 ⟨by omega, this⟩)
      rw [renA_ext v fun r hr => heq r (hin r hr)] at m3'
      rw [hLL] at m1 m2 m3'
      exact ⟨fr, w', _, cv, _, _, hq, k1, k2, k3, m1, m2, m3'⟩
    · simp at hn
  · simp at hn

theorem posOf_range {n i : Nat} (h : i < n) : posOf (List.range n) i = i := by
  rw [List.range_eq_range', posOf_range' n 0 i (Nat.zero_le _) (by omega)]; rfl
theorem renRow_self {f : Nat → Nat} {row : Row} (h : ∀ r ∈ rowRefs row, f r = r) : renRow f row = row := by
  unfold renRow
  cases hc : row.clean with
  | true => rfl
  | false =>
    simp only [cond_false]
    rw [renL_ext (g := fun r => r) row.elems (fun r hr => h r (by unfold rowRefs; rw [hc]; exact hr)), renL_id, ← hc]
theorem renA_self {f : Nat → Nat} {a : AV} (h : ∀ r ∈ rowsA a, f r = r) : renA f a = a := by
  rw [renA_ext (g := fun r => r) a h, renA_id]
theorem put_all {α : Type} (l xs : List α) (h : xs.length = l.length) : putAt l (List.range l.length) xs = xs := by
  apply List.ext_getElem?
  intro i
  by_cases hi : i < l.length
  · rw [putAt_at (List.range l.length) l xs List.nodup_range i i xs[i] (by simp [hi]) (List.getElem?_eq_getElem (by omega)) hi, List.getElem?_eq_getElem (by omega)]
  · rw [List.getElem?_eq_none (by rw [putAt_len]; omega), List.getElem?_eq_none (by omega)]

theorem keepV_rel {S : St} {env : Vars} {tm : Array Value} (h : VRel S env tm) (ks : List Nat) : VRel S (keepV ks env) tm := by
  intro t
  have key : ∀ ks : List Nat, Vars.get (keepV ks env) t = env.get t ∨ Vars.get (keepV ks env) t = .any := by
    intro ks
    induction ks with
    | nil => exact .inr rfl
    | cons x ks ih =>
      show (bif x == t then env.get x else Vars.get (keepV ks env) t) = _ ∨ (bif x == t then env.get x else Vars.get (keepV ks env) t) = _
      cases hx : x == t with
      | true =>
        have : x = t := by simpa using hx
        subst this; exact .inl rfl
      | false => exact ih
  rcases key ks with e | e
  · rw [e]; exact h t
  · rw [e]; exact .any _
/-- Rows that are no longer led to are dropped where a function ends. -/
theorem drop_sound {M : Mach} {f : FuncId} {args : List AV} {L : Heap} {v : AV} {K : Heap} (hk : keepOk L.length v K = true) (ih : OwnQ M f args L (KeepQ v K)) : OwnQ M f args L (isR v K) := by
  unfold keepOk at hk
  simp only [Bool.and_eq_true, List.all_eq_true, Nat.blt_eq, Nat.beq_eq] at hk
  obtain ⟨hKl, hv, hK⟩ := hk
  intro S cargs h1 h2 h3
  subst h2
  have hrows := getRows_all S.L
  have hnd : (List.range S.L.length).Nodup := List.nodup_range
  have hin := refs_in h1
  have hcl : ∀ row ∈ S.L, ∀ r ∈ rowRefs row, r ∈ List.range S.L.length := fun row hr r hrr => by simpa using hin row hr r hrr
  obtain ⟨hSc, _, hrelc⟩ := sub_ok h1 hrows hnd hcl
  have hself : S.L.map (renRow (posOf (List.range S.L.length))) = S.L := by
    have : S.L.map (renRow (posOf (List.range S.L.length))) = S.L.map id := List.map_congr_left fun row hr => by
      rw [renRow_self fun r hrr => posOf_range (hin row hr r hrr)]; rfl
    rw [this, List.map_id]
  have hrel' : RelL ⟨S.base, accOf S (List.range S.L.length), S.L.map (renRow (posOf (List.range S.L.length))), subβ S.β (List.range S.L.length), S.w⟩ args cargs := by
    refine ⟨h3.1, fun i c cv hc hcv => ?_⟩
    have hri := rel_in (h3.2 i c cv hc hcv)
    have := hrelc c cv (h3.2 i c cv hc hcv) fun r hr => by simpa using hri r hr
    rwa [renA_self fun r hr => posOf_range (hri r hr)] at this
  obtain ⟨m1, m2⟩ := ih _ cargs hSc hself hrel'
  refine ⟨m1, Calls.mono m2 fun e w' he => ?_⟩
  cases e with
  | panicked c => exact he.elim
  | outgrown => exact he.elim
  | returned cv =>
    obtain ⟨v', L1, β1, ⟨rfl, hq⟩, n1, n2, n3⟩ := he
    rw [hKl] at hq
    have hlen : (List.range S.L.length).length = S.L.length := List.length_range
    have hle : S.L.length ≤ L1.length := by
      have := congrArg List.length hq
      rw [List.length_take, hKl] at this
      omega
    have ho : getRows L1 (List.range (List.range S.L.length).length) = some K := by
      rw [hlen, ← hq]
      have := getRows_take L1 S.L.length hle
      rw [hq] at this ⊢
      exact this
    obtain ⟨k1, k2, k3⟩ := back_ok (S1 := ⟨S.base, accOf S (List.range S.L.length), L1, β1, w'⟩) (ns := []) (new := []) h1 hrows hnd hcl n1 n2 List.nodup_nil (by simp) ho rfl
      (fun row hr r hrr => .inl (by rw [hlen]; exact hK row (by simpa using hr) r hrr))
    have hb : ∀ r, r < S.L.length → backOf S.L.length (List.range S.L.length) [] r = r := by
      intro r hr
      rw [back_lt (by rw [hlen]; exact hr)]; simp
    have hKK : backL S.L (List.range S.L.length) [] K [] = K := by
      unfold backL
      rw [List.map_nil, List.append_nil]
      have : K.map (renRow (backOf S.L.length (List.range S.L.length) [])) = K.map id := List.map_congr_left fun row hr => by
        rw [renRow_self fun r hrr => hb r (hK row hr r hrr)]; rfl
      rw [this, List.map_id, put_all _ _ hKl]
    have k3' := k3 v' cv n3 fun r hr => .inl (by rw [hlen]; exact hv r hr)
    rw [renA_self fun r hr => hb r (hv r hr)] at k3'
    rw [hKK] at k1 k2 k3'
    exact ⟨v', K, _, ⟨rfl, rfl⟩, k1, k2, k3'⟩

/-- The first operations of a region in the text's order. -/
theorem text_app {M : Mach} {call : Answer} {n : Nat} {ops : Array Oper} {ans : Nat → Option Ans} {hot : Nat → Nat} {Q : Exit → Act → World → Prop} (l2 : List Nat) : ∀ (l : List Nat) {s sf : RS} {S : St} {a : Act}, runOps M.P M.inl call n ops ans hot l s = some sf →
    (∀ b ∈ sf.asm, b = true) → (∀ q ∈ sf.eqs, q) → (∀ c ∈ sf.calls, c.cond = true → CFSnd M c) →
    HeapOk S → S.L = s.L → TRel S s.env a.tmps → n ≤ a.tmps.size →
    (∀ S' a', HeapOk S' → Ext S S' → S'.L = sf.L → TRel S' sf.env a'.tmps → a'.tmps.size = a.tmps.size → a'.defers = a.defers → wpOps (M.P ()) ops Q l2 a' S'.w) →
    wpOps (M.P ()) ops Q (l ++ l2) a S.w
  | [], s, sf, S, a, h, _, _, _, hS, hL, hT, _, hK => by
    simp only [runOps, Option.some.injEq] at h; subst h
    exact hK S a hS (Ext.refl S) hL hT rfl rfl
  | i :: rest, s, sf, S, a, h, hA, hQ, hC, hS, hL, hT, hn, hK => by
    rw [List.cons_append, wpOps_cons]
    simp only [runOps] at h
    cases ho : ops[i]? with
    | none =>
      rw [ho] at h
      unfold wpOp
      simp only [ho]
      exact text_app l2 rest h hA hQ hC hS hL hT hn hK
    | some o =>
      rw [ho] at h
      simp only at h
      cases h1 : runOp M.P M.inl call n ops (ans i) (hot i) o s with
      | none => rw [h1] at h; simp at h
      | some s1 =>
        rw [h1] at h
        simp only at h
        obtain ⟨env, L, x, y, z, rfl, _⟩ := runOps_adds _ h
        refine op_sound hS hL hT hn ho h1 (fun b hb => hA b (by simp [hb])) (fun b hb => hQ b (by simp [hb])) (fun b hb => hC b (by simp [hb])) fun S' a' k1 k2 k3 k4 k5 k6 => ?_
        exact text_app l2 rest h hA hQ hC k1 k3 k4 (by rw [k5]; exact hn) fun S'' a'' m1 m2 m3 m4 m5 m6 => hK S'' a'' m1 (k2.trans m2) m3 m4 (m5.trans k5) (m6.trans k6)

theorem range_split {n i : Nat} (h : i < n) : List.range n = List.range i ++ i :: (List.range n).drop (i + 1) := by
  have h1 : List.range i = (List.range n).take i := by rw [List.take_range, Nat.min_eq_left (by omega)]
  have h2 : (List.range n).drop i = i :: (List.range n).drop (i + 1) := by
    have h3 : i < (List.range n).length := by simpa using h
    rw [List.drop_eq_getElem_cons h3]; simp
  rw [h1, ← h2, List.take_append_drop]

theorem nil_sound {M : Mach} {fi : Fi} {id i : Nat} {ops : Array Oper} {k : List Item} {env : Vars} {L : Heap} {Q : AV → Heap → Prop} {keep : List Nat} {s : Bool → RS}
    (hr : ∀ b, nilRun M.P M.inl fi.n ops i env L b = some (s b)) (hA : ∀ b, (∀ x ∈ (s b).asm, x = true) ∧ (s b).eqs = [] ∧ (s b).calls = [])
    (ih : ∀ b, RunSnd M fi k (forget keep (s b).env) (s b).L Q) : RunSnd M fi (.code (.region id ops false) :: k) env L Q := by
  intro S b a cs fn h1 h2 h3 h4 h5 h6 h7 h8
  let Q' : Exit → Act → World → Prop := fun e a' w' => match e with
    | .normal => ∃ (t : Bool) (S' : St), S'.w = w' ∧ HeapOk S' ∧ Ext S S' ∧ S'.L = (s t).L ∧ TRel S' (s t).env a'.tmps ∧ a'.tmps.size = a.tmps.size ∧ a'.defers = a.defers
    | _ => False
  have hwp : (Code.region id ops false).wp (M.P ()) Q' a S.w := by
    refine wp_region ?_
    have h0 := hr true
    unfold nilRun at h0
    cases ho : ops[i]? with
    | none => simp [ho] at h0
    | some o =>
    cases hs1 : runOps M.P M.inl (fun _ _ _ => none) fi.n ops (fun _ => none) (fun _ => 2) (List.range i) ⟨lift env, L, [], [], []⟩ with
    | none => simp [hs1] at h0
    | some s1 =>
    simp only [ho, hs1] at h0
    cases hd : nilTest M.P s1.env o with
    | none => simp [hd] at h0
    | some d =>
    -- what is behind the test
    have hb : ∀ t, ∃ env1, putE fi.n (some d) [] (.bool t) s1.env = some env1 ∧ runOps M.P M.inl (fun _ _ _ => none) fi.n ops (fun _ => none) (fun _ => 2) ((List.range ops.size).drop (i + 1)) ⟨env1, s1.L, s1.asm, s1.eqs, s1.calls⟩ = some (s t) := by
      intro t
      have ht := hr t
      unfold nilRun at ht
      simp only [ho, hs1, hd] at ht
      split at ht
      · rename_i env1 he; exact ⟨env1, he, ht⟩
      · simp at ht
    have hin : (∀ x ∈ s1.asm, x = true) ∧ s1.eqs = [] ∧ s1.calls = [] := by
      obtain ⟨env1, _, ht⟩ := hb true
      obtain ⟨e2, L2, x, y, z, he, _⟩ := runOps_adds _ ht
      have := hA true
      rw [he] at this
      simp only [List.append_eq_nil_iff] at this
      exact ⟨fun w hw => this.1 w (by simp [hw]), this.2.1.1, this.2.2.1⟩
    have hlt : i < ops.size := (Array.getElem?_eq_some_iff.1 ho).1
    rw [range_split hlt]
    refine text_app _ (List.range i) hs1 hin.1 (by rw [hin.2.1]; simp) (by rw [hin.2.2]; simp) h5 h6 (lift_rel h7) h8 fun S' a' k1 k2 k3 k4 k5 k6 => ?_
    rw [wpOps_cons]
    have hρ : ∀ x, Rel S' (ev s1.env [] x) (a'.eval x) := ev_rel k4 (by intro x hx; simp at hx)
    obtain ⟨n1, n2, t, n3⟩ := nilTest_runs hd (S := S') hρ
    obtain ⟨env1, he, ht⟩ := hb t
    have hc : chainOf ops s1.env o = some (some []) := by unfold chainOf; rw [n1]
    obtain ⟨hco, hw⟩ := chainOf_yes k4 hc
    unfold wpOp
    simp only [ho]
    rw [hw]
    simp only [chainVal, if_true]
    left
    unfold Oper.wp
    rw [n3, Oper.upon_value, n2]
    have hput := put_rel (cv := .bool t) k4 (by rw [k5]; exact h8) hco he (fun _ => .data _ _ (.bool t)) (fun h => by simp [chainVal] at h)
    obtain ⟨p1, p2, p3⟩ := hA t
    refine text_sound _ ht p1 (by rw [p2]; simp) (by rw [p3]; simp) k1 k3 hput (by rw [size_put, k5]; exact h8) fun S'' a'' m1 m2 m3 m4 m5 m6 => ?_
    exact ⟨t, S'', rfl, m1, k2.trans m2, m3, m4, by rw [m5, size_put, k5], by rw [m6]; simpa [Act.put] using k6⟩
  obtain ⟨e, a', w', hq, harr⟩ := hwp b k cs
  cases e with
  | normal =>
    obtain ⟨t, S', rfl, k1, k2, k3, k4, k5, k6⟩ := hq
    obtain ⟨fr, w'', β', cv, v, L', hq, m1, m2, m3, m4, m5, m6⟩ := ih t S' b a' cs fn h1 h2 h3 (k6.trans h4) k1 k3 (forget_rel k4 keep) (by rw [k5]; exact h8)
    rw [k2.base, k2.acc] at m4 m5 m6
    exact ⟨fr, w'', β', cv, v, L', hq, Steps.trans harr m1, m2, m3, m4, k2.trans m5, m6⟩
  | exit => exact hq.elim
  | goto => exact hq.elim
  | ret => exact hq.elim
  | panic => exact hq.elim
  | outgrown => exact hq.elim

theorem both_sound {M : Mach} (hm : (M.P ()).follows .mixedOrders = true) {fi : Fi} {id : Nat} {ops : Array Oper} {env : Vars} {L : Heap} {call : Answer} {ans : Nat → Option Ans} {hot : Bool → Nat → Nat} {keep rs : List Nat} {p : Nat} {e1 : Vars} {L1 : Heap} {asl : List Bool} {qs : List Prop} {cl : List CF}
    (hd : ∀ t, drawOk2 (hot t) ops p = true) (hr : ∀ t, bothRun M.P M.inl call fi.n ops ans (hot t) keep rs p env L t = some (e1, L1, asl, qs, cl)) (hA : ∀ b ∈ asl, b = true) (hQ : ∀ q ∈ qs, q) (hC : ∀ c ∈ cl, c.cond = true → CFSnd M c)
    {S : St} {a : Act} (h5 : HeapOk S) (h6 : S.L = L) (h7 : VRel S env a.tmps) (h8 : fi.n ≤ a.tmps.size) :
    (Code.region id ops true).wp (M.P ()) (fun e a' w' => match e with
      | .normal => ∃ S' : St, S'.w = w' ∧ HeapOk S' ∧ Ext S S' ∧ S'.L = L1 ∧ VRel S' e1 a'.tmps ∧ a'.tmps.size = a.tmps.size ∧ a'.defers = a.defers
      | _ => False) a S.w := by
  refine wp_region_any hm ?_
  obtain ⟨n1, n2⟩ := more_heap h5 (w' := { S.w with drawn := S.w.drawn + 1 }) ⟨rfl, rfl, rfl, Nat.le_refl _, fun _ _ => rfl⟩ (fun _ _ => rfl)
  have hf := hr false
  have ht := hr true
  unfold bothRun at hf ht
  simp only at hf ht
  have hp1 : p + 1 < ops.size := by
    have hd := hd false
    unfold drawOk2 at hd
    simp only [Bool.and_eq_true] at hd
    have := hd.2.1
    cases h : ops[p + 1]? with
    | none => rw [h] at this; simp at this
    | some o => exact (Array.getElem?_eq_some_iff.1 h).1
  split at hf
  · rename_i s1 hs1
    simp only [Option.some.injEq, Prod.mk.injEq] at hf
    obtain ⟨f1, f2, f3, f4, f5⟩ := hf
    split at ht
    · rename_i s2 hs2
      split at ht
      · rename_i e2 K hn hall
        simp only [Option.some.injEq, Prod.mk.injEq] at ht
        obtain ⟨g1, g2, g3, g4, g5⟩ := ht
        subst g1 g2
        have hclosed : ∀ (j : Nat) (o : Oper), ops[j]? = some o → (Array.replicate ops.size false).getD j false = true → ∀ e ∈ o.after, Region.binds .any e = true → (Array.replicate ops.size false).getD e.on false = true := by
          intro j o _ hj
          by_cases hlt : j < ops.size <;> simp [hlt] at hj
        refine draw_two (hd false) (hd true) ops.size (Array.replicate ops.size false) (List.range ops.size) ((List.range ops.size).map (sw p)) (S := ⟨S.base, S.acc, S.L, S.β, { S.w with drawn := S.w.drawn + 1 }⟩)
          ⟨by simp, List.pairwise_lt_range, fun i => ?_, hclosed, hs1⟩ ⟨by simp, ?_, fun i => ?_, hclosed, hs2⟩ (by simp) (by simp)
          (by rw [f3]; exact hA) (by rw [f4]; exact hQ) (by rw [f5]; exact hC) (by rw [g3]; exact hA) (by rw [g4]; exact hQ) (by rw [g5]; exact hC) n1 h6 ((lift_rel h7).mono n2) h8
          (fun S' a' k1 k2 k3 k4 k5 k6 => ⟨S', rfl, k1, n2.trans k2, k3.trans f2, f1 ▸ forget_rel k4 keep, k5, k6⟩)
          (fun S' a' k1 k2 k3 k4 k5 k6 => ?_)
        · simp only [List.mem_range]
          constructor
          · intro h; exact ⟨h, by simp [h]⟩
          · intro h; exact h.1
        · rw [List.pairwise_map]
          exact List.pairwise_lt_range.imp fun h => by rw [sw_sw, sw_sw]; exact h
        · simp only [List.mem_map, List.mem_range]
          constructor
          · rintro ⟨j, h, rfl⟩
            have := (sw_lt (i := j) hp1).2 h
            exact ⟨this, by simp [this]⟩
          · intro h; exact ⟨sw p i, (sw_lt hp1).2 h.1, sw_sw p i⟩
        · unfold narrowIn at hn
          split at hn
          · rename_i rows hrows
            split at hn
            · rename_i hc
              simp only [Option.some.injEq, Prod.mk.injEq] at hn
              obtain ⟨rfl, rfl⟩ := hn
              simp only [Bool.and_eq_true, List.all_eq_true, List.contains_iff_mem] at hc
              obtain ⟨hnd, ha, hcl⟩ := hc
              have hnd := (noDup_iff rs).1 hnd
              simp only [Bool.and_eq_true, List.all_eq_true, List.mem_range] at hall
              rw [← k3] at hrows
              obtain ⟨p1, p2, p3⟩ := perm_ok k1 n1 k2 hrows hnd hcl (fun r hr => by
                have := hall.2 r (by rw [← h6]; exact hr)
                cases h : rs[r]? with
                | none => rw [h] at this; simp at this
                | some q => rw [h] at this; simp only [Nat.beq_eq] at this; rw [this])
              refine ⟨⟨S'.base, S'.acc, rows.map (renRow (posOf rs)), subβ S'.β rs, S'.w⟩, rfl, p1, n2.trans p2, rfl, fun t => ?_, k5, k6⟩
              rw [get_renV]
              exact p3 _ _ (forget_rel k4 keep t) fun r hr => ha r (rows_get hr)
            · simp at hn
          · simp at hn
      · simp at ht
    · simp at ht
  · simp at hf

theorem wp_sound {M : Mach} (hm : (M.P ()).follows .mixedOrders = true) {c : Conf} {Q : AV → Heap → Prop} (h : Wp M c Q) : Means M c Q := by
  induction h with
  | skip _ ih => exact RunSnd.step ih fun b a cs S _ => step_skip
  | seq _ ih => exact RunSnd.step ih fun b a cs S _ => step_seq
  | @cond fi c x y k env L Q t ht _ ih =>
    refine RunSnd.step ih fun b a cs S hV => ?_
    have := vget_rel (a := a) hV c
    rw [ht] at this
    have hc := rel_bool this
    cases t with
    | true => exact step_cond (t := true) hc
    | false => exact step_cond (t := false) hc
  | block _ ih => exact RunSnd.step ih fun b a cs S _ => step_block
  | inBlock _ ih => exact RunSnd.step ih fun b a cs S _ => step_inBlock
  | loop _ ih => exact RunSnd.step ih fun b a cs S _ => step_loop
  | inLoop _ ih => exact RunSnd.step ih fun b a cs S _ => step_inLoop
  | exit he _ ih => exact RunSnd.step ih fun b a cs S _ => step_exit he
  | @region fi id ops draw k env L Q0 call ans hot keep s hd hr hA hQ ho hp _ iho ihp ih =>
    intro S b a cs fn h1 h2 h3 h4 h5 h6 h7 h8
    have hC : ∀ c ∈ s.calls, c.cond = true → CFSnd M c := by
      intro c hc hcc
      unfold CFSnd
      cases hown : c.own with
      | true => exact OwnQ.snd (iho c hc hcc hown)
      | false => exact PureR.snd (ihp c hc hcc hown)
    let Q : Exit → Act → World → Prop := fun e a' w' => match e with
      | .normal => ∃ S' : St, S'.w = w' ∧ HeapOk S' ∧ Ext S S' ∧ S'.L = s.L ∧ TRel S' s.env a'.tmps ∧ a'.tmps.size = a.tmps.size ∧ a'.defers = a.defers
      | _ => False
    have hwp : (Code.region id ops draw).wp (M.P ()) Q a S.w := by
      cases draw with
      | false =>
        exact wp_region (text_sound _ hr hA hQ hC h5 h6 (lift_rel h7) h8 fun S' a' k1 k2 k3 k4 k5 k6 => ⟨S', rfl, k1, k2, k3, k4, k5, k6⟩)
      | true =>
        refine wp_region_any hm ?_
        obtain ⟨n1, n2⟩ := more_heap h5 (w' := { S.w with drawn := S.w.drawn + 1 }) ⟨rfl, rfl, rfl, Nat.le_refl _, fun _ _ => rfl⟩ (fun _ _ => rfl)
        refine draw_sound (hd rfl) ops.size (Array.replicate ops.size false) (List.range ops.size) (S := ⟨S.base, S.acc, S.L, S.β, { S.w with drawn := S.w.drawn + 1 }⟩) (by simp) List.pairwise_lt_range (fun i => ?_) (fun j o _ hj => ?_) (by simp) hr hA hQ hC n1 h6 ((lift_rel h7).mono n2) h8 fun S' a' k1 k2 k3 k4 k5 k6 => ⟨S', rfl, k1, n2.trans k2, k3, k4, k5, k6⟩
        · simp only [List.mem_range]
          constructor
          · intro h; exact ⟨h, by simp [h]⟩
          · intro h; exact h.1
        · by_cases hlt : j < ops.size <;> simp [hlt] at hj
    obtain ⟨e, a', w', hq, harr⟩ := hwp b k cs
    cases e with
    | normal =>
      obtain ⟨S', rfl, k1, k2, k3, k4, k5, k6⟩ := hq
      obtain ⟨fr, w'', β', cv, v, L', hq, m1, m2, m3, m4, m5, m6⟩ := ih S' b a' cs fn h1 h2 h3 (k6.trans h4) k1 k3 (forget_rel k4 keep) (by rw [k5]; exact h8)
      rw [k2.base, k2.acc] at m4 m5 m6
      exact ⟨fr, w'', β', cv, v, L', hq, Steps.trans harr m1, m2, m3, m4, k2.trans m5, m6⟩
    | exit => exact hq.elim
    | goto => exact hq.elim
    | ret => exact hq.elim
    | panic => exact hq.elim
    | outgrown => exact hq.elim
  | @both fi id ops k env L Q0 call ans hot keep rs p e1 L1 asl qs cl hd hr hA hQ ho hp _ iho ihp ih =>
    intro S b a cs fn h1 h2 h3 h4 h5 h6 h7 h8
    have hC : ∀ c ∈ cl, c.cond = true → CFSnd M c := by
      intro c hc hcc
      unfold CFSnd
      cases hown : c.own with
      | true => exact OwnQ.snd (iho c hc hcc hown)
      | false => exact PureR.snd (ihp c hc hcc hown)
    let Q : Exit → Act → World → Prop := fun e a' w' => match e with
      | .normal => ∃ S' : St, S'.w = w' ∧ HeapOk S' ∧ Ext S S' ∧ S'.L = L1 ∧ VRel S' e1 a'.tmps ∧ a'.tmps.size = a.tmps.size ∧ a'.defers = a.defers
      | _ => False
    have hwp : (Code.region id ops true).wp (M.P ()) Q a S.w := both_sound hm hd hr hA hQ hC h5 h6 h7 h8
    obtain ⟨e, a', w', hq, harr⟩ := hwp b k cs
    cases e with
    | normal =>
      obtain ⟨S', rfl, k1, k2, k3, k4, k5, k6⟩ := hq
      obtain ⟨fr, w'', β', cv, v, L', hq, m1, m2, m3, m4, m5, m6⟩ := ih S' b a' cs fn h1 h2 h3 (k6.trans h4) k1 k3 k4 (by rw [k5]; exact h8)
      rw [k2.base, k2.acc] at m4 m5 m6
      exact ⟨fr, w'', β', cv, v, L', hq, Steps.trans harr m1, m2, m3, m4, k2.trans m5, m6⟩
    | exit => exact hq.elim
    | goto => exact hq.elim
    | ret => exact hq.elim
    | panic => exact hq.elim
    | outgrown => exact hq.elim
  | @ret fi k env L v Q hf hq =>
    intro S b a cs fn h1 h2 h3 h4 h5 h6 h7 h8
    subst h6
    obtain ⟨cv, r1, r2⟩ := finish_sound h5 h7 h2 hf
    exact ⟨_, S.w, S.β, cv, v, _, hq, .one step_ret, rfl, ⟨rfl, h4, h3, fn, h1, r1⟩, h5, Ext.refl S, r2⟩
  | @done fi env L v Q hf hq =>
    intro S b a cs fn h1 h2 h3 h4 h5 h6 h7 h8
    subst h6
    obtain ⟨cv, r1, r2⟩ := finish_sound h5 h7 h2 hf
    exact ⟨_, S.w, S.β, cv, v, _, hq, .one step_end, rfl, ⟨rfl, h4, h3, fn, h1, r1⟩, h5, Ext.refl S, r2⟩
  | @own f args L Q fn c hf hb hn _ ih =>
    intro S cargs hS hL hr
    refine ⟨call_runs hf hb hn, fun cs => ?_⟩
    have henter : Frame.enter (M.P ()) f ⟨cargs⟩ .normal =
        ({ (default : Frame) with fn := f, kind := .normal } : Frame).at { tmps := ⟨cargs⟩ ++ Array.replicate (fn.ntmps - (⟨cargs⟩ : Array Value).size) undef, defers := [] } [.code c] := by
      simp [Frame.enter, Frame.at, hf, hb]
    obtain ⟨fr, w', β', cv, v, L', hq, k1, k2, k3, k4, k5, k6⟩ := ih S { (default : Frame) with fn := f, kind := .normal } { tmps := ⟨cargs⟩ ++ Array.replicate (fn.ntmps - (⟨cargs⟩ : Array Value).size) undef, defers := [] } cs fn hf rfl rfl rfl hS hL
      (enter_rel _ hr) (by simp; omega)
    rw [← henter] at k1
    exact ⟨.returned cv, w', fr, ⟨v, L', β', hq, k4, k5, k6⟩, k1, k2, k3⟩
  | @pure f args Q _ ih =>
    intro base acc w cargs hb hac hr
    have hS : HeapOk ⟨base, acc, [], [], w⟩ := ⟨hb, rfl, by simp, by simp, by simp, by simp, by simp, by simp, by simp, by simp, fun b off h => hac b off (Nat.le_trans hb h)⟩
    obtain ⟨k1, k2⟩ := ih ⟨base, acc, [], [], w⟩ cargs hS rfl hr
    refine ⟨k1, Calls.mono k2 fun e w' he => ?_⟩
    cases e with
    | returned cv =>
      obtain ⟨v, L', β', ⟨d, d', hd, hv, hcl, hw, hq⟩, m1, m2, m3⟩ := he
      refine ⟨d', hq, m2.below, weak_rel hw (pure_rel (S := ⟨base, acc, L', β', w'⟩) (S' := ⟨base, acc, [], [], w'⟩) m1 rfl (fun b off hi _ => ?_) v m3 hd hv fun r hr row info q1 q2 off _ _ => ?_)⟩
      · exact ⟨hi.1, by simp⟩
      · exact ⟨m1.acq r info off q2, by simp⟩
    | panicked c => exact he.elim
    | outgrown => exact he.elim
  | @narrow fi k env L Q rs env' Lc hn _ ih => exact narrow_sound hn ih
  | @drop f args L v K hk _ ih => exact drop_sound hk ih
  | @less fi k env L Q ks _ ih => exact fun S b a cs fn h1 h2 h3 h4 h5 h6 h7 h8 => ih S b a cs fn h1 h2 h3 h4 h5 h6 (keepV_rel h7 ks) h8
  | @nilq fi id ops k env L Q i keep s hr hA _ ih => exact nil_sound hr hA ih
  | @mono c Q Q' _ hq ih =>
    cases c with
    | run fi todo env L =>
      intro S b a cs fn h1 h2 h3 h4 h5 h6 h7 h8
      obtain ⟨fr, w', β', cv, v, L', hqq, k⟩ := ih S b a cs fn h1 h2 h3 h4 h5 h6 h7 h8
      exact ⟨fr, w', β', cv, v, L', hq v L' hqq, k⟩
    | own f args L =>
      intro S cargs h1 h2 h3
      obtain ⟨k1, k2⟩ := ih S cargs h1 h2 h3
      refine ⟨k1, Calls.mono k2 fun e w' he => ?_⟩
      cases e with
      | returned cv =>
        obtain ⟨v, L', β', hqq, m⟩ := he
        exact ⟨v, L', β', hq v L' hqq, m⟩
      | panicked c => exact he.elim
      | outgrown => exact he.elim
    | pure f args =>
      intro base acc w cargs h1 h2 h3
      obtain ⟨k1, k2⟩ := ih base acc w cargs h1 h2 h3
      refine ⟨k1, Calls.mono k2 fun e w' he => ?_⟩
      cases e with
      | returned cv =>
        obtain ⟨d, hqq, m⟩ := he
        exact ⟨d, hq d [] hqq, m⟩
      | panicked c => exact he.elim
      | outgrown => exact he.elim
  | @weak f args v d _ hw ih =>
    intro base acc w cargs hb hac hr
    obtain ⟨k1, k2⟩ := ih base acc w cargs hb hac hr
    refine ⟨k1, Calls.mono k2 fun e w' he => ?_⟩
    cases e with
    | returned cv =>
      obtain ⟨d0, ⟨rfl, _⟩, m1, m2⟩ := he
      exact ⟨d, ⟨rfl, rfl⟩, m1, weak_rel hw m2⟩
    | panicked c => exact he.elim
    | outgrown => exact he.elim

/-- What a call's answer means. -/
theorem ev_sound {M : Mach} (hm : (M.P ()).follows .mixedOrders = true) {f : FuncId} {args : List AV} {v : AV} (h : Ev M (.pure f args) v []) : PureSnd M f args v :=
  PureR.snd (wp_sound hm h)
end Go.Av

/- THE ARGUMENTS OF A STATEMENT, read as trees. No program in sight. -/
namespace Go.Av
open Go.RowKit Go.WideShapes Go.ChangeShapes

/-- The parts of a row of fields. -/
def TyL (R : TypeId → List AV → Prop) : List TypeId → List AV → Prop
  | [], cs => cs = []
  | t :: ts, cs => ∃ a b, cs = a ++ b ∧ R t a ∧ TyL R ts b

def aggT (P : Program) (t : TypeId) : Bool :=
  match P.underlying t with
  | some (.struct _) | some (.array _ _) => true
  | _ => false

def packA (P : Program) (t : TypeId) (cs : List AV) : AV := if aggT P t = true then .agg cs else cs.headD .any

/-- The cells of a value of type t. -/
def Ty (P : Program) : Nat → TypeId → List AV → Prop
  | 0, _, _ => False
  | n + 1, t, cs =>
    match P.underlying t with
    | some .bool => ∃ b, cs = [.bool b]
    | some (.int k) => ∃ m, cs = [.int k m] ∧ k.min ≤ m ∧ m ≤ k.max
    | some .string => ∃ s, cs = [.str s] ∧ s.length ≤ maxLen
    | some (.slice e) => ∃ xs, cs = [.vec false (P.cellsOf e) xs] ∧ xs.length ≤ maxLen ∧ ∀ x ∈ xs, ∃ ys, Ty P n e ys ∧ x = packA P e ys
    | some (.struct fs) => TyL (Ty P n) (fs.toList.map (·.type)) cs
    | some (.array m e) => TyL (Ty P n) (List.replicate m e) cs
    | _ => False

/-- The fields lie one behind the other. -/
def laidFrom (P : Program) : Nat → List Field → Nat → Bool
  | off, [], n => off == n
  | off, f :: fs, n => f.offset == off && laidFrom P (off + P.cellsOf f.type) fs n

def served (P : Program) : Nat → TypeId → Bool
  | 0, _ => false
  | n + 1, t =>
    match P.underlying t with
    | some .bool | some (.int _) | some .string => P.cellsOf t == 1
    | some (.slice e) => P.cellsOf t == 1 && served P n e && Nat.blt 0 (P.cellsOf e)
    | some (.struct fs) => (fs.toList.all fun f => served P n f.type) && laidFrom P 0 fs.toList (P.cellsOf t)
    | some (.array m e) => served P n e && P.cellsOf t == m * P.cellsOf e
    | _ => false

def S0 (w : World) : St := ⟨w.heap.size, fun _ _ => True, [], [], w⟩

structure RelD (w : World) (axs : List AV) (cs : List Value) : Prop where
  len : axs.length = cs.length
  plain : axs.all AV.plain = true
  rel : ∀ (i : Nat) a c, axs[i]? = some a → cs[i]? = some c → DRel (S0 w) a c

theorem RelD.append {w : World} {axs bs : List AV} {cs ds : List Value} (h : RelD w axs cs) (k : RelD w bs ds) : RelD w (axs ++ bs) (cs ++ ds) := by
  refine ⟨by simp [h.len, k.len], by simp [List.all_append, h.plain, k.plain], fun i a c ha hc => ?_⟩
  by_cases hi : i < axs.length
  · rw [List.getElem?_append_left hi] at ha
    rw [List.getElem?_append_left (by rw [← h.len]; exact hi)] at hc
    exact h.rel i a c ha hc
  · rw [List.getElem?_append_right (by omega)] at ha
    rw [List.getElem?_append_right (by have := h.len; omega), ← h.len] at hc
    exact k.rel _ a c ha hc

theorem RelD.one {w : World} {a : AV} {c : Value} (hp : a.plain = true) (h : DRel (S0 w) a c) : RelD w [a] [c] :=
  ⟨rfl, by simp [hp], fun i x y hx hy => by cases i with
    | zero => simp at hx hy; subst hx; subst hy; exact h
    | succ i => simp at hx⟩

/-- A list whose elements are all had. -/
theorem list_of {α : Type} {R : Nat → α → Prop} : ∀ (n : Nat), (∀ i, i < n → ∃ x, R i x) → ∃ xs : List α, xs.length = n ∧ ∀ (i : Nat) x, xs[i]? = some x → R i x
  | 0, _ => ⟨[], rfl, by simp⟩
  | n + 1, h => by
    obtain ⟨xs, h1, h2⟩ := list_of n (fun i hi => h i (by omega))
    obtain ⟨x, hx⟩ := h n (by omega)
    refine ⟨xs ++ [x], by simp [h1], fun i y hy => ?_⟩
    by_cases hi : i < xs.length
    · rw [List.getElem?_append_left hi] at hy; exact h2 i y hy
    · rw [List.getElem?_append_right (by omega)] at hy
      have : i = n := by
        have := (List.getElem?_eq_some_iff.1 hy).1
        simp at this; omega
      subst this
      rw [h1] at hy
      simp at hy; subst hy; exact hx

section
variable {H : Type} {enc : TypeId × Value → H} {P : Program} {w : World} {sp : Nat → Bool} {held : Bool}

theorem read_parts {R : TypeId → List AV → Prop} : ∀ (fs : List Field) (off : Nat) (cs : List Value), laidFrom P off fs cs.length = true →
    (∀ f ∈ fs, ∃ axs, R f.type axs ∧ RelD w axs ((cs.drop f.offset).take (P.cellsOf f.type)) ∧ ((cs.drop f.offset).take (P.cellsOf f.type)).length = P.cellsOf f.type) →
    ∃ axs, TyL R (fs.map (·.type)) axs ∧ RelD w axs (cs.drop off)
  | [], off, cs, hl, _ => by
    simp only [laidFrom, beq_iff_eq] at hl
    refine ⟨[], rfl, ?_⟩
    rw [List.drop_eq_nil_of_le (by omega)]
    exact ⟨rfl, rfl, by simp⟩
  | f :: fs, off, cs, hl, h => by
    simp only [laidFrom, Bool.and_eq_true, beq_iff_eq] at hl
    obtain ⟨rfl, hl⟩ := hl
    obtain ⟨axs, h1, h2, h3⟩ := h f (List.mem_cons_self ..)
    obtain ⟨bs, k1, k2⟩ := read_parts fs _ cs hl (fun g hg => h g (List.mem_cons_of_mem _ hg))
    refine ⟨axs ++ bs, ⟨axs, bs, rfl, h1, k1⟩, ?_⟩
    have := h2.append k2
    rwa [← List.drop_drop, List.take_append_drop] at this

theorem read_same {R : TypeId → List AV → Prop} {e : TypeId} {z : Nat} : ∀ (m : Nat) (cs : List Value), cs.length = m * z →
    (∀ i, i < m → ∃ axs, R e axs ∧ RelD w axs ((cs.drop (i * z)).take z)) → ∃ axs, TyL R (List.replicate m e) axs ∧ RelD w axs cs
  | 0, cs, hl, _ => by
    have : cs = [] := List.length_eq_zero_iff.1 (by simpa using hl)
    subst this
    exact ⟨[], rfl, rfl, rfl, by simp⟩
  | m + 1, cs, hl, h => by
    obtain ⟨axs, h1, h2⟩ := h 0 (by omega)
    simp only [Nat.zero_mul, List.drop_zero] at h2
    obtain ⟨bs, k1, k2⟩ := read_same (R := R) (e := e) (z := z) m (cs.drop z) (by simp [hl, Nat.add_mul]) fun i hi => by
      obtain ⟨axs, q1, q2⟩ := h (i + 1) (by omega)
      refine ⟨axs, q1, ?_⟩
      rw [List.drop_drop]
      have : z + i * z = (i + 1) * z := by rw [Nat.add_mul]; omega
      rw [this]; exact q2
    refine ⟨axs ++ bs, ⟨axs, bs, rfl, h1, k1⟩, ?_⟩
    have := h2.append k2
    rwa [List.take_append_drop] at this

theorem read_cells : ∀ (n : Nat) (t : TypeId) (cs : List Value) (x : DataW H × List MemPlace) (fuel : Nat), served P n t = true → DataW.trod enc P w 0 sp held fuel t cs = some x →
    ∃ axs, Ty P n t axs ∧ RelD w axs cs ∧ cs.length = P.cellsOf t
  | 0, t, cs, x, fuel, hs, _ => by simp [served] at hs
  | n + 1, t, cs, x, fuel, hs, hx => by
    unfold served at hs
    unfold Ty
    split at hs
    · rename_i hu
      try simp only [hu]
      obtain ⟨b, rfl, _⟩ := DataW.trod_bool hu hx
      exact ⟨[.bool b], ⟨b, rfl⟩, .one rfl (.bool b), by simp only [beq_iff_eq] at hs; exact hs.symm⟩
    · rename_i k hu
      try simp only [hu]
      obtain ⟨m, rfl, _, hw⟩ := DataW.trod_int hu hx
      simp only [Lit.wf, Bool.and_eq_true, decide_eq_true_eq] at hw
      exact ⟨[.int k m], ⟨m, rfl, hw.1, hw.2⟩, .one rfl (.int k m), by simp only [beq_iff_eq] at hs; exact hs.symm⟩
    · rename_i hu
      try simp only [hu]
      obtain ⟨s, rfl, _, hw⟩ := DataW.trod_string hu hx
      obtain ⟨⟨l⟩⟩ := s
      exact ⟨[.str l], ⟨l, rfl, hw⟩, .one rfl (.str l), by simp only [beq_iff_eq] at hs; exact hs.symm⟩
    · rename_i e hu
      try simp only [hu]
      simp only [Bool.and_eq_true, beq_iff_eq, Nat.blt_eq] at hs
      obtain ⟨⟨hs1, hs2⟩, hs3⟩ := hs
      rcases DataW.trod_slice hu hx with ⟨rfl, _⟩ | ⟨a, len, cap, elems, rest, m, _, rfl, _, _, hlc, hcm, hel, hall, _, _⟩
      · exact ⟨[.vec false (P.cellsOf e) []], ⟨[], rfl, by simp, by simp⟩, .one rfl (.vecE _ _ _ _ (by simp)), hs1.symm⟩
      · have hget : ∀ i, i < len → ∃ x : AV, ∃ ys cs', Ty P n e ys ∧ x = packA P e ys ∧ RelD w ys cs' ∧ cs'.length = P.cellsOf e ∧ w.cells? 0 (a.add (i * P.cellsOf e)) (P.cellsOf e) = some cs' := by
          intro i hi
          have h1 := hall i hi
          rw [List.getElem?_eq_getElem (by omega)] at h1
          obtain ⟨cs', h2, h3⟩ := Option.bind_eq_some_iff.1 h1
          obtain ⟨ys, k1, k2, k3⟩ := read_cells n e cs' _ m hs2 h3
          exact ⟨_, ys, cs', k1, rfl, k2, k3, h2⟩
        obtain ⟨xs, hxl, hxs⟩ := list_of len hget
        have hpack : ∀ {ys : List AV} {cs' : List Value}, Ty P n e ys → RelD w ys cs' → cs'.length = P.cellsOf e → (packA P e ys).cells = ys := by
          intro ys cs' hty hrd hl
          unfold packA
          split
          · rfl
          · rename_i hagg
            -- a single cell
            have h1 : ∃ y, ys = [y] := by
              cases n with
              | zero => simp [served] at hs2
              | succ n =>
                unfold Ty at hty
                unfold aggT at hagg
                split at hty
                · obtain ⟨b, rfl⟩ := hty; exact ⟨_, rfl⟩
                · obtain ⟨b, rfl, _⟩ := hty; exact ⟨_, rfl⟩
                · obtain ⟨b, rfl, _⟩ := hty; exact ⟨_, rfl⟩
                · obtain ⟨b, rfl, _⟩ := hty; exact ⟨_, rfl⟩
                · rename_i hu'; simp [hu'] at hagg
                · rename_i hu'; simp [hu'] at hagg
                · exact hty.elim
            obtain ⟨y, rfl⟩ := h1
            have := hrd.plain
            simp only [List.all_cons, List.all_nil, Bool.and_true] at this
            simp only [List.headD_cons]
            cases y <;> first | rfl | simp [AV.plain] at this
        have hok : okElems (P.cellsOf e) xs := by
          intro i x hix
          obtain ⟨ys, cs', k1, rfl, k3, k4, _⟩ := hxs i x hix
          rw [hpack k1 k3 k4]
          exact ⟨k3.len.trans k4, k3.plain⟩
        refine ⟨[.vec false (P.cellsOf e) xs], ⟨xs, rfl, by omega, fun x hx => ?_⟩, .one rfl ?_, hs1.symm⟩
        · obtain ⟨i, hi⟩ := List.getElem?_of_mem hx
          obtain ⟨ys, cs', k1, k2, _⟩ := hxs i x hi
          exact ⟨ys, k1, k2⟩
        · subst hxl
          cases hxe : xs with
          | nil => exact .vecE _ _ _ _ (by simp)
          | cons x0 xs0 =>
            obtain ⟨b, off, spot⟩ := a
            have hlen0 : 0 < xs.length := by rw [hxe]; simp
            obtain ⟨ys0, cs0, _, _, _, z4, z5⟩ := hxs 0 xs[0] (List.getElem?_eq_getElem hlen0)
            obtain ⟨_, _, z6⟩ := World.cells?_some z5
            have z7 := z6 0 hs3
            rw [List.getElem?_eq_getElem (by omega)] at z7
            have hspot : spot = none := by simpa [Addr.add] using World.cell?_spot z7
            subst hspot
            have hcell : ∀ (i : Nat) x (k : Nat) c, xs[i]? = some x → x.cells[k]? = some c → ∃ cv, w.cell? ⟨b, off + i * P.cellsOf e + k, none⟩ = some cv ∧ DRel (S0 w) c cv := by
              intro i x k c hix hk
              obtain ⟨ys, cs', k1, rfl, k3, k4, k5⟩ := hxs i x hix
              rw [hpack k1 k3 k4] at hk
              obtain ⟨_, _, k6⟩ := World.cells?_some k5
              have hkl : k < ys.length := (List.getElem?_eq_some_iff.1 hk).1
              have hkc : k < cs'.length := by rw [← k3.len]; exact hkl
              have h1 := k6 k (by omega)
              rw [List.getElem?_eq_getElem hkc] at h1
              rw [addr_add, addr_add] at h1
              exact ⟨_, h1, k3.rel k c _ hk (List.getElem?_eq_getElem hkc)⟩
            rw [← hxe]
            refine .vec false (P.cellsOf e) xs b off cap hok (by simp) hlc (fun i x k c hix hk => ?_) (fun i x k c cv hix hk hcv => ?_)
            · obtain ⟨cv, h1, _⟩ := hcell i x k c hix hk
              exact ⟨⟨cv, h1⟩, ⟨trivial, by simp [S0]⟩⟩
            · obtain ⟨cv', h1, h2⟩ := hcell i x k c hix hk
              have : cv' = cv := by
                have h3 : w.cell? ⟨b, off + i * P.cellsOf e + k, none⟩ = some cv := hcv
                rw [h1] at h3; exact Option.some.inj h3
              subst this; exact h2
    · rename_i fs hu
      try simp only [hu]
      simp only [Bool.and_eq_true, List.all_eq_true] at hs
      obtain ⟨hs1, hs2⟩ := hs
      obtain ⟨xs, m, _, _, hl, hxl, hf⟩ := DataW.trod_struct hu hx
      obtain ⟨axs, k1, k2⟩ := read_parts (P := P) (w := w) (R := Ty P n) fs.toList 0 cs (by rw [hl]; exact hs2) fun f hfm => by
        obtain ⟨i, hi⟩ := List.getElem?_of_mem hfm
        have hi' : fs[i]? = some f := by simpa using hi
        have h1 := hf i f hi'
        have hilt : i < xs.length := by rw [hxl]; exact (Array.getElem?_eq_some_iff.1 hi').1
        rw [List.getElem?_eq_getElem hilt] at h1
        obtain ⟨axs, q1, q2, q3⟩ := read_cells n f.type _ _ m (hs1 f hfm) h1
        exact ⟨axs, q1, q2, q3⟩
      exact ⟨axs, k1, by simpa using k2, hl⟩
    · rename_i m e hu
      try simp only [hu]
      simp only [Bool.and_eq_true, beq_iff_eq] at hs
      obtain ⟨hs1, hs2⟩ := hs
      obtain ⟨xs, q, _, _, hl, hxl, hf⟩ := DataW.trod_array hu hx
      obtain ⟨axs, k1, k2⟩ := read_same (w := w) (R := Ty P n) (e := e) (z := P.cellsOf e) m cs (by rw [hl, hs2]) fun i hi => by
        have h1 := hf i hi
        rw [List.getElem?_eq_getElem (by omega)] at h1
        obtain ⟨axs, q1, q2, _⟩ := read_cells n e _ _ q hs1 h1
        exact ⟨axs, q1, q2⟩
      exact ⟨axs, k1, k2, hl⟩
    · simp at hs

/-- An argument. -/
theorem read_arg {n : Nat} {t : TypeId} {v : Value} {d : DataW H} {ps : List MemPlace} {r : Reach} {b0 : Nat} (hs : served P n t = true) (hval : Value.okWide P w r b0 t v) (hd : DataW.Trod enc P w 0 sp held t v d ps) :
    ∃ axs, Ty P n t axs ∧ DRel (S0 w) (packA P t axs) v := by
  obtain ⟨fuel, hf⟩ := hd
  obtain ⟨axs, h1, h2, h3⟩ := read_cells n t _ _ fuel hs hf
  refine ⟨axs, h1, ?_⟩
  unfold packA
  cases n with
  | zero => simp [served] at hs
  | succ n =>
    have one : v.cells = #[v] → (∃ a, axs = [a]) → DRel (S0 w) (axs.headD .any) v := by
      rintro hc ⟨a, rfl⟩
      exact h2.rel 0 a v rfl (by rw [hc]; rfl)
    unfold Ty at h1
    unfold aggT
    split at h1
    · rename_i hu
      obtain ⟨b, rfl⟩ := h1
      obtain ⟨b', rfl⟩ := okWide_bool hu hval
      simp only [hu, Bool.false_eq_true, if_false]
      exact one rfl ⟨_, rfl⟩
    · rename_i hu
      obtain ⟨b, rfl, _⟩ := h1
      obtain ⟨b', rfl⟩ := okWide_int hu hval
      simp only [hu, Bool.false_eq_true, if_false]
      exact one rfl ⟨_, rfl⟩
    · rename_i hu
      obtain ⟨b, rfl, _⟩ := h1
      obtain ⟨b', rfl⟩ := okWide_string hu hval
      simp only [hu, Bool.false_eq_true, if_false]
      exact one rfl ⟨_, rfl⟩
    · rename_i hu
      obtain ⟨b, rfl, _⟩ := h1
      obtain ⟨b1, b2, b3, rfl⟩ := okWide_slice hu hval
      simp only [hu, Bool.false_eq_true, if_false]
      exact one rfl ⟨_, rfl⟩
    · rename_i fs hu
      obtain ⟨cs, rfl, _⟩ := okWide_struct hu hval
      simp only [hu, if_true]
      obtain ⟨cs⟩ := cs
      exact .agg axs cs h2.len h2.rel
    · rename_i m e hu
      have : ∃ cs, v = .agg cs := by
        unfold Value.okWide at hval
        rw [hu] at hval
        obtain ⟨cs, rfl, _⟩ := hval
        exact ⟨cs, rfl⟩
      obtain ⟨⟨cs⟩, rfl⟩ := this
      simp only [hu, if_true]
      exact .agg axs cs h2.len h2.rel
    · exact h1.elim
end

theorem ty_struct {P : Program} {n : Nat} {t : TypeId} {fs : Array Field} {cs : List AV} (hu : P.underlying t = some (.struct fs)) (h : Ty P (n + 1) t cs) : TyL (Ty P n) (fs.toList.map (·.type)) cs := by
  unfold Ty at h; rw [hu] at h; exact h
theorem ty_int {P : Program} {n : Nat} {t : TypeId} {k : IntKind} {cs : List AV} (hu : P.underlying t = some (.int k)) (h : Ty P (n + 1) t cs) : ∃ m, cs = [.int k m] ∧ k.min ≤ m ∧ m ≤ k.max := by
  unfold Ty at h; rw [hu] at h; exact h
theorem ty_bool {P : Program} {n : Nat} {t : TypeId} {cs : List AV} (hu : P.underlying t = some .bool) (h : Ty P (n + 1) t cs) : ∃ b, cs = [.bool b] := by
  unfold Ty at h; rw [hu] at h; exact h

theorem list_form {τ : Type} {enc : τ → AV} : ∀ (xs : List AV), (∀ x ∈ xs, ∃ a, x = enc a) → ∃ X : List τ, xs = X.map enc
  | [], _ => ⟨[], rfl⟩
  | x :: xs, h => by
    obtain ⟨a, rfl⟩ := h x (List.mem_cons_self ..)
    obtain ⟨X, rfl⟩ := list_form xs fun y hy => h y (List.mem_cons_of_mem _ hy)
    exact ⟨a :: X, rfl⟩

theorem ty_list {P : Program} {τ : Type} {enc : τ → AV} {n : Nat} {t e : TypeId} {cs : List AV} (hu : P.underlying t = some (.slice e)) (he : ∀ ys, Ty P n e ys → ∃ a, packA P e ys = enc a) (h : Ty P (n + 1) t cs) :
    ∃ X : List τ, cs = [.vec false (P.cellsOf e) (X.map enc)] ∧ X.length ≤ maxLen := by
  simp only [Ty, hu] at h
  obtain ⟨xs, rfl, hl, hx⟩ := h
  obtain ⟨X, rfl⟩ := list_form (enc := enc) xs fun x hxm => by
    obtain ⟨ys, h1, rfl⟩ := hx x hxm
    obtain ⟨a, ha⟩ := he ys h1
    exact ⟨a, ha⟩
  exact ⟨X, rfl, by simpa using hl⟩

theorem ty_str {P : Program} {n : Nat} {t : TypeId} {cs : List AV} (hu : P.underlying t = some .string) (h : Ty P (n + 1) t cs) : ∃ s, cs = [.str s] ∧ s.length ≤ maxLen := by
  simpa only [Ty, hu] using h
end Go.Av

/- FROM THE EVALUATION RELATION TO A GIVEN STATEMENT. -/
namespace Go.Av
open Go.RowKit Go.WideShapes Go.ChangeShapes

section
variable {H : Type} {enc : TypeId × Value → H} {P : Program}

theorem all_stays (hl : laidOutB P = true) {W W' : World} {sp : Nat → Bool} (hb : Below W.heap.size W W') : ∀ (ts : List TypeId) (vs : List Value) (ds : List (DataW H)) (ps : List MemPlace),
    (∀ t ∈ ts, P.readableRec t = true ∧ t < P.types.size) → (∀ x ∈ ps, x.block < W.heap.size) → (∀ x ∈ ps, sp x.block = true) → DataW.TrodAll enc P W 0 (fun _ => true) true ts vs ds ps → DataW.TrodAll enc P W' 0 sp true ts vs ds ps
  | [], vs, ds, ps, _, _, _, h => by
    obtain ⟨rfl, rfl, rfl⟩ := trodAll_nil h
    rfl
  | t :: ts, vs, ds, ps, ht, hlt, hsp, h => by
    obtain ⟨v, vs, d, ds, p, q, rfl, rfl, rfl, h1, h2⟩ := trodAll_cons h
    obtain ⟨r1, r2⟩ := ht t (List.mem_cons_self ..)
    exact ⟨p, q, WideElems.Trod_stays hl r1 r2 h1 (fun x hx => hb.same (hlt x (by simp [hx]))) (fun x hx => hsp x (by simp [hx])),
      all_stays hl hb ts vs ds q (fun t ht' => ht t (List.mem_cons_of_mem _ ht')) (fun x hx => hlt x (by simp [hx])) (fun x hx => hsp x (by simp [hx])) h2, rfl⟩

theorem args_read {W : World} {n base : Nat} : ∀ (ts : List TypeId) (vs : List Value) (ds : List (DataW H)) (ps : List MemPlace), (∀ t ∈ ts, served P n t = true) →
    (∀ (j : Nat) t v, ts[j]? = some t → vs[j]? = some v → Value.okWide P W .any base t v) → DataW.TrodAll enc P W 0 (fun _ => true) true ts vs ds ps →
    ∃ ass : List (List AV), ass.length = ts.length ∧ (∀ (j : Nat) t bs, ts[j]? = some t → ass[j]? = some bs → Ty P n t bs) ∧ RelL (S0 W) ((ts.zip ass).map fun x => packA P x.1 x.2) vs ∧ ds.length = ts.length
  | [], vs, ds, ps, _, _, h => by
    obtain ⟨rfl, rfl, rfl⟩ := trodAll_nil h
    exact ⟨[], rfl, by simp, .nil _, rfl⟩
  | t :: ts, vs, ds, ps, hs, hv, h => by
    obtain ⟨v, vs, d, ds, p, q, rfl, rfl, rfl, h1, h2⟩ := trodAll_cons h
    obtain ⟨bs, k1, k2⟩ := read_arg (hs t (List.mem_cons_self ..)) (hv 0 t v rfl rfl) h1
    obtain ⟨ass, m1, m2, m3, m4⟩ := args_read ts vs ds q (fun t ht => hs t (List.mem_cons_of_mem _ ht)) (fun j t v hj hv' => hv (j + 1) t v (by simpa using hj) (by simpa using hv')) h2
    refine ⟨bs :: ass, by simp [m1], fun j t' bs' hj ha => ?_, .cons (.data _ _ k2) m3, by simp [m4]⟩
    cases j with
    | zero => simp at hj ha; subst hj; subst ha; exact k1
    | succ j => exact m2 j t' bs' (by simpa using hj) (by simpa using ha)

/-- A statement of this form: for every input its function returns true; the input reads as it did. -/
theorem law_post {M : Mach} (hP : M.P () = P) (hm : P.follows .mixedOrders = true) (hl : laidOutB P = true) {f : FuncId} {F : Func} {s : ChangeSpec} {n : Nat} {tb : TypeId} (hvars : s.vars = []) (hrt : F.resultTypes = #[tb]) (htb : P.underlying tb = some .bool)
    (hserved : ∀ t ∈ F.params.toList, served P n t = true ∧ P.readableRec t = true ∧ t < P.types.size)
    (hs : ∀ (ds : List (DataW H)), ds.length = F.params.toList.length → s.fn H ds = { results := [.lit (.bool true)], args := ds })
    (hev : ∀ ass : List (List AV), ass.length = F.params.toList.length → (∀ (j : Nat) t bs, F.params.toList[j]? = some t → ass[j]? = some bs → Ty P n t bs) →
      Ev M (.pure f ((F.params.toList.zip ass).map fun x => packA P x.1 x.2)) (.bool true) [])
    {apart handsOn : Bool} {W : World} {base : Nat} {args : Array Value} {ds gs : List (DataW H)} {before : List MemPlace}
    (hval : ∀ (j : Nat) t v, F.params[j]? = some t → args[j]? = some v → Value.okWide P W .any base t v) (hW : DataW.Whole enc P F.params.toList s.vars apart W args.toList ds gs before) :
    Calls P f args W fun e W' => ∃ v, e = .returned v ∧ s.post enc P F apart true handsOn false W args v W' := by
  have hW' := hW
  obtain ⟨p, q, hA, hV, rfl, hfz, hnd⟩ := hW
  rw [hvars] at hV
  obtain ⟨rfl, rfl⟩ := trodVars_none hV
  obtain ⟨ass, k1, k2, k3, k4⟩ := args_read F.params.toList args.toList ds p (fun t ht => (hserved t ht).1) (fun j t v hj hv => hval j t v (by simpa using hj) (by simpa using hv)) hA
  have hlt : ∀ x ∈ p, x.block < W.heap.size := fun x hx => by simpa using hW'.lt x (by simpa using hx)
  obtain ⟨_, h2⟩ := (ev_sound (M := M) (by rw [hP]; exact hm) (hev ass k1 k2) : PureSnd M f _ _) W.heap.size (fun _ _ => True) W args.toList (Nat.le_refl _) (fun _ _ _ => trivial) k3
  rw [hP] at h2
  refine Calls.mono h2 fun e W' he => ?_
  cases e with
  | returned cv =>
    obtain ⟨hb, hd⟩ := he
    cases hd
    have hpl : ∀ x ∈ p, decide (x.block < W.heap.size) = true := fun x hx => by simpa using hlt x hx
    refine ⟨_, rfl, ds, [], p ++ [], [], p, [], hW', ?_, ?_, ?_, hb.frame _, fun h => by simp at h⟩
    · rw [List.append_nil, hs ds k4, hrt]
      exact trodAll_mk1 (shut_bool htb true)
    · rw [List.append_nil, hs ds k4]
      exact all_stays hl hb _ _ _ _ (fun t ht => (hserved t ht).2) hlt hpl hA
    · rw [List.append_nil, hs ds k4, hvars]; rfl
  | panicked c => exact he.elim
  | outgrown => exact he.elim
end
end Go.Av

/- ROWS THAT ARE NO LONGER LED TO: a run goes on without them. No program in sight. -/
namespace Go.Av

/-- A result that leads to no row: what is read off at the end. -/
def PureQ (d : AV) : AV → Heap → Prop := fun v L => ∃ d0, pureA L v = some d0 ∧ allB (versA L v) ∧ d0.clean = true ∧ Weak d0 d

theorem pq_of {L : Heap} {v d dq : AV} {bs : List Bool} (h1 : pureA L v = some d) (h2 : versA L v = bs) (h3 : allB bs) (h4 : d.clean = true) (h : d = dq) : PureQ dq v L := ⟨d, h1, by rw [h2]; exact h3, h4, by rw [h]; exact .refl _⟩
theorem pq_weak {L : Heap} {v d dq : AV} {bs : List Bool} (h1 : pureA L v = some d) (h2 : versA L v = bs) (h3 : allB bs) (h4 : d.clean = true) (h : Weak d dq) : PureQ dq v L := ⟨d, h1, by rw [h2]; exact h3, h4, h⟩
theorem pure_pq {M : Mach} {f : FuncId} {args : List AV} {d : AV} (fn : Func) (fi : Fi) (hf : (M.P ()).funcs[f]? = some fn) (hb : fn.body = some (cd fn)) (hn : (fn.name == "runtime.NumGoroutine") = false)
    (hi : (⟨fn.ntmps, fn.results.toList⟩ : Fi) = fi) (h : Wp M (.run fi [.code (cd fn)] (argVars 0 args) []) (PureQ d)) : Ev M (.pure f args) d [] :=
  .pure (.mono (own_wp fn fi hf hb hn hi h) fun _ _ ⟨d0, h1, h2, h3, h4⟩ => ⟨d0, d, h1, (allB_iff _).1 h2, h3, h4, rfl, rfl⟩)

mutual
theorem clean_ren (f : Nat → Nat) : ∀ (a : AV), a.clean = true → renA f a = a
  | .any, h => by simp [AV.clean] at h
  | .bool _, _ => rfl
  | .int _ _, _ => rfl
  | .str _, _ => rfl
  | .nilp, _ => rfl
  | .nilf, _ => rfl
  | .nilm, _ => rfl
  | .mapr _, h => by simp [AV.clean] at h
  | .vnil, _ => rfl
  | .eptr .., _ => rfl
  | .vec .., _ => rfl
  | .ptr .., h => by simp [AV.clean] at h
  | .row .., h => by simp [AV.clean] at h
  | .ref .., h => by simp [AV.clean] at h
  | .agg cs, h => by simp only [renA, cleanL_ren f cs (by simpa [AV.clean] using h)]
  | .tup cs, h => by simp only [renA, cleanL_ren f cs (by simpa [AV.clean] using h)]
  | .func fn a b, h => by
    simp only [AV.clean, Bool.and_eq_true] at h
    simp only [renA, cleanL_ren f a h.1, cleanL_ren f b h.2]
theorem cleanL_ren (f : Nat → Nat) : ∀ (l : List AV), cleanL l = true → renL f l = l
  | [], _ => rfl
  | c :: l, h => by
    simp only [cleanL, Bool.and_eq_true] at h
    simp only [renL, clean_ren f c h.1, cleanL_ren f l h.2]
end

mutual
theorem pureA_ren {L K : Heap} {f : Nat → Nat} (hb : ∀ (r : Nat) row, L[r]? = some row → K[f r]? = some (renRow f row)) : ∀ (a : AV) {d : AV}, pureA L a = some d → pureA K (renA f a) = some d ∧ versA K (renA f a) = versA L a
  | .any, _, h => by simp [pureA] at h
  | .bool b, _, h => ⟨h, rfl⟩
  | .int k n, _, h => ⟨h, rfl⟩
  | .str s, _, h => ⟨h, rfl⟩
  | .nilp, _, h => ⟨h, rfl⟩
  | .nilf, _, h => ⟨h, rfl⟩
  | .nilm, _, h => ⟨h, rfl⟩
  | .mapr _, _, h => by simp [pureA] at h
  | .vnil, _, h => ⟨h, rfl⟩
  | .eptr .., _, h => ⟨h, rfl⟩
  | .vec .., _, h => ⟨h, rfl⟩
  | .row r v, _, h => by
    cases hr : L[r]? with
    | none => simp [pureA, hr] at h
    | some row =>
      have h2 := hb r row hr
      obtain ⟨_, s2, _, _, _⟩ := renRow_spec f row
      simp only [pureA, hr] at h
      split at h
      · rename_i hc
        have e : renRow f row = row := by simp [renRow, hc]
        exact ⟨by simp only [renA, pureA, h2, e, hc, if_true]; exact h, by simp only [renA, versA, verOk, h2, hr, s2]⟩
      · simp at h
  | .ref r v lo len, _, h => by
    cases hr : L[r]? with
    | none => simp [pureA, hr] at h
    | some row =>
      have h2 := hb r row hr
      obtain ⟨_, s2, _, _, _⟩ := renRow_spec f row
      simp only [pureA, hr] at h
      split at h
      · rename_i hc
        have e : renRow f row = row := by simp [renRow, hc]
        exact ⟨by simp only [renA, pureA, h2, e, hc, if_true]; exact h, by simp only [renA, versA, verOk, h2, hr, s2]⟩
      · simp at h
  | .ptr r v i j, _, h => by
    cases hr : L[r]? with
    | none => simp [pureA, hr] at h
    | some row =>
      have h2 := hb r row hr
      obtain ⟨s1, s2, _, _, _⟩ := renRow_spec f row
      simp only [pureA, hr] at h
      split at h
      · rename_i x hx
        split at h
        · rename_i hcx
          have e : (renRow f row).elems = [x] := by
            unfold renRow
            cases hc : row.clean with
            | true => simpa using hx
            | false => simp only [cond_false, hx, renL, clean_ren f x hcx]
          exact ⟨by simp only [renA, pureA, h2, e, hcx, s1, if_true]; exact h, by simp only [renA, versA, verOk, h2, hr, s2]⟩
        · simp at h
      · simp at h
  | .agg cs, _, h => by
    cases hr : pureL L cs with
    | none => simp [pureA, hr] at h
    | some ds =>
      obtain ⟨h1, h2⟩ := pureL_ren hb cs hr
      exact ⟨by simpa only [renA, pureA, h1, hr] using h, by simp only [renA, versA, h2]⟩
  | .tup cs, _, h => by
    cases hr : pureL L cs with
    | none => simp [pureA, hr] at h
    | some ds =>
      obtain ⟨h1, h2⟩ := pureL_ren hb cs hr
      exact ⟨by simpa only [renA, pureA, h1, hr] using h, by simp only [renA, versA, h2]⟩
  | .func fn a b, _, h => by
    cases hr : pureL L a with
    | none => simp [pureA, hr] at h
    | some ds =>
      cases hr2 : pureL L b with
      | none => simp [pureA, hr, hr2] at h
      | some ds2 =>
        obtain ⟨h1, h2⟩ := pureL_ren hb a hr
        obtain ⟨h3, h4⟩ := pureL_ren hb b hr2
        exact ⟨by simpa only [renA, pureA, h1, h3, hr, hr2] using h, by simp only [renA, versA, h2, h4]⟩
theorem pureL_ren {L K : Heap} {f : Nat → Nat} (hb : ∀ (r : Nat) row, L[r]? = some row → K[f r]? = some (renRow f row)) : ∀ (l : List AV) {ds : List AV}, pureL L l = some ds → pureL K (renL f l) = some ds ∧ versL K (renL f l) = versL L l
  | [], _, h => ⟨h, rfl⟩
  | c :: l, _, h => by
    cases hr : pureA L c with
    | none => simp [pureL, hr] at h
    | some d =>
      cases hr2 : pureL L l with
      | none => simp [pureL, hr, hr2] at h
      | some ds2 =>
        obtain ⟨h1, h2⟩ := pureA_ren hb c hr
        obtain ⟨h3, h4⟩ := pureL_ren hb l hr2
        exact ⟨by simpa only [renL, pureL, h1, h3, hr, hr2] using h, by simp only [renL, versL, h2, h4]⟩
end

theorem back_at {L L1 : Heap} {rs : List Nat} {rows : List Row} (hrows : getRows L rs = some rows) (hnd : rs.Nodup) (r : Nat) (row : Row) (h : L1[r]? = some row) :
    (backAll L rs L1)[backAt L.length rs r]? = some (renRow (backAt L.length rs) row) := by
  obtain ⟨g1, g2⟩ := getRows_spec hrows
  unfold backAll
  by_cases hlt : r < rs.length
  · have hb : Nat.blt r rs.length = true := Nat.blt_eq.mpr hlt
    have e : backAt L.length rs r = rs[r] := by simp [backAt, hb, hlt]
    obtain ⟨row0, k1, _⟩ := g2 r _ (List.getElem?_eq_getElem hlt)
    have hin : rs[r] < L.length := (List.getElem?_eq_some_iff.1 k1).1
    rw [e, List.getElem?_append_left (by rw [putAt_len]; exact hin)]
    exact putAt_at rs _ _ hnd r _ _ (List.getElem?_eq_getElem hlt) (by rw [List.getElem?_map, List.getElem?_take_of_lt hlt, h]; rfl) hin
  · have hb : Nat.blt r rs.length = false := by
      cases hb : Nat.blt r rs.length with
      | false => rfl
      | true => have := Nat.blt_eq.mp hb; omega
    have e : backAt L.length rs r = L.length + (r - rs.length) := by simp [backAt, hb]
    rw [e, List.getElem?_append_right (by rw [putAt_len]; omega), putAt_len, List.getElem?_map, List.getElem?_drop]
    have e2 : rs.length + (L.length + (r - rs.length) - L.length) = r := by omega
    rw [e2, h]; rfl

/-- A run goes on with some of the rows, where the result leads to none. -/
theorem wp_narrow {M : Mach} {fi : Fi} {k : List Item} {env env' : Vars} {L Lc : Heap} {d : AV} (rs : List Nat) (hn : narrowIn L rs env = some (env', Lc)) (h : Wp M (.run fi k env' Lc) (PureQ d)) : Wp M (.run fi k env L) (PureQ d) := by
  refine .narrow rs env' Lc hn (.mono h fun v L1 ⟨d0, hq1, hq2, hq3, hq4⟩ => ?_)
  unfold narrowIn at hn
  split at hn
  · rename_i rows hrows
    split at hn
    · rename_i hc
      simp only [Bool.and_eq_true] at hc
      obtain ⟨p1, p2⟩ := pureA_ren (back_at (L1 := L1) hrows ((noDup_iff rs).1 hc.1)) v hq1
      exact ⟨d0, p1, by rw [p2]; exact hq2, hq3, hq4⟩
    · simp at hn
  · simp at hn

theorem keep_spec {n : Nat} {v : AV} {K : Heap} (h : keepOk n v K = true) : K.length = n ∧ (∀ r ∈ rowsA v, r < n) ∧ ∀ row ∈ K, ∀ r ∈ rowRefs row, r < n := by
  unfold keepOk at h
  simp only [Bool.and_eq_true, List.all_eq_true, Nat.blt_eq, Nat.beq_eq] at h
  exact ⟨h.1, h.2.1, h.2.2⟩

theorem renRow_same {f : Nat → Nat} {row : Row} (h : ∀ r ∈ rowRefs row, f r = r) : renRow f row = row := by
  unfold renRow
  cases hc : row.clean with
  | true => rfl
  | false =>
    simp only [cond_false]
    rw [renL_ext (g := fun r => r) row.elems (fun r hr => h r (by unfold rowRefs; rw [hc]; exact hr)), renL_id, ← hc]

theorem put_first {α : Type} (n : Nat) (l xs : List α) (h : xs.length = n) (hn : n ≤ l.length) : (putAt l (List.range n) xs).take n = xs := by
  apply List.ext_getElem?
  intro i
  by_cases hi : i < n
  · rw [List.getElem?_take_of_lt hi, putAt_at (List.range n) l xs List.nodup_range i i xs[i] (by simp [hi]) (List.getElem?_eq_getElem (by omega)) (by omega), List.getElem?_eq_getElem (by omega)]
  · rw [List.getElem?_eq_none (by rw [List.length_take]; omega), List.getElem?_eq_none (by omega)]

/-- A run goes on with its first rows alone. -/
theorem wp_narrow_keep {M : Mach} {fi : Fi} {k : List Item} {env env' : Vars} {L Lc : Heap} {v : AV} {K : Heap} (n : Nat) (hk : keepOk n v K = true) (hn : narrowIn L (List.range n) env = some (env', Lc)) (h : Wp M (.run fi k env' Lc) (KeepQ v K)) :
    Wp M (.run fi k env L) (KeepQ v K) := by
  obtain ⟨k1, k2, k3⟩ := keep_spec hk
  have hle : n ≤ L.length := by
    unfold narrowIn at hn
    split at hn
    · rename_i rows hr
      by_cases h0 : n = 0
      · omega
      · obtain ⟨row, q, _⟩ := (getRows_spec hr).2 (n - 1) (n - 1) (by rw [List.getElem?_range (by omega)])
        have := (List.getElem?_eq_some_iff.1 q).1
        omega
    · simp at hn
  refine .narrow _ env' Lc hn (.mono h fun x L1 ⟨e, hq⟩ => ?_)
  subst e
  have hb : ∀ r, r < n → backAt L.length (List.range n) r = r := by
    intro r hr
    unfold backAt
    rw [show Nat.blt r (List.range n).length = true from Nat.blt_eq.mpr (by simpa using hr), cond_true]
    simp [hr]
  refine ⟨by rw [renA_ext (g := fun r => r) x (fun r hr => hb r (k2 r hr)), renA_id], ?_⟩
  rw [k1] at hq ⊢
  unfold backAll
  rw [List.length_range, hq]
  have e2 : K.map (renRow (backAt L.length (List.range n))) = K.map id := List.map_congr_left fun row hr => by
    rw [renRow_same fun r hrr => hb r (k3 row hr r hrr)]; rfl
  rw [e2, List.map_id, List.take_append_of_le_length (by rw [putAt_len]; exact hle)]
  exact put_first n L K k1 hle

/-- A call's contract where rows that it leaves behind are dropped. -/
theorem own_keep {M : Mach} {f : FuncId} {args : List AV} {L : Heap} {v : AV} {K : Heap} (fn : Func) (fi : Fi) (hf : (M.P ()).funcs[f]? = some fn) (hb : fn.body = some (cd fn)) (hn : (fn.name == "runtime.NumGoroutine") = false)
    (hi : (⟨fn.ntmps, fn.results.toList⟩ : Fi) = fi) (hk : keepOk L.length v K = true) (h : Wp M (.run fi [.code (cd fn)] (argVars 0 args) L) (KeepQ v K)) : Ev M (.own f args L) v K :=
  .drop hk (own_wp fn fi hf hb hn hi h)
end Go.Av

/- THE PATHS of the functions of this statement, by the evaluator: written by a program of the prover's; each is checked by kernel_rfl. -/
namespace Go.Av
open Go.Proofs
set_option maxRecDepth 100000
/-- The program; the functions that work on their caller's rows. -/
noncomputable def M1 : Mach := ⟨fun _ => Try.prog, fun f => [40, 41, 55, 49].contains f⟩
def fi3 : Fi := ⟨34, [.tmp 2]⟩
def kp3 : List (Nat × List Nat) := [(0, [1]), (1, [1, 8]), (2, [2]), (3, [1, 3, 4]), (4, [1, 3, 4, 5, 6]), (5, [2])]
def fi12 : Fi := ⟨37, [.tmp 2, .tmp 3]⟩
def kp12 : List (Nat × List Nat) := [(0, [1]), (1, [1, 4]), (2, [1, 4, 10]), (3, [2, 3]), (4, [1, 5]), (5, [1, 5, 14]), (6, [1, 5, 6]), (7, [1, 5, 6, 23]), (8, [1, 5, 6]), (9, [1, 5, 6]), (10, [2, 3])]
def fi13 : Fi := ⟨37, [.tmp 2, .tmp 3]⟩
def kp13 : List (Nat × List Nat) := [(0, [1]), (1, [1, 4]), (2, [1, 4, 10]), (3, [2, 3]), (4, [1, 5]), (5, [1, 5, 14]), (6, [1, 5, 6]), (7, [1, 5, 6, 23]), (8, [1, 5, 6]), (9, [1, 5, 6]), (10, [2, 3])]
def fi14 : Fi := ⟨85, [.tmp 2]⟩
def kp14 : List (Nat × List Nat) := [(0, [1]), (1, [1, 3]), (2, [1, 3, 50]), (3, [2]), (4, [1, 3, 71]), (5, [2]), (6, [84]), (7, [2]), (8, [2])]
def fi15 : Fi := ⟨96, [.tmp 2]⟩
def kp15 : List (Nat × List Nat) := [(0, [1]), (1, [1, 3]), (2, [1, 3, 52]), (3, [2]), (4, [1, 3, 77]), (5, [2]), (6, [1, 78]), (7, [1, 4]), (8, [1, 4, 5]), (9, [1, 4, 5, 87]), (10, [1, 4, 5]), (11, [1, 4, 5]), (12, [1, 4, 5, 95]), (13, [2]), (14, [2])]
def fi16 : Fi := ⟨26, [.tmp 4]⟩
def kp16 : List (Nat × List Nat) := [(0, [0, 1]), (1, [0, 1, 10]), (2, [4]), (3, [0, 1, 12, 13]), (4, [0, 1, 12, 13, 14]), (5, [0, 1, 5, 12, 13]), (6, [0, 1, 12, 13, 24]), (7, [4]), (8, [0, 1, 12, 13]), (9, [4])]
def fi38 : Fi := ⟨9, [.tmp 2]⟩
def kp38 : List (Nat × List Nat) := [(0, [0]), (1, [2])]
def fi39 : Fi := ⟨9, [.tmp 2]⟩
def kp39 : List (Nat × List Nat) := [(0, [0]), (1, [2])]
theorem v14 (code r z q rate ini : Int) (high : Bool) (b1 : Bool) (b2 : Bool) (b3 : Bool) (b4 : Bool) (Q : AV → Heap → Prop)
  (w1 : (bif bif bif bif bif bif bif !code == 83000 then code != 81000 else false then code != 82000 else false then true else decide (z ≥ r) then true else decide (r > ini) then true else decide (rate < 1) then true else decide (rate > 1000000000000) then true else bif code == 83000 then decide (q ≤ 0) else false) = true → Q (AV.int IntKind.i64 1) [{ elems := [AV.agg [AV.int IntKind.i64 code, AV.int IntKind.i64 r, AV.int IntKind.i64 z, AV.int IntKind.i64 q, AV.int IntKind.i64 rate, AV.int IntKind.i64 ini, AV.bool high]], es := 7, ver := 0, frozen := false, clean := false }])
  (c1 : (bif bif bif bif bif bif bif !code == 83000 then code != 81000 else false then code != 82000 else false then true else decide (z ≥ r) then true else decide (r > ini) then true else decide (rate < 1) then true else decide (rate > 1000000000000) then true else bif code == 83000 then decide (q ≤ 0) else false) = false → Ev M1 (.pure 38 [AV.int IntKind.i64 r]) (AV.bool b1) [])
  (c2 : (bif bif bif bif bif bif bif !code == 83000 then code != 81000 else false then code != 82000 else false then true else decide (z ≥ r) then true else decide (r > ini) then true else decide (rate < 1) then true else decide (rate > 1000000000000) then true else bif code == 83000 then decide (q ≤ 0) else false) = false → (b1 == false && true && true) = true → Ev M1 (.pure 38 [AV.int IntKind.i64 z]) (AV.bool b2) [])
  (c3 : (bif bif bif bif bif bif bif !code == 83000 then code != 81000 else false then code != 82000 else false then true else decide (z ≥ r) then true else decide (r > ini) then true else decide (rate < 1) then true else decide (rate > 1000000000000) then true else bif code == 83000 then decide (q ≤ 0) else false) = false → ((bif b1 then true else b2) == false && true && true) = true → Ev M1 (.pure 38 [AV.int IntKind.i64 ini]) (AV.bool b3) [])
  (c4 : (bif bif bif bif bif bif bif !code == 83000 then code != 81000 else false then code != 82000 else false then true else decide (z ≥ r) then true else decide (r > ini) then true else decide (rate < 1) then true else decide (rate > 1000000000000) then true else bif code == 83000 then decide (q ≤ 0) else false) = false → ((code == 83000) == true && ((bif bif b1 then true else b2 then true else b3) == false && true) && true) = true → Ev M1 (.pure 38 [AV.int IntKind.i64 q]) (AV.bool b4) [])
  (w2 : (bif bif bif bif bif bif bif !code == 83000 then code != 81000 else false then code != 82000 else false then true else decide (z ≥ r) then true else decide (r > ini) then true else decide (rate < 1) then true else decide (rate > 1000000000000) then true else bif code == 83000 then decide (q ≤ 0) else false) = false → (bif bif bif b1 then true else b2 then true else b3 then true else bif code == 83000 then b4 else false) = true → Q (AV.int IntKind.i64 11) [{ elems := [AV.agg [AV.int IntKind.i64 code, AV.int IntKind.i64 r, AV.int IntKind.i64 z, AV.int IntKind.i64 q, AV.int IntKind.i64 rate, AV.int IntKind.i64 ini, AV.bool high]], es := 7, ver := 0, frozen := false, clean := false }])
  (k6 : (bif bif bif bif bif bif bif !code == 83000 then code != 81000 else false then code != 82000 else false then true else decide (z ≥ r) then true else decide (r > ini) then true else decide (rate < 1) then true else decide (rate > 1000000000000) then true else bif code == 83000 then decide (q ≤ 0) else false) = false → (bif bif bif b1 then true else b2 then true else b3 then true else bif code == 83000 then b4 else false) = false → (!((code == 83000) == true && true) || !q == 0) = true)
  (w3 : (bif bif bif bif bif bif bif !code == 83000 then code != 81000 else false then code != 82000 else false then true else decide (z ≥ r) then true else decide (r > ini) then true else decide (rate < 1) then true else decide (rate > 1000000000000) then true else bif code == 83000 then decide (q ≤ 0) else false) = false → (bif bif bif b1 then true else b2 then true else b3 then true else bif code == 83000 then b4 else false) = false → (bif code == 83000 then decide (IntKind.i64.wrap ((IntKind.i64.wrap (IntKind.i64.wrap (r - z) - 1)).tdiv q) > 999) else false) = true → Q (AV.int IntKind.i64 3) [{ elems := [AV.agg [AV.int IntKind.i64 code, AV.int IntKind.i64 r, AV.int IntKind.i64 z, AV.int IntKind.i64 q, AV.int IntKind.i64 rate, AV.int IntKind.i64 ini, AV.bool high]], es := 7, ver := 0, frozen := false, clean := false }])
  (w4 : (bif bif bif bif bif bif bif !code == 83000 then code != 81000 else false then code != 82000 else false then true else decide (z ≥ r) then true else decide (r > ini) then true else decide (rate < 1) then true else decide (rate > 1000000000000) then true else bif code == 83000 then decide (q ≤ 0) else false) = false → (bif bif bif b1 then true else b2 then true else b3 then true else bif code == 83000 then b4 else false) = false → (bif code == 83000 then decide (IntKind.i64.wrap ((IntKind.i64.wrap (IntKind.i64.wrap (r - z) - 1)).tdiv q) > 999) else false) = false → Q (AV.int IntKind.i64 0) [{ elems := [AV.agg [AV.int IntKind.i64 code, AV.int IntKind.i64 r, AV.int IntKind.i64 z, AV.int IntKind.i64 q, AV.int IntKind.i64 rate, AV.int IntKind.i64 ini, AV.bool high]], es := 7, ver := 0, frozen := false, clean := false }]) :
  Wp M1 (.run fi14 (atC (cd Try.f14) []) [(0, AV.agg [AV.int IntKind.i64 code, AV.int IntKind.i64 r, AV.int IntKind.i64 z, AV.int IntKind.i64 q, AV.int IntKind.i64 rate, AV.int IntKind.i64 ini, AV.bool high])] []) Q := by
  rcases Bool.eq_false_or_eq_true (bif bif bif bif bif bif bif !code == 83000 then code != 81000 else false then code != 82000 else false then true else decide (z ≥ r) then true else decide (r > ini) then true else decide (rate < 1) then true else decide (rate > 1000000000000) then true else bif code == 83000 then decide (q ≤ 0) else false) with d1 | d1
  · exact path_ret (G := given kp14 [] []) 1000 [true] (k := ((atC (cd Try.f14) [1, 1, 0, 1, 0, 1])).tail) (env' := [(2, AV.int IntKind.i64 1)]) (L' := [{ elems := [AV.agg [AV.int IntKind.i64 code, AV.int IntKind.i64 r, AV.int IntKind.i64 z, AV.int IntKind.i64 q, AV.int IntKind.i64 rate, AV.int IntKind.i64 ini, AV.bool high]], es := 7, ver := 0, frozen := false, clean := false }]) (asm := [true, !((!code == 83000) == true && true) || true, !((bif !code == 83000 then code != 81000 else false) == true && true) || true, !((bif bif !code == 83000 then code != 81000 else false then code != 82000 else false) == false && true) || true, !((bif bif !code == 83000 then code != 81000 else false then code != 82000 else false) == false && true) || true, !((bif bif bif !code == 83000 then code != 81000 else false then code != 82000 else false then true else decide (z ≥ r)) == false && true) || true, !((bif bif bif !code == 83000 then code != 81000 else false then code != 82000 else false then true else decide (z ≥ r)) == false && true) || true, !((bif bif bif bif !code == 83000 then code != 81000 else false then code != 82000 else false then true else decide (z ≥ r) then true else decide (r > ini)) == false && true) || true, !((bif bif bif bif bif !code == 83000 then code != 81000 else false then code != 82000 else false then true else decide (z ≥ r) then true else decide (r > ini) then true else decide (rate < 1)) == false && true) || true, !((code == 83000) == true && ((bif bif bif bif bif bif !code == 83000 then code != 81000 else false then code != 82000 else false then true else decide (z ≥ r) then true else decide (r > ini) then true else decide (rate < 1) then true else decide (rate > 1000000000000)) == false && true)) || true, (bif bif bif bif bif bif bif !code == 83000 then code != 81000 else false then code != 82000 else false then true else decide (z ≥ r) then true else decide (r > ini) then true else decide (rate < 1) then true else decide (rate > 1000000000000) then true else bif code == 83000 then decide (q ≤ 0) else false) == true]) (eqs := []) (calls := []) (AV.int IntKind.i64 1) (by kernel_rfl) (by kernel_rfl) (allB_cons rfl (allB_cons (Bool.or_true _) (allB_cons (Bool.or_true _) (allB_cons (Bool.or_true _) (allB_cons (Bool.or_true _) (allB_cons (Bool.or_true _) (allB_cons (Bool.or_true _) (allB_cons (Bool.or_true _) (allB_cons (Bool.or_true _) (allB_cons (Bool.or_true _) (allB_cons (beq_of d1) allB_nil))))))))))) allP_nil allC_nil (w1 d1)
  · rcases Bool.eq_false_or_eq_true (bif bif bif b1 then true else b2 then true else b3 then true else bif code == 83000 then b4 else false) with d2 | d2
    · exact path_ret (G := given kp14 [(4, 2, .call (AV.bool b1) none), (4, 6, .call (AV.bool b2) none), (4, 11, .call (AV.bool b3) none), (4, 18, .call (AV.bool b4) none)] []) 1000 [false, true] (k := ((atC (cd Try.f14) [1, 1, 1, 0, 1, 0, 1])).tail) (env' := [(2, AV.int IntKind.i64 11)]) (L' := [{ elems := [AV.agg [AV.int IntKind.i64 code, AV.int IntKind.i64 r, AV.int IntKind.i64 z, AV.int IntKind.i64 q, AV.int IntKind.i64 rate, AV.int IntKind.i64 ini, AV.bool high]], es := 7, ver := 0, frozen := false, clean := false }]) (asm := [true, !((!code == 83000) == true && true) || true, !((bif !code == 83000 then code != 81000 else false) == true && true) || true, !((bif bif !code == 83000 then code != 81000 else false then code != 82000 else false) == false && true) || true, !((bif bif !code == 83000 then code != 81000 else false then code != 82000 else false) == false && true) || true, !((bif bif bif !code == 83000 then code != 81000 else false then code != 82000 else false then true else decide (z ≥ r)) == false && true) || true, !((bif bif bif !code == 83000 then code != 81000 else false then code != 82000 else false then true else decide (z ≥ r)) == false && true) || true, !((bif bif bif bif !code == 83000 then code != 81000 else false then code != 82000 else false then true else decide (z ≥ r) then true else decide (r > ini)) == false && true) || true, !((bif bif bif bif bif !code == 83000 then code != 81000 else false then code != 82000 else false then true else decide (z ≥ r) then true else decide (r > ini) then true else decide (rate < 1)) == false && true) || true, !((code == 83000) == true && ((bif bif bif bif bif bif !code == 83000 then code != 81000 else false then code != 82000 else false then true else decide (z ≥ r) then true else decide (r > ini) then true else decide (rate < 1) then true else decide (rate > 1000000000000)) == false && true)) || true, (bif bif bif bif bif bif bif !code == 83000 then code != 81000 else false then code != 82000 else false then true else decide (z ≥ r) then true else decide (r > ini) then true else decide (rate < 1) then true else decide (rate > 1000000000000) then true else bif code == 83000 then decide (q ≤ 0) else false) == false, true, !(b1 == false && true) || true, !((bif b1 then true else b2) == false && true) || true, !((code == 83000) == true && ((bif bif b1 then true else b2 then true else b3) == false && true)) || true, (bif bif bif b1 then true else b2 then true else b3 then true else bif code == 83000 then b4 else false) == true]) (eqs := []) (calls := [⟨true, false, 38, [AV.int IntKind.i64 r], [], AV.bool b1, []⟩, ⟨b1 == false && true && true, false, 38, [AV.int IntKind.i64 z], [], AV.bool b2, []⟩, ⟨(bif b1 then true else b2) == false && true && true, false, 38, [AV.int IntKind.i64 ini], [], AV.bool b3, []⟩, ⟨(code == 83000) == true && ((bif bif b1 then true else b2 then true else b3) == false && true) && true, false, 38, [AV.int IntKind.i64 q], [], AV.bool b4, []⟩]) (AV.int IntKind.i64 11) (by kernel_rfl) (by kernel_rfl) (allB_cons rfl (allB_cons (Bool.or_true _) (allB_cons (Bool.or_true _) (allB_cons (Bool.or_true _) (allB_cons (Bool.or_true _) (allB_cons (Bool.or_true _) (allB_cons (Bool.or_true _) (allB_cons (Bool.or_true _) (allB_cons (Bool.or_true _) (allB_cons (Bool.or_true _) (allB_cons (beq_of d1) (allB_cons rfl (allB_cons (Bool.or_true _) (allB_cons (Bool.or_true _) (allB_cons (Bool.or_true _) (allB_cons (beq_of d2) allB_nil)))))))))))))))) allP_nil (allC_cons (fun _ => c1 d1) (allC_cons (c2 d1) (allC_cons (c3 d1) (allC_cons (c4 d1) allC_nil)))) (w2 d1 d2)
    · rcases Bool.eq_false_or_eq_true (bif code == 83000 then decide (IntKind.i64.wrap ((IntKind.i64.wrap (IntKind.i64.wrap (r - z) - 1)).tdiv q) > 999) else false) with d3 | d3
      · exact path_ret (G := given kp14 [(4, 2, .call (AV.bool b1) none), (4, 6, .call (AV.bool b2) none), (4, 11, .call (AV.bool b3) none), (4, 18, .call (AV.bool b4) none)] []) 1000 [false, false, true] (k := ((atC (cd Try.f14) [1, 1, 1, 1, 0, 1, 0, 1])).tail) (env' := [(2, AV.int IntKind.i64 3)]) (L' := [{ elems := [AV.agg [AV.int IntKind.i64 code, AV.int IntKind.i64 r, AV.int IntKind.i64 z, AV.int IntKind.i64 q, AV.int IntKind.i64 rate, AV.int IntKind.i64 ini, AV.bool high]], es := 7, ver := 0, frozen := false, clean := false }]) (asm := [true, !((!code == 83000) == true && true) || true, !((bif !code == 83000 then code != 81000 else false) == true && true) || true, !((bif bif !code == 83000 then code != 81000 else false then code != 82000 else false) == false && true) || true, !((bif bif !code == 83000 then code != 81000 else false then code != 82000 else false) == false && true) || true, !((bif bif bif !code == 83000 then code != 81000 else false then code != 82000 else false then true else decide (z ≥ r)) == false && true) || true, !((bif bif bif !code == 83000 then code != 81000 else false then code != 82000 else false then true else decide (z ≥ r)) == false && true) || true, !((bif bif bif bif !code == 83000 then code != 81000 else false then code != 82000 else false then true else decide (z ≥ r) then true else decide (r > ini)) == false && true) || true, !((bif bif bif bif bif !code == 83000 then code != 81000 else false then code != 82000 else false then true else decide (z ≥ r) then true else decide (r > ini) then true else decide (rate < 1)) == false && true) || true, !((code == 83000) == true && ((bif bif bif bif bif bif !code == 83000 then code != 81000 else false then code != 82000 else false then true else decide (z ≥ r) then true else decide (r > ini) then true else decide (rate < 1) then true else decide (rate > 1000000000000)) == false && true)) || true, (bif bif bif bif bif bif bif !code == 83000 then code != 81000 else false then code != 82000 else false then true else decide (z ≥ r) then true else decide (r > ini) then true else decide (rate < 1) then true else decide (rate > 1000000000000) then true else bif code == 83000 then decide (q ≤ 0) else false) == false, true, !(b1 == false && true) || true, !((bif b1 then true else b2) == false && true) || true, !((code == 83000) == true && ((bif bif b1 then true else b2 then true else b3) == false && true)) || true, (bif bif bif b1 then true else b2 then true else b3 then true else bif code == 83000 then b4 else false) == false, !((code == 83000) == true && true) || true, !((code == 83000) == true && true) || true, !((code == 83000) == true && true) || true, !((code == 83000) == true && true) || !q == 0, (bif code == 83000 then decide (IntKind.i64.wrap ((IntKind.i64.wrap (IntKind.i64.wrap (r - z) - 1)).tdiv q) > 999) else false) == true]) (eqs := []) (calls := [⟨true, false, 38, [AV.int IntKind.i64 r], [], AV.bool b1, []⟩, ⟨b1 == false && true && true, false, 38, [AV.int IntKind.i64 z], [], AV.bool b2, []⟩, ⟨(bif b1 then true else b2) == false && true && true, false, 38, [AV.int IntKind.i64 ini], [], AV.bool b3, []⟩, ⟨(code == 83000) == true && ((bif bif b1 then true else b2 then true else b3) == false && true) && true, false, 38, [AV.int IntKind.i64 q], [], AV.bool b4, []⟩]) (AV.int IntKind.i64 3) (by kernel_rfl) (by kernel_rfl) (allB_cons rfl (allB_cons (Bool.or_true _) (allB_cons (Bool.or_true _) (allB_cons (Bool.or_true _) (allB_cons (Bool.or_true _) (allB_cons (Bool.or_true _) (allB_cons (Bool.or_true _) (allB_cons (Bool.or_true _) (allB_cons (Bool.or_true _) (allB_cons (Bool.or_true _) (allB_cons (beq_of d1) (allB_cons rfl (allB_cons (Bool.or_true _) (allB_cons (Bool.or_true _) (allB_cons (Bool.or_true _) (allB_cons (beq_of d2) (allB_cons (Bool.or_true _) (allB_cons (Bool.or_true _) (allB_cons (Bool.or_true _) (allB_cons (k6 d1 d2) (allB_cons (beq_of d3) allB_nil))))))))))))))))))))) allP_nil (allC_cons (fun _ => c1 d1) (allC_cons (c2 d1) (allC_cons (c3 d1) (allC_cons (c4 d1) allC_nil)))) (w3 d1 d2 d3)
      · exact path_ret (G := given kp14 [(4, 2, .call (AV.bool b1) none), (4, 6, .call (AV.bool b2) none), (4, 11, .call (AV.bool b3) none), (4, 18, .call (AV.bool b4) none)] []) 1000 [false, false, false] (k := ((atC (cd Try.f14) [1, 1, 1, 1, 1, 1])).tail) (env' := [(2, AV.int IntKind.i64 0)]) (L' := [{ elems := [AV.agg [AV.int IntKind.i64 code, AV.int IntKind.i64 r, AV.int IntKind.i64 z, AV.int IntKind.i64 q, AV.int IntKind.i64 rate, AV.int IntKind.i64 ini, AV.bool high]], es := 7, ver := 0, frozen := false, clean := false }]) (asm := [true, !((!code == 83000) == true && true) || true, !((bif !code == 83000 then code != 81000 else false) == true && true) || true, !((bif bif !code == 83000 then code != 81000 else false then code != 82000 else false) == false && true) || true, !((bif bif !code == 83000 then code != 81000 else false then code != 82000 else false) == false && true) || true, !((bif bif bif !code == 83000 then code != 81000 else false then code != 82000 else false then true else decide (z ≥ r)) == false && true) || true, !((bif bif bif !code == 83000 then code != 81000 else false then code != 82000 else false then true else decide (z ≥ r)) == false && true) || true, !((bif bif bif bif !code == 83000 then code != 81000 else false then code != 82000 else false then true else decide (z ≥ r) then true else decide (r > ini)) == false && true) || true, !((bif bif bif bif bif !code == 83000 then code != 81000 else false then code != 82000 else false then true else decide (z ≥ r) then true else decide (r > ini) then true else decide (rate < 1)) == false && true) || true, !((code == 83000) == true && ((bif bif bif bif bif bif !code == 83000 then code != 81000 else false then code != 82000 else false then true else decide (z ≥ r) then true else decide (r > ini) then true else decide (rate < 1) then true else decide (rate > 1000000000000)) == false && true)) || true, (bif bif bif bif bif bif bif !code == 83000 then code != 81000 else false then code != 82000 else false then true else decide (z ≥ r) then true else decide (r > ini) then true else decide (rate < 1) then true else decide (rate > 1000000000000) then true else bif code == 83000 then decide (q ≤ 0) else false) == false, true, !(b1 == false && true) || true, !((bif b1 then true else b2) == false && true) || true, !((code == 83000) == true && ((bif bif b1 then true else b2 then true else b3) == false && true)) || true, (bif bif bif b1 then true else b2 then true else b3 then true else bif code == 83000 then b4 else false) == false, !((code == 83000) == true && true) || true, !((code == 83000) == true && true) || true, !((code == 83000) == true && true) || true, !((code == 83000) == true && true) || !q == 0, (bif code == 83000 then decide (IntKind.i64.wrap ((IntKind.i64.wrap (IntKind.i64.wrap (r - z) - 1)).tdiv q) > 999) else false) == false]) (eqs := []) (calls := [⟨true, false, 38, [AV.int IntKind.i64 r], [], AV.bool b1, []⟩, ⟨b1 == false && true && true, false, 38, [AV.int IntKind.i64 z], [], AV.bool b2, []⟩, ⟨(bif b1 then true else b2) == false && true && true, false, 38, [AV.int IntKind.i64 ini], [], AV.bool b3, []⟩, ⟨(code == 83000) == true && ((bif bif b1 then true else b2 then true else b3) == false && true) && true, false, 38, [AV.int IntKind.i64 q], [], AV.bool b4, []⟩]) (AV.int IntKind.i64 0) (by kernel_rfl) (by kernel_rfl) (allB_cons rfl (allB_cons (Bool.or_true _) (allB_cons (Bool.or_true _) (allB_cons (Bool.or_true _) (allB_cons (Bool.or_true _) (allB_cons (Bool.or_true _) (allB_cons (Bool.or_true _) (allB_cons (Bool.or_true _) (allB_cons (Bool.or_true _) (allB_cons (Bool.or_true _) (allB_cons (beq_of d1) (allB_cons rfl (allB_cons (Bool.or_true _) (allB_cons (Bool.or_true _) (allB_cons (Bool.or_true _) (allB_cons (beq_of d2) (allB_cons (Bool.or_true _) (allB_cons (Bool.or_true _) (allB_cons (Bool.or_true _) (allB_cons (k6 d1 d2) (allB_cons (beq_of d3) allB_nil))))))))))))))))))))) allP_nil (allC_cons (fun _ => c1 d1) (allC_cons (c2 d1) (allC_cons (c3 d1) (allC_cons (c4 d1) allC_nil)))) (w4 d1 d2 d3)

theorem v15 (code r z q rate ini : Int) (high : Bool) (b1 : Bool) (b2 : Bool) (b3 : Bool) (b4 : Bool) (Q : AV → Heap → Prop)
  (w1 : (bif bif bif bif bif bif bif code != 81000 then code != 82000 else false then !code == 83000 else false then true else decide (z ≥ r) then true else decide (r > ini) then true else decide (rate < 1) then true else decide (rate > 1000000000000) then true else bif code == 83000 then decide (q < 1) else false) = true → Q (AV.int IntKind.i64 1) [{ elems := [AV.agg [AV.int IntKind.i64 code, AV.int IntKind.i64 r, AV.int IntKind.i64 z, AV.int IntKind.i64 q, AV.int IntKind.i64 rate, AV.int IntKind.i64 ini, AV.bool high]], es := 7, ver := 0, frozen := false, clean := false }])
  (c1 : (bif bif bif bif bif bif bif code != 81000 then code != 82000 else false then !code == 83000 else false then true else decide (z ≥ r) then true else decide (r > ini) then true else decide (rate < 1) then true else decide (rate > 1000000000000) then true else bif code == 83000 then decide (q < 1) else false) = false → Ev M1 (.pure 39 [AV.int IntKind.i64 r]) (AV.bool b1) [])
  (c2 : (bif bif bif bif bif bif bif code != 81000 then code != 82000 else false then !code == 83000 else false then true else decide (z ≥ r) then true else decide (r > ini) then true else decide (rate < 1) then true else decide (rate > 1000000000000) then true else bif code == 83000 then decide (q < 1) else false) = false → ((!b1) == false && true && true) = true → Ev M1 (.pure 39 [AV.int IntKind.i64 z]) (AV.bool b2) [])
  (c3 : (bif bif bif bif bif bif bif code != 81000 then code != 82000 else false then !code == 83000 else false then true else decide (z ≥ r) then true else decide (r > ini) then true else decide (rate < 1) then true else decide (rate > 1000000000000) then true else bif code == 83000 then decide (q < 1) else false) = false → ((bif !b1 then true else !b2) == false && true && true) = true → Ev M1 (.pure 39 [AV.int IntKind.i64 ini]) (AV.bool b3) [])
  (c4 : (bif bif bif bif bif bif bif code != 81000 then code != 82000 else false then !code == 83000 else false then true else decide (z ≥ r) then true else decide (r > ini) then true else decide (rate < 1) then true else decide (rate > 1000000000000) then true else bif code == 83000 then decide (q < 1) else false) = false → ((code == 83000) == true && ((bif bif !b1 then true else !b2 then true else !b3) == false && true) && true) = true → Ev M1 (.pure 39 [AV.int IntKind.i64 q]) (AV.bool b4) [])
  (w2 : (bif bif bif bif bif bif bif code != 81000 then code != 82000 else false then !code == 83000 else false then true else decide (z ≥ r) then true else decide (r > ini) then true else decide (rate < 1) then true else decide (rate > 1000000000000) then true else bif code == 83000 then decide (q < 1) else false) = false → (bif bif bif !b1 then true else !b2 then true else !b3 then true else bif code == 83000 then !b4 else false) = true → Q (AV.int IntKind.i64 11) [{ elems := [AV.agg [AV.int IntKind.i64 code, AV.int IntKind.i64 r, AV.int IntKind.i64 z, AV.int IntKind.i64 q, AV.int IntKind.i64 rate, AV.int IntKind.i64 ini, AV.bool high]], es := 7, ver := 0, frozen := false, clean := false }])
  (w3 : (bif bif bif bif bif bif bif code != 81000 then code != 82000 else false then !code == 83000 else false then true else decide (z ≥ r) then true else decide (r > ini) then true else decide (rate < 1) then true else decide (rate > 1000000000000) then true else bif code == 83000 then decide (q < 1) else false) = false → (bif bif bif !b1 then true else !b2 then true else !b3 then true else bif code == 83000 then !b4 else false) = false → (code == 83000) = true → Wp M1 (.run fi15 (atC (cd Try.f15) [1, 1, 1, 1, 0, 1, 0, 1, 1, 0, 0]) [(1, AV.ptr 0 0 0 0), (4, AV.int IntKind.i64 0), (5, AV.int IntKind.i64 (IntKind.i64.wrap (r - q)))] [{ elems := [AV.agg [AV.int IntKind.i64 code, AV.int IntKind.i64 r, AV.int IntKind.i64 z, AV.int IntKind.i64 q, AV.int IntKind.i64 rate, AV.int IntKind.i64 ini, AV.bool high]], es := 7, ver := 0, frozen := false, clean := false }]) Q)
  (w4 : (bif bif bif bif bif bif bif code != 81000 then code != 82000 else false then !code == 83000 else false then true else decide (z ≥ r) then true else decide (r > ini) then true else decide (rate < 1) then true else decide (rate > 1000000000000) then true else bif code == 83000 then decide (q < 1) else false) = false → (bif bif bif !b1 then true else !b2 then true else !b3 then true else bif code == 83000 then !b4 else false) = false → (code == 83000) = false → Q (AV.int IntKind.i64 0) [{ elems := [AV.agg [AV.int IntKind.i64 code, AV.int IntKind.i64 r, AV.int IntKind.i64 z, AV.int IntKind.i64 q, AV.int IntKind.i64 rate, AV.int IntKind.i64 ini, AV.bool high]], es := 7, ver := 0, frozen := false, clean := false }]) :
  Wp M1 (.run fi15 (atC (cd Try.f15) []) [(0, AV.agg [AV.int IntKind.i64 code, AV.int IntKind.i64 r, AV.int IntKind.i64 z, AV.int IntKind.i64 q, AV.int IntKind.i64 rate, AV.int IntKind.i64 ini, AV.bool high])] []) Q := by
  rcases Bool.eq_false_or_eq_true (bif bif bif bif bif bif bif code != 81000 then code != 82000 else false then !code == 83000 else false then true else decide (z ≥ r) then true else decide (r > ini) then true else decide (rate < 1) then true else decide (rate > 1000000000000) then true else bif code == 83000 then decide (q < 1) else false) with d1 | d1
  · exact path_ret (G := given kp15 [] []) 1000 [true] (k := ((atC (cd Try.f15) [1, 1, 0, 1, 0, 1])).tail) (env' := [(2, AV.int IntKind.i64 1)]) (L' := [{ elems := [AV.agg [AV.int IntKind.i64 code, AV.int IntKind.i64 r, AV.int IntKind.i64 z, AV.int IntKind.i64 q, AV.int IntKind.i64 rate, AV.int IntKind.i64 ini, AV.bool high]], es := 7, ver := 0, frozen := false, clean := false }]) (asm := [true, true, !((code != 81000) == true && true) || true, !((bif bif code != 81000 then code != 82000 else false then !code == 83000 else false) == false && true) || true, !((bif bif code != 81000 then code != 82000 else false then !code == 83000 else false) == false && true) || true, !((bif bif bif code != 81000 then code != 82000 else false then !code == 83000 else false then true else decide (z ≥ r)) == false && true) || true, !((bif bif bif code != 81000 then code != 82000 else false then !code == 83000 else false then true else decide (z ≥ r)) == false && true) || true, !((bif bif bif bif code != 81000 then code != 82000 else false then !code == 83000 else false then true else decide (z ≥ r) then true else decide (r > ini)) == false && true) || true, !((bif bif bif bif bif code != 81000 then code != 82000 else false then !code == 83000 else false then true else decide (z ≥ r) then true else decide (r > ini) then true else decide (rate < 1)) == false && true) || true, !((code == 83000) == true && ((bif bif bif bif bif bif code != 81000 then code != 82000 else false then !code == 83000 else false then true else decide (z ≥ r) then true else decide (r > ini) then true else decide (rate < 1) then true else decide (rate > 1000000000000)) == false && true)) || true, (bif bif bif bif bif bif bif code != 81000 then code != 82000 else false then !code == 83000 else false then true else decide (z ≥ r) then true else decide (r > ini) then true else decide (rate < 1) then true else decide (rate > 1000000000000) then true else bif code == 83000 then decide (q < 1) else false) == true]) (eqs := []) (calls := []) (AV.int IntKind.i64 1) (by kernel_rfl) (by kernel_rfl) (allB_cons rfl (allB_cons rfl (allB_cons (Bool.or_true _) (allB_cons (Bool.or_true _) (allB_cons (Bool.or_true _) (allB_cons (Bool.or_true _) (allB_cons (Bool.or_true _) (allB_cons (Bool.or_true _) (allB_cons (Bool.or_true _) (allB_cons (Bool.or_true _) (allB_cons (beq_of d1) allB_nil))))))))))) allP_nil allC_nil (w1 d1)
  · rcases Bool.eq_false_or_eq_true (bif bif bif !b1 then true else !b2 then true else !b3 then true else bif code == 83000 then !b4 else false) with d2 | d2
    · exact path_ret (G := given kp15 [(4, 2, .call (AV.bool b1) none), (4, 7, .call (AV.bool b2) none), (4, 13, .call (AV.bool b3) none), (4, 21, .call (AV.bool b4) none)] []) 1000 [false, true] (k := ((atC (cd Try.f15) [1, 1, 1, 0, 1, 0, 1])).tail) (env' := [(2, AV.int IntKind.i64 11)]) (L' := [{ elems := [AV.agg [AV.int IntKind.i64 code, AV.int IntKind.i64 r, AV.int IntKind.i64 z, AV.int IntKind.i64 q, AV.int IntKind.i64 rate, AV.int IntKind.i64 ini, AV.bool high]], es := 7, ver := 0, frozen := false, clean := false }]) (asm := [true, true, !((code != 81000) == true && true) || true, !((bif bif code != 81000 then code != 82000 else false then !code == 83000 else false) == false && true) || true, !((bif bif code != 81000 then code != 82000 else false then !code == 83000 else false) == false && true) || true, !((bif bif bif code != 81000 then code != 82000 else false then !code == 83000 else false then true else decide (z ≥ r)) == false && true) || true, !((bif bif bif code != 81000 then code != 82000 else false then !code == 83000 else false then true else decide (z ≥ r)) == false && true) || true, !((bif bif bif bif code != 81000 then code != 82000 else false then !code == 83000 else false then true else decide (z ≥ r) then true else decide (r > ini)) == false && true) || true, !((bif bif bif bif bif code != 81000 then code != 82000 else false then !code == 83000 else false then true else decide (z ≥ r) then true else decide (r > ini) then true else decide (rate < 1)) == false && true) || true, !((code == 83000) == true && ((bif bif bif bif bif bif code != 81000 then code != 82000 else false then !code == 83000 else false then true else decide (z ≥ r) then true else decide (r > ini) then true else decide (rate < 1) then true else decide (rate > 1000000000000)) == false && true)) || true, (bif bif bif bif bif bif bif code != 81000 then code != 82000 else false then !code == 83000 else false then true else decide (z ≥ r) then true else decide (r > ini) then true else decide (rate < 1) then true else decide (rate > 1000000000000) then true else bif code == 83000 then decide (q < 1) else false) == false, true, !((!b1) == false && true) || true, !((bif !b1 then true else !b2) == false && true) || true, !((code == 83000) == true && ((bif bif !b1 then true else !b2 then true else !b3) == false && true)) || true, (bif bif bif !b1 then true else !b2 then true else !b3 then true else bif code == 83000 then !b4 else false) == true]) (eqs := []) (calls := [⟨true, false, 39, [AV.int IntKind.i64 r], [], AV.bool b1, []⟩, ⟨(!b1) == false && true && true, false, 39, [AV.int IntKind.i64 z], [], AV.bool b2, []⟩, ⟨(bif !b1 then true else !b2) == false && true && true, false, 39, [AV.int IntKind.i64 ini], [], AV.bool b3, []⟩, ⟨(code == 83000) == true && ((bif bif !b1 then true else !b2 then true else !b3) == false && true) && true, false, 39, [AV.int IntKind.i64 q], [], AV.bool b4, []⟩]) (AV.int IntKind.i64 11) (by kernel_rfl) (by kernel_rfl) (allB_cons rfl (allB_cons rfl (allB_cons (Bool.or_true _) (allB_cons (Bool.or_true _) (allB_cons (Bool.or_true _) (allB_cons (Bool.or_true _) (allB_cons (Bool.or_true _) (allB_cons (Bool.or_true _) (allB_cons (Bool.or_true _) (allB_cons (Bool.or_true _) (allB_cons (beq_of d1) (allB_cons rfl (allB_cons (Bool.or_true _) (allB_cons (Bool.or_true _) (allB_cons (Bool.or_true _) (allB_cons (beq_of d2) allB_nil)))))))))))))))) allP_nil (allC_cons (fun _ => c1 d1) (allC_cons (c2 d1) (allC_cons (c3 d1) (allC_cons (c4 d1) allC_nil)))) (w2 d1 d2)
    · rcases Bool.eq_false_or_eq_true (code == 83000) with d3 | d3
      · exact path_wp (G := given kp15 [(4, 2, .call (AV.bool b1) none), (4, 7, .call (AV.bool b2) none), (4, 13, .call (AV.bool b3) none), (4, 21, .call (AV.bool b4) none)] []) 1000 [false, false, true] ⟨(atC (cd Try.f15) [1, 1, 1, 1, 0, 1, 0, 1, 1, 0, 0]), [(1, AV.ptr 0 0 0 0), (4, AV.int IntKind.i64 0), (5, AV.int IntKind.i64 (IntKind.i64.wrap (r - q)))], [{ elems := [AV.agg [AV.int IntKind.i64 code, AV.int IntKind.i64 r, AV.int IntKind.i64 z, AV.int IntKind.i64 q, AV.int IntKind.i64 rate, AV.int IntKind.i64 ini, AV.bool high]], es := 7, ver := 0, frozen := false, clean := false }], [true, true, !((code != 81000) == true && true) || true, !((bif bif code != 81000 then code != 82000 else false then !code == 83000 else false) == false && true) || true, !((bif bif code != 81000 then code != 82000 else false then !code == 83000 else false) == false && true) || true, !((bif bif bif code != 81000 then code != 82000 else false then !code == 83000 else false then true else decide (z ≥ r)) == false && true) || true, !((bif bif bif code != 81000 then code != 82000 else false then !code == 83000 else false then true else decide (z ≥ r)) == false && true) || true, !((bif bif bif bif code != 81000 then code != 82000 else false then !code == 83000 else false then true else decide (z ≥ r) then true else decide (r > ini)) == false && true) || true, !((bif bif bif bif bif code != 81000 then code != 82000 else false then !code == 83000 else false then true else decide (z ≥ r) then true else decide (r > ini) then true else decide (rate < 1)) == false && true) || true, !((code == 83000) == true && ((bif bif bif bif bif bif code != 81000 then code != 82000 else false then !code == 83000 else false then true else decide (z ≥ r) then true else decide (r > ini) then true else decide (rate < 1) then true else decide (rate > 1000000000000)) == false && true)) || true, (bif bif bif bif bif bif bif code != 81000 then code != 82000 else false then !code == 83000 else false then true else decide (z ≥ r) then true else decide (r > ini) then true else decide (rate < 1) then true else decide (rate > 1000000000000) then true else bif code == 83000 then decide (q < 1) else false) == false, true, !((!b1) == false && true) || true, !((bif !b1 then true else !b2) == false && true) || true, !((code == 83000) == true && ((bif bif !b1 then true else !b2 then true else !b3) == false && true)) || true, (bif bif bif !b1 then true else !b2 then true else !b3 then true else bif code == 83000 then !b4 else false) == false, (code == 83000) == true, true, true], [], [⟨true, false, 39, [AV.int IntKind.i64 r], [], AV.bool b1, []⟩, ⟨(!b1) == false && true && true, false, 39, [AV.int IntKind.i64 z], [], AV.bool b2, []⟩, ⟨(bif !b1 then true else !b2) == false && true && true, false, 39, [AV.int IntKind.i64 ini], [], AV.bool b3, []⟩, ⟨(code == 83000) == true && ((bif bif !b1 then true else !b2 then true else !b3) == false && true) && true, false, 39, [AV.int IntKind.i64 q], [], AV.bool b4, []⟩]⟩ (by kernel_rfl) (allB_cons rfl (allB_cons rfl (allB_cons (Bool.or_true _) (allB_cons (Bool.or_true _) (allB_cons (Bool.or_true _) (allB_cons (Bool.or_true _) (allB_cons (Bool.or_true _) (allB_cons (Bool.or_true _) (allB_cons (Bool.or_true _) (allB_cons (Bool.or_true _) (allB_cons (beq_of d1) (allB_cons rfl (allB_cons (Bool.or_true _) (allB_cons (Bool.or_true _) (allB_cons (Bool.or_true _) (allB_cons (beq_of d2) (allB_cons (beq_of d3) (allB_cons rfl (allB_cons rfl allB_nil))))))))))))))))))) allP_nil (allC_cons (fun _ => c1 d1) (allC_cons (c2 d1) (allC_cons (c3 d1) (allC_cons (c4 d1) allC_nil)))) (w3 d1 d2 d3)
      · exact path_ret (G := given kp15 [(4, 2, .call (AV.bool b1) none), (4, 7, .call (AV.bool b2) none), (4, 13, .call (AV.bool b3) none), (4, 21, .call (AV.bool b4) none)] []) 1000 [false, false, false] (k := ((atC (cd Try.f15) [1, 1, 1, 1, 1, 1])).tail) (env' := [(2, AV.int IntKind.i64 0)]) (L' := [{ elems := [AV.agg [AV.int IntKind.i64 code, AV.int IntKind.i64 r, AV.int IntKind.i64 z, AV.int IntKind.i64 q, AV.int IntKind.i64 rate, AV.int IntKind.i64 ini, AV.bool high]], es := 7, ver := 0, frozen := false, clean := false }]) (asm := [true, true, !((code != 81000) == true && true) || true, !((bif bif code != 81000 then code != 82000 else false then !code == 83000 else false) == false && true) || true, !((bif bif code != 81000 then code != 82000 else false then !code == 83000 else false) == false && true) || true, !((bif bif bif code != 81000 then code != 82000 else false then !code == 83000 else false then true else decide (z ≥ r)) == false && true) || true, !((bif bif bif code != 81000 then code != 82000 else false then !code == 83000 else false then true else decide (z ≥ r)) == false && true) || true, !((bif bif bif bif code != 81000 then code != 82000 else false then !code == 83000 else false then true else decide (z ≥ r) then true else decide (r > ini)) == false && true) || true, !((bif bif bif bif bif code != 81000 then code != 82000 else false then !code == 83000 else false then true else decide (z ≥ r) then true else decide (r > ini) then true else decide (rate < 1)) == false && true) || true, !((code == 83000) == true && ((bif bif bif bif bif bif code != 81000 then code != 82000 else false then !code == 83000 else false then true else decide (z ≥ r) then true else decide (r > ini) then true else decide (rate < 1) then true else decide (rate > 1000000000000)) == false && true)) || true, (bif bif bif bif bif bif bif code != 81000 then code != 82000 else false then !code == 83000 else false then true else decide (z ≥ r) then true else decide (r > ini) then true else decide (rate < 1) then true else decide (rate > 1000000000000) then true else bif code == 83000 then decide (q < 1) else false) == false, true, !((!b1) == false && true) || true, !((bif !b1 then true else !b2) == false && true) || true, !((code == 83000) == true && ((bif bif !b1 then true else !b2 then true else !b3) == false && true)) || true, (bif bif bif !b1 then true else !b2 then true else !b3 then true else bif code == 83000 then !b4 else false) == false, (code == 83000) == false]) (eqs := []) (calls := [⟨true, false, 39, [AV.int IntKind.i64 r], [], AV.bool b1, []⟩, ⟨(!b1) == false && true && true, false, 39, [AV.int IntKind.i64 z], [], AV.bool b2, []⟩, ⟨(bif !b1 then true else !b2) == false && true && true, false, 39, [AV.int IntKind.i64 ini], [], AV.bool b3, []⟩, ⟨(code == 83000) == true && ((bif bif !b1 then true else !b2 then true else !b3) == false && true) && true, false, 39, [AV.int IntKind.i64 q], [], AV.bool b4, []⟩]) (AV.int IntKind.i64 0) (by kernel_rfl) (by kernel_rfl) (allB_cons rfl (allB_cons rfl (allB_cons (Bool.or_true _) (allB_cons (Bool.or_true _) (allB_cons (Bool.or_true _) (allB_cons (Bool.or_true _) (allB_cons (Bool.or_true _) (allB_cons (Bool.or_true _) (allB_cons (Bool.or_true _) (allB_cons (Bool.or_true _) (allB_cons (beq_of d1) (allB_cons rfl (allB_cons (Bool.or_true _) (allB_cons (Bool.or_true _) (allB_cons (Bool.or_true _) (allB_cons (beq_of d2) (allB_cons (beq_of d3) allB_nil))))))))))))))))) allP_nil (allC_cons (fun _ => c1 d1) (allC_cons (c2 d1) (allC_cons (c3 d1) (allC_cons (c4 d1) allC_nil)))) (w4 d1 d2 d3)

theorem v12 (code r z q rate ini : Int) (high : Bool) (n1 : Int) (Q : AV → Heap → Prop)
  (c0 : Ev M1 (.pure 14 [AV.agg [AV.int IntKind.i64 code, AV.int IntKind.i64 r, AV.int IntKind.i64 z, AV.int IntKind.i64 q, AV.int IntKind.i64 rate, AV.int IntKind.i64 ini, AV.bool high]]) (AV.int IntKind.i64 n1) [])
  (w1 : (n1 != 0) = true → Q (AV.tup [AV.vnil, AV.int IntKind.i64 n1]) [{ elems := [AV.agg [AV.int IntKind.i64 code, AV.int IntKind.i64 r, AV.int IntKind.i64 z, AV.int IntKind.i64 q, AV.int IntKind.i64 rate, AV.int IntKind.i64 ini, AV.bool high]], es := 7, ver := 0, frozen := false, clean := false }])
  (w2 : (n1 != 0) = false → (code == 83000) = true → Wp M1 (.run fi12 (atC (cd Try.f12) [1, 1, 1, 0, 1, 0, 1, 0, 0]) [(1, AV.ptr 0 0 0 0), (5, AV.vnil), (6, AV.int IntKind.i64 (IntKind.i64.wrap (r - q)))] [{ elems := [AV.agg [AV.int IntKind.i64 code, AV.int IntKind.i64 r, AV.int IntKind.i64 z, AV.int IntKind.i64 q, AV.int IntKind.i64 rate, AV.int IntKind.i64 ini, AV.bool high]], es := 7, ver := 0, frozen := false, clean := false }]) Q)
  (w3 : (n1 != 0) = false → (code == 83000) = false → Q (AV.tup [AV.row 1 0, AV.int IntKind.i64 0]) [{ elems := [AV.agg [AV.int IntKind.i64 code, AV.int IntKind.i64 r, AV.int IntKind.i64 z, AV.int IntKind.i64 q, AV.int IntKind.i64 rate, AV.int IntKind.i64 ini, AV.bool high]], es := 7, ver := 0, frozen := false, clean := false }, { elems := [AV.int IntKind.i64 z], es := 1, ver := 0, frozen := false, clean := true }]) :
  Wp M1 (.run fi12 (atC (cd Try.f12) []) [(0, AV.agg [AV.int IntKind.i64 code, AV.int IntKind.i64 r, AV.int IntKind.i64 z, AV.int IntKind.i64 q, AV.int IntKind.i64 rate, AV.int IntKind.i64 ini, AV.bool high])] []) Q := by
  rcases Bool.eq_false_or_eq_true (n1 != 0) with d1 | d1
  · exact path_ret (G := given kp12 [(1, 1, .call (AV.int IntKind.i64 n1) none)] []) 1000 [true] (k := ((atC (cd Try.f12) [1, 0, 1, 1, 0, 1])).tail) (env' := [(2, AV.vnil), (3, AV.int IntKind.i64 n1)]) (L' := [{ elems := [AV.agg [AV.int IntKind.i64 code, AV.int IntKind.i64 r, AV.int IntKind.i64 z, AV.int IntKind.i64 q, AV.int IntKind.i64 rate, AV.int IntKind.i64 ini, AV.bool high]], es := 7, ver := 0, frozen := false, clean := false }]) (asm := [true, (n1 != 0) == true]) (eqs := []) (calls := [⟨true, false, 14, [AV.agg [AV.int IntKind.i64 code, AV.int IntKind.i64 r, AV.int IntKind.i64 z, AV.int IntKind.i64 q, AV.int IntKind.i64 rate, AV.int IntKind.i64 ini, AV.bool high]], [], AV.int IntKind.i64 n1, []⟩]) (AV.tup [AV.vnil, AV.int IntKind.i64 n1]) (by kernel_rfl) (by kernel_rfl) (allB_cons rfl (allB_cons (beq_of d1) allB_nil)) allP_nil (allC_cons (fun _ => c0 ) allC_nil) (w1 d1)
  · rcases Bool.eq_false_or_eq_true (code == 83000) with d2 | d2
    · exact path_wp (G := given kp12 [(1, 1, .call (AV.int IntKind.i64 n1) none)] []) 1000 [false, true] ⟨(atC (cd Try.f12) [1, 1, 1, 0, 1, 0, 1, 0, 0]), [(1, AV.ptr 0 0 0 0), (5, AV.vnil), (6, AV.int IntKind.i64 (IntKind.i64.wrap (r - q)))], [{ elems := [AV.agg [AV.int IntKind.i64 code, AV.int IntKind.i64 r, AV.int IntKind.i64 z, AV.int IntKind.i64 q, AV.int IntKind.i64 rate, AV.int IntKind.i64 ini, AV.bool high]], es := 7, ver := 0, frozen := false, clean := false }], [true, (n1 != 0) == false, true, (code == 83000) == true, true, true], [], [⟨true, false, 14, [AV.agg [AV.int IntKind.i64 code, AV.int IntKind.i64 r, AV.int IntKind.i64 z, AV.int IntKind.i64 q, AV.int IntKind.i64 rate, AV.int IntKind.i64 ini, AV.bool high]], [], AV.int IntKind.i64 n1, []⟩]⟩ (by kernel_rfl) (allB_cons rfl (allB_cons (beq_of d1) (allB_cons rfl (allB_cons (beq_of d2) (allB_cons rfl (allB_cons rfl allB_nil)))))) allP_nil (allC_cons (fun _ => c0 ) allC_nil) (w2 d1 d2)
    · exact path_ret (G := given kp12 [(1, 1, .call (AV.int IntKind.i64 n1) none)] []) 1000 [false, false] (k := ((atC (cd Try.f12) [1, 1, 1, 1, 1])).tail) (env' := [(2, AV.row 1 0), (3, AV.int IntKind.i64 0)]) (L' := [{ elems := [AV.agg [AV.int IntKind.i64 code, AV.int IntKind.i64 r, AV.int IntKind.i64 z, AV.int IntKind.i64 q, AV.int IntKind.i64 rate, AV.int IntKind.i64 ini, AV.bool high]], es := 7, ver := 0, frozen := false, clean := false }, { elems := [AV.int IntKind.i64 z], es := 1, ver := 0, frozen := false, clean := true }]) (asm := [true, (n1 != 0) == false, true, (code == 83000) == false, true, true]) (eqs := []) (calls := [⟨true, false, 14, [AV.agg [AV.int IntKind.i64 code, AV.int IntKind.i64 r, AV.int IntKind.i64 z, AV.int IntKind.i64 q, AV.int IntKind.i64 rate, AV.int IntKind.i64 ini, AV.bool high]], [], AV.int IntKind.i64 n1, []⟩]) (AV.tup [AV.row 1 0, AV.int IntKind.i64 0]) (by kernel_rfl) (by kernel_rfl) (allB_cons rfl (allB_cons (beq_of d1) (allB_cons rfl (allB_cons (beq_of d2) (allB_cons rfl (allB_cons rfl allB_nil)))))) allP_nil (allC_cons (fun _ => c0 ) allC_nil) (w3 d1 d2)

theorem v13 (code r z q rate ini : Int) (high : Bool) (n1 : Int) (Q : AV → Heap → Prop)
  (c0 : Ev M1 (.pure 15 [AV.agg [AV.int IntKind.i64 code, AV.int IntKind.i64 r, AV.int IntKind.i64 z, AV.int IntKind.i64 q, AV.int IntKind.i64 rate, AV.int IntKind.i64 ini, AV.bool high]]) (AV.int IntKind.i64 n1) [])
  (w1 : (n1 != 0) = true → Q (AV.tup [AV.vnil, AV.int IntKind.i64 n1]) [{ elems := [AV.agg [AV.int IntKind.i64 code, AV.int IntKind.i64 r, AV.int IntKind.i64 z, AV.int IntKind.i64 q, AV.int IntKind.i64 rate, AV.int IntKind.i64 ini, AV.bool high]], es := 7, ver := 0, frozen := false, clean := false }])
  (w2 : (n1 != 0) = false → (code == 83000) = true → Wp M1 (.run fi13 (atC (cd Try.f13) [1, 1, 1, 0, 1, 0, 1, 0, 0]) [(1, AV.ptr 0 0 0 0), (5, AV.vnil), (6, AV.int IntKind.i64 (IntKind.i64.wrap (r - q)))] [{ elems := [AV.agg [AV.int IntKind.i64 code, AV.int IntKind.i64 r, AV.int IntKind.i64 z, AV.int IntKind.i64 q, AV.int IntKind.i64 rate, AV.int IntKind.i64 ini, AV.bool high]], es := 7, ver := 0, frozen := false, clean := false }]) Q)
  (w3 : (n1 != 0) = false → (code == 83000) = false → Q (AV.tup [AV.row 1 0, AV.int IntKind.i64 0]) [{ elems := [AV.agg [AV.int IntKind.i64 code, AV.int IntKind.i64 r, AV.int IntKind.i64 z, AV.int IntKind.i64 q, AV.int IntKind.i64 rate, AV.int IntKind.i64 ini, AV.bool high]], es := 7, ver := 0, frozen := false, clean := false }, { elems := [AV.int IntKind.i64 z], es := 1, ver := 0, frozen := false, clean := true }]) :
  Wp M1 (.run fi13 (atC (cd Try.f13) []) [(0, AV.agg [AV.int IntKind.i64 code, AV.int IntKind.i64 r, AV.int IntKind.i64 z, AV.int IntKind.i64 q, AV.int IntKind.i64 rate, AV.int IntKind.i64 ini, AV.bool high])] []) Q := by
  rcases Bool.eq_false_or_eq_true (n1 != 0) with d1 | d1
  · exact path_ret (G := given kp13 [(1, 1, .call (AV.int IntKind.i64 n1) none)] []) 1000 [true] (k := ((atC (cd Try.f13) [1, 0, 1, 1, 0, 1])).tail) (env' := [(2, AV.vnil), (3, AV.int IntKind.i64 n1)]) (L' := [{ elems := [AV.agg [AV.int IntKind.i64 code, AV.int IntKind.i64 r, AV.int IntKind.i64 z, AV.int IntKind.i64 q, AV.int IntKind.i64 rate, AV.int IntKind.i64 ini, AV.bool high]], es := 7, ver := 0, frozen := false, clean := false }]) (asm := [true, (n1 != 0) == true]) (eqs := []) (calls := [⟨true, false, 15, [AV.agg [AV.int IntKind.i64 code, AV.int IntKind.i64 r, AV.int IntKind.i64 z, AV.int IntKind.i64 q, AV.int IntKind.i64 rate, AV.int IntKind.i64 ini, AV.bool high]], [], AV.int IntKind.i64 n1, []⟩]) (AV.tup [AV.vnil, AV.int IntKind.i64 n1]) (by kernel_rfl) (by kernel_rfl) (allB_cons rfl (allB_cons (beq_of d1) allB_nil)) allP_nil (allC_cons (fun _ => c0 ) allC_nil) (w1 d1)
  · rcases Bool.eq_false_or_eq_true (code == 83000) with d2 | d2
    · exact path_wp (G := given kp13 [(1, 1, .call (AV.int IntKind.i64 n1) none)] []) 1000 [false, true] ⟨(atC (cd Try.f13) [1, 1, 1, 0, 1, 0, 1, 0, 0]), [(1, AV.ptr 0 0 0 0), (5, AV.vnil), (6, AV.int IntKind.i64 (IntKind.i64.wrap (r - q)))], [{ elems := [AV.agg [AV.int IntKind.i64 code, AV.int IntKind.i64 r, AV.int IntKind.i64 z, AV.int IntKind.i64 q, AV.int IntKind.i64 rate, AV.int IntKind.i64 ini, AV.bool high]], es := 7, ver := 0, frozen := false, clean := false }], [true, (n1 != 0) == false, true, (code == 83000) == true, true, true], [], [⟨true, false, 15, [AV.agg [AV.int IntKind.i64 code, AV.int IntKind.i64 r, AV.int IntKind.i64 z, AV.int IntKind.i64 q, AV.int IntKind.i64 rate, AV.int IntKind.i64 ini, AV.bool high]], [], AV.int IntKind.i64 n1, []⟩]⟩ (by kernel_rfl) (allB_cons rfl (allB_cons (beq_of d1) (allB_cons rfl (allB_cons (beq_of d2) (allB_cons rfl (allB_cons rfl allB_nil)))))) allP_nil (allC_cons (fun _ => c0 ) allC_nil) (w2 d1 d2)
    · exact path_ret (G := given kp13 [(1, 1, .call (AV.int IntKind.i64 n1) none)] []) 1000 [false, false] (k := ((atC (cd Try.f13) [1, 1, 1, 1, 1])).tail) (env' := [(2, AV.row 1 0), (3, AV.int IntKind.i64 0)]) (L' := [{ elems := [AV.agg [AV.int IntKind.i64 code, AV.int IntKind.i64 r, AV.int IntKind.i64 z, AV.int IntKind.i64 q, AV.int IntKind.i64 rate, AV.int IntKind.i64 ini, AV.bool high]], es := 7, ver := 0, frozen := false, clean := false }, { elems := [AV.int IntKind.i64 z], es := 1, ver := 0, frozen := false, clean := true }]) (asm := [true, (n1 != 0) == false, true, (code == 83000) == false, true, true]) (eqs := []) (calls := [⟨true, false, 15, [AV.agg [AV.int IntKind.i64 code, AV.int IntKind.i64 r, AV.int IntKind.i64 z, AV.int IntKind.i64 q, AV.int IntKind.i64 rate, AV.int IntKind.i64 ini, AV.bool high]], [], AV.int IntKind.i64 n1, []⟩]) (AV.tup [AV.row 1 0, AV.int IntKind.i64 0]) (by kernel_rfl) (by kernel_rfl) (allB_cons rfl (allB_cons (beq_of d1) (allB_cons rfl (allB_cons (beq_of d2) (allB_cons rfl (allB_cons rfl allB_nil)))))) allP_nil (allC_cons (fun _ => c0 ) allC_nil) (w3 d1 d2)

theorem v38 (n : Int)  (Q : AV → Heap → Prop)
  (w1 : Q (AV.bool (bif decide (n > 10000000) then true else decide (n < -10000000))) []) :
  Wp M1 (.run fi38 (atC (cd Try.f38) []) [(0, AV.int IntKind.i64 n)] []) Q := by
  exact path_ret (G := given kp38 [] []) 1000 [] (k := ((atC (cd Try.f38) [1, 1])).tail) (env' := [(2, AV.bool (bif decide (n > 10000000) then true else decide (n < -10000000)))]) (L' := []) (asm := []) (eqs := []) (calls := []) (AV.bool (bif decide (n > 10000000) then true else decide (n < -10000000))) (by kernel_rfl) (by kernel_rfl) allB_nil allP_nil allC_nil (w1 )

theorem v39 (n : Int)  (Q : AV → Heap → Prop)
  (w1 : Q (AV.bool (bif decide (n ≥ -10000000) then decide (n ≤ 10000000) else false)) []) :
  Wp M1 (.run fi39 (atC (cd Try.f39) []) [(0, AV.int IntKind.i64 n)] []) Q := by
  exact path_ret (G := given kp39 [] []) 1000 [] (k := ((atC (cd Try.f39) [1, 1])).tail) (env' := [(2, AV.bool (bif decide (n ≥ -10000000) then decide (n ≤ 10000000) else false))]) (L' := []) (asm := []) (eqs := []) (calls := []) (AV.bool (bif decide (n ≥ -10000000) then decide (n ≤ 10000000) else false)) (by kernel_rfl) (by kernel_rfl) allB_nil allP_nil allC_nil (w1 )

theorem v16 (xs ys : List AV) (f g : Bool)  (Q : AV → Heap → Prop)
  (w1 : ((↑xs.length : Int) != (↑ys.length : Int)) = true → Q (AV.bool false) [])
  (w2 : ((↑xs.length : Int) != (↑ys.length : Int)) = false → Wp M1 (.run fi16 (atC (cd Try.f16) [1, 1, 0, 1, 0, 0]) [(0, AV.vec f 1 xs), (1, AV.vec g 1 ys), (12, AV.int IntKind.i64 (↑xs.length : Int)), (13, AV.int IntKind.i64 0)] []) Q) :
  Wp M1 (.run fi16 (atC (cd Try.f16) []) [(0, AV.vec f 1 xs), (1, AV.vec g 1 ys)] []) Q := by
  rcases Bool.eq_false_or_eq_true ((↑xs.length : Int) != (↑ys.length : Int)) with d1 | d1
  · exact path_ret (G := given kp16 [] []) 1000 [true] (k := ((atC (cd Try.f16) [1, 0, 1, 0, 1])).tail) (env' := [(4, AV.bool false)]) (L' := []) (asm := [((↑xs.length : Int) != (↑ys.length : Int)) == true]) (eqs := []) (calls := []) (AV.bool false) (by kernel_rfl) (by kernel_rfl) (allB_cons (beq_of d1) allB_nil) allP_nil allC_nil (w1 d1)
  · exact path_wp (G := given kp16 [] []) 1000 [false] ⟨(atC (cd Try.f16) [1, 1, 0, 1, 0, 0]), [(0, AV.vec f 1 xs), (1, AV.vec g 1 ys), (12, AV.int IntKind.i64 (↑xs.length : Int)), (13, AV.int IntKind.i64 0)], [], [((↑xs.length : Int) != (↑ys.length : Int)) == false], [], []⟩ (by kernel_rfl) (allB_cons (beq_of d1) allB_nil) allP_nil allC_nil (w2 d1)

theorem v3 (code r z q rate ini : Int) (high : Bool) (b1 : Bool) (l1 : List AV) (n1 : Int) (l2 : List AV) (n2 : Int) (n3 : Int) (n4 : Int) (b2 : Bool) (Q : AV → Heap → Prop)
  (c0 : Ev M1 (.pure 11 []) (AV.bool b1) [])
  (w1 : (!b1) = true → Q (AV.bool false) [{ elems := [AV.agg [AV.int IntKind.i64 code, AV.int IntKind.i64 r, AV.int IntKind.i64 z, AV.int IntKind.i64 q, AV.int IntKind.i64 rate, AV.int IntKind.i64 ini, AV.bool high]], es := 7, ver := 0, frozen := false, clean := false }])
  (c2 : (!b1) = false → Ev M1 (.pure 12 [AV.agg [AV.int IntKind.i64 code, AV.int IntKind.i64 r, AV.int IntKind.i64 z, AV.int IntKind.i64 q, AV.int IntKind.i64 rate, AV.int IntKind.i64 ini, AV.bool high]]) (AV.tup [AV.vec false 1 l1, AV.int IntKind.i64 n1]) [])
  (c3 : (!b1) = false → Ev M1 (.pure 13 [AV.agg [AV.int IntKind.i64 code, AV.int IntKind.i64 r, AV.int IntKind.i64 z, AV.int IntKind.i64 q, AV.int IntKind.i64 rate, AV.int IntKind.i64 ini, AV.bool high]]) (AV.tup [AV.vec false 1 l2, AV.int IntKind.i64 n2]) [])
  (c4 : (!b1) = false → Ev M1 (.pure 14 [AV.agg [AV.int IntKind.i64 code, AV.int IntKind.i64 r, AV.int IntKind.i64 z, AV.int IntKind.i64 q, AV.int IntKind.i64 rate, AV.int IntKind.i64 ini, AV.bool high]]) (AV.int IntKind.i64 n3) [])
  (c5 : (!b1) = false → Ev M1 (.pure 15 [AV.agg [AV.int IntKind.i64 code, AV.int IntKind.i64 r, AV.int IntKind.i64 z, AV.int IntKind.i64 q, AV.int IntKind.i64 rate, AV.int IntKind.i64 ini, AV.bool high]]) (AV.int IntKind.i64 n4) [])
  (c6 : (!b1) = false → ((bif n3 == n4 then n1 == n2 else false) == true && true && true) = true → Ev M1 (.pure 16 [AV.vec false 1 l1, AV.vec false 1 l2]) (AV.bool b2) [])
  (w2 : (!b1) = false → Q (AV.bool (bif bif n3 == n4 then n1 == n2 else false then b2 else false)) [{ elems := [AV.agg [AV.int IntKind.i64 code, AV.int IntKind.i64 r, AV.int IntKind.i64 z, AV.int IntKind.i64 q, AV.int IntKind.i64 rate, AV.int IntKind.i64 ini, AV.bool high]], es := 7, ver := 0, frozen := false, clean := false }]) :
  Wp M1 (.run fi3 (atC (cd Try.f3) []) [(0, AV.agg [AV.int IntKind.i64 code, AV.int IntKind.i64 r, AV.int IntKind.i64 z, AV.int IntKind.i64 q, AV.int IntKind.i64 rate, AV.int IntKind.i64 ini, AV.bool high])] []) Q := by
  rcases Bool.eq_false_or_eq_true (!b1) with d1 | d1
  · exact path_ret (G := given kp3 [(1, 0, .call (AV.bool b1) none)] []) 1000 [true] (k := ((atC (cd Try.f3) [1, 0, 1, 0, 1])).tail) (env' := [(2, AV.bool false)]) (L' := [{ elems := [AV.agg [AV.int IntKind.i64 code, AV.int IntKind.i64 r, AV.int IntKind.i64 z, AV.int IntKind.i64 q, AV.int IntKind.i64 rate, AV.int IntKind.i64 ini, AV.bool high]], es := 7, ver := 0, frozen := false, clean := false }]) (asm := [(!b1) == true]) (eqs := []) (calls := [⟨true, false, 11, [], [], AV.bool b1, []⟩]) (AV.bool false) (by kernel_rfl) (by kernel_rfl) (allB_cons (beq_of d1) allB_nil) allP_nil (allC_cons (fun _ => c0 ) allC_nil) (w1 d1)
  · exact path_ret (G := given kp3 [(1, 0, .call (AV.bool b1) none), (3, 1, .call (AV.tup [AV.vec false 1 l1, AV.int IntKind.i64 n1]) none), (4, 1, .call (AV.tup [AV.vec false 1 l2, AV.int IntKind.i64 n2]) none), (5, 1, .call (AV.int IntKind.i64 n3) none), (5, 3, .call (AV.int IntKind.i64 n4) none), (5, 13, .call (AV.bool b2) none)] []) 1000 [false] (k := ((atC (cd Try.f3) [1, 1, 1, 1, 1])).tail) (env' := [(2, AV.bool (bif bif n3 == n4 then n1 == n2 else false then b2 else false))]) (L' := [{ elems := [AV.agg [AV.int IntKind.i64 code, AV.int IntKind.i64 r, AV.int IntKind.i64 z, AV.int IntKind.i64 q, AV.int IntKind.i64 rate, AV.int IntKind.i64 ini, AV.bool high]], es := 7, ver := 0, frozen := false, clean := false }]) (asm := [(!b1) == false, true, true, true, true]) (eqs := []) (calls := [⟨true, false, 11, [], [], AV.bool b1, []⟩, ⟨true, false, 12, [AV.agg [AV.int IntKind.i64 code, AV.int IntKind.i64 r, AV.int IntKind.i64 z, AV.int IntKind.i64 q, AV.int IntKind.i64 rate, AV.int IntKind.i64 ini, AV.bool high]], [], AV.tup [AV.vec false 1 l1, AV.int IntKind.i64 n1], []⟩, ⟨true, false, 13, [AV.agg [AV.int IntKind.i64 code, AV.int IntKind.i64 r, AV.int IntKind.i64 z, AV.int IntKind.i64 q, AV.int IntKind.i64 rate, AV.int IntKind.i64 ini, AV.bool high]], [], AV.tup [AV.vec false 1 l2, AV.int IntKind.i64 n2], []⟩, ⟨true, false, 14, [AV.agg [AV.int IntKind.i64 code, AV.int IntKind.i64 r, AV.int IntKind.i64 z, AV.int IntKind.i64 q, AV.int IntKind.i64 rate, AV.int IntKind.i64 ini, AV.bool high]], [], AV.int IntKind.i64 n3, []⟩, ⟨true, false, 15, [AV.agg [AV.int IntKind.i64 code, AV.int IntKind.i64 r, AV.int IntKind.i64 z, AV.int IntKind.i64 q, AV.int IntKind.i64 rate, AV.int IntKind.i64 ini, AV.bool high]], [], AV.int IntKind.i64 n4, []⟩, ⟨(bif n3 == n4 then n1 == n2 else false) == true && true && true, false, 16, [AV.vec false 1 l1, AV.vec false 1 l2], [], AV.bool b2, []⟩]) (AV.bool (bif bif n3 == n4 then n1 == n2 else false then b2 else false)) (by kernel_rfl) (by kernel_rfl) (allB_cons (beq_of d1) (allB_cons rfl (allB_cons rfl (allB_cons rfl (allB_cons rfl allB_nil))))) allP_nil (allC_cons (fun _ => c0 ) (allC_cons (fun _ => c2 d1) (allC_cons (fun _ => c3 d1) (allC_cons (fun _ => c4 d1) (allC_cons (fun _ => c5 d1) (allC_cons (c6 d1) allC_nil)))))) (w2 d1)

theorem v12a (code r z q rate ini : Int) (high : Bool) (h : Int)  (Q : AV → Heap → Prop)
  (w1 : (decide (h > z)) = true → Wp M1 (.run fi12 (atC (cd Try.f12) [1, 1, 1, 0, 1, 0, 1, 0, 0]) [(1, AV.ptr 0 0 0 0), (5, AV.row 1 0), (6, AV.int IntKind.i64 (IntKind.i64.wrap (h - q)))] [{ elems := [AV.agg [AV.int IntKind.i64 code, AV.int IntKind.i64 r, AV.int IntKind.i64 z, AV.int IntKind.i64 q, AV.int IntKind.i64 rate, AV.int IntKind.i64 ini, AV.bool high]], es := 7, ver := 0, frozen := false, clean := false }, { elems := [AV.int IntKind.i64 h], es := 1, ver := 0, frozen := false, clean := true }]) Q)
  (w2 : (decide (h > z)) = false → Q (AV.tup [AV.row 1 0, AV.int IntKind.i64 0]) [{ elems := [AV.agg [AV.int IntKind.i64 code, AV.int IntKind.i64 r, AV.int IntKind.i64 z, AV.int IntKind.i64 q, AV.int IntKind.i64 rate, AV.int IntKind.i64 ini, AV.bool high]], es := 7, ver := 0, frozen := false, clean := false }, { elems := [AV.int IntKind.i64 z], es := 1, ver := 0, frozen := false, clean := true }]) :
  Wp M1 (.run fi12 (atC (cd Try.f12) [1, 1, 1, 0, 1, 0, 1, 0, 0]) [(1, AV.ptr 0 0 0 0), (5, AV.vnil), (6, AV.int IntKind.i64 h)] [{ elems := [AV.agg [AV.int IntKind.i64 code, AV.int IntKind.i64 r, AV.int IntKind.i64 z, AV.int IntKind.i64 q, AV.int IntKind.i64 rate, AV.int IntKind.i64 ini, AV.bool high]], es := 7, ver := 0, frozen := false, clean := false }]) Q := by
  rcases Bool.eq_false_or_eq_true (decide (h > z)) with d1 | d1
  · exact path_wp (G := given kp12 [] []) 1000 [true] ⟨(atC (cd Try.f12) [1, 1, 1, 0, 1, 0, 1, 0, 0]), [(1, AV.ptr 0 0 0 0), (5, AV.row 1 0), (6, AV.int IntKind.i64 (IntKind.i64.wrap (h - q)))], [{ elems := [AV.agg [AV.int IntKind.i64 code, AV.int IntKind.i64 r, AV.int IntKind.i64 z, AV.int IntKind.i64 q, AV.int IntKind.i64 rate, AV.int IntKind.i64 ini, AV.bool high]], es := 7, ver := 0, frozen := false, clean := false }, { elems := [AV.int IntKind.i64 h], es := 1, ver := 0, frozen := false, clean := true }], [true, (decide (h > z)) == true, true, true], [], []⟩ (by kernel_rfl) (allB_cons rfl (allB_cons (beq_of d1) (allB_cons rfl (allB_cons rfl allB_nil)))) allP_nil allC_nil (w1 d1)
  · exact path_ret (G := given kp12 [] []) 1000 [false] (k := ((atC (cd Try.f12) [1, 1, 1, 1, 1])).tail) (env' := [(2, AV.row 1 0), (3, AV.int IntKind.i64 0)]) (L' := [{ elems := [AV.agg [AV.int IntKind.i64 code, AV.int IntKind.i64 r, AV.int IntKind.i64 z, AV.int IntKind.i64 q, AV.int IntKind.i64 rate, AV.int IntKind.i64 ini, AV.bool high]], es := 7, ver := 0, frozen := false, clean := false }, { elems := [AV.int IntKind.i64 z], es := 1, ver := 0, frozen := false, clean := true }]) (asm := [true, (decide (h > z)) == false, true, true]) (eqs := []) (calls := []) (AV.tup [AV.row 1 0, AV.int IntKind.i64 0]) (by kernel_rfl) (by kernel_rfl) (allB_cons rfl (allB_cons (beq_of d1) (allB_cons rfl (allB_cons rfl allB_nil)))) allP_nil allC_nil (w2 d1)

theorem v12b (code r z q rate ini : Int) (high : Bool) (h : Int) (l : List AV) (v : Nat)  (Q : AV → Heap → Prop)
  (k0 : (decide (h > z)) = true → (decide ((l.length + 1) * 8 ≤ 1099511627776)) = true)
  (w1 : (decide (h > z)) = true → Wp M1 (.run fi12 (atC (cd Try.f12) [1, 1, 1, 0, 1, 0, 1, 0, 0]) [(1, AV.ptr 0 0 0 0), (5, AV.row 1 (v + 1)), (6, AV.int IntKind.i64 (IntKind.i64.wrap (h - q)))] [{ elems := [AV.agg [AV.int IntKind.i64 code, AV.int IntKind.i64 r, AV.int IntKind.i64 z, AV.int IntKind.i64 q, AV.int IntKind.i64 rate, AV.int IntKind.i64 ini, AV.bool high]], es := 7, ver := 0, frozen := false, clean := false }, { elems := l ++ [AV.int IntKind.i64 h], es := 1, ver := v + 1, frozen := false, clean := true }]) Q)
  (k2 : (decide (h > z)) = false → (decide ((l.length + 1) * 8 ≤ 1099511627776)) = true)
  (w2 : (decide (h > z)) = false → Q (AV.tup [AV.row 1 (v + 1), AV.int IntKind.i64 0]) [{ elems := [AV.agg [AV.int IntKind.i64 code, AV.int IntKind.i64 r, AV.int IntKind.i64 z, AV.int IntKind.i64 q, AV.int IntKind.i64 rate, AV.int IntKind.i64 ini, AV.bool high]], es := 7, ver := 0, frozen := false, clean := false }, { elems := l ++ [AV.int IntKind.i64 z], es := 1, ver := v + 1, frozen := false, clean := true }]) :
  Wp M1 (.run fi12 (atC (cd Try.f12) [1, 1, 1, 0, 1, 0, 1, 0, 0]) [(1, AV.ptr 0 0 0 0), (5, AV.row 1 v), (6, AV.int IntKind.i64 h)] [{ elems := [AV.agg [AV.int IntKind.i64 code, AV.int IntKind.i64 r, AV.int IntKind.i64 z, AV.int IntKind.i64 q, AV.int IntKind.i64 rate, AV.int IntKind.i64 ini, AV.bool high]], es := 7, ver := 0, frozen := false, clean := false }, { elems := l, es := 1, ver := v, frozen := false, clean := true }]) Q := by
  rcases Bool.eq_false_or_eq_true (decide (h > z)) with d1 | d1
  · exact path_wp (G := given kp12 [] []) 1000 [true] ⟨(atC (cd Try.f12) [1, 1, 1, 0, 1, 0, 1, 0, 0]), [(1, AV.ptr 0 0 0 0), (5, AV.row 1 (v + 1)), (6, AV.int IntKind.i64 (IntKind.i64.wrap (h - q)))], [{ elems := [AV.agg [AV.int IntKind.i64 code, AV.int IntKind.i64 r, AV.int IntKind.i64 z, AV.int IntKind.i64 q, AV.int IntKind.i64 rate, AV.int IntKind.i64 ini, AV.bool high]], es := 7, ver := 0, frozen := false, clean := false }, { elems := l ++ [AV.int IntKind.i64 h], es := 1, ver := v + 1, frozen := false, clean := true }], [true, (decide (h > z)) == true, v == v, decide ((l.length + 1) * 8 ≤ 1099511627776), true], [], []⟩ (by kernel_rfl) (allB_cons rfl (allB_cons (beq_of d1) (allB_cons (beq_self_eq_true _) (allB_cons (k0 d1) (allB_cons rfl allB_nil))))) allP_nil allC_nil (w1 d1)
  · exact path_ret (G := given kp12 [] []) 1000 [false] (k := ((atC (cd Try.f12) [1, 1, 1, 1, 1])).tail) (env' := [(2, AV.row 1 (v + 1)), (3, AV.int IntKind.i64 0)]) (L' := [{ elems := [AV.agg [AV.int IntKind.i64 code, AV.int IntKind.i64 r, AV.int IntKind.i64 z, AV.int IntKind.i64 q, AV.int IntKind.i64 rate, AV.int IntKind.i64 ini, AV.bool high]], es := 7, ver := 0, frozen := false, clean := false }, { elems := l ++ [AV.int IntKind.i64 z], es := 1, ver := v + 1, frozen := false, clean := true }]) (asm := [true, (decide (h > z)) == false, true, v == v, decide ((l.length + 1) * 8 ≤ 1099511627776)]) (eqs := []) (calls := []) (AV.tup [AV.row 1 (v + 1), AV.int IntKind.i64 0]) (by kernel_rfl) (by kernel_rfl) (allB_cons rfl (allB_cons (beq_of d1) (allB_cons rfl (allB_cons (beq_self_eq_true _) (allB_cons (k2 d1) allB_nil))))) allP_nil allC_nil (w2 d1)

theorem v13a (code r z q rate ini : Int) (high : Bool) (h : Int)  (Q : AV → Heap → Prop)
  (w1 : (decide (h > z)) = true → Wp M1 (.run fi13 (atC (cd Try.f13) [1, 1, 1, 0, 1, 0, 1, 0, 0]) [(1, AV.ptr 0 0 0 0), (5, AV.row 1 0), (6, AV.int IntKind.i64 (IntKind.i64.wrap (h - q)))] [{ elems := [AV.agg [AV.int IntKind.i64 code, AV.int IntKind.i64 r, AV.int IntKind.i64 z, AV.int IntKind.i64 q, AV.int IntKind.i64 rate, AV.int IntKind.i64 ini, AV.bool high]], es := 7, ver := 0, frozen := false, clean := false }, { elems := [AV.int IntKind.i64 h], es := 1, ver := 0, frozen := false, clean := true }]) Q)
  (w2 : (decide (h > z)) = false → Q (AV.tup [AV.row 1 0, AV.int IntKind.i64 0]) [{ elems := [AV.agg [AV.int IntKind.i64 code, AV.int IntKind.i64 r, AV.int IntKind.i64 z, AV.int IntKind.i64 q, AV.int IntKind.i64 rate, AV.int IntKind.i64 ini, AV.bool high]], es := 7, ver := 0, frozen := false, clean := false }, { elems := [AV.int IntKind.i64 z], es := 1, ver := 0, frozen := false, clean := true }]) :
  Wp M1 (.run fi13 (atC (cd Try.f13) [1, 1, 1, 0, 1, 0, 1, 0, 0]) [(1, AV.ptr 0 0 0 0), (5, AV.vnil), (6, AV.int IntKind.i64 h)] [{ elems := [AV.agg [AV.int IntKind.i64 code, AV.int IntKind.i64 r, AV.int IntKind.i64 z, AV.int IntKind.i64 q, AV.int IntKind.i64 rate, AV.int IntKind.i64 ini, AV.bool high]], es := 7, ver := 0, frozen := false, clean := false }]) Q := by
  rcases Bool.eq_false_or_eq_true (decide (h > z)) with d1 | d1
  · exact path_wp (G := given kp13 [] []) 1000 [true] ⟨(atC (cd Try.f13) [1, 1, 1, 0, 1, 0, 1, 0, 0]), [(1, AV.ptr 0 0 0 0), (5, AV.row 1 0), (6, AV.int IntKind.i64 (IntKind.i64.wrap (h - q)))], [{ elems := [AV.agg [AV.int IntKind.i64 code, AV.int IntKind.i64 r, AV.int IntKind.i64 z, AV.int IntKind.i64 q, AV.int IntKind.i64 rate, AV.int IntKind.i64 ini, AV.bool high]], es := 7, ver := 0, frozen := false, clean := false }, { elems := [AV.int IntKind.i64 h], es := 1, ver := 0, frozen := false, clean := true }], [true, (decide (h > z)) == true, true, true], [], []⟩ (by kernel_rfl) (allB_cons rfl (allB_cons (beq_of d1) (allB_cons rfl (allB_cons rfl allB_nil)))) allP_nil allC_nil (w1 d1)
  · exact path_ret (G := given kp13 [] []) 1000 [false] (k := ((atC (cd Try.f13) [1, 1, 1, 1, 1])).tail) (env' := [(2, AV.row 1 0), (3, AV.int IntKind.i64 0)]) (L' := [{ elems := [AV.agg [AV.int IntKind.i64 code, AV.int IntKind.i64 r, AV.int IntKind.i64 z, AV.int IntKind.i64 q, AV.int IntKind.i64 rate, AV.int IntKind.i64 ini, AV.bool high]], es := 7, ver := 0, frozen := false, clean := false }, { elems := [AV.int IntKind.i64 z], es := 1, ver := 0, frozen := false, clean := true }]) (asm := [true, (decide (h > z)) == false, true, true]) (eqs := []) (calls := []) (AV.tup [AV.row 1 0, AV.int IntKind.i64 0]) (by kernel_rfl) (by kernel_rfl) (allB_cons rfl (allB_cons (beq_of d1) (allB_cons rfl (allB_cons rfl allB_nil)))) allP_nil allC_nil (w2 d1)

theorem v13b (code r z q rate ini : Int) (high : Bool) (h : Int) (l : List AV) (v : Nat)  (Q : AV → Heap → Prop)
  (k0 : (decide (h > z)) = true → (decide ((l.length + 1) * 8 ≤ 1099511627776)) = true)
  (w1 : (decide (h > z)) = true → Wp M1 (.run fi13 (atC (cd Try.f13) [1, 1, 1, 0, 1, 0, 1, 0, 0]) [(1, AV.ptr 0 0 0 0), (5, AV.row 1 (v + 1)), (6, AV.int IntKind.i64 (IntKind.i64.wrap (h - q)))] [{ elems := [AV.agg [AV.int IntKind.i64 code, AV.int IntKind.i64 r, AV.int IntKind.i64 z, AV.int IntKind.i64 q, AV.int IntKind.i64 rate, AV.int IntKind.i64 ini, AV.bool high]], es := 7, ver := 0, frozen := false, clean := false }, { elems := l ++ [AV.int IntKind.i64 h], es := 1, ver := v + 1, frozen := false, clean := true }]) Q)
  (k2 : (decide (h > z)) = false → (decide ((l.length + 1) * 8 ≤ 1099511627776)) = true)
  (w2 : (decide (h > z)) = false → Q (AV.tup [AV.row 1 (v + 1), AV.int IntKind.i64 0]) [{ elems := [AV.agg [AV.int IntKind.i64 code, AV.int IntKind.i64 r, AV.int IntKind.i64 z, AV.int IntKind.i64 q, AV.int IntKind.i64 rate, AV.int IntKind.i64 ini, AV.bool high]], es := 7, ver := 0, frozen := false, clean := false }, { elems := l ++ [AV.int IntKind.i64 z], es := 1, ver := v + 1, frozen := false, clean := true }]) :
  Wp M1 (.run fi13 (atC (cd Try.f13) [1, 1, 1, 0, 1, 0, 1, 0, 0]) [(1, AV.ptr 0 0 0 0), (5, AV.row 1 v), (6, AV.int IntKind.i64 h)] [{ elems := [AV.agg [AV.int IntKind.i64 code, AV.int IntKind.i64 r, AV.int IntKind.i64 z, AV.int IntKind.i64 q, AV.int IntKind.i64 rate, AV.int IntKind.i64 ini, AV.bool high]], es := 7, ver := 0, frozen := false, clean := false }, { elems := l, es := 1, ver := v, frozen := false, clean := true }]) Q := by
  rcases Bool.eq_false_or_eq_true (decide (h > z)) with d1 | d1
  · exact path_wp (G := given kp13 [] []) 1000 [true] ⟨(atC (cd Try.f13) [1, 1, 1, 0, 1, 0, 1, 0, 0]), [(1, AV.ptr 0 0 0 0), (5, AV.row 1 (v + 1)), (6, AV.int IntKind.i64 (IntKind.i64.wrap (h - q)))], [{ elems := [AV.agg [AV.int IntKind.i64 code, AV.int IntKind.i64 r, AV.int IntKind.i64 z, AV.int IntKind.i64 q, AV.int IntKind.i64 rate, AV.int IntKind.i64 ini, AV.bool high]], es := 7, ver := 0, frozen := false, clean := false }, { elems := l ++ [AV.int IntKind.i64 h], es := 1, ver := v + 1, frozen := false, clean := true }], [true, (decide (h > z)) == true, v == v, decide ((l.length + 1) * 8 ≤ 1099511627776), true], [], []⟩ (by kernel_rfl) (allB_cons rfl (allB_cons (beq_of d1) (allB_cons (beq_self_eq_true _) (allB_cons (k0 d1) (allB_cons rfl allB_nil))))) allP_nil allC_nil (w1 d1)
  · exact path_ret (G := given kp13 [] []) 1000 [false] (k := ((atC (cd Try.f13) [1, 1, 1, 1, 1])).tail) (env' := [(2, AV.row 1 (v + 1)), (3, AV.int IntKind.i64 0)]) (L' := [{ elems := [AV.agg [AV.int IntKind.i64 code, AV.int IntKind.i64 r, AV.int IntKind.i64 z, AV.int IntKind.i64 q, AV.int IntKind.i64 rate, AV.int IntKind.i64 ini, AV.bool high]], es := 7, ver := 0, frozen := false, clean := false }, { elems := l ++ [AV.int IntKind.i64 z], es := 1, ver := v + 1, frozen := false, clean := true }]) (asm := [true, (decide (h > z)) == false, true, v == v, decide ((l.length + 1) * 8 ≤ 1099511627776)]) (eqs := []) (calls := []) (AV.tup [AV.row 1 (v + 1), AV.int IntKind.i64 0]) (by kernel_rfl) (by kernel_rfl) (allB_cons rfl (allB_cons (beq_of d1) (allB_cons rfl (allB_cons (beq_self_eq_true _) (allB_cons (k2 d1) allB_nil))))) allP_nil allC_nil (w2 d1)

theorem v15a (code r z q rate ini : Int) (high : Bool) (n h : Int)  (Q : AV → Heap → Prop)
  (w1 : (decide (h > z)) = true → (decide (IntKind.i64.wrap (n + 1) > 999)) = true → Q (AV.int IntKind.i64 3) [{ elems := [AV.agg [AV.int IntKind.i64 code, AV.int IntKind.i64 r, AV.int IntKind.i64 z, AV.int IntKind.i64 q, AV.int IntKind.i64 rate, AV.int IntKind.i64 ini, AV.bool high]], es := 7, ver := 0, frozen := false, clean := false }])
  (w2 : (decide (h > z)) = true → (decide (IntKind.i64.wrap (n + 1) > 999)) = false → Wp M1 (.run fi15 (atC (cd Try.f15) [1, 1, 1, 1, 0, 1, 0, 1, 1, 0, 0]) [(1, AV.ptr 0 0 0 0), (4, AV.int IntKind.i64 (IntKind.i64.wrap (n + 1))), (5, AV.int IntKind.i64 (IntKind.i64.wrap (h - q)))] [{ elems := [AV.agg [AV.int IntKind.i64 code, AV.int IntKind.i64 r, AV.int IntKind.i64 z, AV.int IntKind.i64 q, AV.int IntKind.i64 rate, AV.int IntKind.i64 ini, AV.bool high]], es := 7, ver := 0, frozen := false, clean := false }]) Q)
  (w3 : (decide (h > z)) = false → Q (AV.int IntKind.i64 0) [{ elems := [AV.agg [AV.int IntKind.i64 code, AV.int IntKind.i64 r, AV.int IntKind.i64 z, AV.int IntKind.i64 q, AV.int IntKind.i64 rate, AV.int IntKind.i64 ini, AV.bool high]], es := 7, ver := 0, frozen := false, clean := false }]) :
  Wp M1 (.run fi15 (atC (cd Try.f15) [1, 1, 1, 1, 0, 1, 0, 1, 1, 0, 0]) [(1, AV.ptr 0 0 0 0), (4, AV.int IntKind.i64 n), (5, AV.int IntKind.i64 h)] [{ elems := [AV.agg [AV.int IntKind.i64 code, AV.int IntKind.i64 r, AV.int IntKind.i64 z, AV.int IntKind.i64 q, AV.int IntKind.i64 rate, AV.int IntKind.i64 ini, AV.bool high]], es := 7, ver := 0, frozen := false, clean := false }]) Q := by
  rcases Bool.eq_false_or_eq_true (decide (h > z)) with d1 | d1
  · rcases Bool.eq_false_or_eq_true (decide (IntKind.i64.wrap (n + 1) > 999)) with d2 | d2
    · exact path_ret (G := given kp15 [] []) 1000 [true, true] (k := ((atC (cd Try.f15) [1, 1, 1, 1, 0, 1, 0, 1, 1, 0, 0, 1, 0, 0, 1, 1, 0, 1])).tail) (env' := [(2, AV.int IntKind.i64 3)]) (L' := [{ elems := [AV.agg [AV.int IntKind.i64 code, AV.int IntKind.i64 r, AV.int IntKind.i64 z, AV.int IntKind.i64 q, AV.int IntKind.i64 rate, AV.int IntKind.i64 ini, AV.bool high]], es := 7, ver := 0, frozen := false, clean := false }]) (asm := [true, (decide (h > z)) == true, (decide (IntKind.i64.wrap (n + 1) > 999)) == true]) (eqs := []) (calls := []) (AV.int IntKind.i64 3) (by kernel_rfl) (by kernel_rfl) (allB_cons rfl (allB_cons (beq_of d1) (allB_cons (beq_of d2) allB_nil))) allP_nil allC_nil (w1 d1 d2)
    · exact path_wp (G := given kp15 [] []) 1000 [true, false] ⟨(atC (cd Try.f15) [1, 1, 1, 1, 0, 1, 0, 1, 1, 0, 0]), [(1, AV.ptr 0 0 0 0), (4, AV.int IntKind.i64 (IntKind.i64.wrap (n + 1))), (5, AV.int IntKind.i64 (IntKind.i64.wrap (h - q)))], [{ elems := [AV.agg [AV.int IntKind.i64 code, AV.int IntKind.i64 r, AV.int IntKind.i64 z, AV.int IntKind.i64 q, AV.int IntKind.i64 rate, AV.int IntKind.i64 ini, AV.bool high]], es := 7, ver := 0, frozen := false, clean := false }], [true, (decide (h > z)) == true, (decide (IntKind.i64.wrap (n + 1) > 999)) == false, true], [], []⟩ (by kernel_rfl) (allB_cons rfl (allB_cons (beq_of d1) (allB_cons (beq_of d2) (allB_cons rfl allB_nil)))) allP_nil allC_nil (w2 d1 d2)
  · exact path_ret (G := given kp15 [] []) 1000 [false] (k := ((atC (cd Try.f15) [1, 1, 1, 1, 1, 1])).tail) (env' := [(2, AV.int IntKind.i64 0)]) (L' := [{ elems := [AV.agg [AV.int IntKind.i64 code, AV.int IntKind.i64 r, AV.int IntKind.i64 z, AV.int IntKind.i64 q, AV.int IntKind.i64 rate, AV.int IntKind.i64 ini, AV.bool high]], es := 7, ver := 0, frozen := false, clean := false }]) (asm := [true, (decide (h > z)) == false]) (eqs := []) (calls := []) (AV.int IntKind.i64 0) (by kernel_rfl) (by kernel_rfl) (allB_cons rfl (allB_cons (beq_of d1) allB_nil)) allP_nil allC_nil (w3 d1)

theorem v16a (xs ys : List AV) (f g : Bool) (n i : Int) (n1 : Int) (n2 : Int) (Q : AV → Heap → Prop)
  (k0 : (decide (i < n)) = true → (decide (0 ≤ i)) = true)
  (k1 : (decide (i < n)) = true → (decide (i.toNat < xs.length)) = true)
  (k2 : (decide (i < n)) = true → (decide (0 ≤ i)) = true)
  (k3 : (decide (i < n)) = true → (decide (i.toNat < ys.length)) = true)
  (e4 : (decide (i < n)) = true → xs.get?Internal i.toNat = some (AV.int IntKind.i64 n1))
  (e5 : (decide (i < n)) = true → ys.get?Internal i.toNat = some (AV.int IntKind.i64 n2))
  (w1 : (decide (i < n)) = true → (n1 != n2) = true → Q (AV.bool false) [])
  (w2 : (decide (i < n)) = true → (n1 != n2) = false → Wp M1 (.run fi16 (atC (cd Try.f16) [1, 1, 0, 1, 0, 0]) [(0, AV.vec f 1 xs), (1, AV.vec g 1 ys), (12, AV.int IntKind.i64 n), (13, AV.int IntKind.i64 (IntKind.i64.wrap (i + 1)))] []) Q)
  (w3 : (decide (i < n)) = false → Q (AV.bool true) []) :
  Wp M1 (.run fi16 (atC (cd Try.f16) [1, 1, 0, 1, 0, 0]) [(0, AV.vec f 1 xs), (1, AV.vec g 1 ys), (12, AV.int IntKind.i64 n), (13, AV.int IntKind.i64 i)] []) Q := by
  rcases Bool.eq_false_or_eq_true (decide (i < n)) with d1 | d1
  · rcases Bool.eq_false_or_eq_true (n1 != n2) with d2 | d2
    · exact path_ret (G := given kp16 [(6, 3, .elem (AV.int IntKind.i64 n1)), (6, 7, .elem (AV.int IntKind.i64 n2))] []) 1000 [true, true] (k := ((atC (cd Try.f16) [1, 1, 0, 1, 0, 0, 1, 1, 0, 0, 1, 1, 0, 1])).tail) (env' := [(4, AV.bool false)]) (L' := []) (asm := [(decide (i < n)) == true, decide (0 ≤ i), decide (i.toNat < xs.length), decide (0 ≤ i), decide (i.toNat < ys.length), (n1 != n2) == true]) (eqs := [(xs.get?Internal i.toNat = some (AV.int IntKind.i64 n1)), (ys.get?Internal i.toNat = some (AV.int IntKind.i64 n2))]) (calls := []) (AV.bool false) (by kernel_rfl) (by kernel_rfl) (allB_cons (beq_of d1) (allB_cons (k0 d1) (allB_cons (k1 d1) (allB_cons (k2 d1) (allB_cons (k3 d1) (allB_cons (beq_of d2) allB_nil)))))) (allP_cons (e4 d1) (allP_cons (e5 d1) allP_nil)) allC_nil (w1 d1 d2)
    · exact path_wp (G := given kp16 [(6, 3, .elem (AV.int IntKind.i64 n1)), (6, 7, .elem (AV.int IntKind.i64 n2))] []) 1000 [true, false] ⟨(atC (cd Try.f16) [1, 1, 0, 1, 0, 0]), [(0, AV.vec f 1 xs), (1, AV.vec g 1 ys), (12, AV.int IntKind.i64 n), (13, AV.int IntKind.i64 (IntKind.i64.wrap (i + 1)))], [], [(decide (i < n)) == true, decide (0 ≤ i), decide (i.toNat < xs.length), decide (0 ≤ i), decide (i.toNat < ys.length), (n1 != n2) == false], [(xs.get?Internal i.toNat = some (AV.int IntKind.i64 n1)), (ys.get?Internal i.toNat = some (AV.int IntKind.i64 n2))], []⟩ (by kernel_rfl) (allB_cons (beq_of d1) (allB_cons (k0 d1) (allB_cons (k1 d1) (allB_cons (k2 d1) (allB_cons (k3 d1) (allB_cons (beq_of d2) allB_nil)))))) (allP_cons (e4 d1) (allP_cons (e5 d1) allP_nil)) allC_nil (w2 d1 d2)
  · exact path_ret (G := given kp16 [] []) 1000 [false] (k := ((atC (cd Try.f16) [1, 1, 1, 1])).tail) (env' := [(4, AV.bool true)]) (L' := []) (asm := [(decide (i < n)) == false]) (eqs := []) (calls := []) (AV.bool true) (by kernel_rfl) (by kernel_rfl) (allB_cons (beq_of d1) allB_nil) allP_nil allC_nil (w3 d1)


end Go.Av

/- WHAT THE FUNCTIONS OF LAYER 44 ANSWER, those that CycleValid reaches: 'Ev M1 (.pure f args) answer []'. -/
namespace Go.Av
open Go.Proofs

abbrev cyc (code r z q rate ini : Int) (high : Bool) : AV := .agg [.int .i64 code, .int .i64 r, .int .i64 z, .int .i64 q, .int .i64 rate, .int .i64 ini, .bool high]

def farI (n : Int) : Bool := decide (n > 10000000) || decide (n < -10000000)

theorem ev38 (n : Int) : Ev M1 (.pure 38 [.int .i64 n]) (.bool (farI n)) [] :=
  pure_wp Try.f38 fi38 (by kernel_rfl) (by kernel_rfl) (by kernel_rfl) (by kernel_rfl) (v38 n _ (q_bool (by unfold farI; cases decide (n > 10000000) <;> rfl))) rfl

theorem ev39 (n : Int) : Ev M1 (.pure 39 [.int .i64 n]) (.bool (!farI n)) [] :=
  pure_wp Try.f39 fi39 (by kernel_rfl) (by kernel_rfl) (by kernel_rfl) (by kernel_rfl) (v39 n _ (q_bool (by
    unfold farI
    rw [Bool.eq_iff_iff]
    simp only [Bool.cond_eq_true_distrib, Bool.not_eq_true', Bool.or_eq_false_iff, decide_eq_true_eq, decide_eq_false_iff_not]
    grind))) rfl

/-- The error of a cycle. -/
def validE (code r z q rate ini : Int) : Int :=
  if (code ≠ 83000 ∧ code ≠ 81000 ∧ code ≠ 82000) ∨ z ≥ r ∨ r > ini ∨ rate < 1 ∨ rate > 1000000000000 ∨ (code = 83000 ∧ q ≤ 0) then 1
  else if farI r = true ∨ farI z = true ∨ farI ini = true ∨ (code = 83000 ∧ farI q = true) then 11
  else if code = 83000 ∧ (r - z - 1) / q > 999 then 3 else 0

theorem farI_false {n : Int} (h : ¬farI n = true) : -10000000 ≤ n ∧ n ≤ 10000000 := by
  simp only [farI, Bool.or_eq_true, decide_eq_true_eq] at h; omega

theorem quo_w {r z q : Int} (hr : -10000000 ≤ r ∧ r ≤ 10000000) (hz : -10000000 ≤ z ∧ z ≤ 10000000) (hq : 1 ≤ q) (hrz : z < r) :
    IntKind.i64.wrap ((IntKind.i64.wrap (IntKind.i64.wrap (r - z) - 1)).tdiv q) = (r - z - 1) / q := by
  rw [w64 (r - z) (by omega), w64 (r - z - 1) (by omega), Int.tdiv_eq_ediv_of_nonneg (by omega)]
  have h1 : 0 ≤ (r - z - 1) / q := Int.ediv_nonneg (by omega) (by omega)
  have h2 : (r - z - 1) / q ≤ r - z - 1 := Int.ediv_le_self _ (by omega)
  exact w64 _ (by omega)

theorem ev14 (code r z q rate ini : Int) (high : Bool) : Ev M1 (.pure 14 [cyc code r z q rate ini high]) (.int .i64 (validE code r z q rate ini)) [] := by
  refine pure_wp Try.f14 fi14 (by kernel_rfl) (by kernel_rfl) (by kernel_rfl) (by kernel_rfl) ?_ rfl
  apply v14 code r z q rate ini high (farI r) (farI z) (farI ini) (farI q) <;> simp only [bif_or, bif_and, Bool.or_eq_true, Bool.and_eq_true, Bool.or_eq_false_iff, Bool.and_eq_false_iff, Bool.not_eq_true', bne_iff_ne, beq_iff_eq, beq_eq_false_iff_ne, bne_eq_false_iff_eq, decide_eq_true_eq, decide_eq_false_iff_not]
  · intro h; apply q_int; unfold validE; rw [if_pos (by grind)]
  · intro _; exact ev38 r
  · intro _ _; exact ev38 z
  · intro _ _; exact ev38 ini
  · intro _ _; exact ev38 q
  · intro h1 h2; apply q_int; unfold validE; rw [if_neg (by grind), if_pos (by grind)]
  · intro h1 h2; grind
  · intro h1 h2 h3
    have hq : 1 ≤ q := by grind
    rw [quo_w (farI_false (by grind)) (farI_false (by grind)) hq (by grind)] at h3
    apply q_int; unfold validE; rw [if_neg (by grind), if_neg (by grind), if_pos h3]
  · intro h1 h2 h3
    apply q_int; unfold validE; rw [if_neg (by grind), if_neg (by grind), if_neg (fun h => ?_)]
    have hq : 1 ≤ q := by grind
    rw [quo_w (farI_false (by grind)) (farI_false (by grind)) hq (by grind)] at h3
    grind

/-- The loop of the reference: n turns are done. -/
theorem loop15 (code r z q rate ini : Int) (high : Bool) (hq : 1 ≤ q) (hr : -10000000 ≤ r ∧ r ≤ 10000000) (hz : -10000000 ≤ z ∧ z ≤ 10000000) (hq2 : q ≤ 10000000) {Q : AV → Heap → Prop} : ∀ (m : Nat) (n h : Int), n + m = 999 → 0 ≤ n → h = r - (n + 1) * q →
    -30000000 ≤ h → Q (.int .i64 (if h - m * q > z then 3 else 0)) [⟨[cyc code r z q rate ini high], 7, 0, false, false⟩] →
    Wp M1 (.run fi15 (atC (cd Try.f15) [1, 1, 1, 1, 0, 1, 0, 1, 1, 0, 0]) [(1, .ptr 0 0 0 0), (4, .int .i64 n), (5, .int .i64 h)] [⟨[cyc code r z q rate ini high], 7, 0, false, false⟩]) Q := by
  intro m
  induction m with
  | zero =>
    intro n h hn h0 hh hlo hQ
    apply v15a <;> simp only [decide_eq_true_eq, decide_eq_false_iff_not]
    · intro h1 h2
      rwa [if_pos (by simpa using h1)] at hQ
    · intro h1 h2
      rw [w64 (n + 1) (by omega)] at h2
      omega
    · intro h1
      rwa [if_neg (by simpa using h1)] at hQ
  | succ m ih =>
    intro n h hn h0 hh hlo hQ
    have hmq : 0 ≤ (m : Int) * q := Int.mul_nonneg (by omega) (by omega)
    apply v15a <;> simp only [decide_eq_true_eq, decide_eq_false_iff_not]
    · intro h1 h2
      rw [w64 (n + 1) (by omega)] at h2
      omega
    · intro h1 h2
      have hle : h ≤ r := by
        have : 0 ≤ (n + 1) * q := Int.mul_nonneg (by omega) (by omega)
        omega
      rw [w64 (n + 1) (by omega), w64 (h - q) (by omega)]
      refine ih (n + 1) (h - q) (by omega) (by omega) (by grind) (by omega) ?_
      have e : h - q - (m : Int) * q = h - ((m + 1 : Nat) : Int) * q := by grind
      rwa [e]
    · intro h1
      rwa [if_neg (by have : ((m + 1 : Nat) : Int) * q = m * q + q := by grind
                      omega)] at hQ

theorem ev15 (code r z q rate ini : Int) (high : Bool) : Ev M1 (.pure 15 [cyc code r z q rate ini high]) (.int .i64 (validE code r z q rate ini)) [] := by
  refine pure_wp Try.f15 fi15 (by kernel_rfl) (by kernel_rfl) (by kernel_rfl) (by kernel_rfl) ?_ rfl
  apply v15 code r z q rate ini high (!farI r) (!farI z) (!farI ini) (!farI q) <;> simp only [bif_or, bif_and, Bool.not_not, Bool.or_eq_true, Bool.and_eq_true, Bool.or_eq_false_iff, Bool.and_eq_false_iff, Bool.not_eq_true', bne_iff_ne, beq_iff_eq, beq_eq_false_iff_ne, bne_eq_false_iff_eq, decide_eq_true_eq, decide_eq_false_iff_not]
  · intro h; apply q_int; unfold validE; rw [if_pos (by grind)]
  · intro _; exact ev39 r
  · intro _ _; exact ev39 z
  · intro _ _; exact ev39 ini
  · intro _ _; exact ev39 q
  · intro h1 h2; apply q_int; unfold validE; rw [if_neg (by grind), if_pos (by grind)]
  · intro h1 h2 h3
    have hq : 1 ≤ q := by grind
    have hr := farI_false (n := r) (by grind)
    have hz := farI_false (n := z) (by grind)
    have hq2 := farI_false (n := q) (by grind)
    rw [w64 (r - q) (by omega)]
    refine loop15 code r z q rate ini high hq hr hz hq2.2 999 0 (r - q) (by omega) (by omega) (by omega) (by omega) ?_
    have hv : validE code r z q rate ini = if (r - z - 1) / q > 999 then 3 else 0 := by
      unfold validE; rw [if_neg (by grind), if_neg (by grind)]; simp only [h3, true_and]
    have key : r - q - ((999 : Nat) : Int) * q > z ↔ (r - z - 1) / q > 999 := by
      rw [gt_iff_lt, gt_iff_lt, Int.lt_iff_add_one_le, Int.lt_iff_add_one_le, Int.le_ediv_iff_mul_le (by omega)]
      constructor <;> intro h <;> omega
    apply q_int; rw [hv]; simp only [key]
  · intro h1 h2 h3
    apply q_int; unfold validE; rw [if_neg (by grind), if_neg (by grind), if_neg (by grind)]

/-- The heights above the last one. -/
def peck (q z : Int) : Nat → Int → List AV
  | 0, _ => []
  | m + 1, h => if h > z then .int .i64 h :: peck q z m (h - q) else []

def depthsL (code r z q : Int) : List AV := (if code = 83000 then peck q z 1000 (r - q) else []) ++ [.int .i64 z]

/-- What Depths answers. -/
def depthsA (code r z q rate ini : Int) : AV :=
  .tup [.vec false 1 (if validE code r z q rate ini = 0 then depthsL code r z q else []), .int .i64 (validE code r z q rate ini)]

theorem valid_facts {code r z q rate ini : Int} (h : validE code r z q rate ini = 0) : z < r ∧ (-10000000 ≤ r ∧ r ≤ 10000000) ∧ (-10000000 ≤ z ∧ z ≤ 10000000) ∧ (-10000000 ≤ ini ∧ ini ≤ 10000000) ∧ r ≤ ini ∧ 1 ≤ rate ∧ rate ≤ 1000000000000 ∧
    (code = 83000 → 1 ≤ q ∧ q ≤ 10000000 ∧ r - 1001 * q ≤ z) ∧ (code = 83000 ∨ code = 81000 ∨ code = 82000) := by
  unfold validE at h
  split at h
  · simp at h
  · rename_i h1
    split at h
    · simp at h
    · rename_i h2
      split at h
      · simp at h
      · rename_i h3
        refine ⟨by grind, farI_false (by grind), farI_false (by grind), farI_false (by grind), by grind, by grind, by grind, fun hc => ?_, by grind⟩
        have hq : 1 ≤ q := by grind
        refine ⟨hq, (farI_false (n := q) (by grind)).2, ?_⟩
        have h4 : ¬((r - z - 1) / q > 999) := by grind
        rw [gt_iff_lt, Int.lt_iff_add_one_le, Int.le_ediv_iff_mul_le (by omega)] at h4
        omega

theorem peck_len (q z : Int) : ∀ (m : Nat) (h : Int), (peck q z m h).length ≤ m
  | 0, _ => Nat.le_refl _
  | m + 1, h => by
    unfold peck
    split
    · simp only [List.length_cons]; have := peck_len q z m (h - q); omega
    · simp

theorem loop12 (code r z q rate ini : Int) (high : Bool) (hq : 1 ≤ q) (hq2 : q ≤ 10000000) (hz : -10000000 ≤ z) : ∀ (m : Nat) (h : Int) (l : List AV) (v : Nat), h - m * q ≤ z → -30000000 ≤ h → h ≤ 10000000 → l.length + m ≤ 5000 →
    Wp M1 (.run fi12 (atC (cd Try.f12) [1, 1, 1, 0, 1, 0, 1, 0, 0]) [(1, .ptr 0 0 0 0), (5, .row 1 v), (6, .int .i64 h)] [⟨[cyc code r z q rate ini high], 7, 0, false, false⟩, ⟨l, 1, v, false, true⟩])
      fun x L => ∃ ver, x = .tup [.row 1 ver, .int .i64 0] ∧ L = [⟨[cyc code r z q rate ini high], 7, 0, false, false⟩, ⟨l ++ (peck q z m h ++ [.int .i64 z]), 1, ver, false, true⟩] := by
  intro m
  induction m with
  | zero =>
    intro h l v hm hlo hhi hl
    apply v12b <;> simp only [decide_eq_true_eq, decide_eq_false_iff_not]
    · intro _; omega
    · intro h1; simp at hm; omega
    · intro _; omega
    · intro _; exact ⟨_, rfl, rfl⟩
  | succ m ih =>
    intro h l v hm hlo hhi hl
    apply v12b <;> simp only [decide_eq_true_eq, decide_eq_false_iff_not]
    · intro _; omega
    · intro h1
      rw [w64 (h - q) (by omega)]
      refine wp_mono' (ih (h - q) (l ++ [.int .i64 h]) (v + 1) (by grind) (by omega) (by omega) (by simp; omega)) ?_
      rintro x L ⟨ver, h3, h4⟩
      refine ⟨ver, h3, ?_⟩
      rw [h4]
      simp only [peck, if_pos h1, List.append_assoc, List.cons_append, List.nil_append]
    · intro _; omega
    · intro h1
      refine ⟨_, rfl, ?_⟩
      simp only [peck, if_neg h1, List.nil_append]

theorem q_row {r0 : Row} {l : List AV} {ver : Nat} {n : Int} : pureA [r0, ⟨l, 1, ver, false, true⟩] (.tup [.row 1 ver, .int .i64 n]) = some (.tup [.vec false 1 l, .int .i64 n]) ∧ allB (versA [r0, ⟨l, 1, ver, false, true⟩] (.tup [.row 1 ver, .int .i64 n])) := by
  simp [pureA, pureL, versA, versL, verOk, allB]

theorem weak_two (n : Int) : Weak (.tup [.vnil, .int .i64 n]) (.tup [.vec false 1 [], .int .i64 n]) :=
  .tup _ _ rfl fun i x y hx hy => by
    match i with
    | 0 => simp at hx hy; subst hx; subst hy; exact .vnil 1
    | 1 => simp at hx hy; subst hx; subst hy; exact .refl _
    | i + 2 => simp at hx

theorem ev12 (code r z q rate ini : Int) (high : Bool) : Ev M1 (.pure 12 [cyc code r z q rate ini high]) (depthsA code r z q rate ini) [] := by
  unfold depthsA
  by_cases hv : validE code r z q rate ini = 0
  · obtain ⟨f1, f2, f3, f4, f5, f6, f7, f8, f9⟩ := valid_facts hv
    rw [if_pos hv]
    refine pure_wp Try.f12 fi12 (by kernel_rfl) (by kernel_rfl) (by kernel_rfl) (by kernel_rfl) ?_ rfl
    apply v12 code r z q rate ini high (validE code r z q rate ini) _ (ev14 code r z q rate ini high) <;> simp only [hv, bne_self_eq_false, Bool.false_eq_true, false_implies, true_implies, beq_iff_eq, beq_eq_false_iff_ne, not_true]
    · intro hc
      obtain ⟨g1, g2, g3⟩ := f8 hc
      rw [w64 (r - q) (by omega)]
      apply v12a <;> simp only [decide_eq_true_eq, decide_eq_false_iff_not]
      · intro h1
        rw [w64 (r - q - q) (by omega)]
        refine wp_mono' (loop12 code r z q rate ini high g1 g2 f3.1 999 (r - q - q) [.int .i64 (r - q)] 0 (by omega) (by omega) (by omega) (by simp)) ?_
        rintro v L ⟨ver, rfl, rfl⟩
        have e : depthsL code r z q = [.int .i64 (r - q)] ++ (peck q z 999 (r - q - q) ++ [.int .i64 z]) := by
          unfold depthsL
          rw [if_pos hc]
          show peck q z (999 + 1) (r - q) ++ [.int .i64 z] = _
          rw [peck, if_pos h1]; rfl
        rw [e]; exact q_row
      · intro h1
        have e : depthsL code r z q = [.int .i64 z] := by
          unfold depthsL
          rw [if_pos hc]
          show peck q z (999 + 1) (r - q) ++ [.int .i64 z] = _
          rw [peck, if_neg h1]; rfl
        rw [e]; exact q_row
    · intro hc
      have e : depthsL code r z q = [.int .i64 z] := by unfold depthsL; rw [if_neg hc]; rfl
      rw [e]; exact q_row
  · rw [if_neg hv]
    refine .weak (pure_wp Try.f12 fi12 (by kernel_rfl) (by kernel_rfl) (by kernel_rfl) (by kernel_rfl) ?_ rfl) (weak_two _)
    apply v12 code r z q rate ini high (validE code r z q rate ini) _ (ev14 code r z q rate ini high)
    · intro _; exact ⟨rfl, trivial⟩
    · intro h; simp [hv] at h
    · intro h; simp [hv] at h

theorem loop13 (code r z q rate ini : Int) (high : Bool) (hq : 1 ≤ q) (hq2 : q ≤ 10000000) (hz : -10000000 ≤ z) : ∀ (m : Nat) (h : Int) (l : List AV) (v : Nat), h - m * q ≤ z → -30000000 ≤ h → h ≤ 10000000 → l.length + m ≤ 5000 →
    Wp M1 (.run fi13 (atC (cd Try.f13) [1, 1, 1, 0, 1, 0, 1, 0, 0]) [(1, .ptr 0 0 0 0), (5, .row 1 v), (6, .int .i64 h)] [⟨[cyc code r z q rate ini high], 7, 0, false, false⟩, ⟨l, 1, v, false, true⟩])
      fun x L => ∃ ver, x = .tup [.row 1 ver, .int .i64 0] ∧ L = [⟨[cyc code r z q rate ini high], 7, 0, false, false⟩, ⟨l ++ (peck q z m h ++ [.int .i64 z]), 1, ver, false, true⟩] := by
  intro m
  induction m with
  | zero =>
    intro h l v hm hlo hhi hl
    apply v13b <;> simp only [decide_eq_true_eq, decide_eq_false_iff_not]
    · intro _; omega
    · intro h1; simp at hm; omega
    · intro _; omega
    · intro _; exact ⟨_, rfl, rfl⟩
  | succ m ih =>
    intro h l v hm hlo hhi hl
    apply v13b <;> simp only [decide_eq_true_eq, decide_eq_false_iff_not]
    · intro _; omega
    · intro h1
      rw [w64 (h - q) (by omega)]
      refine wp_mono' (ih (h - q) (l ++ [.int .i64 h]) (v + 1) (by grind) (by omega) (by omega) (by simp; omega)) ?_
      rintro x L ⟨ver, h3, h4⟩
      refine ⟨ver, h3, ?_⟩
      rw [h4]
      simp only [peck, if_pos h1, List.append_assoc, List.cons_append, List.nil_append]
    · intro _; omega
    · intro h1
      refine ⟨_, rfl, ?_⟩
      simp only [peck, if_neg h1, List.nil_append]

theorem ev13 (code r z q rate ini : Int) (high : Bool) : Ev M1 (.pure 13 [cyc code r z q rate ini high]) (depthsA code r z q rate ini) [] := by
  unfold depthsA
  by_cases hv : validE code r z q rate ini = 0
  · obtain ⟨f1, f2, f3, f4, f5, f6, f7, f8, f9⟩ := valid_facts hv
    rw [if_pos hv]
    refine pure_wp Try.f13 fi13 (by kernel_rfl) (by kernel_rfl) (by kernel_rfl) (by kernel_rfl) ?_ rfl
    apply v13 code r z q rate ini high (validE code r z q rate ini) _ (ev15 code r z q rate ini high) <;> simp only [hv, bne_self_eq_false, Bool.false_eq_true, false_implies, true_implies, beq_iff_eq, beq_eq_false_iff_ne, not_true]
    · intro hc
      obtain ⟨g1, g2, g3⟩ := f8 hc
      rw [w64 (r - q) (by omega)]
      apply v13a <;> simp only [decide_eq_true_eq, decide_eq_false_iff_not]
      · intro h1
        rw [w64 (r - q - q) (by omega)]
        refine wp_mono' (loop13 code r z q rate ini high g1 g2 f3.1 999 (r - q - q) [.int .i64 (r - q)] 0 (by omega) (by omega) (by omega) (by simp)) ?_
        rintro v L ⟨ver, rfl, rfl⟩
        have e : depthsL code r z q = [.int .i64 (r - q)] ++ (peck q z 999 (r - q - q) ++ [.int .i64 z]) := by
          unfold depthsL
          rw [if_pos hc]
          show peck q z (999 + 1) (r - q) ++ [.int .i64 z] = _
          rw [peck, if_pos h1]; rfl
        rw [e]; exact q_row
      · intro h1
        have e : depthsL code r z q = [.int .i64 z] := by
          unfold depthsL
          rw [if_pos hc]
          show peck q z (999 + 1) (r - q) ++ [.int .i64 z] = _
          rw [peck, if_neg h1]; rfl
        rw [e]; exact q_row
    · intro hc
      have e : depthsL code r z q = [.int .i64 z] := by unfold depthsL; rw [if_neg hc]; rfl
      rw [e]; exact q_row
  · rw [if_neg hv]
    refine .weak (pure_wp Try.f13 fi13 (by kernel_rfl) (by kernel_rfl) (by kernel_rfl) (by kernel_rfl) ?_ rfl) (weak_two _)
    apply v13 code r z q rate ini high (validE code r z q rate ini) _ (ev15 code r z q rate ini high)
    · intro _; exact ⟨rfl, trivial⟩
    · intro h; simp [hv] at h
    · intro h; simp [hv] at h

theorem loop16 (X Y : List Int) (f g : Bool) (hXY : X.length = Y.length) (hX : X.length < 9223372036854775807) : ∀ (m i : Nat), i + m = X.length →
    Wp M1 (.run fi16 (atC (cd Try.f16) [1, 1, 0, 1, 0, 0]) [(0, .vec f 1 (X.map (.int .i64))), (1, .vec g 1 (Y.map (.int .i64))), (12, .int .i64 X.length), (13, .int .i64 i)] [])
      fun v L => pureA L v = some (.bool (X.drop i == Y.drop i)) ∧ allB (versA L v) := by
  intro m
  induction m with
  | zero =>
    intro i hi
    apply v16a _ _ _ _ _ _ 0 0 <;> simp only [decide_eq_true_eq, decide_eq_false_iff_not]
    any_goals (intro h; omega)
    intro _
    apply q_bool
    rw [List.drop_eq_nil_of_le (by omega), List.drop_eq_nil_of_le (by omega)]; rfl
  | succ m ih =>
    intro i hi
    have h1 : i < X.length := by omega
    have h2 : i < Y.length := by omega
    have hd : (X.drop i == Y.drop i) = (X[i] == Y[i] && X.drop (i + 1) == Y.drop (i + 1)) := by
      rw [List.drop_eq_getElem_cons h1, List.drop_eq_getElem_cons h2]; rfl
    apply v16a _ _ _ _ _ _ X[i] Y[i] <;> simp only [decide_eq_true_eq, decide_eq_false_iff_not, Int.toNat_natCast, List.length_map]
    · intro _; omega
    · intro _; exact h1
    · intro _; omega
    · intro _; exact h2
    · intro _; simp [h1]
    · intro _; simp [h2]
    · intro _ hne
      apply q_bool
      rw [hd]
      simp only [bne_iff_ne] at hne
      simp [hne]
    · intro _ he
      rw [w64 ((i : Int) + 1) (by omega)]
      have := ih (i + 1) (by omega)
      rw [hd]
      simp only [bne_eq_false_iff_eq] at he
      simp only [he, beq_self_eq_true, Bool.true_and]
      exact this
    · intro h; omega

theorem ev16 (X Y : List Int) (f g : Bool) (hX : X.length < 9223372036854775807) : Ev M1 (.pure 16 [.vec f 1 (X.map (.int .i64)), .vec g 1 (Y.map (.int .i64))]) (.bool (X == Y)) [] := by
  refine pure_wp Try.f16 fi16 (by kernel_rfl) (by kernel_rfl) (by kernel_rfl) (by kernel_rfl) ?_ rfl
  apply v16
  · intro h
    apply q_bool
    simp only [List.length_map, bne_iff_ne, ne_eq] at h
    have : X ≠ Y := by rintro rfl; exact h rfl
    simpa using this
  · intro h
    simp only [List.length_map, bne_eq_false_iff_eq] at h
    have hl : X.length = Y.length := by exact_mod_cast h
    have := loop16 X Y f g hl hX X.length 0 (by omega)
    simp only [List.drop_zero] at this
    simp only [List.length_map]
    exact this

theorem peck_ints (q z : Int) : ∀ (m : Nat) (h : Int), ∃ X : List Int, peck q z m h = X.map (.int .i64)
  | 0, _ => ⟨[], rfl⟩
  | m + 1, h => by
    unfold peck
    split
    · obtain ⟨X, hX⟩ := peck_ints q z m (h - q)
      exact ⟨h :: X, by rw [hX]; rfl⟩
    · exact ⟨[], rfl⟩

theorem depths_ints (code r z q rate ini : Int) : ∃ X : List Int, X.length ≤ 1001 ∧ (if validE code r z q rate ini = 0 then depthsL code r z q else []) = X.map (.int .i64) := by
  split
  · unfold depthsL
    split
    · obtain ⟨X, hX⟩ := peck_ints q z 1000 (r - q)
      refine ⟨X ++ [z], ?_, by rw [hX]; simp⟩
      have := peck_len q z 1000 (r - q)
      rw [hX] at this
      simp at this ⊢; omega
    · exact ⟨[z], by simp, rfl⟩
  · exact ⟨[], by simp, rfl⟩
end Go.Av

/- POSITIONS AND MOVES as plain Lean, and the moves of a cycle: definitions for the texts behind this one. -/
namespace Go.Av

structure G2 where
  x : Int
  y : Int
  deriving Inhabited, DecidableEq
structure Ps where
  x : Int
  y : Int
  z : Int
  deriving Inhabited, DecidableEq
structure Mv where
  kind : Int
  p : Ps
  rate : Int
  deriving Inhabited, DecidableEq
def G2.a (g : G2) : AV := .agg [.int .i64 g.x, .int .i64 g.y]
def Ps.a (p : Ps) : AV := .agg [.int .i64 p.x, .int .i64 p.y, .int .i64 p.z]
def Mv.a (m : Mv) : AV := .agg [.int .i64 m.kind, .int .i64 m.p.x, .int .i64 m.p.y, .int .i64 m.p.z, .int .i64 0, .int .i64 0, .int .i64 m.rate]

namespace Sp
/-- A move behind others, unless it would change nothing. -/
def toL (l : List Mv) (p q : Ps) (rate : Int) : List Mv := if p = q then l else l ++ [⟨if rate > 0 then 2 else 1, q, rate⟩]
def bump (v : Nat) (p q : Ps) : Nat := if p = q then v else v + 1
/-- The heights above the last one. -/
def peck (q z : Int) : Nat → Int → List Int
  | 0, _ => []
  | m + 1, h => if h > z then h :: peck q z m (h - q) else []
/-- The heights to which a cycle drills. -/
def depths (code r z q rate ini : Int) : List Int := if validE code r z q rate ini = 0 then (if code = 83000 then peck q z 1000 (r - q) else []) ++ [z] else []
end Sp

theorem peck_map (q z : Int) : ∀ (m : Nat) (h : Int), peck q z m h = (Sp.peck q z m h).map (.int .i64)
  | 0, _ => rfl
  | m + 1, h => by
    unfold peck Sp.peck
    split
    · rw [peck_map q z m (h - q)]; rfl
    · rfl

theorem depths_map (code r z q rate ini : Int) : depthsA code r z q rate ini = .tup [.vec false 1 ((Sp.depths code r z q rate ini).map (.int .i64)), .int .i64 (validE code r z q rate ini)] := by
  unfold depthsA Sp.depths depthsL
  split
  · split
    · rw [peck_map]; simp
    · simp
  · simp

theorem ev12_a (code r z q rate ini : Int) (high : Bool) : Ev M1 (.pure 12 [cyc code r z q rate ini high]) (.tup [.vec false 1 ((Sp.depths code r z q rate ini).map (.int .i64)), .int .i64 (validE code r z q rate ini)]) [] := by
  rw [← depths_map]; exact ev12 ..
theorem ev13_a (code r z q rate ini : Int) (high : Bool) : Ev M1 (.pure 13 [cyc code r z q rate ini high]) (.tup [.vec false 1 ((Sp.depths code r z q rate ini).map (.int .i64)), .int .i64 (validE code r z q rate ini)]) [] := by
  rw [← depths_map]; exact ev13 ..
end Go.Av

/- ARGUMENTS of the statements about layer 44. -/
namespace Go.Av
open Go.Proofs

theorem cyc_ty {P : Program} {n t : Nat} {fs : Array Field} (hu : P.underlying t = some (.struct fs)) (hf : fs.toList.map (·.type) = [2, 2, 2, 2, 2, 2, 4]) (h2 : P.underlying 2 = some (.int .i64)) (h4 : P.underlying 4 = some .bool) {cs : List AV} (h : Ty P (n + 1 + 1) t cs) :
    ∃ code r z q rate ini high, cs = [.int .i64 code, .int .i64 r, .int .i64 z, .int .i64 q, .int .i64 rate, .int .i64 ini, .bool high] := by
  have h := ty_struct hu h
  rw [hf] at h
  obtain ⟨a0, b0, rfl, h0, a1, b1, rfl, h1, a2, b2, rfl, h2', a3, b3, rfl, h3, a4, b4, rfl, h4', a5, b5, rfl, h5, a6, b6, rfl, h6, rfl⟩ := h
  obtain ⟨x0, rfl, _⟩ := ty_int h2 h0
  obtain ⟨x1, rfl, _⟩ := ty_int h2 h1
  obtain ⟨x2, rfl, _⟩ := ty_int h2 h2'
  obtain ⟨x3, rfl, _⟩ := ty_int h2 h3
  obtain ⟨x4, rfl, _⟩ := ty_int h2 h4'
  obtain ⟨x5, rfl, _⟩ := ty_int h2 h5
  obtain ⟨x6, rfl⟩ := ty_bool h4 h6
  exact ⟨x0, x1, x2, x3, x4, x5, x6, rfl⟩

theorem ints2_ty {P : Program} {n t : Nat} {fs : Array Field} (hu : P.underlying t = some (.struct fs)) (hf : fs.toList.map (·.type) = [2, 2]) (h2 : P.underlying 2 = some (.int .i64)) {cs : List AV} (h : Ty P (n + 1 + 1) t cs) :
    ∃ x y, cs = [.int .i64 x, .int .i64 y] := by
  have h := ty_struct hu h
  rw [hf] at h
  obtain ⟨a0, b0, rfl, h0, a1, b1, rfl, h1, rfl⟩ := h
  obtain ⟨x0, rfl, _⟩ := ty_int h2 h0
  obtain ⟨x1, rfl, _⟩ := ty_int h2 h1
  exact ⟨x0, x1, rfl⟩

theorem ints3_ty {P : Program} {n t : Nat} {fs : Array Field} (hu : P.underlying t = some (.struct fs)) (hf : fs.toList.map (·.type) = [2, 2, 2]) (h2 : P.underlying 2 = some (.int .i64)) {cs : List AV} (h : Ty P (n + 1 + 1) t cs) :
    ∃ x y z, cs = [.int .i64 x, .int .i64 y, .int .i64 z] := by
  have h := ty_struct hu h
  rw [hf] at h
  obtain ⟨a0, b0, rfl, h0, a1, b1, rfl, h1, a2, b2, rfl, h2', rfl⟩ := h
  obtain ⟨x0, rfl, _⟩ := ty_int h2 h0
  obtain ⟨x1, rfl, _⟩ := ty_int h2 h1
  obtain ⟨x2, rfl, _⟩ := ty_int h2 h2'
  exact ⟨x0, x1, x2, rfl⟩

theorem pack36 (cs : List AV) : packA Try.prog 36 cs = .agg cs := by
  simp [packA, aggT, Try.underlying36]
theorem pack37 (x : AV) : packA Try.prog 37 [x] = x := by
  simp [packA, aggT, Try.underlying37]
theorem pack23 (cs : List AV) : packA Try.prog 23 cs = .agg cs := by
  simp [packA, aggT, Try.underlying23]
theorem pack43 (cs : List AV) : packA Try.prog 43 cs = .agg cs := by
  simp [packA, aggT, Try.underlying43]
theorem cells43 : Try.prog.cellsOf 43 = 2 := by kernel_rfl
set_option maxRecDepth 100000 in
/-- Positions in the plane. -/
theorem grids_ty {n : Nat} {cs : List AV} (h : Ty Try.prog (n + 1 + 1 + 1) 37 cs) : ∃ gs : List G2, cs = [.vec false 2 (gs.map G2.a)] := by
  obtain ⟨gs, rfl, _⟩ := ty_list (τ := G2) (enc := G2.a) Try.underlying37 (fun ys hy => by
    obtain ⟨x, y, rfl⟩ := ints2_ty Try.underlying43 rfl Try.underlying2 hy
    exact ⟨⟨x, y⟩, by rw [pack43]; rfl⟩) h
  rw [cells43]; exact ⟨gs, rfl⟩
theorem laidOut : laidOutB Try.prog = true := by kernel_rfl
theorem ownGo : ownKnob Try.prog.godebug = none := by kernel_rfl
end Go.Av

/- ARGUMENTS of the statement about parts of cycles. -/
namespace Go.Av
open Go.Proofs
theorem pack71 (cs : List AV) : packA Try.prog 71 cs = .agg cs := by
  simp [packA, aggT, Try.underlying71]
set_option maxRecDepth 100000 in
theorem cut_ty {n : Nat} {cs : List AV} (h : Ty Try.prog (n + 1 + 1 + 1 + 1) 71 cs) : ∃ (gs : List G2) (k : Int), cs = [.vec false 2 (gs.map G2.a), .int .u8 k] ∧ 0 ≤ k ∧ k ≤ 255 := by
  have h := ty_struct Try.underlying71 h
  obtain ⟨a0, b0, rfl, h0, a1, b1, rfl, h1, rfl⟩ := h
  obtain ⟨gs, rfl⟩ := grids_ty h0
  obtain ⟨k, rfl, hk⟩ := ty_int Try.underlying5 h1
  exact ⟨gs, k, rfl, hk⟩
end Go.Av

/- PATHS, written by a program of the prover's. -/
namespace Go.Av
open Go.Proofs
set_option maxRecDepth 100000
def fi55 : Fi := ⟨25, [.cell 6 87]⟩
def kp55 : List (Nat × List Nat) := [(0, [2, 3, 4, 6]), (1, [2, 3, 4, 6, 11]), (2, [6]), (3, [2, 3, 4, 6, 7]), (4, [2, 3, 4, 6, 7, 14]), (5, [2, 3, 4, 6, 7]), (6, [6])]
def fi56 : Fi := ⟨11, [.cell 4 36]⟩
def kp56 : List (Nat × List Nat) := [(0, [1, 2, 4]), (1, [4])]
def v55r_at (x y z a b c rate : Int) (l : List Mv) (v : Nat) (Q : AV → Heap → Prop) : Prop := Wp M1 (.run fi55 (atC (cd Try.f55) []) [(0, .agg [.int .i64 x, .int .i64 y, .int .i64 z, .row 0 v]), (1, .agg [.int .i64 a, .int .i64 b, .int .i64 c]), (2, .int .i64 rate)] [⟨l.map Mv.a, 7, v, false, true⟩]) Q
def v55n_at (x y z a b c rate : Int) (Q : AV → Heap → Prop) : Prop := Wp M1 (.run fi55 (atC (cd Try.f55) []) [(0, .agg [.int .i64 x, .int .i64 y, .int .i64 z, .vnil]), (1, .agg [.int .i64 a, .int .i64 b, .int .i64 c]), (2, .int .i64 rate)] []) Q
def v56_at (x y z h : Int) (Q : AV → Heap → Prop) : Prop := Wp M1 (.run fi56 (atC (cd Try.f56) []) [(0, .agg [.int .i64 x, .int .i64 y, .int .i64 z]), (1, .int .i64 h)] []) Q
theorem call55 {args : List AV} {d : AV} (h : Wp M1 (.run fi55 [.code (cd Try.f55)] (argVars 0 args) []) (PureQ d)) : Ev M1 (.pure 55 args) d [] :=
  pure_pq Try.f55 fi55 (by kernel_rfl) (by kernel_rfl) (by kernel_rfl) (by kernel_rfl) h
theorem owncall55 {args : List AV} {L : Heap} {Q : AV → Heap → Prop} (h : Wp M1 (.run fi55 [.code (cd Try.f55)] (argVars 0 args) L) Q) : Wp M1 (.own 55 args L) Q :=
  own_wp Try.f55 fi55 (by kernel_rfl) (by kernel_rfl) (by kernel_rfl) (by kernel_rfl) h
theorem call56 {args : List AV} {d : AV} (h : Wp M1 (.run fi56 [.code (cd Try.f56)] (argVars 0 args) []) (PureQ d)) : Ev M1 (.pure 56 args) d [] :=
  pure_pq Try.f56 fi56 (by kernel_rfl) (by kernel_rfl) (by kernel_rfl) (by kernel_rfl) h
theorem owncall56 {args : List AV} {L : Heap} {Q : AV → Heap → Prop} (h : Wp M1 (.run fi56 [.code (cd Try.f56)] (argVars 0 args) L) Q) : Wp M1 (.own 56 args L) Q :=
  own_wp Try.f56 fi56 (by kernel_rfl) (by kernel_rfl) (by kernel_rfl) (by kernel_rfl) h
theorem v55r (x y z a b c rate : Int) (l : List Mv) (v : Nat) (Q : AV → Heap → Prop) (H :
    (((x = a) ∧ ((y = b) ∧ (z = c))) → Q (AV.agg [AV.int IntKind.i64 x, AV.int IntKind.i64 y, AV.int IntKind.i64 z, AV.row 0 v]) [{ elems := List.map Mv.a l, es := 7, ver := v, frozen := false, clean := true }, { elems := [AV.agg [AV.int IntKind.i64 x, AV.int IntKind.i64 y, AV.int IntKind.i64 z, AV.row 0 v]], es := 4, ver := 0, frozen := false, clean := false }, { elems := [AV.agg [AV.int IntKind.i64 a, AV.int IntKind.i64 b, AV.int IntKind.i64 c]], es := 3, ver := 0, frozen := false, clean := false }, { elems := [AV.agg [AV.int IntKind.i64 x, AV.int IntKind.i64 y, AV.int IntKind.i64 z, AV.row 0 v]], es := 4, ver := 0, frozen := false, clean := false }]) ∧
    (¬((x = a) ∧ ((y = b) ∧ (z = c))) → ((rate > 0) → ((l.length + 1) * 56 ≤ 1099511627776) ∧
        Q (AV.agg [AV.int IntKind.i64 a, AV.int IntKind.i64 b, AV.int IntKind.i64 c, AV.row 0 (v + 1)]) [{ elems := List.map Mv.a l ++ [AV.agg [AV.int IntKind.i64 2, AV.int IntKind.i64 a, AV.int IntKind.i64 b, AV.int IntKind.i64 c, AV.int IntKind.i64 0, AV.int IntKind.i64 0, AV.int IntKind.i64 rate]], es := 7, ver := v + 1, frozen := false, clean := true }, { elems := [AV.agg [AV.int IntKind.i64 x, AV.int IntKind.i64 y, AV.int IntKind.i64 z, AV.row 0 v]], es := 4, ver := 0, frozen := false, clean := false }, { elems := [AV.agg [AV.int IntKind.i64 a, AV.int IntKind.i64 b, AV.int IntKind.i64 c]], es := 3, ver := 0, frozen := false, clean := false }, { elems := [AV.agg [AV.int IntKind.i64 a, AV.int IntKind.i64 b, AV.int IntKind.i64 c, AV.row 0 (v + 1)]], es := 4, ver := 0, frozen := false, clean := false }]) ∧
      (¬(rate > 0) → ((l.length + 1) * 56 ≤ 1099511627776) ∧
        Q (AV.agg [AV.int IntKind.i64 a, AV.int IntKind.i64 b, AV.int IntKind.i64 c, AV.row 0 (v + 1)]) [{ elems := List.map Mv.a l ++ [AV.agg [AV.int IntKind.i64 1, AV.int IntKind.i64 a, AV.int IntKind.i64 b, AV.int IntKind.i64 c, AV.int IntKind.i64 0, AV.int IntKind.i64 0, AV.int IntKind.i64 rate]], es := 7, ver := v + 1, frozen := false, clean := true }, { elems := [AV.agg [AV.int IntKind.i64 x, AV.int IntKind.i64 y, AV.int IntKind.i64 z, AV.row 0 v]], es := 4, ver := 0, frozen := false, clean := false }, { elems := [AV.agg [AV.int IntKind.i64 a, AV.int IntKind.i64 b, AV.int IntKind.i64 c]], es := 3, ver := 0, frozen := false, clean := false }, { elems := [AV.agg [AV.int IntKind.i64 a, AV.int IntKind.i64 b, AV.int IntKind.i64 c, AV.row 0 (v + 1)]], es := 4, ver := 0, frozen := false, clean := false }]))) :
  v55r_at x y z a b c rate l v Q := by
  unfold v55r_at
  have i1 : (x == a && (y == b && (z == c && true))) = true ↔ ((x = a) ∧ ((y = b) ∧ (z = c))) := (i_and i_eq (i_and i_eq (i_at i_eq)))
  rcases Classical.em ((x = a) ∧ ((y = b) ∧ (z = c))) with d2 | d2
  · have H := H.1 d2
    exact path_ret (G := given kp55 [] []) 1000 [true] (k := ((atC (cd Try.f55) [1, 0, 1, 0, 1])).tail) (env' := [(6, AV.ptr 3 0 0 0)]) (L' := [{ elems := List.map Mv.a l, es := 7, ver := v, frozen := false, clean := true }, { elems := [AV.agg [AV.int IntKind.i64 x, AV.int IntKind.i64 y, AV.int IntKind.i64 z, AV.row 0 v]], es := 4, ver := 0, frozen := false, clean := false }, { elems := [AV.agg [AV.int IntKind.i64 a, AV.int IntKind.i64 b, AV.int IntKind.i64 c]], es := 3, ver := 0, frozen := false, clean := false }, { elems := [AV.agg [AV.int IntKind.i64 x, AV.int IntKind.i64 y, AV.int IntKind.i64 z, AV.row 0 v]], es := 4, ver := 0, frozen := false, clean := false }]) (asm := [true, true, (x == a && (y == b && (z == c && true))) == true, true, true]) (eqs := []) (calls := []) (AV.agg [AV.int IntKind.i64 x, AV.int IntKind.i64 y, AV.int IntKind.i64 z, AV.row 0 v]) (by kernel_rfl) (by kernel_rfl) (allB_cons rfl (allB_cons rfl (allB_cons (beq_t (i1.2 d2)) (allB_cons rfl (allB_cons rfl allB_nil))))) allP_nil allC_nil H
  · have H := H.2 d2
    have i3 : (decide (rate > 0)) = true ↔ (rate > 0) := i_dec
    rcases Classical.em (rate > 0) with d4 | d4
    · have H := H.1 d4
      have w5 : (List.map Mv.a l).length = l.length := List.length_map ..
      have i6 : (decide (((List.map Mv.a l).length + 1) * 56 ≤ 1099511627776)) = true ↔ ((l.length + 1) * 56 ≤ 1099511627776) := (by rw [w5] <;> exact i_dec)
      have k7 := H.1; have H := H.2
      exact path_ret (G := given kp55 [] [(6, [5010, 2008, 4004, 3002, 4000])]) 1000 [false, true] (k := ((atC (cd Try.f55) [1, 1, 1, 1, 1])).tail) (env' := [(6, AV.ptr 3 0 0 0)]) (L' := [{ elems := List.map Mv.a l ++ [AV.agg [AV.int IntKind.i64 2, AV.int IntKind.i64 a, AV.int IntKind.i64 b, AV.int IntKind.i64 c, AV.int IntKind.i64 0, AV.int IntKind.i64 0, AV.int IntKind.i64 rate]], es := 7, ver := v + 1, frozen := false, clean := true }, { elems := [AV.agg [AV.int IntKind.i64 x, AV.int IntKind.i64 y, AV.int IntKind.i64 z, AV.row 0 v]], es := 4, ver := 0, frozen := false, clean := false }, { elems := [AV.agg [AV.int IntKind.i64 a, AV.int IntKind.i64 b, AV.int IntKind.i64 c]], es := 3, ver := 0, frozen := false, clean := false }, { elems := [AV.agg [AV.int IntKind.i64 a, AV.int IntKind.i64 b, AV.int IntKind.i64 c, AV.row 0 (v + 1)]], es := 4, ver := 0, frozen := false, clean := false }]) (asm := [true, true, (x == a && (y == b && (z == c && true))) == false, (decide (rate > 0)) == true, true, true, true, v == v, decide (((List.map Mv.a l).length + 1) * 56 ≤ 1099511627776), true]) (eqs := []) (calls := []) (AV.agg [AV.int IntKind.i64 a, AV.int IntKind.i64 b, AV.int IntKind.i64 c, AV.row 0 (v + 1)]) (by kernel_rfl) (by kernel_rfl) (allB_cons rfl (allB_cons rfl (allB_cons (beq_f (fun h => d2 (i1.1 h))) (allB_cons (beq_t (i3.2 d4)) (allB_cons rfl (allB_cons rfl (allB_cons rfl (allB_cons (beq_self_eq_true _) (allB_cons (i6.2 k7) (allB_cons rfl allB_nil)))))))))) allP_nil allC_nil H
    · have H := H.2 d4
      have w8 : (List.map Mv.a l).length = l.length := List.length_map ..
      have i9 : (decide (((List.map Mv.a l).length + 1) * 56 ≤ 1099511627776)) = true ↔ ((l.length + 1) * 56 ≤ 1099511627776) := (by rw [w8] <;> exact i_dec)
      have k10 := H.1; have H := H.2
      exact path_ret (G := given kp55 [] [(6, [5010, 2008, 4004, 3002, 4000])]) 1000 [false, false] (k := ((atC (cd Try.f55) [1, 1, 1, 1, 1])).tail) (env' := [(6, AV.ptr 3 0 0 0)]) (L' := [{ elems := List.map Mv.a l ++ [AV.agg [AV.int IntKind.i64 1, AV.int IntKind.i64 a, AV.int IntKind.i64 b, AV.int IntKind.i64 c, AV.int IntKind.i64 0, AV.int IntKind.i64 0, AV.int IntKind.i64 rate]], es := 7, ver := v + 1, frozen := false, clean := true }, { elems := [AV.agg [AV.int IntKind.i64 x, AV.int IntKind.i64 y, AV.int IntKind.i64 z, AV.row 0 v]], es := 4, ver := 0, frozen := false, clean := false }, { elems := [AV.agg [AV.int IntKind.i64 a, AV.int IntKind.i64 b, AV.int IntKind.i64 c]], es := 3, ver := 0, frozen := false, clean := false }, { elems := [AV.agg [AV.int IntKind.i64 a, AV.int IntKind.i64 b, AV.int IntKind.i64 c, AV.row 0 (v + 1)]], es := 4, ver := 0, frozen := false, clean := false }]) (asm := [true, true, (x == a && (y == b && (z == c && true))) == false, (decide (rate > 0)) == false, true, true, true, v == v, decide (((List.map Mv.a l).length + 1) * 56 ≤ 1099511627776), true]) (eqs := []) (calls := []) (AV.agg [AV.int IntKind.i64 a, AV.int IntKind.i64 b, AV.int IntKind.i64 c, AV.row 0 (v + 1)]) (by kernel_rfl) (by kernel_rfl) (allB_cons rfl (allB_cons rfl (allB_cons (beq_f (fun h => d2 (i1.1 h))) (allB_cons (beq_f (fun h => d4 (i3.1 h))) (allB_cons rfl (allB_cons rfl (allB_cons rfl (allB_cons (beq_self_eq_true _) (allB_cons (i9.2 k10) (allB_cons rfl allB_nil)))))))))) allP_nil allC_nil H

theorem v55n (x y z a b c rate : Int) (Q : AV → Heap → Prop) (H :
    (((x = a) ∧ ((y = b) ∧ (z = c))) → Q (AV.agg [AV.int IntKind.i64 x, AV.int IntKind.i64 y, AV.int IntKind.i64 z, AV.vnil]) [{ elems := [AV.agg [AV.int IntKind.i64 x, AV.int IntKind.i64 y, AV.int IntKind.i64 z, AV.vnil]], es := 4, ver := 0, frozen := false, clean := false }, { elems := [AV.agg [AV.int IntKind.i64 a, AV.int IntKind.i64 b, AV.int IntKind.i64 c]], es := 3, ver := 0, frozen := false, clean := false }, { elems := [AV.agg [AV.int IntKind.i64 x, AV.int IntKind.i64 y, AV.int IntKind.i64 z, AV.vnil]], es := 4, ver := 0, frozen := false, clean := false }]) ∧
    (¬((x = a) ∧ ((y = b) ∧ (z = c))) → ((rate > 0) → Q (AV.agg [AV.int IntKind.i64 a, AV.int IntKind.i64 b, AV.int IntKind.i64 c, AV.row 3 0]) [{ elems := [AV.agg [AV.int IntKind.i64 x, AV.int IntKind.i64 y, AV.int IntKind.i64 z, AV.vnil]], es := 4, ver := 0, frozen := false, clean := false }, { elems := [AV.agg [AV.int IntKind.i64 a, AV.int IntKind.i64 b, AV.int IntKind.i64 c]], es := 3, ver := 0, frozen := false, clean := false }, { elems := [AV.agg [AV.int IntKind.i64 a, AV.int IntKind.i64 b, AV.int IntKind.i64 c, AV.row 3 0]], es := 4, ver := 0, frozen := false, clean := false }, { elems := [AV.agg [AV.int IntKind.i64 2, AV.int IntKind.i64 a, AV.int IntKind.i64 b, AV.int IntKind.i64 c, AV.int IntKind.i64 0, AV.int IntKind.i64 0, AV.int IntKind.i64 rate]], es := 7, ver := 0, frozen := false, clean := true }]) ∧
      (¬(rate > 0) → Q (AV.agg [AV.int IntKind.i64 a, AV.int IntKind.i64 b, AV.int IntKind.i64 c, AV.row 3 0]) [{ elems := [AV.agg [AV.int IntKind.i64 x, AV.int IntKind.i64 y, AV.int IntKind.i64 z, AV.vnil]], es := 4, ver := 0, frozen := false, clean := false }, { elems := [AV.agg [AV.int IntKind.i64 a, AV.int IntKind.i64 b, AV.int IntKind.i64 c]], es := 3, ver := 0, frozen := false, clean := false }, { elems := [AV.agg [AV.int IntKind.i64 a, AV.int IntKind.i64 b, AV.int IntKind.i64 c, AV.row 3 0]], es := 4, ver := 0, frozen := false, clean := false }, { elems := [AV.agg [AV.int IntKind.i64 1, AV.int IntKind.i64 a, AV.int IntKind.i64 b, AV.int IntKind.i64 c, AV.int IntKind.i64 0, AV.int IntKind.i64 0, AV.int IntKind.i64 rate]], es := 7, ver := 0, frozen := false, clean := true }]))) :
  v55n_at x y z a b c rate Q := by
  unfold v55n_at
  have i1 : (x == a && (y == b && (z == c && true))) = true ↔ ((x = a) ∧ ((y = b) ∧ (z = c))) := (i_and i_eq (i_and i_eq (i_at i_eq)))
  rcases Classical.em ((x = a) ∧ ((y = b) ∧ (z = c))) with d2 | d2
  · have H := H.1 d2
    exact path_ret (G := given kp55 [] []) 1000 [true] (k := ((atC (cd Try.f55) [1, 0, 1, 0, 1])).tail) (env' := [(6, AV.ptr 2 0 0 0)]) (L' := [{ elems := [AV.agg [AV.int IntKind.i64 x, AV.int IntKind.i64 y, AV.int IntKind.i64 z, AV.vnil]], es := 4, ver := 0, frozen := false, clean := false }, { elems := [AV.agg [AV.int IntKind.i64 a, AV.int IntKind.i64 b, AV.int IntKind.i64 c]], es := 3, ver := 0, frozen := false, clean := false }, { elems := [AV.agg [AV.int IntKind.i64 x, AV.int IntKind.i64 y, AV.int IntKind.i64 z, AV.vnil]], es := 4, ver := 0, frozen := false, clean := false }]) (asm := [true, true, (x == a && (y == b && (z == c && true))) == true, true, true]) (eqs := []) (calls := []) (AV.agg [AV.int IntKind.i64 x, AV.int IntKind.i64 y, AV.int IntKind.i64 z, AV.vnil]) (by kernel_rfl) (by kernel_rfl) (allB_cons rfl (allB_cons rfl (allB_cons (beq_t (i1.2 d2)) (allB_cons rfl (allB_cons rfl allB_nil))))) allP_nil allC_nil H
  · have H := H.2 d2
    have i3 : (decide (rate > 0)) = true ↔ (rate > 0) := i_dec
    rcases Classical.em (rate > 0) with d4 | d4
    · have H := H.1 d4
      exact path_ret (G := given kp55 [] [(6, [4010, 5008, 3004, 2002, 3000])]) 1000 [false, true] (k := ((atC (cd Try.f55) [1, 1, 1, 1, 1])).tail) (env' := [(6, AV.ptr 2 0 0 0)]) (L' := [{ elems := [AV.agg [AV.int IntKind.i64 x, AV.int IntKind.i64 y, AV.int IntKind.i64 z, AV.vnil]], es := 4, ver := 0, frozen := false, clean := false }, { elems := [AV.agg [AV.int IntKind.i64 a, AV.int IntKind.i64 b, AV.int IntKind.i64 c]], es := 3, ver := 0, frozen := false, clean := false }, { elems := [AV.agg [AV.int IntKind.i64 a, AV.int IntKind.i64 b, AV.int IntKind.i64 c, AV.row 3 0]], es := 4, ver := 0, frozen := false, clean := false }, { elems := [AV.agg [AV.int IntKind.i64 2, AV.int IntKind.i64 a, AV.int IntKind.i64 b, AV.int IntKind.i64 c, AV.int IntKind.i64 0, AV.int IntKind.i64 0, AV.int IntKind.i64 rate]], es := 7, ver := 0, frozen := false, clean := true }]) (asm := [true, true, (x == a && (y == b && (z == c && true))) == false, (decide (rate > 0)) == true, true, true, true, true, true]) (eqs := []) (calls := []) (AV.agg [AV.int IntKind.i64 a, AV.int IntKind.i64 b, AV.int IntKind.i64 c, AV.row 3 0]) (by kernel_rfl) (by kernel_rfl) (allB_cons rfl (allB_cons rfl (allB_cons (beq_f (fun h => d2 (i1.1 h))) (allB_cons (beq_t (i3.2 d4)) (allB_cons rfl (allB_cons rfl (allB_cons rfl (allB_cons rfl (allB_cons rfl allB_nil))))))))) allP_nil allC_nil H
    · have H := H.2 d4
      exact path_ret (G := given kp55 [] [(6, [4010, 5008, 3004, 2002, 3000])]) 1000 [false, false] (k := ((atC (cd Try.f55) [1, 1, 1, 1, 1])).tail) (env' := [(6, AV.ptr 2 0 0 0)]) (L' := [{ elems := [AV.agg [AV.int IntKind.i64 x, AV.int IntKind.i64 y, AV.int IntKind.i64 z, AV.vnil]], es := 4, ver := 0, frozen := false, clean := false }, { elems := [AV.agg [AV.int IntKind.i64 a, AV.int IntKind.i64 b, AV.int IntKind.i64 c]], es := 3, ver := 0, frozen := false, clean := false }, { elems := [AV.agg [AV.int IntKind.i64 a, AV.int IntKind.i64 b, AV.int IntKind.i64 c, AV.row 3 0]], es := 4, ver := 0, frozen := false, clean := false }, { elems := [AV.agg [AV.int IntKind.i64 1, AV.int IntKind.i64 a, AV.int IntKind.i64 b, AV.int IntKind.i64 c, AV.int IntKind.i64 0, AV.int IntKind.i64 0, AV.int IntKind.i64 rate]], es := 7, ver := 0, frozen := false, clean := true }]) (asm := [true, true, (x == a && (y == b && (z == c && true))) == false, (decide (rate > 0)) == false, true, true, true, true, true]) (eqs := []) (calls := []) (AV.agg [AV.int IntKind.i64 a, AV.int IntKind.i64 b, AV.int IntKind.i64 c, AV.row 3 0]) (by kernel_rfl) (by kernel_rfl) (allB_cons rfl (allB_cons rfl (allB_cons (beq_f (fun h => d2 (i1.1 h))) (allB_cons (beq_f (fun h => d4 (i3.1 h))) (allB_cons rfl (allB_cons rfl (allB_cons rfl (allB_cons rfl (allB_cons rfl allB_nil))))))))) allP_nil allC_nil H

theorem v56 (x y z h : Int) (dq : AV) (H :
    AV.agg [AV.int IntKind.i64 x, AV.int IntKind.i64 y, AV.int IntKind.i64 h] = dq) :
  v56_at x y z h (PureQ dq) := by
  unfold v56_at
  exact path_ret (G := given kp56 [] []) 1000 [] (k := ((atC (cd Try.f56) [1, 1])).tail) (env' := [(4, AV.ptr 1 0 0 0)]) (L' := [{ elems := [AV.agg [AV.int IntKind.i64 x, AV.int IntKind.i64 y, AV.int IntKind.i64 z]], es := 3, ver := 0, frozen := false, clean := false }, { elems := [AV.agg [AV.int IntKind.i64 x, AV.int IntKind.i64 y, AV.int IntKind.i64 h]], es := 3, ver := 0, frozen := false, clean := false }]) (asm := [true, true, true]) (eqs := []) (calls := []) (AV.agg [AV.int IntKind.i64 x, AV.int IntKind.i64 y, AV.int IntKind.i64 h]) (by kernel_rfl) (by kernel_rfl) (allB_cons rfl (allB_cons rfl (allB_cons rfl allB_nil))) allP_nil allC_nil (pq_of (d := AV.agg [AV.int IntKind.i64 x, AV.int IntKind.i64 y, AV.int IntKind.i64 h]) (bs := []) (by kernel_rfl) (by kernel_rfl) allB_nil (by kernel_rfl) H)


end Go.Av

/- WHAT 'to' AND 'up' OF THE REFERENCE ANSWER. -/
namespace Go.Av
open Go.Proofs

theorem ev56 (x y z h : Int) : Ev M1 (.pure 56 [.agg [.int .i64 x, .int .i64 y, .int .i64 z], .int .i64 h]) (.agg [.int .i64 x, .int .i64 y, .int .i64 h]) [] :=
  call56 (v56 x y z h _ rfl)

theorem evo55 (x y z a b c rate : Int) (l : List Mv) (v : Nat) (hl : l.length < 1000000) :
    Ev M1 (.own 55 [.agg [.int .i64 x, .int .i64 y, .int .i64 z, .row 0 v], .agg [.int .i64 a, .int .i64 b, .int .i64 c], .int .i64 rate] [⟨l.map Mv.a, 7, v, false, true⟩])
      (.agg [.int .i64 a, .int .i64 b, .int .i64 c, .row 0 (Sp.bump v ⟨x, y, z⟩ ⟨a, b, c⟩)])
      [⟨(Sp.toL l ⟨x, y, z⟩ ⟨a, b, c⟩ rate).map Mv.a, 7, Sp.bump v ⟨x, y, z⟩ ⟨a, b, c⟩, false, true⟩, ⟨[.agg [.int .i64 x, .int .i64 y, .int .i64 z, .row 0 v]], 4, 0, false, false⟩, ⟨[.agg [.int .i64 a, .int .i64 b, .int .i64 c]], 3, 0, false, false⟩, ⟨[.agg [.int .i64 a, .int .i64 b, .int .i64 c, .row 0 (Sp.bump v ⟨x, y, z⟩ ⟨a, b, c⟩)]], 4, 0, false, false⟩] := by
  have hl' : (l.length + 1) * 56 ≤ 1099511627776 := by omega
  refine own_wp' (owncall55 (v55r x y z a b c rate l v _ ⟨?_, fun h => ⟨fun hr => ⟨hl', ?_⟩, fun hr => ⟨hl', ?_⟩⟩⟩))
  · rintro ⟨rfl, rfl, rfl⟩
    simp [Sp.toL, Sp.bump]
  · have : ¬((⟨x, y, z⟩ : Ps) = ⟨a, b, c⟩) := by simpa using h
    simp [Sp.toL, Sp.bump, this, hr, Mv.a]
  · have : ¬((⟨x, y, z⟩ : Ps) = ⟨a, b, c⟩) := by simpa using h
    simp [Sp.toL, Sp.bump, this, hr, Mv.a]

theorem evo55_y (x y z a b c rate : Int) (h : x = a ∧ y = b ∧ z = c) :
    Ev M1 (.own 55 [.agg [.int .i64 x, .int .i64 y, .int .i64 z, .vnil], .agg [.int .i64 a, .int .i64 b, .int .i64 c], .int .i64 rate] [])
      (.agg [.int .i64 a, .int .i64 b, .int .i64 c, .vnil])
      [⟨[.agg [.int .i64 x, .int .i64 y, .int .i64 z, .vnil]], 4, 0, false, false⟩, ⟨[.agg [.int .i64 a, .int .i64 b, .int .i64 c]], 3, 0, false, false⟩, ⟨[.agg [.int .i64 a, .int .i64 b, .int .i64 c, .vnil]], 4, 0, false, false⟩] := by
  refine own_wp' (owncall55 (v55n x y z a b c rate _ ⟨?_, fun h' => absurd h h'⟩))
  intro _
  obtain ⟨rfl, rfl, rfl⟩ := h
  exact ⟨rfl, rfl⟩

theorem evo55_n (x y z a b c rate : Int) (h : ¬(x = a ∧ y = b ∧ z = c)) :
    Ev M1 (.own 55 [.agg [.int .i64 x, .int .i64 y, .int .i64 z, .vnil], .agg [.int .i64 a, .int .i64 b, .int .i64 c], .int .i64 rate] [])
      (.agg [.int .i64 a, .int .i64 b, .int .i64 c, .row 3 0])
      [⟨[.agg [.int .i64 x, .int .i64 y, .int .i64 z, .vnil]], 4, 0, false, false⟩, ⟨[.agg [.int .i64 a, .int .i64 b, .int .i64 c]], 3, 0, false, false⟩, ⟨[.agg [.int .i64 a, .int .i64 b, .int .i64 c, .row 3 0]], 4, 0, false, false⟩, ⟨(Sp.toL [] ⟨x, y, z⟩ ⟨a, b, c⟩ rate).map Mv.a, 7, 0, false, true⟩] := by
  have : ¬((⟨x, y, z⟩ : Ps) = ⟨a, b, c⟩) := by simpa using h
  refine own_wp' (owncall55 (v55n x y z a b c rate _ ⟨fun h' => absurd h' h, fun _ => ⟨fun hr => ?_, fun hr => ?_⟩⟩))
  · simp [Sp.toL, this, hr, Mv.a]
  · simp [Sp.toL, this, hr, Mv.a]
end Go.Av
