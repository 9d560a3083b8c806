/- THE TEMPORARIES of a running call against the evaluator's, and one operation of a region. No program in sight. -/
import Derived.Test.YtablgkhmbcegkaaAvStep
import Derived.Test.YtablgkhmbcegkaaAvXfer4
import Derived.Orders
namespace Go.Av
open Go.RowKit

/-- A chain, built up from the chains of its own temporaries. -/
inductive ChainOk (env : Env) : Chain → Prop
  | nil : ChainOk env []
  | cons (d : Nat) (w : Bool) (b : Bool) : (env.get d).2 = .bool b → ChainOk env (env.get d).1 → ChainOk env ((d, w) :: (env.get d).1)

def noD (d : Nat) (c : Chain) : Bool := !(c.any fun x => x.1 == d)

/-- The temporaries of a frame against the evaluator's. -/
structure TRel (S : St) (env : Env) (tm : Array Value) : Prop where
  chain : ∀ t, ChainOk env (env.get t).1
  yes : ∀ t, chainVal env (env.get t).1 = true → Rel S (env.get t).2 (tm.getD t undef)
  no : ∀ t, chainVal env (env.get t).1 = false → tm.getD t undef = undef

theorem TRel.mono {S S' : St} (he : Ext S S') {env : Env} {tm : Array Value} (h : TRel S env tm) : TRel S' env tm :=
  ⟨h.chain, fun t ht => (h.yes t ht).mono he, h.no⟩

/-- A chain holds for the evaluator exactly if it holds in the frame. -/
theorem chain_iff {S : St} {env : Env} {tm : Array Value} (h : TRel S env tm) {c : Chain} (hc : ChainOk env c) :
    chainVal env c = true ↔ ∀ x ∈ c, tm.getD x.1 undef = .bool x.2 := by
  induction hc with
  | nil => simp [chainVal]
  | cons d w b hb _ ih =>
    simp only [chainVal, hb, Bool.and_eq_true, beq_iff_eq, List.forall_mem_cons]
    rw [← ih]
    constructor
    · rintro ⟨e, hch⟩
      have := h.yes d hch
      rw [hb] at this
      exact ⟨by rw [rel_bool this, e], hch⟩
    · rintro ⟨e, hch⟩
      have := h.yes d hch
      rw [hb] at this
      have := rel_bool this
      rw [e] at this
      simp only [Value.bool.injEq] at this
      exact ⟨this.symm, hch⟩

/-- An operand where a chain holds. -/
theorem ev_rel {S : St} {env : Env} {a : Act} (h : TRel S env a.tmps) {c : Chain} (hc : ∀ x ∈ c, a.tmps.getD x.1 undef = .bool x.2) (x : Operand) : Rel S (ev env c x) (a.eval x) := by
  cases x with
  | tmp t =>
    simp only [ev, Act.eval]
    cases hs : Chain.sub (env.get t).1 c with
    | false => exact .any _
    | true =>
      refine h.yes t ((chain_iff h (h.chain t)).2 fun x hx => ?_)
      have := (List.all_eq_true.1 hs) x hx
      obtain ⟨y, hy, he⟩ := List.any_eq_true.1 this
      simp only [Bool.and_eq_true, beq_iff_eq] at he
      rw [he.1, he.2]; exact hc y hy
  | const v => exact rel_ofC S v
  | global g => exact .any _
  | func f => exact .data _ _ (.func _ [] [] [] [] rfl rfl (by simp) (by simp))

theorem get_any {env : Env} {d : Nat} (h : (env.any fun e => e.2.1.any fun x => x.1 == d) = false) (t : Nat) : noD d (env.get t).1 = true := by
  induction env with
  | nil => rfl
  | cons e env ih =>
    obtain ⟨k, c, v⟩ := e
    simp only [List.any_cons, Bool.or_eq_false_iff] at h
    simp only [Env.get]
    cases hk : k == t with
    | true => simpa [noD] using h.1
    | false => exact ih h.2

theorem chainVal_cons {env : Env} {d : Nat} {c' : Chain} {v : AV} {c : Chain} (h : noD d c = true) : chainVal ((d, c', v) :: env) c = chainVal env c := by
  induction c with
  | nil => rfl
  | cons x c ih =>
    simp only [noD, List.any_cons, Bool.not_or, Bool.and_eq_true, Bool.not_eq_true', beq_eq_false_iff_ne] at h
    have hk : (d == x.1) = false := by simpa using fun e => h.1 e.symm
    simp only [chainVal, Env.get, hk, cond_false]
    rw [ih (by simpa [noD] using h.2)]

theorem ChainOk.cons_env {env : Env} {d : Nat} {c' : Chain} {v : AV} {c : Chain} (hc : ChainOk env c) : noD d c = true → ChainOk ((d, c', v) :: env) c := by
  induction hc with
  | nil => exact fun _ => .nil
  | cons t w b hb _ ih =>
    intro h
    simp only [noD, List.any_cons, Bool.not_or, Bool.and_eq_true, Bool.not_eq_true', beq_eq_false_iff_ne] at h
    have hk : (d == t) = false := by simpa using fun e => h.1 e.symm
    have e : Env.get ((d, c', v) :: env) t = env.get t := by simp [Env.get, hk]
    have := ChainOk.cons (env := (d, c', v) :: env) t w b (by rw [e]; exact hb) (by rw [e]; exact ih (by simpa [noD] using h.2))
    rwa [e] at this

theorem putE_spec {n : Nat} {d : Nat} {c : Chain} {v : AV} {env env' : Env} (h : putE n (some d) c v env = some env') :
    d < n ∧ env' = (d, c, v) :: env ∧ noD d c = true ∧ ∀ t, noD d (env.get t).1 = true := by
  unfold putE at h
  simp only at h
  split at h
  · rename_i h1
    simp only [Option.some.injEq] at h
    obtain ⟨h2, h3⟩ := h1
    simp only [List.any_cons, Bool.or_eq_false_iff] at h3
    exact ⟨h2, h.symm, by simpa [noD] using h3.1, get_any h3.2⟩
  · simp at h

theorem size_put (a : Act) (o : Option Tmp) (v : Value) : (a.put o v).tmps.size = a.tmps.size := by
  cases o <;> simp [Act.put]

/-- A temporary is set. -/
theorem put_rel {S : St} {env env' : Env} {a : Act} {n : Nat} {d : Option Tmp} {c : Chain} {v : AV} {cv : Value} (h : TRel S env a.tmps) (hn : n ≤ a.tmps.size) (hc : ChainOk env c)
    (hp : putE n d c v env = some env') (hy : chainVal env c = true → Rel S v cv) (hno : chainVal env c = false → cv = undef) : TRel S env' (a.put d cv).tmps := by
  cases d with
  | none =>
    simp only [putE, Option.some.injEq] at hp
    subst hp; exact h
  | some d =>
    obtain ⟨h1, rfl, h3, h4⟩ := putE_spec hp
    have hgd : ∀ t, (a.put (some d) cv).tmps.getD t undef = if d = t then cv else a.tmps.getD t undef := by
      intro t
      simp only [Act.put]
      by_cases e : d = t
      · subst e
        have : d < a.tmps.size := Nat.lt_of_lt_of_le h1 hn
        simp [this]
      · simp [e]
    have hget : ∀ t, Env.get ((d, c, v) :: env) t = if d = t then (c, v) else env.get t := by
      intro t
      simp only [Env.get]
      by_cases e : d = t
      · subst e; simp
      · have : (d == t) = false := by simpa using e
        simp [this, e]
    have hch : ∀ t, noD d (Env.get ((d, c, v) :: env) t).1 = true := by
      intro t; rw [hget]; split
      · exact h3
      · exact h4 t
    refine ⟨fun t => ?_, fun t ht => ?_, fun t ht => ?_⟩
    · have := hch t
      rw [hget] at this ⊢
      split
      · exact hc.cons_env h3
      · exact (h.chain t).cons_env (h4 t)
    · rw [chainVal_cons (hch t)] at ht
      rw [hget] at ht ⊢
      rw [hgd]
      split
      · rename_i e; rw [if_pos e] at ht; exact hy ht
      · rename_i e; rw [if_neg e] at ht; exact h.yes t ht
    · rw [chainVal_cons (hch t)] at ht
      rw [hget] at ht
      rw [hgd]
      split
      · rename_i e; rw [if_pos e] at ht; exact hno ht
      · rename_i e; rw [if_neg e] at ht; exact h.no t ht

/-- How an answered call is to be understood. -/
def OwnSnd (M : Mach) (f : FuncId) (args : List AV) (L : Heap) (v : AV) (L' : Heap) : Prop :=
  ∀ (S : St) (cargs : List Value), HeapOk S → S.L = L → RelL S args cargs →
    (∀ w, (callFunc f ⟨cargs⟩).run (M.P ()) w = .ok (.enter f ⟨cargs⟩) w) ∧
    Calls (M.P ()) f ⟨cargs⟩ S.w fun
      | .returned cv, w' => ∃ β', HeapOk ⟨S.base, S.acc, L', β', w'⟩ ∧ Ext S ⟨S.base, S.acc, L', β', w'⟩ ∧ Rel ⟨S.base, S.acc, L', β', w'⟩ v cv
      | _, _ => False

def PureSnd (M : Mach) (f : FuncId) (args : List AV) (d : AV) : Prop :=
  ∀ (base : Nat) (acc : Nat → Nat → Prop) (w : World) (cargs : List Value), base ≤ w.heap.size → (∀ b off, base ≤ b → acc b off) → RelL ⟨base, acc, [], [], w⟩ args cargs →
    (∀ w, (callFunc f ⟨cargs⟩).run (M.P ()) w = .ok (.enter f ⟨cargs⟩) w) ∧
    Calls (M.P ()) f ⟨cargs⟩ w fun
      | .returned cv, w' => Below base w w' ∧ DRel ⟨base, acc, [], [], w'⟩ d cv
      | _, _ => False

def CFSnd (M : Mach) (c : CF) : Prop :=
  match c.own with
  | true => OwnSnd M c.f c.args c.L c.v c.L'
  | false => PureSnd M c.f c.args c.v

theorem getD_of_get {a : Array Value} {d : Nat} {v : Value} (h : a[d]? = some v) : a.getD d undef = v := by
  simp [h]

theorem chainOf_no {S : St} {env : Env} {ops : Array Oper} {a : Act} {o : Oper} (hT : TRel S env a.tmps) (h : chainOf ops env o = some none) : Region.wanted o (yielded ops a.tmps) = false := by
  unfold chainOf at h
  unfold Region.wanted
  split at h
  · simp at h
  · rename_i j want hg
    simp only [hg]
    split at h
    · rename_i hd
      simp [yielded, hd]
    · rename_i d hd
      have hno : a.tmps.getD d undef = undef → (yielded ops a.tmps j == some want) = false := by
        intro e
        unfold yielded
        rw [hd]
        simp only [Option.bind_some]
        cases hx : a.tmps[d]? with
        | none => rfl
        | some v =>
          have := getD_of_get hx
          rw [e] at this
          subst this
          rfl
      split at h
      · simp at h
      · rename_i ch hgt
        cases hcv : chainVal env ch with
        | false =>
          have := hT.no d (by rw [hgt]; exact hcv)
          exact hno this
        | true =>
          have := hT.yes d (by rw [hgt]; exact hcv)
          rw [hgt] at this
          obtain ⟨vs, h1, h2, _⟩ := rel_tup this
          have : vs = [] := List.length_eq_zero_iff.1 h2.symm
          subst this
          exact hno h1
      · simp at h

theorem chainOf_yes {S : St} {env : Env} {ops : Array Oper} {a : Act} {o : Oper} {c : Chain} (hT : TRel S env a.tmps) (h : chainOf ops env o = some (some c)) :
    ChainOk env c ∧ Region.wanted o (yielded ops a.tmps) = chainVal env c := by
  unfold chainOf at h
  unfold Region.wanted
  split at h
  · rename_i hg
    simp only [Option.some.injEq] at h; subst h
    simp only [hg]
    exact ⟨.nil, rfl⟩
  · rename_i j want hg
    simp only [hg]
    split at h
    · simp at h
    · rename_i d hd
      split at h
      · rename_i ch b hgt
        simp only [Option.some.injEq] at h; subst h
        have hc : ChainOk env ((d, want) :: ch) := by
          have := ChainOk.cons (env := env) d want b (by rw [hgt]) (hT.chain d)
          rwa [hgt] at this
        refine ⟨hc, ?_⟩
        have hch : ChainOk env ch := by have := hT.chain d; rwa [hgt] at this
        unfold yielded
        rw [hd]
        simp only [Option.bind_some, chainVal, hgt]
        cases hcv : chainVal env ch with
        | false =>
          have := hT.no d (by rw [hgt]; exact hcv)
          cases hx : a.tmps[d]? with
          | none => simp
          | some v =>
            have h2 := getD_of_get hx
            rw [this] at h2
            subst h2
            simp [undef]
        | true =>
          have := hT.yes d (by rw [hgt]; exact hcv)
          rw [hgt] at this
          have := rel_bool this
          cases hx : a.tmps[d]? with
          | none => rw [Array.getD_eq_getD_getElem?, hx] at this; simp [undef] at this
          | some v =>
            have h2 := getD_of_get hx
            rw [this] at h2
            subst h2
            simp
      · simp at h
      · simp at h

theorem DRel.scalar {S S' : St} {a : AV} {v : Value} (h : DRel S a v) : a.scalar = true → DRel S' a v := by
  have get : ∀ {l : List AV}, scalarL l = true → ∀ (i : Nat) c, l[i]? = some c → c.scalar = true := by
    intro l
    induction l with
    | nil => intro _ i c hc; simp at hc
    | cons x l ih =>
      intro h i c hc
      simp only [scalarL, Bool.and_eq_true] at h
      cases i with
      | zero => simp at hc; subst hc; exact h.1
      | succ i => simp at hc; exact ih h.2 i c hc
  induction h with
  | bool b => exact fun _ => .bool b
  | int k n => exact fun _ => .int k n
  | str s => exact fun _ => .str s
  | nilp => exact fun _ => .nilp
  | nilf => exact fun _ => .nilf
  | vnil => exact fun _ => .vnil
  | agg cs vs hl _ ih => exact fun h => .agg cs vs hl fun i c v hc hv => ih i c v hc hv (get (by simpa [AV.scalar] using h) i c hc)
  | tup cs vs hl _ ih => exact fun h => .tup cs vs hl fun i c v hc hv => ih i c v hc hv (get (by simpa [AV.scalar] using h) i c hc)
  | func fn a b va vb ha hb _ _ ih1 ih2 => intro h; simp [AV.scalar] at h
  | eptr es xs i j b off ho hc _ ih => intro h; simp [AV.scalar] at h
  | vecE f es a cap hf => intro h; simp [AV.scalar] at h
  | vec f es xs b off cap ho hf hl hc _ ih => intro h; simp [AV.scalar] at h

theorem pure_call {M : Mach} {S : St} (hS : HeapOk S) {args ds : List AV} {cargs : List Value} {d : AV} {g : FuncId} {L2 : Heap} (hrel : RelL S args cargs) (hds : pureL S.L args = some ds)
    (hv : ∀ b ∈ versL S.L args, b = true) (hL2 : (d.scalar = true ∧ L2 = S.L) ∨ L2 = freeze (rowsL args) S.L) (hsnd : PureSnd M g ds d) :
    (∀ w, (callFunc g ⟨cargs⟩).run (M.P ()) w = .ok (.enter g ⟨cargs⟩) w) ∧
    Calls (M.P ()) g ⟨cargs⟩ S.w fun
      | .returned cv, w' => HeapOk ⟨S.base, S.acc, L2, S.β, w'⟩ ∧ Ext S ⟨S.base, S.acc, L2, S.β, w'⟩ ∧ Rel ⟨S.base, S.acc, L2, S.β, w'⟩ d cv
      | _, _ => False := by
  obtain ⟨z1, z2⟩ : HeapOk ⟨S.base, S.acc, L2, S.β, S.w⟩ ∧ Ext S ⟨S.base, S.acc, L2, S.β, S.w⟩ := by
    rcases hL2 with ⟨_, rfl⟩ | rfl
    · exact ⟨hS, Ext.refl S⟩
    · exact freeze_ok _ hS
  let acc' : Nat → Nat → Prop := fun b off => S.w.heap.size ≤ b ∨ d.scalar = true ∨ Imm ⟨S.base, S.acc, L2, S.β, S.w⟩ b off
  have hpre : RelL ⟨S.w.heap.size, acc', [], [], S.w⟩ ds cargs := by
    have hi : ∀ b off, Imm S b off → b < S.w.heap.size → Imm ⟨S.w.heap.size, acc', [], [], S.w⟩ b off :=
      fun b off h1 h2 => ⟨.inr (.inr (z2.imm b off h1 h2).1), by simp⟩
    have hh : Holds S ⟨S.w.heap.size, acc', [], [], S.w⟩ (rowsL args) := by
      intro r hr row info h1 h2 off h3 h4
      refine ⟨?_, by simp⟩
      rcases hL2 with ⟨h, _⟩ | rfl
      · exact .inr (.inl h)
      · exact .inr (.inr (freeze_holds hS _ r hr row info h1 h2 off h3 h4))
    obtain ⟨h1, h2⟩ := pure_relL (S' := ⟨S.w.heap.size, acc', [], [], S.w⟩) hS rfl hi args hrel hds hv hh
    exact ⟨h1, fun i c v hc hv => .data _ _ (h2 i c v hc hv)⟩
  obtain ⟨m1, m2⟩ := hsnd _ acc' S.w cargs (Nat.le_refl _) (fun b off h => .inl h) hpre
  refine ⟨m1, Calls.mono m2 fun e w'' he => ?_⟩
  cases e with
  | returned cv =>
    obtain ⟨n1, n2⟩ := he
    obtain ⟨k1, k2⟩ := more_heap z1 (w' := w'') ⟨n1.os, n1.tape, n1.output, n1.size, fun k hk => n1.block k (Nat.lt_of_lt_of_le hk hS.base)⟩ (fun b hb => n1.block b hb)
    refine ⟨k1, z2.trans k2, .data _ _ ?_⟩
    rcases hL2 with ⟨h, _⟩ | _
    · exact n2.scalar h
    · cases hsc : d.scalar with
      | true => exact n2.scalar hsc
      | false =>
        refine DRel.shift (S' := ⟨S.base, S.acc, L2, S.β, w''⟩) (S := ⟨S.w.heap.size, acc', [], [], w''⟩) rfl (fun b off hi hb => ?_) n2
        rcases hi.1 with h1 | h2 | h2
        · refine ⟨hS.anew b off h1, fun r info h2 h3 => ?_⟩
          have := (hS.blk r info h2).2
          omega
        · rw [hsc] at h2; simp at h2
        · exact h2
  | panicked c => exact he.elim
  | outgrown => exact he.elim

theorem drel_scalar_of_fresh {S : St} {a : AV} {v : Value} (h : DRel S a v) : freshA a = true → a.scalar = true := by
  have all : ∀ {l : List AV} {vs : List Value}, l.length = vs.length → (∀ (i : Nat) c v, l[i]? = some c → vs[i]? = some v → freshA c = true → c.scalar = true) → freshL l = true → scalarL l = true := by
    intro l
    induction l with
    | nil => intro _ _ _ _; rfl
    | cons x l ih =>
      intro vs hl h hf
      cases vs with
      | nil => simp at hl
      | cons u vs =>
        simp only [freshL, Bool.and_eq_true] at hf
        simp only [scalarL, Bool.and_eq_true]
        exact ⟨h 0 x u rfl rfl hf.1, ih (vs := vs) (by simpa using hl) (fun i c v hc hv => h (i + 1) c v (by simpa using hc) (by simpa using hv)) hf.2⟩
  induction h with
  | agg cs vs hl _ ih => intro hf; simpa [AV.scalar] using all hl ih (by simpa [freshA] using hf)
  | tup cs vs hl _ ih => intro hf; simpa [AV.scalar] using all hl ih (by simpa [freshA] using hf)
  | bool b => intro _; rfl
  | int k m => intro _; rfl
  | str s => intro _; rfl
  | nilp => intro _; rfl
  | nilf => intro _; rfl
  | vnil => intro _; rfl
  | func => intro hf; simp [freshA, AV.scalar] at hf
  | eptr => intro hf; simp [freshA, AV.scalar] at hf
  | vecE => intro hf; simp [freshA, AV.scalar] at hf
  | vec => intro hf; simp [freshA, AV.scalar] at hf

theorem scalar_rel {S S' : St} {a : AV} {v : Value} (h : Rel S a v) (hs : a.scalar = true) : Rel S' a v := by
  have get : ∀ {l : List AV}, scalarL l = true → ∀ (i : Nat) c, l[i]? = some c → c.scalar = true := by
    intro l
    induction l with
    | nil => intro _ i c hc; simp at hc
    | cons x l ih =>
      intro h i c hc
      simp only [scalarL, Bool.and_eq_true] at h
      cases i with
      | zero => simp at hc; subst hc; exact h.1
      | succ i => simp at hc; exact ih h.2 i c hc
  induction h with
  | any v => simp [AV.scalar] at hs
  | data a v h => exact .data _ _ (h.scalar hs)
  | agg cs vs hl _ ih => exact .agg cs vs hl fun i c v hc hv => ih i c v hc hv (get (by simpa [AV.scalar] using hs) i c hc)
  | tup cs vs hl _ ih => exact .tup cs vs hl fun i c v hc hv => ih i c v hc hv (get (by simpa [AV.scalar] using hs) i c hc)
  | func fn a b va vb _ _ _ _ _ _ => simp [AV.scalar] at hs
  | ptr r ver i j row info v _ _ _ _ _ => simp [AV.scalar] at hs
  | row r ver row info v _ _ _ _ _ => simp [AV.scalar] at hs
  | ref r ver lo len row info v _ _ _ _ _ => simp [AV.scalar] at hs

theorem scalar_ren (f : Nat → Nat) : ∀ {a : AV} {S : St} {v : Value}, Rel S a v → a.scalar = true → renA f a = a := by
  intro a S v h hs
  have get : ∀ {l : List AV}, scalarL l = true → ∀ (i : Nat) c, l[i]? = some c → c.scalar = true := by
    intro l
    induction l with
    | nil => intro _ i c hc; simp at hc
    | cons x l ih =>
      intro h i c hc
      simp only [scalarL, Bool.and_eq_true] at h
      cases i with
      | zero => simp at hc; subst hc; exact h.1
      | succ i => simp at hc; exact ih h.2 i c hc
  induction h with
  | any v => simp [AV.scalar] at hs
  | data a v h => exact dren h f
  | agg cs vs hl _ ih =>
    simp only [renA]
    rw [renL_same fun i c hc => ih i c (vs[i]'(by rw [← hl]; exact (List.getElem?_eq_some_iff.1 hc).1)) hc (List.getElem?_eq_getElem _) (get (by simpa [AV.scalar] using hs) i c hc)]
  | tup cs vs hl _ ih =>
    simp only [renA]
    rw [renL_same fun i c hc => ih i c (vs[i]'(by rw [← hl]; exact (List.getElem?_eq_some_iff.1 hc).1)) hc (List.getElem?_eq_getElem _) (get (by simpa [AV.scalar] using hs) i c hc)]
  | func fn a b va vb _ _ _ _ _ _ => simp [AV.scalar] at hs
  | ptr r ver i j row info v _ _ _ _ _ => simp [AV.scalar] at hs
  | row r ver row info v _ _ _ _ _ => simp [AV.scalar] at hs
  | ref r ver lo len row info v _ _ _ _ _ => simp [AV.scalar] at hs

/-- A value of scalars and one new row, seen by the caller. -/
theorem fresh_rel {S1 S' : St} {j n : Nat} {row : Row} {info : BI} (h1 : S1.L[j]? = some row) (h2 : S1.β[j]? = some info) (h3 : S'.L[n]? = some row) (h4 : S'.β[n]? = some info) {a : AV} {v : Value} (h : Rel S1 a v) :
    freshA a = true → (∀ r ∈ rowsA a, r = j) → Rel S' (renA (fun _ => n) a) v := by
  have get : ∀ {l : List AV}, freshL l = true → ∀ (i : Nat) c, l[i]? = some c → freshA c = true := by
    intro l
    induction l with
    | nil => intro _ i c hc; simp at hc
    | cons x l ih =>
      intro h i c hc
      simp only [freshL, Bool.and_eq_true] at h
      cases i with
      | zero => simp at hc; subst hc; exact h.1
      | succ i => simp at hc; exact ih h.2 i c hc
  have mem : ∀ {l : List AV} {i : Nat} {c : AV}, (renL (fun _ => n) l)[i]? = some c → ∃ c0, l[i]? = some c0 ∧ c = renA (fun _ => n) c0 := by
    intro l i c h
    rw [renL_map, List.getElem?_map] at h
    obtain ⟨c0, h1, h2⟩ := Option.map_eq_some_iff.1 h
    exact ⟨c0, h1, h2.symm⟩
  have len : ∀ l : List AV, (renL (fun _ => n) l).length = l.length := fun l => by rw [renL_map]; simp
  have sc : ∀ {a : AV} {v : Value}, Rel S1 a v → a.scalar = true → Rel S' (renA (fun _ => n) a) v := fun hr hs => by rw [scalar_ren _ hr hs]; exact scalar_rel hr hs
  induction h with
  | any v => intro hf; simp [freshA, AV.scalar] at hf
  | data a v h =>
    intro hf hm
    cases h with
    | agg cs vs hl hh =>
      refine .agg _ vs ((len cs).trans hl) fun i c v hc hv => ?_
      obtain ⟨c0, k1, rfl⟩ := mem hc
      have hd := hh i c0 v k1 hv
      rw [dren hd]
      have e := drel_scalar_of_fresh hd (get (by simpa [freshA] using hf) i c0 k1)
      exact .data _ _ (hd.scalar e)
    | tup cs vs hl hh =>
      refine .tup _ vs ((len cs).trans hl) fun i c v hc hv => ?_
      obtain ⟨c0, k1, rfl⟩ := mem hc
      have hd := hh i c0 v k1 hv
      rw [dren hd]
      have e := drel_scalar_of_fresh hd (get (by simpa [freshA] using hf) i c0 k1)
      exact .data _ _ (hd.scalar e)
    | func => simp [freshA, AV.scalar] at hf
    | eptr => simp [freshA, AV.scalar] at hf
    | vecE => simp [freshA, AV.scalar] at hf
    | vec => simp [freshA, AV.scalar] at hf
    | bool b => exact .data _ _ (.bool b)
    | int k m => exact .data _ _ (.int k m)
    | str s => exact .data _ _ (.str s)
    | nilp => exact .data _ _ .nilp
    | nilf => exact .data _ _ .nilf
    | vnil => exact .data _ _ .vnil
  | agg cs vs hl _ ih =>
    intro hf hm
    refine .agg _ vs ((len cs).trans hl) fun i c v hc hv => ?_
    obtain ⟨c0, k1, rfl⟩ := mem hc
    exact ih i c0 v k1 hv (get (by simpa [freshA] using hf) i c0 k1) fun r hr => hm r (by simp only [rowsA]; exact rowsL_mem k1 hr)
  | tup cs vs hl _ ih =>
    intro hf hm
    refine .tup _ vs ((len cs).trans hl) fun i c v hc hv => ?_
    obtain ⟨c0, k1, rfl⟩ := mem hc
    exact ih i c0 v k1 hv (get (by simpa [freshA] using hf) i c0 k1) fun r hr => hm r (by simp only [rowsA]; exact rowsL_mem k1 hr)
  | func fn a b va vb _ _ _ _ _ _ => intro hf; simp [freshA, AV.scalar] at hf
  | ptr r ver i j row info v _ _ _ _ _ => intro hf; simp [freshA, AV.scalar] at hf
  | ref r ver lo len row info v _ _ _ _ _ => intro hf; simp [freshA, AV.scalar] at hf
  | row r ver row' info' v g0 g1 g2 g3 g4 =>
    intro hf hm
    have hj := hm r (by simp [rowsA])
    subst hj
    rw [h1] at g1; rw [h2] at g2
    simp only [Option.some.injEq] at g1 g2
    subst g1; subst g2
    exact .row n ver row info v g0 h3 h4 g3 g4

theorem own_call {M : Mach} {S : St} (hS : HeapOk S) {args args' : List AV} {cargs : List Value} {rs : List Nat} {Lc : Heap} {v v' : AV} {o L' : Option Heap} {g : FuncId} (hin : ownIn S.L args = some (rs, args', Lc)) (hrel : RelL S args cargs)
    (hout : ownOut S.L rs v o = some (v', L')) (hsnd : OwnSnd M g args' Lc v (o.getD Lc)) :
    (∀ w, (callFunc g ⟨cargs⟩).run (M.P ()) w = .ok (.enter g ⟨cargs⟩) w) ∧
    Calls (M.P ()) g ⟨cargs⟩ S.w fun
      | .returned cv, w' => ∃ β', HeapOk ⟨S.base, S.acc, L'.getD S.L, β', w'⟩ ∧ Ext S ⟨S.base, S.acc, L'.getD S.L, β', w'⟩ ∧ Rel ⟨S.base, S.acc, L'.getD S.L, β', w'⟩ v' cv
      | _, _ => False := by
  obtain ⟨rows, hrows, hnd, ha, hcl, rfl, rfl⟩ := own_in hin
  obtain ⟨hl, hg⟩ := getRows_spec hrows
  obtain ⟨hSc, _, hrelc⟩ := sub_ok hS hrows hnd hcl
  have hrel' : RelL ⟨S.base, accOf S rs, rows.map (renRow (posOf rs)), subβ S.β rs, S.w⟩ (renL (posOf rs) args) cargs := by
    refine ⟨by rw [renL_map]; simpa using hrel.1, fun i c cv hc hv => ?_⟩
    rw [renL_map, List.getElem?_map] at hc
    obtain ⟨c0, h1, rfl⟩ := Option.map_eq_some_iff.1 hc
    exact hrelc c0 cv (hrel.2 i c0 cv h1 hv) fun r hr => ha r (rowsL_mem h1 hr)
  obtain ⟨m1, m2⟩ := hsnd _ cargs hSc rfl hrel'
  refine ⟨m1, Calls.mono m2 fun e w' he => ?_⟩
  cases e with
  | panicked c => exact he.elim
  | outgrown => exact he.elim
  | returned cv =>
    obtain ⟨β1, n1, n2, n3⟩ := he
    cases o with
    | some L1 =>
      simp only [Option.getD_some] at n1 n2 n3
      unfold ownOut at hout
      simp only at hout
      split at hout
      · rename_i old new ho hn
        split at hout
        · rename_i hc
          simp only [Option.some.injEq, Prod.mk.injEq] at hout
          obtain ⟨rfl, rfl⟩ := hout
          simp only [Bool.and_eq_true, List.all_eq_true, Bool.or_eq_true, List.contains_iff_mem] at hc
          obtain ⟨k1, k2, k3⟩ := back_ok (S1 := ⟨S.base, accOf S rs, L1, β1, w'⟩) hS hrows hnd hcl n1 n2 ((noDup_iff _).1 hc.1) (fun i hi => by simpa using (List.mem_filter.1 hi).2) ho hn
            (fun row hr r hrr => by simpa [Nat.blt_eq] using hc.2.2 row hr r hrr)
          exact ⟨_, k1, k2, k3 v cv n3 fun r hr => by simpa [Nat.blt_eq] using hc.2.1 r hr⟩
        · simp at hout
      · simp at hout
    | none =>
      simp only [Option.getD_none] at n1 n2 n3
      unfold ownOut at hout
      simp only at hout
      split at hout
      · rename_i hc
        simp only [Option.some.injEq, Prod.mk.injEq] at hout
        obtain ⟨rfl, rfl⟩ := hout
        simp only [List.all_eq_true] at hc
        have hk : (rows.map (renRow (posOf rs))).length = rs.length := by simp [hl]
        have hall := getRows_all (rows.map (renRow (posOf rs)))
        rw [hk] at hall
        have href : ∀ row ∈ rows.map (renRow (posOf rs)) ++ [], ∀ r ∈ rowRefs row, r < rs.length ∨ r ∈ ([] : List Nat) := by
          intro row hr r hrr
          rw [List.append_nil] at hr
          obtain ⟨row0, q1, rfl⟩ := List.mem_map.1 hr
          rw [refs_ren] at hrr
          obtain ⟨r0, q2, rfl⟩ := List.mem_map.1 hrr
          exact .inl (List.getElem?_eq_some_iff.1 (posOf_get (hcl row0 q1 r0 q2))).1
        obtain ⟨k1, k2, k3⟩ := back_ok (S1 := ⟨S.base, accOf S rs, rows.map (renRow (posOf rs)), β1, w'⟩) (ns := []) (new := []) hS hrows hnd hcl n1 n2 List.nodup_nil (by simp) hall rfl href
        have hL : backL S.L rs [] (rows.map (renRow (posOf rs))) [] = S.L := by
          unfold backL
          rw [List.map_nil, List.append_nil]
          refine put_same rs _ fun j r x hj hx => ?_
          obtain ⟨row, q1, q2⟩ := hg j r hj
          rw [List.map_map, List.getElem?_map, q2] at hx
          simp only [Option.map_some, Option.some.injEq, Function.comp] at hx
          rw [← hx, renRow_back]
          · exact q1
          · intro r0 hr0
            have hp := posOf_get (hcl row (List.mem_of_getElem? q2) r0 hr0)
            obtain ⟨z1, z2⟩ := List.getElem?_eq_some_iff.1 hp
            rw [back_lt z1, z2]
        have hv : renA (backOf S.L.length rs []) v = renA (fun i => rs.getD i 0) v := renA_ext v fun r hr => by
          have := hc r hr
          simp [backOf, this]
        have k3' := k3 v cv n3 fun r hr => .inl (by simpa [Nat.blt_eq] using hc r hr)
        rw [hL] at k1 k2 k3'
        rw [hv] at k3'
        exact ⟨_, k1, k2, k3'⟩
      · simp at hout

theorem scalar_cell {xs : List AV} {i k : Nat} {x c : AV} (h : scalarL xs = true) (hx : xs[i]? = some x) (hc : x.cells[k]? = some c) : c.scalar = true := by
  have get : ∀ {l : List AV}, scalarL l = true → ∀ (i : Nat) c, l[i]? = some c → c.scalar = true := by
    intro l
    induction l with
    | nil => intro _ i c hc; simp at hc
    | cons x l ih =>
      intro h i c hc
      simp only [scalarL, Bool.and_eq_true] at h
      cases i with
      | zero => simp at hc; subst hc; exact h.1
      | succ i => simp at hc; exact ih h.2 i c hc
  have h1 := get h i x hx
  cases x with
  | agg cs => exact get (l := cs) (by simpa [AV.scalar] using h1) k c hc
  | _ =>
    cases k with
    | zero => simp only [AV.cells, List.getElem?_cons_zero, Option.some.injEq] at hc; subst hc; exact h1
    | succ k => simp [AV.cells] at hc

/-- A call that sees values alone and hands over a new row. -/
theorem fresh_call {M : Mach} {S : St} (hS : HeapOk S) {args ds : List AV} {cargs : List Value} {v : AV} {L1 : Heap} {j : Nat} {row : Row} {g : FuncId} (hrel : RelL S args cargs) (hds : pureL S.L args = some ds)
    (hv : ∀ b ∈ versL S.L args, b = true) (hj : rowsA v = [j]) (hrow : L1[j]? = some row) (hf : freshA v = true) (hsc : scalarL row.elems = true) (hsnd : OwnSnd M g ds [] v L1) :
    (∀ w, (callFunc g ⟨cargs⟩).run (M.P ()) w = .ok (.enter g ⟨cargs⟩) w) ∧
    Calls (M.P ()) g ⟨cargs⟩ S.w fun
      | .returned cv, w' => ∃ β', HeapOk ⟨S.base, S.acc, S.L ++ [row], β', w'⟩ ∧ Ext S ⟨S.base, S.acc, S.L ++ [row], β', w'⟩ ∧ Rel ⟨S.base, S.acc, S.L ++ [row], β', w'⟩ (renA (fun _ => S.L.length) v) cv
      | _, _ => False := by
  let V : St := ⟨S.w.heap.size, fun _ _ => True, [], [], S.w⟩
  have hV : HeapOk V := ⟨Nat.le_refl _, rfl, by simp [V], by simp [V], by simp [V], by simp [V], by simp [V], by simp [V], by simp [V], fun _ _ _ => trivial⟩
  have hpre : RelL V ds cargs := by
    have hi : ∀ b off, Imm S b off → b < S.w.heap.size → Imm V b off := fun b off _ _ => ⟨trivial, by simp [V]⟩
    have hh : Holds S V (rowsL args) := by
      intro r hr row info h1 h2 off h3 h4
      exact ⟨trivial, by simp [V]⟩
    obtain ⟨h1, h2⟩ := pure_relL (S' := V) hS rfl hi args hrel hds hv hh
    exact ⟨h1, fun i c v hc hv => .data _ _ (h2 i c v hc hv)⟩
  obtain ⟨m1, m2⟩ := hsnd V cargs hV rfl hpre
  refine ⟨m1, Calls.mono m2 fun e w' he => ?_⟩
  cases e with
  | returned cv =>
    obtain ⟨β1, n1, n2, n3⟩ := he
    have hlt : j < β1.length := by rw [← n1.len]; exact (List.getElem?_eq_some_iff.1 hrow).1
    obtain ⟨info, hinfo⟩ : ∃ info, β1[j]? = some info := ⟨_, List.getElem?_eq_getElem hlt⟩
    obtain ⟨b1, b2⟩ := n1.blk j info hinfo
    simp only [V] at b1
    have hbel : Below S.w.heap.size S.w w' := n2.below
    have hold : ∀ b, b < S.w.heap.size → w'.heap[b]? = S.w.heap[b]? := hbel.block
    have cell : ∀ b off, b < S.w.heap.size → w'.cell? ⟨b, off, none⟩ = S.w.cell? ⟨b, off, none⟩ := fun b off hb => by simp only [World.cell?, hold b hb]
    have gL : ∀ {r : Nat} {row' : Row}, (S.L ++ [row])[r]? = some row' → (S.L[r]? = some row') ∨ (r = S.L.length ∧ row' = row) := by
      intro r row' h
      rw [List.getElem?_append] at h
      split at h
      · exact .inl h
      · rename_i hge
        have : r - S.L.length = 0 := by
          rcases Nat.eq_zero_or_pos (r - S.L.length) with h0 | h0
          · exact h0
          · rw [List.getElem?_eq_none (by simp; omega)] at h; simp at h
        rw [this] at h
        simp only [List.getElem?_cons_zero, Option.some.injEq] at h
        exact .inr ⟨by omega, h.symm⟩
    have gβ : ∀ {r : Nat} {info' : BI}, (S.β ++ [info])[r]? = some info' → (S.β[r]? = some info') ∨ (r = S.L.length ∧ info' = info) := by
      intro r info' h
      rw [List.getElem?_append] at h
      split at h
      · exact .inl h
      · rename_i hge
        have hl := hS.len
        have : r - S.β.length = 0 := by
          rcases Nat.eq_zero_or_pos (r - S.β.length) with h0 | h0
          · exact h0
          · rw [List.getElem?_eq_none (by simp; omega)] at h; simp at h
        rw [this] at h
        simp only [List.getElem?_cons_zero, Option.some.injEq] at h
        exact .inr ⟨by omega, h.symm⟩
    have lt : ∀ {r : Nat} {row' : Row}, S.L[r]? = some row' → r < S.L.length := fun h => (List.getElem?_eq_some_iff.1 h).1
    have ltβ : ∀ {r : Nat} {i : BI}, S.β[r]? = some i → r < S.L.length := fun h => by rw [hS.len]; exact (List.getElem?_eq_some_iff.1 h).1
    have hE : Ext S ⟨S.base, S.acc, S.L ++ [row], S.β ++ [info], w'⟩ := by
      refine ⟨rfl, rfl, fun b off hi hb => ⟨⟨hi.1, fun r info' hr he => ?_⟩, cell b off hb⟩, fun r row' info' h1 h2 => ⟨row', info', ?_, ?_, Nat.le_refl _, fun _ => ⟨rfl, rfl⟩⟩, ⟨hbel.os, hbel.tape, hbel.output, hbel.size, fun k hk => hbel.block k (Nat.lt_of_lt_of_le hk hS.base)⟩, fun r info' hr => ?_, fun b h1 h2 _ => hold b h2⟩
      · rcases gβ hr with h | ⟨_, rfl⟩
        · obtain ⟨row', k1, k2⟩ := hi.2 r info' h he
          exact ⟨row', by show (S.L ++ [row])[r]? = _; rw [List.getElem?_append_left (lt k1)]; exact k1, k2⟩
        · omega
      · show (S.L ++ [row])[r]? = _; rw [List.getElem?_append_left (lt h1)]; exact h1
      · show (S.β ++ [info])[r]? = _; rw [List.getElem?_append_left (by rw [← hS.len]; exact lt h1)]; exact h2
      · rcases gβ hr with h | ⟨_, rfl⟩
        · exact .inl ⟨r, info', h, rfl⟩
        · exact .inr b1
    refine ⟨S.β ++ [info], ⟨?_, by simp [hS.len], ?_, ?_, ?_, ?_, ?_, ?_, ?_, fun b off hb => hS.anew b off (Nat.le_trans hbel.size hb)⟩, hE, ?_⟩
    · exact Nat.le_trans hS.base hbel.size
    · intro r info' hr
      rcases gβ hr with h | ⟨_, rfl⟩
      · obtain ⟨k1, k2⟩ := hS.blk r info' h
        exact ⟨k1, Nat.lt_of_lt_of_le k2 hbel.size⟩
      · exact ⟨Nat.le_trans hS.base b1, b2⟩
    · intro r r' i1 i2 h1 h2 he
      rcases gβ h1 with g1 | ⟨e1, e2⟩ <;> rcases gβ h2 with g2 | ⟨e3, e4⟩
      · exact hS.inj r r' i1 i2 g1 g2 he
      · have := (hS.blk r i1 g1).2; rw [e4] at he; omega
      · have := (hS.blk r' i2 g2).2; rw [e2] at he; omega
      · rw [e1, e3]
    · intro r row' info' h1 h2
      rcases gL h1 with h1 | ⟨rfl, rfl⟩
      · rcases gβ h2 with h2 | ⟨e, _⟩
        · obtain ⟨k1, k2, cs, T, k3, k4⟩ := hS.cells r row' info' h1 h2
          exact ⟨k1, k2, cs, T, by show w'.heap[_]? = _; rw [hold _ (hS.blk r info' h2).2]; exact k3, k4⟩
        · have := lt h1; omega
      · rcases gβ h2 with h2 | ⟨_, rfl⟩
        · have := ltβ h2; omega
        · exact n1.cells j row' info' hrow hinfo
    · intro r row' h1
      rcases gL h1 with h1 | ⟨_, rfl⟩
      · exact hS.elems r row' h1
      · exact n1.elems j row' hrow
    · intro r row' info' i x k c cv' h1 h2 h3 h4 h5
      rcases gL h1 with h1 | ⟨rfl, rfl⟩
      · rcases gβ h2 with h2 | ⟨e, _⟩
        · exact (hS.rel r row' info' i x k c cv' h1 h2 h3 h4 (by rw [← cell _ _ (hS.blk r info' h2).2]; exact h5)).mono hE
        · have := lt h1; omega
      · rcases gβ h2 with h2 | ⟨_, rfl⟩
        · have := ltβ h2; omega
        · exact scalar_rel (n1.rel j row' info' i x k c cv' hrow hinfo h3 h4 h5) (scalar_cell hsc h3 h4)
    · intro r row' info' i x k c cv' h1 h2 hcl h3 h4 h5
      rcases gL h1 with h1 | ⟨rfl, rfl⟩
      · rcases gβ h2 with h2 | ⟨e, _⟩
        · exact (hS.clean r row' info' i x k c cv' h1 h2 hcl h3 h4 (by rw [← cell _ _ (hS.blk r info' h2).2]; exact h5)).mono hE
        · have := lt h1; omega
      · rcases gβ h2 with h2 | ⟨_, rfl⟩
        · have := ltβ h2; omega
        · exact (n1.clean j row' info' i x k c cv' hrow hinfo hcl h3 h4 h5).scalar (scalar_cell hsc h3 h4)
    · intro r info' off hr
      rcases gβ hr with h | ⟨_, rfl⟩
      · exact hS.acq r info' off h
      · exact hS.anew _ _ b1
    · exact fresh_rel (S1 := ⟨V.base, V.acc, L1, β1, w'⟩) (j := j) (n := S.L.length) hrow hinfo (by show (S.L ++ [row])[S.L.length]? = _; simp) (by show (S.β ++ [info])[S.L.length]? = _; rw [hS.len]; simp) n3 hf (by rw [hj]; simp)
  | panicked c => exact he.elim
  | outgrown => exact he.elim

/-- One operation of a region. -/
theorem op_sound {M : Mach} {S : St} {s s' : RS} {ops : Array Oper} {o : Oper} {i n hot : Nat} {an : Option Ans} {call : Answer} {a : Act} {Q : Exit → Act → World → Prop} {K : Act → World → Prop}
    (hS : HeapOk S) (hL : S.L = s.L) (hT : TRel S s.env a.tmps) (hn : n ≤ a.tmps.size) (ho : ops[i]? = some o) (h : runOp M.P M.inl call n ops an hot o s = some s')
    (hA : ∀ b ∈ s'.asm, b = true) (hQ : ∀ q ∈ s'.eqs, q) (hC : ∀ c ∈ s'.calls, c.cond = true → CFSnd M c)
    (hK : ∀ S' a', HeapOk S' → Ext S S' → S'.L = s'.L → TRel S' s'.env a'.tmps → a'.tmps.size = a.tmps.size → a'.defers = a.defers → K a' S'.w) :
    wpOp (M.P ()) ops Q i K a S.w := by
  have hdef : ∀ v, (a.put o.dst v).defers = a.defers := fun v => by cases hd : o.dst <;> simp [Act.put]
  unfold wpOp
  simp only [ho]
  unfold runOp at h
  split at h
  · simp at h
  · rename_i hc
    split at h
    · rename_i env he
      simp only [Option.some.injEq] at h; subst h
      simp only [chainOf_no hT hc, Bool.false_eq_true, if_false]
      exact hK S _ hS (Ext.refl S) hL (put_rel hT hn .nil he (fun _ => .data _ _ (.tup [] [] rfl (by simp))) (fun h => by simp [chainVal] at h)) (size_put _ _ _) (hdef _)
    · simp at h
  · rename_i c hc
    obtain ⟨hco, hw⟩ := chainOf_yes hT hc
    rw [hw]
    split at h
    · split at h
      · simp at h
      · rename_i hcv
        split at h
        · rename_i env he
          simp only [Option.some.injEq] at h; subst h
          simp only [hcv, Bool.false_eq_true, if_false]
          exact hK S _ hS (Ext.refl S) hL (put_rel hT hn hco he (fun h => by simp [hcv] at h) (fun _ => rfl)) (size_put _ _ _) (hdef _)
        · simp at h
    · rename_i r hr
      split at h
      · simp at h
      · rename_i env he
        split at h
        · simp at h
        · -- what is behind it
          have hs : s'.env = env ∧ s'.L = mergeH (chainVal s.env c) s.L r.L' ∧ (chainVal s.env c = true → (∀ b ∈ r.asm, b ∈ s'.asm) ∧ (∀ q ∈ r.eqs, ∃ q' ∈ s'.eqs, q' → q) ∧ (∀ x ∈ r.calls, ∃ x' ∈ s'.calls, x'.cond = x.cond ∧ (CFSnd M x' → CFSnd M x))) := by
            split at h
            · simp only [Option.some.injEq] at h; subst h
              refine ⟨rfl, ?_, fun _ => ⟨fun b hb => by simp [hb], fun q hq => ⟨q, by simp [hq], id⟩, fun x hx => ⟨x, by simp [hx], rfl, id⟩⟩⟩
              cases r.L' <;> simp [mergeH, chainVal]
            · simp only [Option.some.injEq] at h; subst h
              refine ⟨rfl, rfl, fun hcv => ⟨fun b hb => ?_, fun q hq => ?_, fun x hx => ?_⟩⟩
              · simp only [hcv, List.mem_append, List.mem_map]
                exact .inr ⟨b, hb, by simp⟩
              · refine ⟨_, List.mem_append_right _ (List.mem_map.2 ⟨q, hq, rfl⟩), fun hp => hp hcv⟩
              · refine ⟨CF.under (chainVal s.env c) x, List.mem_append_right _ (List.mem_map.2 ⟨x, hx, rfl⟩), by simp [CF.under, hcv], ?_⟩
                exact id
          obtain ⟨e1, e2, e3⟩ := hs
          cases hcv : chainVal s.env c with
          | false =>
            simp only [Bool.false_eq_true, if_false]
            refine hK S _ hS (Ext.refl S) ?_ ?_ (size_put _ _ _) (hdef _)
            · rw [e2, hcv, hL]; cases r.L' <;> rfl
            · rw [e1]; exact put_rel hT hn hco he (fun h => by simp [hcv] at h) (fun _ => rfl)
          | true =>
            simp only [if_true]
            obtain ⟨f1, f2, f3⟩ := e3 hcv
            have hL' : s'.L = r.L'.getD S.L := by rw [e2, hcv, hL]; cases r.L' <;> rfl
            have hrho : ∀ ex, ChainTrue a.eval ex → ∀ x, Rel S (ev s.env (ex ++ c) x) (a.eval x) := by
              intro ex hex x
              refine ev_rel hT (fun y hy => ?_) x
              rcases List.mem_append.1 hy with hy | hy
              · exact hex y hy
              · exact (chain_iff hT hco).1 hcv y hy
            rw [← hL] at hr
            have fin : ∀ β' w' cv, HeapOk ⟨S.base, S.acc, r.L'.getD S.L, β', w'⟩ → Ext S ⟨S.base, S.acc, r.L'.getD S.L, β', w'⟩ → Rel ⟨S.base, S.acc, r.L'.getD S.L, β', w'⟩ r.v cv → K (a.put o.dst cv) w' := by
              intro β' w' cv h1 h2 h3
              refine hK ⟨S.base, S.acc, r.L'.getD S.L, β', w'⟩ _ h1 h2 hL'.symm ?_ (size_put _ _ _) (hdef _)
              rw [e1]; exact put_rel (hT.mono h2) hn hco he (fun _ => h3) (fun h => by simp [hcv] at h)
            rcases step_sound hS hrho hr (fun b hb => hA b (f1 b hb)) (fun q hq => by obtain ⟨q', h1, h2⟩ := f2 q hq; exact h2 (hQ q' h1)) with ⟨_, β', w', cv, h1, h2, h3, h4⟩ | ⟨g, args, cargs, hcl⟩
            · left
              unfold Oper.wp
              rcases h4 with h4 | ⟨h4, h5⟩
              · rw [h4, Oper.upon_value]; exact fin β' w' cv h1 h2 h3
              · rw [h4, Oper.upon_skip]; subst h5; exact fin β' w' undef h1 h2 h3
            · left
              unfold Oper.wp
              obtain ⟨k1, k2, call', k3⟩ := hcl
              have hsnd : ∀ x ∈ r.calls, x.cond = true → CFSnd M x := fun x hx hxc => by
                obtain ⟨x', h1, h2, h3⟩ := f3 x hx
                exact h3 (hC x' h1 (h2.trans hxc))
              unfold callF at k3
              cases hin : M.inl g with
              | true =>
                simp only [hin, cond_true] at k3
                split at k3
                · rename_i rs args' Lc hoi
                  split at k3
                  · rename_i v o hcall
                    split at k3
                    · rename_i v' L' hoo
                      simp only [Option.some.injEq] at k3; subst k3
                      have := hsnd _ (List.mem_singleton.2 rfl) rfl
                      obtain ⟨m1, m2⟩ := own_call (M := M) hS hoi k2 hoo this
                      rw [k1, m1, Oper.upon_enter]
                      refine Calls.mono m2 fun e w'' he => ?_
                      cases e with
                      | returned cv =>
                        obtain ⟨β', n1, n2, n3⟩ := he
                        exact fin β' w'' cv n1 n2 n3
                      | panicked c => exact he.elim
                      | outgrown => exact he.elim
                    · simp at k3
                  · simp at k3
                · simp at k3
              | false =>
                simp only [hin, cond_false] at k3
                split at k3
                · rename_i ds hds
                  split at k3
                  · rename_i d hcall
                    split at k3
                    · rename_i hdc
                      have go : ∀ L2 : Heap, ((d.scalar = true ∧ L2 = S.L) ∨ L2 = freeze (rowsL args) S.L) → r.L'.getD S.L = L2 → r.v = d → r.asm = versL S.L args → r.calls = [⟨true, false, g, ds, [], d, []⟩] →
                          Oper.upon (M.P ()) o a K Q ((execOp a.eval o).run (M.P ()) S.w) := by
                        intro L2 g1 g2 g3 g4 g5
                        obtain ⟨m1, m2⟩ := pure_call (M := M) (g := g) hS k2 hds (fun b hb => hA b (f1 b (by rw [g4]; exact hb))) g1 (hsnd ⟨true, false, g, ds, [], d, []⟩ (by rw [g5]; simp) rfl)
                        rw [k1, m1, Oper.upon_enter]
                        refine Calls.mono m2 fun e w'' he => ?_
                        cases e with
                        | returned cv =>
                          obtain ⟨n1, n2, n3⟩ := he
                          rw [← g2] at n1 n2 n3
                          rw [← g3] at n3
                          exact fin _ w'' cv n1 n2 n3
                        | panicked c => exact he.elim
                        | outgrown => exact he.elim
                      cases hsc : d.scalar with
                      | true =>
                        simp only [hsc, Option.some.injEq] at k3; subst k3
                        exact go S.L (.inl ⟨hsc, rfl⟩) rfl rfl rfl rfl
                      | false =>
                        cases hrs : rowsL args with
                        | nil =>
                          simp only [hsc, hrs, Option.some.injEq] at k3; subst k3
                          exact go S.L (.inr (by rw [hrs]; rfl)) rfl rfl rfl rfl
                        | cons q qs =>
                          simp only [hsc, hrs, Option.some.injEq] at k3; subst k3
                          exact go (freeze (q :: qs) S.L) (.inr (by rw [hrs])) rfl rfl rfl rfl
                    · simp at k3
                  · rename_i v L1 hcall
                    split at k3
                    · rename_i j hj
                      split at k3
                      · rename_i row hrow
                        split at k3
                        · rename_i hfr
                          simp only [Option.some.injEq] at k3; subst k3
                          simp only [Bool.and_eq_true] at hfr
                          obtain ⟨m1, m2⟩ := fresh_call (M := M) (g := g) hS k2 hds (fun b hb => hA b (f1 b hb)) hj hrow hfr.1 hfr.2.2 (hsnd _ (List.mem_singleton.2 rfl) rfl)
                          rw [k1, m1, Oper.upon_enter]
                          refine Calls.mono m2 fun e w'' he => ?_
                          cases e with
                          | returned cv =>
                            obtain ⟨β', n1, n2, n3⟩ := he
                            exact fin β' w'' cv n1 n2 n3
                          | panicked c => exact he.elim
                          | outgrown => exact he.elim
                        · simp at k3
                      · simp at k3
                    · simp at k3
                  · simp at k3
                · simp at k3

end Go.Av
