/- THE EVALUATION RELATION over the definitions of AvDef, and whole paths of it at once. No program in sight. -/
import Derived.Test.YtablgkhmbcegkaaAvDef
namespace Go.Av

/-- A program, and the functions that work on their caller's rows. -/
structure Mach where
  P : Unit → Program
  inl : FuncId → Bool

inductive Conf where
  | run (fi : Fi) (todo : List Item) (env : Vars) (L : Heap)
  | own (f : FuncId) (args : List AV) (L : Heap)
  | pure (f : FuncId) (args : List AV)

/-- May operation i be done behind or before operation j, as the order is drawn? -/
def tmpsOf (ops : Array Oper) (o : Oper) : List Tmp := o.looksAt ops

/-- Touches no memory. -/
def memFree (o : Oper) : Bool :=
  match o.op with
  | .move _ | .assign _ | .pick .. | .build .. | .nilCheck _ | .binOp .. | .unOp .. | .convert .. | .makeFunc .. | .fieldAddr .. | .field .. | .index .. | .extract .. => true
  | _ => false

/-- Only adds a row. -/
def growsOnly (o : Oper) : Bool :=
  match o.op with
  | .alloc _ | .box .. => true
  | _ => false

/-- Reads as before when a row is added. -/
def canWait (o : Oper) : Bool :=
  o.guard.isNone && match o.op with
  | .load .. => true
  | .call c => match c.callee with
    | .value _ => true
    | _ => false
  | _ => false

/-- Is there a way of edges from j down to i? -/
def reach (ops : Array Oper) (i : Nat) : Nat → Nat → Bool
  | 0, _ => false
  | fuel + 1, j => match ops[j]? with
    | some o => o.after.toList.any fun e => Region.binds .any e && (e.on == i || reach ops i fuel e.on)
    | none => false

/-- It changes no memory. -/
def cool (h : Nat) : Bool := Nat.blt h 2 || (Nat.ble 3 h && Nat.beq (h % 2) 1)

/-- One reads a row, the other one changes another one. -/
def rowSwap (h k : Nat) : Bool := Nat.ble 3 h && Nat.ble 3 k && Nat.beq ((h + k) % 2) 1 && !Nat.beq ((h - 3) / 2) ((k - 3) / 2)

/-- Operation j, the later one in the text, may be done ahead of i. -/
def maySwap (hot : Nat → Nat) (ops : Array Oper) (i j : Nat) (a b : Oper) : Bool :=
  a.apart ops b && (((cool (hot i) || memFree b) && (cool (hot j) || memFree a || (growsOnly b && (canWait a && Nat.beq (hot i) 0)))) || (rowSwap (hot i) (hot j) && (a.guard.isNone && b.guard.isNone)))

/-- Every edge that binds leads back. -/
def edgesOk (ops : Array Oper) : Bool :=
  (List.range ops.size).all fun j => match ops[j]? with
    | some o => o.after.toList.all fun e => !Region.binds .any e || Nat.blt e.on j
    | none => true

def drawOk (hot : Nat → Nat) (ops : Array Oper) : Bool :=
  edgesOk ops && (List.range ops.size).all fun j => (List.range j).all fun i =>
    match ops[i]?, ops[j]? with
    | some a, some b => maySwap hot ops i j a b || reach ops i ops.size j
    | _, _ => true

/-- The row that an operation is said to concern: number + 1000 (row + 2). -/
def rowSaid (hc : List Nat) (i : Nat) : Option Nat :=
  match hc with
  | [] => none
  | x :: l => bif Nat.ble 2000 x && Nat.beq (x % 1000) i then some (x / 1000 - 2) else rowSaid l i

/-- Which operations may change the memory. Of a call it is said: its number for 2, its number and 1000 for 1. -/
def hotOf (ops : Array Oper) (hotCalls : List Nat) (i : Nat) : Nat :=
  match ops[i]? with
  | some o => match o.op with
    | .alloc _ | .box .. | .store .. => match rowSaid hotCalls i with
      | some r => 4 + 2 * r
      | none => 2
    | .makeSlice .. => 2
    | .load .. | .indexAddr .. | .slice .. => match rowSaid hotCalls i with
      | some r => 3 + 2 * r
      | none => 0
    | .buildSlice .. => match rowSaid hotCalls i with
      | some r => 3 + 2 * r
      | none => bif hotCalls.contains i then 2 else 0
    | .call c => match c.callee with
      | .builtin .append => match rowSaid hotCalls i with
        | some r => 4 + 2 * r
        | none => 2
      | .builtin .copy | .builtin .clear => 2
      | .builtin .len => match rowSaid hotCalls i with
        | some r => 3 + 2 * r
        | none => 0
      | .builtin _ => 0
      | _ => match rowSaid hotCalls i with
        | some r => bif hotCalls.contains i then 4 + 2 * r else 3 + 2 * r
        | none => bif hotCalls.contains i then 2 else bif hotCalls.contains (i + 1000) then 1 else 0
    | _ => bif hotCalls.contains i then 2 else 0
  | none => 0

/-- A tree that says less. -/
inductive Weak : AV → AV → Prop
  | refl (a : AV) : Weak a a
  | vnil (es : Nat) : Weak .vnil (.vec false es [])
  | full (es : Nat) (xs : List AV) : Weak (.vec true es xs) (.vec false es xs)
  | tup (xs ys : List AV) : xs.length = ys.length → (∀ (i : Nat) x y, xs[i]? = some x → ys[i]? = some y → Weak x y) → Weak (.tup xs) (.tup ys)
  | agg (xs ys : List AV) : xs.length = ys.length → (∀ (i : Nat) x y, xs[i]? = some x → ys[i]? = some y → Weak x y) → Weak (.agg xs) (.agg ys)

def argVars (i : Nat) : List AV → Vars
  | [] => []
  | a :: r => (i, a) :: argVars (i + 1) r

/-- The temporaries, with their rows renumbered. -/
def renV (f : Nat → Nat) (env : Vars) : Vars := env.map fun e => (e.1, renA f e.2)

/-- The rows rs alone, numbered anew: nothing else may be led to. -/
def narrowIn (L : Heap) (rs : List Nat) (env : Vars) : Option (Vars × Heap) :=
  match getRows L rs with
  | some rows =>
    if (noDup rs && ((rowsL (env.map (·.2))).all rs.contains && rows.all fun row => (rowRefs row).all rs.contains)) = true then
      some (renV (posOf rs) env, rows.map (renRow (posOf rs)))
    else none
  | none => none

/-- Where the rows come to lie behind it: new ones at the end. -/
def backAt (n : Nat) (rs : List Nat) (i : Nat) : Nat := bif Nat.blt i rs.length then rs.getD i 0 else n + (i - rs.length)
def backAll (L : Heap) (rs : List Nat) (L1 : Heap) : Heap :=
  putAt L rs ((L1.take rs.length).map (renRow (backAt L.length rs))) ++ (L1.drop rs.length).map (renRow (backAt L.length rs))

/-- The result and the memory are these. -/
def isR (v : AV) (L : Heap) : AV → Heap → Prop := fun x K => x = v ∧ K = L

/-- A test for the nil slice whose answer is not known, since the slice is empty: where the answer goes. -/
def nilTest (P : Unit → Program) (env : Env) (o : Oper) : Option Nat :=
  match o.guard, o.dst, o.op with
  | none, some d, .binOp op T x y _ =>
    match op, (P ()).underlying T, ev env [] x, ev env [] y with
    | .eql, some (.slice _), .vec _ _ [], .vnil => some d
    | .eql, some (.slice _), .vnil, .vec _ _ [] => some d
    | .neq, some (.slice _), .vec _ _ [], .vnil => some d
    | .neq, some (.slice _), .vnil, .vec _ _ [] => some d
    | _, _, _, _ => none
  | _, _, _ => none

/-- A region with such a test, its answer given. -/
def nilRun (P : Unit → Program) (inl : FuncId → Bool) (n : Nat) (ops : Array Oper) (i : Nat) (env : Vars) (L : Heap) (b : Bool) : Option RS :=
  match ops[i]?, runOps P inl (fun _ _ _ => none) n ops (fun _ => none) (fun _ => 2) (List.range i) ⟨lift env, L, [], [], []⟩ with
  | some o, some s1 => match nilTest P s1.env o with
    | some d => match putE n (some d) [] (.bool b) s1.env with
      | some env1 => runOps P inl (fun _ _ _ => none) n ops (fun _ => none) (fun _ => 2) ((List.range ops.size).drop (i + 1)) ⟨env1, s1.L, s1.asm, s1.eqs, s1.calls⟩
      | none => none
    | none => none
  | _, _ => none

/-- The evaluation ends, and Q holds of what it gives. -/
inductive Wp (M : Mach) : Conf → (AV → Heap → Prop) → Prop
  | skip {fi k env L Q} : Wp M (.run fi k env L) Q → Wp M (.run fi (.code .skip :: k) env L) Q
  | seq {fi a b k env L Q} : Wp M (.run fi (.code a :: .code b :: k) env L) Q → Wp M (.run fi (.code (.seq a b) :: k) env L) Q
  | cond {fi c a b k env L Q} (t : Bool) : evV env c = .bool t → Wp M (.run fi (.code (bif t then a else b) :: k) env L) Q → Wp M (.run fi (.code (.cond c a b) :: k) env L) Q
  | block {fi id b k env L Q} : Wp M (.run fi (.code b :: .inBlock id :: k) env L) Q → Wp M (.run fi (.code (.block id b) :: k) env L) Q
  | inBlock {fi id k env L Q} : Wp M (.run fi k env L) Q → Wp M (.run fi (.inBlock id :: k) env L) Q
  | loop {fi b k env L Q} : Wp M (.run fi (.code b :: .inLoop b :: k) env L) Q → Wp M (.run fi (.code (.loop b) :: k) env L) Q
  | inLoop {fi b k env L Q} : Wp M (.run fi (.code b :: .inLoop b :: k) env L) Q → Wp M (.run fi (.inLoop b :: k) env L) Q
  | exit {fi id k k' env L Q} : exitTo id k = some k' → Wp M (.run fi k' env L) Q → Wp M (.run fi (.code (.exit id) :: k) env L) Q
  | region {fi id ops draw k env L Q} (call : Answer) (ans : Nat → Option Ans) (hot : Nat → Nat) (keep : List Nat) (s : RS) :
      (draw = true → drawOk hot ops = true) →
      runOps M.P M.inl call fi.n ops ans hot (List.range ops.size) ⟨lift env, L, [], [], []⟩ = some s →
      (∀ b ∈ s.asm, b = true) → (∀ p ∈ s.eqs, p) →
      (∀ c ∈ s.calls, c.cond = true → c.own = true → Wp M (.own c.f c.args c.L) (isR c.v c.L')) →
      (∀ c ∈ s.calls, c.cond = true → c.own = false → Wp M (.pure c.f c.args) (isR c.v [])) →
      Wp M (.run fi k (forget keep s.env) s.L) Q → Wp M (.run fi (.code (.region id ops draw) :: k) env L) Q
  | nilq {fi id ops k env L Q} (i : Nat) (keep : List Nat) (s : Bool → RS) :
      (∀ b, nilRun M.P M.inl fi.n ops i env L b = some (s b)) → (∀ b, (∀ x ∈ (s b).asm, x = true) ∧ (s b).eqs = [] ∧ (s b).calls = []) →
      (∀ b, Wp M (.run fi k (forget keep (s b).env) (s b).L) Q) → Wp M (.run fi (.code (.region id ops false) :: k) env L) Q
  | ret {fi k env L v Q} : finish M.P fi env L = some v → Q v L → Wp M (.run fi (.code .ret :: k) env L) Q
  | done {fi env L v Q} : finish M.P fi env L = some v → Q v L → Wp M (.run fi [] env L) Q
  | own {f args L Q} (fn : Func) (c : Code) : (M.P ()).funcs[f]? = some fn → fn.body = some c → (fn.name == "runtime.NumGoroutine") = false →
      Wp M (.run ⟨fn.ntmps, fn.results.toList⟩ [.code c] (argVars 0 args) L) Q → Wp M (.own f args L) Q
  | pure {f args Q} : Wp M (.own f args []) (fun v L' => ∃ d d', pureA L' v = some d ∧ (∀ b ∈ versA L' v, b = true) ∧ d.clean = true ∧ Weak d d' ∧ Q d' []) → Wp M (.pure f args) Q
  | narrow {fi k env L Q} (rs : List Nat) (env' : Vars) (Lc : Heap) : narrowIn L rs env = some (env', Lc) →
      Wp M (.run fi k env' Lc) (fun v L1 => Q (renA (backAt L.length rs) v) (backAll L rs L1)) → Wp M (.run fi k env L) Q
  | weak {f args v d} : Wp M (.pure f args) (isR v []) → Weak v d → Wp M (.pure f args) (isR d [])
  | mono {c Q Q'} : Wp M c Q → (∀ v L, Q v L → Q' v L) → Wp M c Q'

/-- The evaluation ends with this result and this memory. -/
abbrev Ev (M : Mach) (c : Conf) (v : AV) (L' : Heap) : Prop := Wp M c (isR v L')

/-- A place in the code: the way to it from the whole. -/
def atC : Code → List Nat → List Item
  | .seq a b, 0 :: p => atC a p ++ [.code b]
  | .seq _ b, _ :: p => atC b p
  | .cond _ a _, 0 :: p => atC a p
  | .cond _ _ b, _ :: p => atC b p
  | .block id a, _ :: p => atC a p ++ [.inBlock id]
  | .loop a, _ :: p => atC a p ++ [.inLoop a]
  | c, _ => [.code c]

structure PS where
  todo : List Item
  env : Vars
  L : Heap
  asm : List Bool := []
  eqs : List Prop := []
  calls : List CF := []

/-- What is given for the walk of a path: answers, hot calls, and the temporaries that are read later on, region by region. -/
structure Given where
  call : Answer := fun _ _ _ => none
  ans : Nat → Nat → Option Ans := fun _ _ => none
  hot : Nat → List Nat := fun _ => []
  keep : Nat → List Nat := fun _ => []

/-- Run on along one way: to the head of a loop, to a return, to the end, or to a test for which no turn is given. -/
def path (M : Mach) (fi : Fi) (G : Given) : Nat → List Bool → PS → Option PS
  | 0, _, s => some s
  | n + 1, ds, s =>
    match s.todo with
    | [] => some s
    | .inBlock _ :: k => path M fi G n ds { s with todo := k }
    | .inLoop b :: k => some { s with todo := .code b :: .inLoop b :: k }
    | .code c :: k =>
      match c with
      | .skip => path M fi G n ds { s with todo := k }
      | .seq a b => path M fi G n ds { s with todo := .code a :: .code b :: k }
      | .cond c a b =>
        match ds with
        | [] => some s
        | d :: ds => match evV s.env c with
          | .bool t => path M fi G n ds { s with todo := .code (bif d then a else b) :: k, asm := s.asm ++ [t == d] }
          | _ => none
      | .block id b => path M fi G n ds { s with todo := .code b :: .inBlock id :: k }
      | .loop b => some { s with todo := .code b :: .inLoop b :: k }
      | .exit id => match exitTo id k with
        | some k' => path M fi G n ds { s with todo := k' }
        | none => none
      | .region id ops draw =>
        match draw, (bif draw then drawOk (hotOf ops (G.hot id)) ops else true) with
        | true, false => none
        | _, _ =>
          match runOps M.P M.inl G.call fi.n ops (G.ans id) (bif draw then hotOf ops (G.hot id) else fun _ => 2) (List.range ops.size) ⟨lift s.env, s.L, s.asm, s.eqs, s.calls⟩ with
          | some t => path M fi G n ds ⟨k, forget (G.keep id) t.env, t.L, t.asm, t.eqs, t.calls⟩
          | none => none
      | .ret => some s
      | _ => none
    | _ => none
end Go.Av
