/- PART 6 of the texts of a claim, joined by a program: what each part shows stands at its head. -/
import Derived.Test.YtojapcnhajomcaaPart056e090fd9
import Derived.WalkKit
import Derived.Laws.Externs
import Derived.KernelRfl

namespace Go.Av
open Go.RowKit
mutual
def deepA (L:Heap):AV -> Option AV
 | .row r v => match L[r]? with
  | some row => bif row.clean then some (.vec false row.es row.elems) else match pureL L row.elems with
   | some ys => some (.vec false row.es ys)
   | none => none
  | none => none
 | .agg cs => match deepL L cs with
  | some ds => some (.agg ds)
  | none => none
 | .tup cs => match deepL L cs with
  | some ds => some (.tup ds)
  | none => none
 | a => pureA L a
def deepL (L:Heap):List AV -> Option (List AV)
 | [] => some []
 | c :: r => match deepA L c,deepL L r with
  | some d,some ds => some (d :: ds)
  | _,_ => none
end
mutual
def deepV (L:Heap):AV -> List Bool
 | .row r v => ZbS L r v :: (match L[r]? with
  | some row => bif row.clean then [] else versL L row.elems
  | none => [])
 | .agg cs => deepVL L cs
 | .tup cs => deepVL L cs
 | a => versA L a
def deepVL (L:Heap):List AV -> List Bool
 | [] => []
 | c :: r => deepV L c ++ deepVL L r
end
theorem deep_get {L:Heap}:∀ {l ds:List AV},pureL L l = some ds -> ds.length = l.length /\ ∀ (i:Nat) d,ds[i]? = some d -> ∃ c,l[i]? = some c /\ pureA L c = some d
 | [],ds,h => by simp only [pureL,Option.some.injEq] at h;subst h;exact ⟨rfl,by simp⟩
 | c :: l,ds,h => by
  simp only [pureL] at h
  split at h
  ·rename_i d ds' hd hds
   simp only [Option.some.injEq] at h;subst h
   obtain ⟨h1,h2⟩:=deep_get hds
   refine ⟨by simp [h1],fun i x hx => ?_⟩
   cases i with
   | zero => simp at hx;subst hx;exact ⟨c,rfl,hd⟩
   | succ i => obtain ⟨y,q1,q2⟩:=h2 i x (by simpa using hx);exact ⟨y,by simpa using q1,q2⟩
  ·simp at h
theorem ZfH {L:Heap} {c d:AV} (h:pureA L c = some d) (hp:c.plain = true):d.plain = true:=by
 cases c with
 | any => simp [AV.plain] at hp
 | agg cs => simp [AV.plain] at hp
 | tup cs => simp [AV.plain] at hp
 | row r v =>
  simp only [pureA] at h
  repeat' split at h
  all_goals first | (simp only [Option.some.injEq] at h;subst h;rfl) | (simp at h)
 | ref r v lo len =>
  simp only [pureA] at h
  repeat' split at h
  all_goals first | (simp only [Option.some.injEq] at h;subst h;rfl) | (simp at h)
 | ptr r v i j =>
  simp only [pureA] at h
  repeat' split at h
  all_goals first | (simp only [Option.some.injEq] at h;subst h;rfl) | (simp at h)
 | func fn a b =>
  simp only [pureA] at h
  repeat' split at h
  all_goals first | (simp only [Option.some.injEq] at h;subst h;rfl) | (simp at h)
 | mapr r => simp [pureA] at h
 | _ => simp only [pureA,Option.some.injEq] at h;subst h;rfl
theorem cells_one {c:AV} (hp:c.plain = true):c.cells = [c]:=by
 cases c <;> first | rfl | (simp [AV.plain] at hp)
theorem Zes {L:Heap}:∀ {l:List AV} {i:Nat} {c:AV} {b:Bool},l[i]? = some c -> b ∈ versA L c -> b ∈ versL L l
 | [],i,c,b,h,_ => by simp at h
 | x :: l,i,c,b,h,hb => by
  simp only [versL,List.mem_append]
  cases i with
  | zero => simp at h;subst h;exact .inl hb
  | succ i => exact .inr (Zes (by simpa using h) hb)
theorem ZdW {L:Heap} {x y:AV} (h:pureA L x = some y) (hp:x.cells.all AV.plain = true) :
  y.cells.length = x.cells.length /\ y.cells.all AV.plain = true /\ ∀ (k:Nat) c,y.cells[k]? = some c -> ∃ c0,x.cells[k]? = some c0 /\ pureA L c0 = some c /\ ∀ b ∈ versA L c0,b ∈ versA L x:=by
 have single:x.plain = true -> y.cells.length = x.cells.length /\ y.cells.all AV.plain = true /\ ∀ (k:Nat) c,y.cells[k]? = some c -> ∃ c0,x.cells[k]? = some c0 /\ pureA L c0 = some c /\ ∀ b ∈ versA L c0,b ∈ versA L x:=by
  intro hx
  have hy:=ZfH h hx
  rw [cells_one hx,cells_one hy]
  refine ⟨rfl,by simp [hy],fun k c hk => ?_⟩
  cases k with
  | zero => simp at hk;subst hk;exact ⟨x,rfl,h,fun b hb => hb⟩
  | succ k => simp at hk
 cases x with
 | agg cs =>
  simp only [pureA] at h
  split at h
  ·rename_i ds hd
   simp only [Option.some.injEq] at h;subst h
   obtain ⟨h1,h2⟩:=deep_get hd
   simp only [AV.cells] at hp ⊢
   refine ⟨h1,List.all_eq_true.2 fun d hdm => ?_,fun k c hk => ?_⟩
   ·obtain ⟨i,hi⟩:=List.getElem?_of_mem hdm
    obtain ⟨c,q1,q2⟩:=h2 i d hi
    exact ZfH q2 (List.all_eq_true.1 hp c (List.mem_of_getElem? q1))
   ·obtain ⟨c0,q1,q2⟩:=h2 k c hk
    exact ⟨c0,q1,q2,fun b hb => by simp only [versA];exact Zes q1 hb⟩
  ·simp at h
 | any => simp [pureA] at h
 | tup cs => simp [AV.cells,AV.plain] at hp
 | _ => exact single (by simpa [AV.cells] using hp)
theorem row_deep {S S':St} (hS:HeapOk S) (hw:S'.w = S.w) (hi:∀ b off,Imm S b off -> b < S.w.heap.size -> Imm S' b off) {r:Nat} {row:Row} {info:BI} (hr:S.L[r]? = some row) (hb:S.β[r]? = some info) (hmp:info.mp = false)
  (hh:∀ rs,Zd3 S S' rs) {ys:List AV} (hy:pureL S.L row.elems = some ys) (hv:∀ b ∈ versL S.L row.elems,b = true) (cap:Nat) (hc:row.elems.length <= cap) :
  DRel S' (.vec false row.es ys) (.slice (some ⟨info.blk,info.off,none⟩) row.elems.length cap):=by
 have hes:=(hS.cells r row info hr hb hmp).1
 obtain ⟨hlen,hget⟩:=deep_get hy
 have:=DRel.vec (S:=S') false row.es ys info.blk info.off cap
  (fun i y hyi => by
   obtain ⟨x,q1,q2⟩:=hget i y hyi
   obtain ⟨o1,o2⟩:=hS.elems r row hr i x q1
   obtain ⟨p1,p2,_⟩:=ZdW q2 o2
   exact ⟨p1.trans o1,p2⟩) (by simp) (by rw [hlen];exact hc)
  (fun i y k c hyi hk => by
   obtain ⟨x,q1,q2⟩:=hget i y hyi
   obtain ⟨o1,o2⟩:=hS.elems r row hr i x q1
   obtain ⟨p1,p2,_⟩:=ZdW q2 o2
   have hk2:k < info.es:=by rw [hes,<- o1,<- p1];exact Zac hk
   obtain ⟨cv,h3⟩:=Zdw hS hr hb hmp q1 hk2
   rw [hes] at h3
   refine ⟨⟨cv,by rw [hw];exact h3⟩,hh [r] r (by simp) row info hr hb _ (by omega) ?_⟩
   have:=ZbQ (Zac q1) (Nat.le_refl row.elems.length) hk2
   rw [hes] at this ⊢
   omega)
  (fun i y k c cv hyi hk hcv => by
   obtain ⟨x,q1,q2⟩:=hget i y hyi
   obtain ⟨o1,o2⟩:=hS.elems r row hr i x q1
   obtain ⟨p1,p2,p3⟩:=ZdW q2 o2
   obtain ⟨c0,z1,z2,z3⟩:=p3 k c hk
   rw [hw,<- hes] at hcv
   exact pure_rel hS hw hi c0 (hS.rel r row info i x k c0 cv hr hb q1 z1 hcv) z2 (fun b hb => hv b (Zes q1 (z3 b hb))) (hh _))
 rw [hlen] at this
 exact this
mutual
theorem deep_rel {S S':St} (hS:HeapOk S) (hw:S'.w = S.w) (hi:∀ b off,Imm S b off -> b < S.w.heap.size -> Imm S' b off) (hh:∀ rs,Zd3 S S' rs):∀ (a:AV) {d:AV} {v:Value},Rel S a v -> deepA S.L a = some d ->
  (∀ b ∈ deepV S.L a,b = true) -> DRel S' d v
 | .any,_,_,hr,h,hv => pure_rel hS hw hi _ hr h hv (hh _)
 | .bool b,_,_,hr,h,hv => pure_rel hS hw hi _ hr h hv (hh _)
 | .int k n,_,_,hr,h,hv => pure_rel hS hw hi _ hr h hv (hh _)
 | .str s,_,_,hr,h,hv => pure_rel hS hw hi _ hr h hv (hh _)
 | .flt s,_,_,hr,h,hv => pure_rel hS hw hi _ hr h hv (hh _)
 | .nilp,_,_,hr,h,hv => pure_rel hS hw hi _ hr h hv (hh _)
 | .nilf,_,_,hr,h,hv => pure_rel hS hw hi _ hr h hv (hh _)
 | .nilm,_,_,hr,h,hv => pure_rel hS hw hi _ hr h hv (hh _)
 | .mapr _,_,_,hr,h,hv => pure_rel hS hw hi _ hr h hv (hh _)
 | .vnil,_,_,hr,h,hv => pure_rel hS hw hi _ hr h hv (hh _)
 | .vec f es xs,_,_,hr,h,hv => pure_rel hS hw hi _ hr h hv (hh _)
 | .eptr es xs i j,_,_,hr,h,hv => pure_rel hS hw hi _ hr h hv (hh _)
 | .func fn a b,_,_,hr,h,hv => pure_rel hS hw hi _ hr h hv (hh _)
 | .ptr r ver i j,_,_,hr,h,hv => pure_rel hS hw hi _ hr h hv (hh _)
 | .ref r ver lo len,_,_,hr,h,hv => pure_rel hS hw hi _ hr h hv (hh _)
 | .agg cs,_,_,hr,h,hv => by
  simp only [deepA] at h
  split at h
  ·rename_i ds hd
   simp only [Option.some.injEq] at h;subst h
   obtain ⟨vs,rfl,l1,r1⟩:=ZbM hr
   obtain ⟨l2,r2⟩:=deep_relL hS hw hi hh cs ⟨l1,r1⟩ hd (by simpa [deepV] using hv)
   exact .agg ds vs l2 r2
  ·simp at h
 | .tup cs,_,_,hr,h,hv => by
  simp only [deepA] at h
  split at h
  ·rename_i ds hd
   simp only [Option.some.injEq] at h;subst h
   obtain ⟨vs,rfl,l1,r1⟩:=rel_tup hr
   obtain ⟨l2,r2⟩:=deep_relL hS hw hi hh cs ⟨l1,r1⟩ hd (by simpa [deepV] using hv)
   exact .tup ds vs l2 r2
  ·simp at h
 | .row r ver,_,_,hr,h,hv => by
  simp only [deepA] at h
  split at h
  ·rename_i row hrow
   cases hcl:row.clean with
   | true =>
    rw [hcl] at h
    exact pure_rel hS hw hi (.row r ver) hr (by simpa [pureA,hrow,hcl] using h) (fun b hb => hv b (by simp only [versA,List.mem_singleton] at hb;simp [deepV,hb])) (hh _)
   | false =>
    rw [hcl] at h
    simp only [cond_false] at h
    split at h
    ·rename_i ys hys
     simp only [Option.some.injEq] at h;subst h
     obtain ⟨row',info,a1,a2,a3,hmp⟩:=ZcH hr
     rw [hrow] at a1
     simp only [Option.some.injEq] at a1;subst a1
     have hver:row.ver = ver:=by
      have:=hv (ZbS S.L r ver) (by simp [deepV])
      simpa [ZbS,hrow] using this
     rw [a3 hver]
     exact row_deep hS hw hi hrow a2 hmp hh hys (fun b hb => hv b (by simp [deepV,hrow,hcl,hb])) info.cap (hS.cells r row info hrow a2 hmp).2.1
    ·simp at h
  ·simp at h
theorem deep_relL {S S':St} (hS:HeapOk S) (hw:S'.w = S.w) (hi:∀ b off,Imm S b off -> b < S.w.heap.size -> Imm S' b off) (hh:∀ rs,Zd3 S S' rs):∀ (l:List AV) {ds:List AV} {vs:List Value},RelL S l vs -> deepL S.L l = some ds ->
  (∀ b ∈ deepVL S.L l,b = true) -> ds.length = vs.length /\ ∀ (i:Nat) c v,ds[i]? = some c -> vs[i]? = some v -> DRel S' c v
 | [],_,vs,hr,h,_ => by
  simp only [deepL,Option.some.injEq] at h;subst h
  exact ⟨by simpa using hr.1,by simp⟩
 | c :: l,_,[],hr,h,_ => by have:=hr.1;simp at this
 | c :: l,_,u :: vs,hr,h,hv => by
  simp only [deepL] at h
  split at h
  ·rename_i d ds hd hds
   simp only [Option.some.injEq] at h;subst h
   have h1:=deep_rel hS hw hi hh c hr.head hd (fun b hb => hv b (by simp [deepVL,hb]))
   obtain ⟨l2,r2⟩:=deep_relL hS hw hi hh l hr.tail hds (fun b hb => hv b (by simp [deepVL,hb]))
   refine ⟨by simp [l2],fun i a b ha hb => ?_⟩
   cases i with
   | zero => simp at ha hb;subst ha;subst hb;exact h1
   | succ i => exact r2 i a b (by simpa using ha) (by simpa using hb)
  ·simp at h
end
def DeepQ (d:AV):AV->Heap->Prop:=fun v L => ∃ d0,deepA L v=some d0/\allB (deepV L v)/\Weak d0 d
theorem deep_of {L:Heap} {v d:AV} (h1:deepA L v=some d) (h2:allB (deepV L v)):DeepQ d v L:=⟨d,h1,h2,.refl _⟩
theorem deep_pure {M:Mach} (hm:(M.P ()).follows .mixedOrders = true) {f:FuncId} {args:List AV} {d:AV} (h:Wp M (.own f args []) (DeepQ d)):Ev M (.pure f args) d []:=by
 refine .sem ?_
 have h':OwnQ M f args [] (DeepQ d):=Zco hm h
 intro base acc w cargs hb hac hr
 have hS:HeapOk ⟨base,acc,[],[],w⟩:=⟨hb,rfl,by simp,by simp,by simp,by simp,by simp,by simp,by simp,by simp,fun b off h => hac b off (Nat.le_trans hb h)⟩
 obtain ⟨k1,k2⟩:=h' ⟨base,acc,[],[],w⟩ cargs hS rfl hr
 refine ⟨k1,Calls.mono k2 fun e w' he => ?_⟩
 cases e with
 | returned cv =>
  obtain ⟨v,L',β',⟨d0,hd,hv,hwk⟩,m1,m2,m3⟩:=he
  exact ⟨d,⟨rfl,rfl⟩,m2.below,weak_rel hwk (deep_rel (S:=⟨base,acc,L',β',w'⟩) (S':=⟨base,acc,[],[],w'⟩) m1 rfl (fun b off hi _ => ⟨hi.1,by simp⟩)
   (fun rs r hr row info q1 q2 off _ _ => ⟨m1.acq r info off q2,by simp⟩) v m3 hd ((Zb9 _).1 hv))⟩
 | panicked c => exact he.elim
 | outgrown => exact he.elim
def ansY (M:Mach) (K:List (Nat × List AV × AV)) (ex:FuncId -> List AV -> Heap -> Option (AV × Heap)):Zaq:=fun g args L =>
 match M.inl g with
 | true => match ex g args L with
  | some (v,L') => some (v,some L')
  | none => none
 | false => match ZdR g args K with
  | some d => some (d,none)
  | none => match ex g args [] with
   | some (v,L') => match deepA L' v with
    | some d => bif (deepV L' v).all (fun b => b) then some (d,none) else none
    | none => none
   | none => none
theorem ansY_ok {M:Mach} (hm:(M.P ()).follows .mixedOrders = true) {G:EG} (hK:Zcb M G) {ex:FuncId -> List AV -> Heap -> Option (AV × Heap)} (h:∀ f args L v L',ex f args L = some (v,L') -> Ev M (.own f args L) v L'):AnsOk M (ansY M G.known ex):=by
 intro f args L v o hc
 unfold ansY at hc
 split at hc
 ·rename_i hi
  refine ⟨fun _ => ?_,fun h2 => by rw [hi] at h2;simp at h2⟩
  split at hc
  ·rename_i w L' he
   simp only [Option.some.injEq,Prod.mk.injEq] at hc
   obtain ⟨rfl,rfl⟩:=hc
   exact h _ _ _ _ _ he
  ·simp at hc
 ·rename_i hi
  refine ⟨fun h2 => by rw [hi] at h2;simp at h2,fun _ => ?_⟩
  split at hc
  ·rename_i d hd
   simp only [Option.some.injEq,Prod.mk.injEq] at hc
   obtain ⟨rfl,rfl⟩:=hc
   exact ⟨rfl,hK _ (known_in hd)⟩
  split at hc
  ·rename_i w L' he
   split at hc
   ·rename_i d hd
    cases hb:(deepV L' w).all (fun b => b) with
    | false => rw [hb] at hc;simp at hc
    | true =>
     rw [hb] at hc
     simp only [cond_true,Option.some.injEq,Prod.mk.injEq] at hc
     obtain ⟨rfl,rfl⟩:=hc
     exact ⟨rfl,deep_pure hm (.mono (h _ _ _ _ _ he) fun x K ⟨e1,e2⟩ => by subst e1;subst e2;exact deep_of hd ((Zb9 _).2 fun b hbm => (List.all_eq_true.1 hb) b hbm))⟩
   ·simp at hc
  ·simp at hc
end Go.Av

namespace Go.Av
open Go.RowKit
def tryHot (P:Unit -> Program) (inl:FuncId -> Bool) (call:Zaq) (n:Nat) (ops:Array Oper) (an:Option Ans) (i:Nat) (o:Oper) (s:RS):List (List Nat) -> Option (List Nat × RS)
 | [] => none
 | c :: cs => match Zbb P inl call n ops an (hotOf ops c i) o s with
  | some s' => some (c,s')
  | none => tryHot P inl call n ops an i o s cs
def hotCands (ρ:Operand -> AV) (L:Heap) (i:Nat) (o:Oper):List (List Nat):=
 (match ZeI ρ o with
  | some [r] => [[i + 1000 * (r + 2)]]
  | some [] => [[i + 502000]]
  | _ => []) ++ (match Zcn ρ L o with
  | some [r] => [[i + 1000 * (r + 2)],[i,i + 1000 * (r + 2)]]
  | _ => []) ++ [[],[i + 1000],[i]]
def autoHot (P:Unit -> Program) (inl:FuncId -> Bool) (call:Zaq) (n:Nat) (ops:Array Oper) (ans:Nat -> Option Ans):List Nat -> RS -> List Nat
 | [],_ => []
 | i :: rest,s => match ops[i]? with
  | none => autoHot P inl call n ops ans rest s
  | some o => match tryHot P inl call n ops (ans i) i o s (hotCands (ev s.env []) s.L i o) with
   | some (c,s') => c ++ autoHot P inl call n ops ans rest s'
   | none => []
def layOps (P:Unit -> Program) (inl:FuncId -> Bool) (call:Zaq) (n:Nat) (ops:Array Oper) (ans:Nat -> Option Ans):List Nat -> RS -> List Nat
 | [],_ => []
 | i :: rest,s => match ops[i]? with
  | none => layOps P inl call n ops ans rest s
  | some o => match Zbb P inl call n ops (ans i) 2 o s with
   | some s' => bif Nat.blt s.L.length s'.L.length then i :: layOps P inl call n ops ans rest s' else layOps P inl call n ops ans rest s'
   | none => []
def readyO (ops:Array Oper) (done:List Nat) (i:Nat):Bool:=match ops[i]? with
 | some o => o.after.toList.all fun e => !Region.binds .any e || done.contains e.on
 | none => true
def ordGo (ops:Array Oper) (C:List Nat):Nat -> List Nat -> List Nat -> List Nat -> List Nat
 | 0,_,_,_ => []
 | n + 1,σ,rest,done => match rest.find? (fun i => readyO ops done i && (!C.contains i || (match σ with
   | c :: _ => Nat.beq c i
   | [] => false))) with
  | some i => i :: ordGo ops C n (bif C.contains i then σ.tail else σ) (rest.erase i) (i :: done)
  | none => []
def hotX (M:Mach) (call:Zaq) (n:Nat) (ops:Array Oper) (ans:Nat -> Option Ans) (C:List Nat) (env:Vars) (L:Heap) (σ:List Nat):Nat -> Nat:=
 hotOf ops (autoHot M.P M.inl call n ops ans (ordGo ops C ops.size σ (List.range ops.size) []) ⟨lift env,L,[],[],[]⟩)
def rsX (M:Mach) (call:Zaq) (n:Nat) (ops:Array Oper) (ans:Nat -> Option Ans) (C:List Nat) (env:Vars) (L:Heap) (σ:List Nat):List Nat:=
 List.range L.length ++ (match C with
  | [] => (match Zao M.P M.inl call n ops ans (hotX M call n ops ans C env L σ) (ordGo ops C ops.size σ (List.range ops.size) []) ⟨lift env,L,[],[],[]⟩ with
   | some s => List.range' L.length (s.L.length - L.length)
   | none => [])
  | _ => C.map fun c => L.length + Zal σ c)
def ordX (M:Mach) (call:Zaq) (n:Nat) (ops:Array Oper) (ans:Nat -> Option Ans) (keep C:List Nat) (env:Vars) (L:Heap) (σ:List Nat):Option (Vars × Heap × List Bool × List Prop × List CF):=
 ordRun M call n ops ans (hotX M call n ops ans C env L σ) keep C σ (ordGo ops C ops.size σ (List.range ops.size) []) (rsX M call n ops ans C env L σ) env L
mutual
def beqB:AV -> AV -> Bool
 | .any,.any => true
 | .bool a,.bool b => a == b
 | .int k n,.int j m => decide (k = j) && n == m
 | .str a,.str b => a == b
 | .flt a,.flt b => a == b
 | .agg a,.agg b => beqBL a b
 | .tup a,.tup b => beqBL a b
 | .vec f es a,.vec g fs b => f == g && (es == fs && beqBL a b)
 | .eptr es a i j,.eptr fs b k l => es == fs && (beqBL a b && (i == k && j == l))
 | .ptr r v i j,.ptr s u k l => r == s && (v == u && (i == k && j == l))
 | .row r v,.row s u => r == s && v == u
 | .ref r v i j,.ref s u k l => r == s && (v == u && (i == k && j == l))
 | .nilp,.nilp => true
 | .vnil,.vnil => true
 | .nilf,.nilf => true
 | .nilm,.nilm => true
 | .mapr r,.mapr s => r == s
 | _,_ => false
def beqBL:List AV -> List AV -> Bool
 | [],[] => true
 | a :: l,b :: m => beqB a b && beqBL l m
 | _,_ => false
end
mutual
theorem beqB_eq:∀ (a b:AV),beqB a b = true -> a = b
 | .any,b,h => by cases b <;> simp [beqB] at h;rfl
 | .bool a,b,h => by cases b <;> simp [beqB] at h;rw [h]
 | .int k n,b,h => by cases b <;> simp [beqB] at h;rw [h.1,h.2]
 | .str a,b,h => by cases b <;> simp [beqB] at h;rw [h]
 | .flt a,b,h => by cases b <;> simp [beqB] at h;rw [h]
 | .agg a,b,h => by cases b <;> simp [beqB] at h;rw [beqBL_eq a _ h]
 | .tup a,b,h => by cases b <;> simp [beqB] at h;rw [beqBL_eq a _ h]
 | .vec f es a,b,h => by cases b <;> simp [beqB] at h;rw [h.1,h.2.1,beqBL_eq a _ h.2.2]
 | .eptr es a i j,b,h => by cases b <;> simp [beqB] at h;rw [h.1,beqBL_eq a _ h.2.1,h.2.2.1,h.2.2.2]
 | .ptr r v i j,b,h => by cases b <;> simp [beqB] at h;rw [h.1,h.2.1,h.2.2.1,h.2.2.2]
 | .row r v,b,h => by cases b <;> simp [beqB] at h;rw [h.1,h.2]
 | .ref r v i j,b,h => by cases b <;> simp [beqB] at h;rw [h.1,h.2.1,h.2.2.1,h.2.2.2]
 | .nilp,b,h => by cases b <;> simp [beqB] at h;rfl
 | .vnil,b,h => by cases b <;> simp [beqB] at h;rfl
 | .nilf,b,h => by cases b <;> simp [beqB] at h;rfl
 | .nilm,b,h => by cases b <;> simp [beqB] at h;rfl
 | .mapr r,b,h => by cases b <;> simp [beqB] at h;rw [h]
 | .func ..,b,h => by cases b <;> simp [beqB] at h
theorem beqBL_eq:∀ (a b:List AV),beqBL a b = true -> a = b
 | [],b,h => by cases b <;> simp [beqBL] at h;rfl
 | a :: l,b,h => by
  cases b with
  | nil => simp [beqBL] at h
  | cons b m => simp [beqBL] at h;rw [beqB_eq a b h.1,beqBL_eq l m h.2]
end
def Zdo:Vars -> Vars -> Bool
 | [],[] => true
 | (t,a) :: l,(u,b) :: m => Nat.beq t u && (beqB a b && Zdo l m)
 | _,_ => false
def Zb5:Heap -> Heap -> Bool
 | [],[] => true
 | a :: l,b :: m => beqBL a.elems b.elems && (Nat.beq a.es b.es && (Nat.beq a.ver b.ver && (a.frozen == b.frozen && (a.clean == b.clean && Zb5 l m))))
 | _,_ => false
theorem ZfL:∀ (a b:Vars),Zdo a b = true -> a = b
 | [],b,h => by cases b <;> simp [Zdo] at h;rfl
 | (t,a) :: l,b,h => by
  match b,h with
  | [],h => simp [Zdo] at h
  | (u,b) :: m,h =>
   simp only [Zdo,Bool.and_eq_true,Nat.beq_eq] at h
   rw [h.1,beqB_eq a b h.2.1,ZfL l m h.2.2]
theorem Zc4:∀ (a b:Heap),Zb5 a b = true -> a = b
 | [],b,h => by cases b <;> simp [Zb5] at h;rfl
 | a :: l,b,h => by
  match b,h with
  | [],h => simp [Zb5] at h
  | b :: m,h =>
   simp only [Zb5,Bool.and_eq_true,Nat.beq_eq,beq_iff_eq] at h
   obtain ⟨h1,h2,h3,h4,h5,h6⟩:=h
   rw [Zc4 l m h6]
   obtain ⟨ae,a2,a3,a4,a5⟩:=a
   obtain ⟨be,b2,b3,b4,b5⟩:=b
   simp only at h1 h2 h3 h4 h5
   rw [beqBL_eq _ _ h1,h2,h3,h4,h5]
def anyX (M:Mach) (call:Zaq) (n:Nat) (ops:Array Oper) (ans:Nat -> Option Ans) (keep:List Nat) (env:Vars) (L:Heap) (C:List Nat):Option (Vars × Heap):=
 match ordX M call n ops ans keep C env L C with
 | some (e,K,_,_,_) => bif Zfj C && (perms C).all (fun σ => match ordX M call n ops ans keep C env L σ with
   | some (e',K',asm,[],_) => (asm.all fun b => b) && (Zdo e' e && Zb5 K' K)
   | _ => false) then some (e,K) else none
 | none => none
theorem good_snd {M:Mach} (hm:(M.P ()).follows .mixedOrders = true) {call:Zaq} (hc:AnsOk M call) {cs:List CF} (h:∀ c ∈ cs,Zfn M.inl call c):∀ c ∈ cs,c.cond = true -> ZbK M c:=by
 intro c hcm _
 unfold ZbK
 cases hown:c.own with
 | true =>
  refine OwnQ.snd (Zco hm (c:=.own c.f c.args c.L) ?_)
  rcases h c hcm with ⟨_,h2,o,h3,h4⟩ | ⟨h2,L1,h3⟩ | ⟨h2,_⟩
  ·rw [h4];exact (hc _ _ _ _ _ h3).1 h2
  ·have:=((hc _ _ _ _ _ h3).2 h2).1;simp at this
  ·rw [hown] at h2;simp at h2
 | false =>
  refine PureR.snd (Zco hm (c:=.pure c.f c.args) ?_)
  rcases h c hcm with ⟨h2,_⟩ | ⟨h2,L1,h3⟩ | ⟨_,h2,h3⟩
  ·rw [hown] at h2;simp at h2
  ·have:=((hc _ _ _ _ _ h3).2 h2).1;simp at this
  ·exact ((hc _ _ _ _ _ h3).2 h2).2
theorem ordRun_good {M:Mach} {call:Zaq} {n:Nat} {ops:Array Oper} {ans:Nat -> Option Ans} (hans:∀ i,ans i = none \/ ans i = some .keep) {hot:Nat -> Nat} {keep C σ l rs:List Nat} {env:Vars} {L:Heap} {e:Vars} {K:Heap} {asm:List Bool} {qs:List Prop} {cs:List CF}
  (h:ordRun M call n ops ans hot keep C σ l rs env L = some (e,K,asm,qs,cs)):∀ c ∈ cs,Zfn M.inl call c:=by
 unfold ordRun at h
 split at h
 ·rename_i s _ hs
  split at h
  ·simp only [Option.some.injEq,Prod.mk.injEq] at h
   obtain ⟨_,_,_,_,rfl⟩:=h
   exact Zde hans _ hs (by intro c hc;cases hc)
  ·simp at h
 ·simp at h
theorem ZfN {M:Mach} (hm:(M.P ()).follows .mixedOrders = true) {call:Zaq} (hc:AnsOk M call) {fi:Fi} {id:Nat} {ops:Array Oper} {ans:Nat -> Option Ans} (hans:∀ i,ans i = none \/ ans i = some .keep) {keep C:List Nat} {env e1:Vars} {L L1:Heap} {k:List Item} {Q:AV -> Heap -> Prop}
  (h:anyX M call fi.n ops ans keep env L C = some (e1,L1)) (hk:Wp M (.run fi k e1 L1) Q):Wp M (.run fi (.code (.region id ops true) :: k) env L) Q:=by
 unfold anyX at h
 split at h
 ·rename_i e K _ _ _ he
  cases hb:(Zfj C && (perms C).all (fun σ => match ordX M call fi.n ops ans keep C env L σ with
   | some (e',K',asm,[],_) => (asm.all fun b => b) && (Zdo e' e && Zb5 K' K)
   | _ => false)) with
  | false => rw [hb] at h;simp at h
  | true =>
   rw [hb] at h
   simp only [cond_true,Option.some.injEq,Prod.mk.injEq] at h
   obtain ⟨rfl,rfl⟩:=h
   simp only [Bool.and_eq_true,List.all_eq_true] at hb
   obtain ⟨b1,b2⟩:=hb
   refine .sem (ZaH.after fun S a h5 h6 h7 h8 b k2 cs hbb => ?_)
   obtain ⟨a',w',⟨S',e0,n1,n2,n3,n4,n5,n6⟩,hs⟩:=any_sound hm (id:=id) (fi:=fi) (ops:=ops) (env:=env) (L:=L) (call:=call) (ans:=ans) (keep:=keep) (C:=C)
    (hot:=hotX M call fi.n ops ans C env L) (l:=fun σ => ordGo ops C ops.size σ (List.range ops.size) []) (rs:=rsX M call fi.n ops ans C env L) (e1:=e) (L1:=K) ((Zbp C).1 b1) (fun σ hσ => by
      have:=b2 σ hσ
      split at this
      ·rename_i e' K' asm cs' ho
       simp only [Bool.and_eq_true,List.all_eq_true] at this
       obtain ⟨t1,t2,t3⟩:=this
       have:=ZfL _ _ t2;subst this
       have:=Zc4 _ _ t3;subst this
       exact ⟨asm,[],cs',ho,t1,by simp,good_snd hm hc (ordRun_good hans ho)⟩
      ·simp at this) h5 h6 h7 h8 b k2 cs hbb
   exact ⟨a',w',⟨S',e,e0,n1,n2,n3.symm ▸ Zco hm hk,n4,n5,n6⟩,hs⟩
 ·simp at h
def anyXX (M:Mach) (call:Zaq) (n:Nat) (ops:Array Oper) (ans:Nat -> Option Ans) (keep:List Nat) (env:Vars) (L:Heap):Option (Vars × Heap):=
 match anyX M call n ops ans keep env L [] with
 | some r => some r
 | none => anyX M call n ops ans keep env L (layOps M.P M.inl call n ops ans (List.range ops.size) ⟨lift env,L,[],[],[]⟩)
def toI:AV -> Int
 | .int _ n => n
 | _ => 0
def ZeD (M:Mach) (n:Nat) (p0 p1:Tmp) (opsA:Array Oper) (keepA:List Nat) (env:Vars) (run:Vars -> Heap -> Option (AV × Heap)):List (AV × AV) -> Heap -> Option Heap
 | [],L => some L
 | x :: xs,L => match Zao M.P M.inl (fun _ _ _ => none) n opsA (fun _ => none) (fun _ => 2) (List.range opsA.size) ⟨lift ((p1,x.2) :: (p0,x.1) :: env),L,[],[],[]⟩ with
  | some ⟨e,K,[],[],[]⟩ => bif Zb5 K L then (match run (Zbg keepA e) L with
   | some (_,L1) => ZeD M n p0 p1 opsA keepA env run xs L1
   | none => none) else none
  | _ => none
def isIt:Option FuncId -> Nat -> Bool
 | some j,it => Nat.beq it j
 | none,_ => false
theorem isIt_eq {o:Option FuncId} {it:Nat} (h:isIt o it = true):o = some it:=by
 cases o with
 | none => simp [isIt] at h
 | some j => simp [isIt] at h;rw [h]
def runZ (M:Mach) (itf:Option FuncId) (fi:Fi) (kp kr:List (Nat × List Nat)) (call:Zaq):Nat -> List Item -> Vars -> Heap -> Option (AV × Heap)
 | 0,_,_,_ => none
 | n + 1,todo,env,L =>
  match todo with
  | [] => match finish M.P fi env L with
   | some v => some (v,L)
   | none => none
  | .inBlock _ :: k => runZ M itf fi kp kr call n k env L
  | .inLoop b :: k => runZ M itf fi kp kr call n (.code b :: .inLoop b :: k) env L
  | .code c :: k =>
   match c with
   | .skip => runZ M itf fi kp kr call n k env L
   | .seq a b => runZ M itf fi kp kr call n (.code a :: .code b :: k) env L
   | .cond c a b => match evV env c with
    | .bool t => runZ M itf fi kp kr call n (.code (bif t then a else b) :: k) env L
    | _ => none
   | .block id b => runZ M itf fi kp kr call n (.code b :: .inBlock id :: k) env L
   | .loop b => runZ M itf fi kp kr call n (.code b :: .inLoop b :: k) env L
   | .exit id => match exitTo id k with
    | some k' => runZ M itf fi kp kr call n k' env L
    | none => none
   | .region id ops true => match anyXX M call fi.n ops (ZcO (Zat kr id)) (Zat kp id) env L with
    | some (e,K) => runZ M itf fi kp kr call n k e K
    | none => none
   | .region id ops false =>
    match Zao M.P M.inl call fi.n ops (ZcO (Zat kr id)) (fun _ => 2) (List.range ops.size) ⟨lift env,L,[],[],[]⟩ with
    | some s => match s.asm.all (fun b => b),s.eqs with
     | true,[] => runZ M itf fi kp kr call n k (Zbg (Zat kp id) s.env) s.L
     | _,_ => none
    | none => none
   | .rangeFunc g ps (.region ida opsA false) body =>
    match evV env g,ps with
    | .func (.func it) [] [.eptr 1 [.vec f 1 xs] 0 0],⟨[p0,p1]⟩ =>
     bif isIt itf it && (beqBL xs ((xs.map toI).map (.int .i64)) && (Nat.blt xs.length 4611686018427387904 && (ZcL opsA && (Zb0 body && (Nat.blt p0 fi.n && Nat.blt p1 fi.n))))) then
      match ZeD M fi.n p0 p1 opsA (Zat kp ida) env (fun e K => runZ M itf fi kp kr call n [.code body] e K) (bkX (xs.map toI)) L with
      | some L1 => runZ M itf fi kp kr call n k env L1
      | none => none
     else none
    | _,_ => none
   | .ret => match finish M.P fi env L with
    | some v => some (v,L)
    | none => none
   | _ => none
  | _ => none
theorem Zdx {M:Mach} (hm:(M.P ()).follows .mixedOrders = true) {fi:Fi} {p0 p1:Tmp} {opsA:Array Oper} {keepA:List Nat} {env:Vars} {body:Code} {run:Vars -> Heap -> Option (AV × Heap)} (hrun:∀ e K v K',run e K = some (v,K') -> Ev M (.run fi [.code body] e K) v K') :
  ∀ (xs:List (AV × AV)) (L L2:Heap),ZeD M fi.n p0 p1 opsA keepA env run xs L = some L2 -> Rounds M fi p0 p1 opsA body env keepA xs L L2
 | [],L,L2,h => by simp only [ZeD,Option.some.injEq] at h;subst h;exact .nil L
 | x :: xs,L,L2,h => by
  simp only [ZeD] at h
  split at h
  ·rename_i e K hr
   cases hb:Zb5 K L with
   | false => rw [hb] at h;simp at h
   | true =>
    rw [hb] at h
    have:=Zc4 _ _ hb;subst this
    simp only [cond_true] at h
    split at h
    ·rename_i v L1 hr2
     exact .cons e hr (Zco hm (.mono (hrun _ _ _ _ hr2) fun _ _ h => h.2)) (Zdx hm hrun xs L1 L2 h)
    ·simp at h
  ·simp at h
theorem runZ_sound {M:Mach} (hm:(M.P ()).follows .mixedOrders = true) {itf:Option FuncId} (hI:∀ it,itf = some it -> (∀ args w,(callFunc it args).run (M.P ()) w = .ok (.enter it args) w) /\ ∀ (f:Bool) (X:List Int),X.length < 4611686018427387904 -> Zfg M it (.eptr 1 [.vec f 1 (X.map (.int .i64))] 0 0) (bkX X))
  {fi:Fi} {kp kr:List (Nat × List Nat)} {call:Zaq} (hc:AnsOk M call):∀ (n:Nat) {todo:List Item} {env:Vars} {L L':Heap} {v:AV},runZ M itf fi kp kr call n todo env L = some (v,L') -> Ev M (.run fi todo env L) v L':=by
 intro n
 induction n with
 | zero => intro todo env L L' v h;simp [runZ] at h
 | succ n ih =>
  intro todo env L L' v h
  unfold runZ at h
  split at h
  ·split at h
   ·rename_i w hf
    simp only [Option.some.injEq,Prod.mk.injEq] at h
    obtain ⟨rfl,rfl⟩:=h
    exact .done hf ⟨rfl,rfl⟩
   ·simp at h
  ·exact .inBlock (ih h)
  ·exact .inLoop (ih h)
  ·split at h
   ·exact .skip (ih h)
   ·exact .seq (ih h)
   ·split at h
    ·rename_i t ht
     exact .cond t ht (ih h)
    ·simp at h
   ·exact .block (ih h)
   ·exact .loop (ih h)
   ·split at h
    ·rename_i k' hk
     exact .exit hk (ih h)
    ·simp at h
   ·rename_i id ops
    split at h
    ·rename_i e K ha
     unfold anyXX at ha
     split at ha
     ·rename_i r hr
      simp only [Option.some.injEq] at ha;subst ha
      exact ZfN hm hc (Zc1 _) hr (ih h)
     ·exact ZfN hm hc (Zc1 _) ha (ih h)
    ·simp at h
   ·split at h
    ·rename_i id ops _ s hr
     split at h
     ·rename_i ha he
      have hg:=Zde (Zc1 _) _ hr (by intro c hc;cases hc)
      refine .region call (ZcO (Zat kr _)) _ _ s (fun h1 => by cases h1) hr (fun b hb => ?_) (fun p hp => ?_) (fun c hcm _ ho => ?_) (fun c hcm _ ho => ?_) (ih h)
      ·exact (List.all_eq_true.1 ha) b hb
      ·rw [he] at hp;cases hp
      ·rcases hg c hcm with ⟨_,h2,o,h3,h4⟩ | ⟨h2,L1,h3⟩ | ⟨h2,_⟩
       ·rw [h4];exact (hc _ _ _ _ _ h3).1 h2
       ·have:=((hc _ _ _ _ _ h3).2 h2).1;simp at this
       ·rw [ho] at h2;simp at h2
      ·rcases hg c hcm with ⟨h2,_⟩ | ⟨h2,L1,h3⟩ | ⟨_,h2,h3⟩
       ·rw [ho] at h2;simp at h2
       ·have:=((hc _ _ _ _ _ h3).2 h2).1;simp at this
       ·exact ((hc _ _ _ _ _ h3).2 h2).2
     ·simp at h
    ·simp at h
   ·rename_i g ps ida opsA body
    split at h
    ·rename_i it f xs p0 p1 hg
     cases hb:(isIt itf it && (beqBL xs ((xs.map toI).map (.int .i64)) && (Nat.blt xs.length 4611686018427387904 && (ZcL opsA && (Zb0 body && (Nat.blt p0 fi.n && Nat.blt p1 fi.n)))))) with
     | false => rw [hb] at h;simp at h
     | true =>
      rw [hb] at h
      simp only [cond_true] at h
      simp only [Bool.and_eq_true,Nat.beq_eq,Nat.blt_eq] at hb
      obtain ⟨b1,b2,b3,b4,b5,b6,b7⟩:=hb
      obtain ⟨hit,hI⟩:=hI _ (isIt_eq b1)
      split at h
      ·rename_i L1 hr
       have h2:=hI f (xs.map toI) (by rw [List.length_map];exact b3)
       rw [<- beqBL_eq _ _ b2] at h2
       exact .sem (range_rounds hg hit h2 b4 b5 b6 b7 (Zdx hm (fun e K v K' hrun => ih hrun) _ _ _ hr) (Zco hm (ih h)))
      ·simp at h
    ·simp at h
   ·split at h
    ·rename_i w hf
     simp only [Option.some.injEq,Prod.mk.injEq] at h
     obtain ⟨rfl,rfl⟩:=h
     exact .ret hf ⟨rfl,rfl⟩
    ·simp at h
   ·simp at h
  ·simp at h
def trimZ (L L':Heap) (v:AV):Heap:=bif ZfA L.length v (L'.take L.length) then L'.take L.length else L'
theorem trimZ_ok {M:Mach} {f:FuncId} {args:List AV} {L L':Heap} {v:AV} (h:Ev M (.own f args L) v L'):Ev M (.own f args L) v (trimZ L L' v):=by
 unfold trimZ
 cases hk:ZfA L.length v (L'.take L.length) with
 | false => exact h
 | true =>
  simp only [cond_true]
  refine .drop hk (.mono h fun x K ⟨e1,e2⟩ => ?_)
  subst e1;subst e2
  refine ⟨rfl,?_⟩
  unfold ZfA at hk
  simp only [Bool.and_eq_true,Nat.beq_eq] at hk
  rw [hk.1]
def ansZ (M:Mach) (K:List (Nat × List AV × AV)) (ex:FuncId -> List AV -> Heap -> Option (AV × Heap)):Zaq:=fun g args L =>
 match M.inl g with
 | true => match ex g args L with
  | some (v,L') => bif Zb5 (trimZ L L' v) L then some (v,none) else some (v,some (trimZ L L' v))
  | none => none
 | false => ansY M K ex g args L
theorem ansZ_ok {M:Mach} (hm:(M.P ()).follows .mixedOrders = true) {G:EG} (hK:Zcb M G) {ex:FuncId -> List AV -> Heap -> Option (AV × Heap)} (h:∀ f args L v L',ex f args L = some (v,L') -> Ev M (.own f args L) v L'):AnsOk M (ansZ M G.known ex):=by
 intro f args L v o hc
 unfold ansZ at hc
 split at hc
 ·rename_i hi
  refine ⟨fun _ => ?_,fun h2 => by rw [hi] at h2;simp at h2⟩
  split at hc
  ·rename_i w L' he
   have h1:=trimZ_ok (h _ _ _ _ _ he)
   cases hb:Zb5 (trimZ L L' w) L with
   | true =>
    rw [hb] at hc
    simp only [cond_true,Option.some.injEq,Prod.mk.injEq] at hc
    obtain ⟨rfl,rfl⟩:=hc
    rw [Zc4 _ _ hb] at h1
    exact h1
   | false =>
    rw [hb] at hc
    simp only [cond_false,Option.some.injEq,Prod.mk.injEq] at hc
    obtain ⟨rfl,rfl⟩:=hc
    exact h1
  ·simp at hc
 ·exact ansY_ok hm hK h f args L v o hc
def execZ (M:Mach) (itf:Option FuncId) (G:EG):Nat -> FuncId -> List AV -> Heap -> Option (AV × Heap)
 | 0 => fun _ _ _ => none
 | n + 1 => fun f args L =>
  match (M.P ()).funcs[f]? with
  | some fn => match fn.body,fn.name == "runtime.NumGoroutine" with
   | some c,false => runZ M itf ⟨fn.ntmps,fn.results.toList⟩ (ofFn G.keep f) (ofFn G.rows f) (ansZ M G.known (execZ M itf G n)) 100000 [.code c] (ZbO 0 args) L
   | _,_ => none
  | none => none
theorem execZ_sound {M:Mach} (hm:(M.P ()).follows .mixedOrders = true) {itf:Option FuncId} (hI:∀ it,itf = some it -> (∀ args w,(callFunc it args).run (M.P ()) w = .ok (.enter it args) w) /\ ∀ (f:Bool) (X:List Int),X.length < 4611686018427387904 -> Zfg M it (.eptr 1 [.vec f 1 (X.map (.int .i64))] 0 0) (bkX X))
  {G:EG} (hK:Zcb M G):∀ (n:Nat) (f:FuncId) (args:List AV) (L:Heap) (v:AV) (L':Heap),execZ M itf G n f args L = some (v,L') -> Ev M (.own f args L) v L':=by
 intro n
 induction n with
 | zero => intro f args L v L' h;simp [execZ] at h
 | succ n ih =>
  intro f args L v L' h
  unfold execZ at h
  split at h
  ·rename_i fn hf
   split at h
   ·rename_i c hb hn
    exact .own fn c hf hb hn (runZ_sound hm hI (ansZ_ok hm hK fun f args L v L' h => ih f args L v L' h) _ h)
   ·simp at h
  ·simp at h
def execP2 (M:Mach) (itf:Option FuncId) (G:EG) (n:Nat) (f:FuncId) (args:List AV):Option AV:=
 match execZ M itf G n f args [] with
 | some (v,L') => match deepA L' v with
  | some d => bif (deepV L' v).all (fun b => b) then some d else none
  | none => none
 | none => none
theorem exec_all {M:Mach} (hm:(M.P ()).follows .mixedOrders = true) {itf:Option FuncId} (hI:∀ it,itf = some it -> (∀ args w,(callFunc it args).run (M.P ()) w = .ok (.enter it args) w) /\ ∀ (f:Bool) (X:List Int),X.length < 4611686018427387904 -> Zfg M it (.eptr 1 [.vec f 1 (X.map (.int .i64))] 0 0) (bkX X))
  {G:EG} (hK:Zcb M G) (n:Nat) {f:FuncId} {args:List AV} {d:AV} (h:execP2 M itf G n f args = some d):Ev M (.pure f args) d []:=by
 unfold execP2 at h
 split at h
 ·rename_i v L' he
  split at h
  ·rename_i d0 hd
   cases hb:(deepV L' v).all (fun b => b) with
   | false => rw [hb] at h;simp at h
   | true =>
    rw [hb] at h
    simp only [cond_true,Option.some.injEq] at h
    subst h
    exact deep_pure hm (.mono (execZ_sound hm hI hK n _ _ _ _ _ he) fun x K ⟨e1,e2⟩ => by subst e1;subst e2;exact deep_of hd ((Zb9 _).2 fun b hbm => (List.all_eq_true.1 hb) b hbm))
  ·simp at h
 ·simp at h
end Go.Av

namespace Go.Av
open Go.Proofs
def fsq (b:Nat):Nat:=(FloatKind.f64.format.sqrt b).getD 0
theorem run_sqrt {b r:Nat} (h:FloatKind.f64.format.sqrt b = some r) (w:World):(callFunc 100 #[.float .f64 b]).run Try.prog w = .ok (.value (.float .f64 r)) w:=by
 rw [run_callFunc_extern (e:=Extern.MathSqrt.sqrt) Try.func100 (by kernel_rfl) (by kernel_rfl) (by kernel_rfl) (by kernel_rfl)]
 have e:(Extern.MathSqrt.sqrt #[.float .f64 b]).run Try.prog w = .ok (.float .f64 r) w:=by
  show (match FloatKind.f64.format.sqrt b with
   | some r => pure (Value.float .f64 r)
   | none => do pure (Value.float .f64 (<- choose (.nanBits .f64 b b))):Sem Value).run Try.prog w = _
  rw [h];rfl
 rw [e];rfl
theorem sqrt_calls {b r:Nat} (h:FloatKind.f64.format.sqrt b = some r) (w:World):Calls Try.prog 84 #[.float .f64 b] w fun e w' => e = .returned (.float .f64 r) /\ w' = w:=by
 have q:=run_sqrt h
 go_enter Try.func84,Try.ntmps84
 go_wp2_with (first | simp only [q])
 simp [bodyPost,results,Try.results84,go_sem]
theorem ev84 (b:Nat) (h:(FloatKind.f64.format.sqrt b).isSome = true):Ev M1 (.pure 84 [.flt b]) (.flt (fsq b)) []:=by
 refine .sem fun base acc w cargs hb ha hr => ?_
 obtain ⟨r,hr2⟩:=Option.isSome_iff_exists.1 h
 obtain ⟨hl,hx⟩:=hr
 match cargs,hl with
 | [v],_ =>
  have e:v = .float .f64 b:=rel_flt (hx 0 (.flt b) v rfl rfl)
  subst e
  refine ⟨fun w => call_runs Try.func84 rfl (by kernel_rfl) w,(sqrt_calls hr2 w).mono fun e w' ⟨he,hw⟩ => ?_⟩
  subst he hw
  refine ⟨.flt (fsq b),⟨rfl,rfl⟩,⟨rfl,rfl,rfl,Nat.le_refl _,fun _ _ => rfl⟩,?_⟩
  ·unfold fsq;rw [hr2];exact .flt r
end Go.Av

namespace Go.Av
open Go.Proofs
set_option maxRecDepth 100000
def fi51:Fi:=⟨65,[.tmp 2]⟩
def kp51:List (Nat × List Nat):=[(0,[1]),(1,[3,4,5]),(2,[6]),(3,[6,7]),(4,[6,7,54]),(5,[6,7]),(6,[6,7,61]),(7,[6,7]),(8,[2])]
def tLe_at (x y z u v w r t b:Int) (Q:AV->Heap->Prop):Prop:=Wp M1 (.run fi51 (atC (cd Try.f51) []) [(0,.agg [.int .i64 x,.int .i64 y,.int .i64 z,.int .i64 u,.int .i64 v,.int .i64 w,.int .i64 r,.int .i64 t,.int .i64 b])] []) Q
def Zex (n s:Int) (Q:AV->Heap->Prop):Prop:=Wp M1 (.run fi51 (atC (cd Try.f51) [1,1,1,1,0,0,0]) [(6,.int .i64 s),(7,.int .i64 n)] []) Q
def Zew (n s:Int) (Q:AV->Heap->Prop):Prop:=Wp M1 (.run fi51 (atC (cd Try.f51) [1,1,1,1,1,0,0,0]) [(6,.int .i64 s),(7,.int .i64 n)] []) Q
theorem call51 {args:List AV} {d:AV} (h:wc M1 fi51 Try.f51 args d):Ev M1 (.pure 51 args) d []:=pcl _ _ (by kernel_rfl) h
theorem tLe (x y z u v w r t b:Int)  (dq:AV) (H :
  (-9223372036854775808 <= u - x /\ u - x <= 9223372036854775807) /\
  (-9223372036854775808 <= v - y /\ v - y <= 9223372036854775807) /\
  (-9223372036854775808 <= w - z /\ w - z <= 9223372036854775807) /\
  (-9223372036854775808 <= (u - x) * (u - x) /\ (u - x) * (u - x) <= 9223372036854775807) /\
  (-9223372036854775808 <= (v - y) * (v - y) /\ (v - y) * (v - y) <= 9223372036854775807) /\
  (-9223372036854775808 <= (u - x) * (u - x) + (v - y) * (v - y) /\ (u - x) * (u - x) + (v - y) * (v - y) <= 9223372036854775807) /\
  (-9223372036854775808 <= (w - z) * (w - z) /\ (w - z) * (w - z) <= 9223372036854775807) /\
  (-9223372036854775808 <= (u - x) * (u - x) + (v - y) * (v - y) + (w - z) * (w - z) /\ (u - x) * (u - x) + (v - y) * (v - y) + (w - z) * (w - z) <= 9223372036854775807) /\
  ((FloatKind.f64.format.sqrt (FloatKind.f64.nearest ((u - x) * (u - x) + (v - y) * (v - y) + (w - z) * (w - z)))).isSome = true) /\
  (f2iB .i64 (fsq (FloatKind.f64.nearest ((u - x) * (u - x) + (v - y) * (v - y) + (w - z) * (w - z)))) = true) /\
  Zex (f2iV (fsq (FloatKind.f64.nearest ((u - x) * (u - x) + (v - y) * (v - y) + (w - z) * (w - z))))) ((u - x) * (u - x) + (v - y) * (v - y) + (w - z) * (w - z)) (Zak dq)) :
 tLe_at x y z u v w r t b (Zak dq):=by
 unfold tLe_at
 obtain ⟨k1,H⟩:=H
 have w2:wi (u - x) = u - x:=wI64 k1
 obtain ⟨k3,H⟩:=H
 have w4:wi (v - y) = v - y:=wI64 k3
 obtain ⟨k5,H⟩:=H
 have w6:wi (w - z) = w - z:=wI64 k5
 obtain ⟨k7,H⟩:=H
 have w8:wi ((u - x) * (u - x)) = (u - x) * (u - x):=wI64 k7
 obtain ⟨k9,H⟩:=H
 have w10:wi ((v - y) * (v - y)) = (v - y) * (v - y):=wI64 k9
 obtain ⟨k11,H⟩:=H
 have w12:wi ((u - x) * (u - x) + (v - y) * (v - y)) = (u - x) * (u - x) + (v - y) * (v - y):=wI64 k11
 obtain ⟨k13,H⟩:=H
 have w14:wi ((w - z) * (w - z)) = (w - z) * (w - z):=wI64 k13
 obtain ⟨k15,H⟩:=H
 have w16:wi ((u - x) * (u - x) + (v - y) * (v - y) + (w - z) * (w - z)) = (u - x) * (u - x) + (v - y) * (v - y) + (w - z) * (w - z):=wI64 k15
 obtain ⟨k17,k19,H⟩:=H
 exact Zah (G:=Zad kp51 [(3,2,.call (AV.flt (fsq (FloatKind.f64.nearest ((u - x) * (u - x) + (v - y) * (v - y) + (w - z) * (w - z))))) none)] []) 1000 [] ⟨(atC (cd Try.f51) [1,1,1,1,0,0,0]),[(6,vi (wi (wi (wi (wi (u - x) * wi (u - x)) + wi (wi (v - y) * wi (v - y))) + wi (wi (w - z) * wi (w - z))))),(7,vi (f2iV (fsq (FloatKind.f64.nearest ((u - x) * (u - x) + (v - y) * (v - y) + (w - z) * (w - z))))))],[⟨[ag [vi x,vi y,vi z,vi u,vi v,vi w,vi r,vi t,vi b]],9,0,false,false⟩],[true,true,true,true,true,true,match Ieee.Datum.toInt Ieee.Toward.zero (FloatKind.f64.decode (fsq (FloatKind.f64.nearest ((u - x) * (u - x) + (v - y) * (v - y) + (w - z) * (w - z))))) with | some n => decide (IntKind.i64.min <= n) && decide (n <= IntKind.i64.max) | none => false],[],[pc 84 [AV.flt (FloatKind.f64.nearest (wi (wi (wi (wi (u - x) * wi (u - x)) + wi (wi (v - y) * wi (v - y))) + wi (wi (w - z) * wi (w - z)))))] (AV.flt (fsq (FloatKind.f64.nearest ((u - x) * (u - x) + (v - y) * (v - y) + (w - z) * (w - z)))))]⟩ (by kernel_rfl) (bc rfl (bc rfl (bc rfl (bc rfl (bc rfl (bc rfl (bc ((i_var _).2 k19) b0))))))) q0 (ce (by (try rw [w2]);(try rw [w4]);(try rw [w6]);(try rw [w8]);(try rw [w10]);(try rw [w12]);(try rw [w14]);(try rw [w16]);all_goals exact (@ev84 (FloatKind.f64.nearest ((u - x) * (u - x) + (v - y) * (v - y) + (w - z) * (w - z))) k17)) c0) (by (try rw [w2]);(try rw [w4]);(try rw [w6]);(try rw [w8]);(try rw [w10]);(try rw [w12]);(try rw [w14]);(try rw [w16]);all_goals exact ZcC [] (by kernel_rfl) H)
theorem tLeD (n s:Int)  (dq:AV) (H :
  (((n > 0) /\ (IntKind.i64.wrap (IntKind.i64.wrap (n - 1) * IntKind.i64.wrap (n - 1)) >= s)) -> (-9223372036854775808 <= n - 1 /\ n - 1 <= 9223372036854775807) /\
   Zex (n - 1) (s) (Zak dq)) /\
  (¬((n > 0) /\ (IntKind.i64.wrap (IntKind.i64.wrap (n - 1) * IntKind.i64.wrap (n - 1)) >= s)) -> Zew (n) (s) (Zak dq))) :
 Zex n s (Zak dq):=by
 unfold Zex
 rcases xq H with ⟨d2,H⟩|⟨d2,H⟩
 ·obtain ⟨k3,H⟩:=H
  have w4:wi (n - 1) = n - 1:=wI64 k3
  exact Zah (G:=Zad kp51 [] []) 1000 [true] ⟨(atC (cd Try.f51) [1,1,1,1,0,0,0]),[(6,vi s),(7,vi (wi (n - 1)))],[],_,[],_⟩ (by kernel_rfl) (bc (ZaG ((Zcy Zaa Zaa).2 d2)) b0) q0 c0 (by (try rw [w4]);all_goals exact H)
 ·exact Zah (G:=Zad kp51 [] []) 1000 [false] ⟨(atC (cd Try.f51) [1,1,1,1,1,0,0,0]),[(6,vi s),(7,vi n),(54,vb (bif decide (n > 0) then decide (wi (wi (n - 1) * wi (n - 1)) >= s) else false))],[],_,[],_⟩ (by kernel_rfl) (bc (Zaj (fun h => d2 ((Zcy Zaa Zaa).1 h))) b0) q0 c0 (Wp.less [6,7] (H))
theorem tLeU (n s:Int)  (dq:AV) (H :
  (-9223372036854775808 <= n * n /\ n * n <= 9223372036854775807) /\
  ((n * n < s) -> (-9223372036854775808 <= n + 1 /\ n + 1 <= 9223372036854775807) /\
   Zew (n + 1) (s) (Zak dq)) /\
  (¬(n * n < s) -> vi n = dq)) :
 Zew n s (Zak dq):=by
 unfold Zew
 obtain ⟨k1,H⟩:=H
 have w2:wi (n * n) = n * n:=wI64 k1
 have i3:(decide (wi (n * n) < s)) = true ↔ (n * n < s):=(by (try rw [w2]);all_goals exact Zaa)
 rcases xq H with ⟨d4,H⟩|⟨d4,H⟩
 ·obtain ⟨k5,H⟩:=H
  have w6:wi (n + 1) = n + 1:=wI64 k5
  exact Zah (G:=Zad kp51 [] []) 1000 [true] ⟨(atC (cd Try.f51) [1,1,1,1,1,0,0,0]),[(6,vi s),(7,vi (wi (n + 1)))],[],_,[],_⟩ (by kernel_rfl) (bc (ZaG (i3.2 d4)) b0) q0 c0 (by (try rw [w6]);all_goals exact H)
 ·exact Zae (G:=Zad kp51 [] []) 1000 [false] (vi n) (by kernel_rfl) (bc (Zaj (fun h => d4 (i3.1 h))) b0) q0 c0 H
end Go.Av

namespace Go.Av
open Ieee
theorem read_w {W:Nat} (h1:4503599627370496 <= W) (h2:W < 9218868437227405312):double.read W = .number false (4503599627370496 + W % 4503599627370496) (-1074 + (W / 4503599627370496 - 1:Nat)):=by
 have e1:double.signWeight = 9223372036854775808:=by decide
 have e2:double.binade = 4503599627370496:=by decide
 have e3:double.infRung = 9218868437227405312:=by decide
 have e4:double.leastPlace = -1074:=by decide
 unfold Format.read
 simp only [e1,e2,e3,e4]
 rw [Nat.mod_eq_of_lt (show W < 9223372036854775808 by omega),if_neg (by omega),if_pos (by omega)]
 have:(W / 9223372036854775808 % 2 == 1) = false:=by rw [Nat.div_eq_of_lt (by omega)];rfl
 rw [this]
theorem cut0 (n:Nat):Toward.even.cut false n 0 = n:=by
 unfold Toward.cut
 simp [Nat.mod_one]
theorem cut_le (n d:Nat) (h:d <= n.log2 + 2):∃ e,e <= 1 /\ Toward.even.cut false n d = n / 2 ^ d + e:=by
 unfold Toward.cut
 rw [Nat.min_eq_left h,Nat.one_shiftLeft]
 exact ⟨_,Bool.toNat_le _,rfl⟩
theorem log_bd {m:Nat} (h:m ≠ 0):2 ^ m.log2<=m/\m<2 ^ (m.log2+1):=⟨Nat.log2_self_le h,Nat.lt_log2_self⟩
theorem pow52:(2:Nat) ^ 52=4503599627370496:=by decide
theorem near_w {mag:Nat} {p:Int} (hm:mag ≠ 0) (h1:-1000 <= (mag.log2:Int) + p) (h2:(mag.log2:Int) + p <= 900) :
  ∃ (m:Nat) (q:Int),double.read (double.nearest false mag p) = .number false m q /\ (4503599627370496 <= m /\ m < 9007199254740992) /\
   (q = (mag.log2:Int) + p - 52 \/ q = (mag.log2:Int) + p - 51) /\ (mag.log2 <= 52 -> m = mag * 2 ^ (52 - mag.log2) /\ q = (mag.log2:Int) + p - 52):=by
 have e2:double.binade = 4503599627370496:=by decide
 have e3:double.infRung = 9218868437227405312:=by decide
 have e4:double.leastPlace = -1074:=by decide
 have e5:double.fractionBits = 52:=rfl
 obtain ⟨b1,b2⟩:=log_bd hm
 have hk:∃ k,Toward.even.cut false (mag <<< (p - (p + (mag.log2:Int) - 52)).toNat) ((p + (mag.log2:Int) - 52) - p).toNat = k /\ (4503599627370496 <= k /\ k <= 9007199254740992) /\ (mag.log2 <= 52 -> k = mag * 2 ^ (52 - mag.log2) /\ k < 9007199254740992):=by
  rcases Nat.lt_or_ge 52 mag.log2 with h | h
  ·rw [show (p - (p + (mag.log2:Int) - 52)).toNat = 0 by omega,show ((p + (mag.log2:Int) - 52) - p).toNat = mag.log2 - 52 by omega,Nat.shiftLeft_zero]
   obtain ⟨e,he,hc⟩:=cut_le mag (mag.log2 - 52) (by omega)
   have p1:2 ^ mag.log2 = 4503599627370496 * 2 ^ (mag.log2 - 52):=by rw [<- pow52,<- Nat.pow_add];congr 1;omega
   have p2:2 ^ (mag.log2 + 1) = 9007199254740992 * 2 ^ (mag.log2 - 52):=by rw [Nat.pow_succ,p1];omega
   have pp:0 < 2 ^ (mag.log2 - 52):=Nat.pow_pos (by decide)
   have l1:4503599627370496 <= mag / 2 ^ (mag.log2 - 52):=(Nat.le_div_iff_mul_le pp).2 (by rw [<- p1];exact b1)
   have l2:mag / 2 ^ (mag.log2 - 52) < 9007199254740992:=(Nat.div_lt_iff_lt_mul pp).2 (by rw [<- p2];exact b2)
   exact ⟨_,hc,⟨by omega,by omega⟩,fun x => absurd x (by omega)⟩
  ·rw [show (p - (p + (mag.log2:Int) - 52)).toNat = 52 - mag.log2 by omega,show ((p + (mag.log2:Int) - 52) - p).toNat = 0 by omega,cut0,Nat.shiftLeft_eq]
   have pp:0 < 2 ^ (52 - mag.log2):=Nat.pow_pos (by decide)
   have p1:4503599627370496 = 2 ^ mag.log2 * 2 ^ (52 - mag.log2):=by rw [<- pow52,<- Nat.pow_add];congr 1;omega
   have p2:9007199254740992 = 2 ^ (mag.log2 + 1) * 2 ^ (52 - mag.log2):=by rw [Nat.pow_succ,Nat.mul_right_comm,<- p1]
   have l1:4503599627370496 <= mag * 2 ^ (52 - mag.log2):=by rw [p1];exact Nat.mul_le_mul_right _ b1
   have l2:mag * 2 ^ (52 - mag.log2) < 9007199254740992:=by rw [p2];exact Nat.mul_lt_mul_of_pos_right b2 pp
   exact ⟨_,rfl,⟨l1,by omega⟩,fun _ => ⟨rfl,l2⟩⟩
 obtain ⟨k,hk,⟨k1,k2⟩,k3⟩:=hk
 unfold Format.nearest
 rw [if_neg hm]
 simp only [e2,e3,e4,e5]
 have em:max (p + (mag.log2:Int) - (52:Nat)) (-1074) = p + (mag.log2:Int) - 52:=by omega
 rw [em,hk]
 obtain ⟨t,ht⟩:∃ t:Nat,(p + (mag.log2:Int) - 52 - -1074).toNat = t:=⟨_,rfl⟩
 have tI:(t:Int) = p + (mag.log2:Int) + 1022:=by omega
 rw [ht,Nat.min_eq_left (by omega)]
 show ∃ m q,double.read (t * 4503599627370496 + k) = _ /\ _
 rw [read_w (by omega) (by omega)]
 rcases Nat.lt_or_ge k 9007199254740992 with h | h
 ·have d:(t * 4503599627370496 + k) / 4503599627370496 = t + 1:=by omega
  have r:(t * 4503599627370496 + k) % 4503599627370496 = k - 4503599627370496:=by omega
  rw [d,r]
  refine ⟨_,_,rfl,⟨by omega,by omega⟩,.inl (by omega),fun x => ⟨by rw [<- (k3 x).1];omega,by omega⟩⟩
 ·have d:(t * 4503599627370496 + k) / 4503599627370496 = t + 2:=by omega
  have r:(t * 4503599627370496 + k) % 4503599627370496 = 0:=by omega
  rw [d,r]
  exact ⟨_,_,rfl,⟨by omega,by omega⟩,.inr (by omega),fun x => absurd (k3 x).2 (by omega)⟩
theorem rootFrom_le (n:Nat):∀ (t r:Nat),r * r <= n -> Datum.rootFrom n t r * Datum.rootFrom n t r <= n:=by
 intro t
 induction t with
 | zero => intro r h;exact h
 | succ t ih =>
  intro r h
  unfold Datum.rootFrom
  simp only
  apply ih
  split
  ·assumption
  ·exact h
end Go.Av

namespace Go.Av
open Ieee
theorem root_w {M:Nat} {i:Int} (h1:4503599627370496 <= M) (h2:M < 9007199254740992) (hi:-52 <= i) (hi2:i <= 0) :
  ∃ (m:Nat) (q:Int),Datum.root 54 (.number false M i) = some (.number false m q) /\ m ≠ 0 /\ m < 72057594037927936 /\ -60 <= q /\ q <= -29:=by
 have lg:M.log2 = 52:=(Nat.log2_eq_iff (by omega)).2 ⟨by rw [pow52];exact h1,by rw [show (2:Nat) ^ (52 + 1) = 9007199254740992 by decide];exact h2⟩
 unfold Datum.root
 simp only [lg,Bool.false_eq_true,if_false,show ¬M = 0 by omega]
 obtain ⟨e,he⟩:∃ e:Nat,((i - ((2 * 54 - 52:Nat):Int)) % 2).toNat = e:=⟨_,rfl⟩
 have e1:e <= 1:=by omega
 rw [he]
 obtain ⟨n,hn⟩:∃ n:Nat,M <<< (2 * 54 - 52 + e) = n:=⟨_,rfl⟩
 rw [hn]
 have n1:n = M * 2 ^ (56 + e):=by rw [<- hn,Nat.shiftLeft_eq]
 have n2:0 < n:=by rw [n1];exact Nat.mul_pos (by omega) (Nat.pow_pos (by decide))
 have n3:n < 1298074214633706907132624082305024:=by
  have p:2 ^ (56 + e) <= 144115188075855872:=by
   rcases (show e = 0 \/ e = 1 by omega) with rfl | rfl <;> decide
  calc n = M * 2 ^ (56 + e):=n1
   _ <= M * 144115188075855872:=Nat.mul_le_mul_left _ p
   _ < 1298074214633706907132624082305024:=by omega
 obtain ⟨w,hw⟩:∃ w:Nat,Datum.rootFrom n (n.log2 / 2 + 1) 0 = w:=⟨_,rfl⟩
 have w1:w * w <= n:=by rw [<- hw];exact rootFrom_le n _ 0 (Nat.zero_le _)
 rw [hw]
 have w2:w < 36028797018963968:=by
  rcases Nat.lt_or_ge w 36028797018963968 with h | h
  ·exact h
  ·have:=Nat.mul_le_mul h h;omega
 have b1:(w * w != n).toNat <= 1:=Bool.toNat_le _
 refine ⟨_,_,rfl,?_,by omega,by omega,by omega⟩
 intro z
 have w0:w = 0:=by omega
 subst w0
 have:((0 * 0 != n):Bool) = true:=by simpa using (by omega:(0:Nat) ≠ n)
 rw [this] at z;simp at z
theorem toInt_w {m:Nat} {q:Int} (hm:m < 9007199254740992) (h1:-200 <= q) (h2:q <= -25):∃ n:Int,Datum.toInt .zero (.number false m q) = some n /\ 0 <= n /\ n <= 268435456:=by
 refine ⟨_,rfl,?_⟩
 unfold signed
 simp only [Bool.false_eq_true,if_false,Nat.shiftLeft_zero]
 refine ⟨Int.natCast_nonneg _,?_⟩
 have hq:q.toNat = 0:=by omega
 rw [hq,Nat.shiftLeft_zero]
 unfold Toward.cut
 simp only [Bool.toNat_false,Nat.add_zero]
 have lg:m.log2 < 53:=by
  by_cases z:m = 0
  ·subst z;decide
  ·exact (Nat.log2_lt z).2 (by rw [show (2:Nat) ^ 53 = 9007199254740992 by decide];exact hm)
 have key:m / 1 <<< min (-q).toNat (m.log2 + 2) <= 268435456:=by
  rw [Nat.one_shiftLeft]
  rcases Nat.lt_or_ge m.log2 28 with h | h
  ·have:m < 2 ^ 28:=by
    by_cases z:m = 0
    ·subst z;decide
    ·exact (Nat.log2_lt z).1 h
   have:=Nat.div_le_self m (2 ^ min (-q).toNat (m.log2 + 2))
   omega
  ·have p:(2:Nat) ^ 25 <= 2 ^ min (-q).toNat (m.log2 + 2):=Nat.pow_le_pow_right (by decide) (by omega)
   have:=Nat.div_le_div_left (a:=m) p (show 0 < 2 ^ 25 by decide)
   omega
 omega
theorem len_nat {s:Nat} (h:s < 9007199254740992):∃ r:Nat,double.sqrt (double.nearest false s 0) = some r /\ ∃ n:Int,(double.read r).toInt .zero = some n /\ 0 <= n /\ n <= 268435456:=by
 by_cases z:s = 0
 ·subst z;exact ⟨0,by kernel_rfl,0,by kernel_rfl,by decide,by decide⟩
 have lg:s.log2 <= 52:=by
  have:=(Nat.log2_lt z).2 (show s < 2 ^ 53 by rw [show (2:Nat) ^ 53 = 9007199254740992 by decide];exact h)
  omega
 obtain ⟨M,i,r1,⟨m1,m2⟩,_,r4⟩:=near_w z (p:=0) (by omega) (by omega)
 obtain ⟨_,iq⟩:=r4 lg
 obtain ⟨m,q,s1,s2,s3,s4,s5⟩:=root_w m1 m2 (i:=i) (by omega) (by omega)
 have lm:m.log2 < 56:=(Nat.log2_lt s2).2 (by rw [show (2:Nat) ^ 56 = 72057594037927936 by decide];exact s3)
 obtain ⟨m',q',t1,⟨t2,t3⟩,t4,_⟩:=near_w s2 (p:=q) (by omega) (by omega)
 refine ⟨double.nearest false m q,?_,?_⟩
 ·unfold Format.sqrt
  rw [r1,show double.fractionBits + 2 = 54 from rfl,s1];rfl
 ·rw [t1]
  exact toInt_w t3 (by omega) (by omega)
theorem len_float {s:Int} (h0:0 <= s) (h:s < 9007199254740992):(FloatKind.f64.format.sqrt (FloatKind.f64.nearest s)).isSome = true /\
  ∃ n:Int,(FloatKind.f64.decode ((FloatKind.f64.format.sqrt (FloatKind.f64.nearest s)).getD 0)).toInt .zero = some n /\ 0 <= n /\ n <= 268435456:=by
 obtain ⟨r,hr,n,hn⟩:=len_nat (s:=s.natAbs) (by omega)
 have e:FloatKind.f64.nearest s = double.nearest false s.natAbs 0:=by
  show double.write (.number (decide (s < 0)) s.natAbs 0) = _
  rw [decide_eq_false (by omega)];rfl
 rw [e]
 have e2:FloatKind.f64.format.sqrt (double.nearest false s.natAbs 0) = some r:=hr
 rw [e2]
 exact ⟨rfl,n,hn⟩
end Go.Av

namespace Go.Av
open Go.Proofs
namespace Sp
def isC (s n:Int):Prop:=0<=n/\s<=n*n/\(n=0\/(n-1)*(n-1)<s)
noncomputable def csq (s:Int):Int:=Classical.epsilon fun n=>isC s n
noncomputable def len (a b c:Int):Int:=csq (a*a+b*b+c*c)
def cl (d:Int):Prop:=-50000000<=d/\d<=50000000
end Sp
theorem isC_one {s m n:Int} (h:Sp.isC s m) (k:Sp.isC s n):m = n:=by
 obtain ⟨h1,h2,h3⟩:=h
 obtain ⟨k1,k2,k3⟩:=k
 rcases Int.lt_trichotomy m n with q | q | q
 ·rcases k3 with rfl | k3
  ·omega
  ·have:=Int.mul_le_mul (show m <= n - 1 by omega) (show m <= n - 1 by omega) h1 (by omega);omega
 ·exact q
 ·rcases h3 with rfl | h3
  ·omega
  ·have:=Int.mul_le_mul (show n <= m - 1 by omega) (show n <= m - 1 by omega) k1 (by omega);omega
theorem csq_eq {s n:Int} (h:Sp.isC s n):Sp.csq s=n:=isC_one (Classical.epsilon_spec (p:=fun n=>Sp.isC s n) ⟨n,h⟩) h
theorem sq_bd {n B:Int} (h0:0<=n) (h:n<=B):0<=n*n/\n*n<=B*B:=⟨Int.mul_nonneg h0 h0,Int.mul_le_mul h h h0 (by omega)⟩
theorem tLeU_loop {s:Int} (hs:s <= 9007199254740992):∀ (k:Nat) (n:Int),n + k = 268435457 -> 0 <= n -> (n = 0 \/ (n - 1) * (n - 1) < s) -> Zew n s (Zak (.int .i64 (Sp.csq s))):=by
 intro k
 induction k with
 | zero =>
  intro n hn h0 h1
  have e:n = 268435457:=by omega
  subst e
  exact tLeU _ _ _ ⟨by omega,fun bad => absurd bad (by omega),fun ok => by rw [csq_eq ⟨h0,by omega,h1⟩]⟩
 | succ k ih =>
  intro n hn h0 h1
  have b:=sq_bd h0 (show n <= 268435456 by omega)
  refine tLeU _ _ _ ⟨by omega,fun up => ⟨by omega,ih (n + 1) (by omega) (by omega) (.inr (by rw [Int.add_sub_cancel];exact up))⟩,fun ok => by rw [csq_eq ⟨h0,by omega,h1⟩]⟩
theorem tLeD_loop {s:Int} (hs:s <= 9007199254740992):∀ (k:Nat),k <= 268435456 -> Zex (k:Int) s (Zak (.int .i64 (Sp.csq s))):=by
 intro k
 induction k with
 | zero =>
  intro _
  refine tLeD _ _ _ ⟨fun bad => absurd bad.1 (by omega),fun _ => tLeU_loop hs 268435457 0 (by omega) (by omega) (.inl rfl)⟩
 | succ k ih =>
  intro hk
  have b:=sq_bd (Int.natCast_nonneg k) (show (k:Int) <= 268435456 by omega)
  have e:((k + 1:Nat):Int) - 1 = k:=by omega
  refine tLeD _ _ _ ?_
  rw [e,w64 (k:Int) (by omega),w64 ((k:Int) * k) (by omega)]
  exact ⟨fun _ => ⟨by omega,ih (by omega)⟩,fun no => tLeU_loop hs (268435456 - k) _ (by omega) (by omega) (.inr (by rw [e];omega))⟩
theorem ev51 (x y z u v w r t b:Int) (h:Sp.cl (u - x) /\ Sp.cl (v - y) /\ Sp.cl (w - z)):Ev M1 (.pure 51 [.agg [.int .i64 x,.int .i64 y,.int .i64 z,.int .i64 u,.int .i64 v,.int .i64 w,.int .i64 r,.int .i64 t,.int .i64 b]]) (.int .i64 (Sp.len (u - x) (v - y) (w - z))) []:=by
 obtain ⟨h1,h2,h3⟩:=h
 unfold Sp.cl at h1 h2 h3
 have q {d:Int} (hd:-50000000 <= d /\ d <= 50000000):0 <= d * d /\ d * d <= 2500000000000000:=by
  rcases Int.lt_or_le d 0 with k | k
  ·have:=sq_bd (n:=-d) (B:=50000000) (by omega) (by omega)
   rw [Int.neg_mul_neg] at this;omega
  ·have:=sq_bd k hd.2;omega
 have q1:=q h1
 have q2:=q h2
 have q3:=q h3
 obtain ⟨f1,n,f2,f3,f4⟩:=len_float (s:=(u - x) * (u - x) + (v - y) * (v - y) + (w - z) * (w - z)) (by omega) (by omega)
 have g1:f2iV (fsq (FloatKind.f64.nearest ((u - x) * (u - x) + (v - y) * (v - y) + (w - z) * (w - z)))) = n:=by
  unfold f2iV fsq;rw [f2]
 have g2:f2iB .i64 (fsq (FloatKind.f64.nearest ((u - x) * (u - x) + (v - y) * (v - y) + (w - z) * (w - z)))) = true:=by
  have i1:IntKind.min .i64 = -9223372036854775808:=by decide
  have i2:IntKind.max .i64 = 9223372036854775807:=by decide
  unfold f2iB fsq;rw [f2]
  simp only [i1,i2,Bool.and_eq_true,decide_eq_true_eq];omega
 refine call51 (tLe _ _ _ _ _ _ _ _ _ _ ⟨by omega,by omega,by omega,by omega,by omega,by omega,by omega,by omega,f1,g2,?_⟩)
 rw [g1]
 obtain ⟨k,rfl⟩:=Int.eq_ofNat_of_zero_le f3
 exact tLeD_loop (by omega) k (by omega)
end Go.Av

namespace Go.Av
open Go.Proofs
def awkT:List (Nat × List (Nat × List Nat)):=[(8,[(0,[]),(1,[1]),(2,[1,2,3]),(3,[1,2,16]),(4,[0]),(5,[1,2,4]),(6,[1,2,4,18]),(7,[1,2,4]),(8,[1,2,4,22]),(9,[0]),(10,[1,2,4,5]),(11,[0])]),
 (9,[(0,[0,3]),(1,[0,3,6]),(2,[0,3,6,12]),(3,[4,5]),(4,[0,7]),(5,[0,7,21]),(6,[7]),(7,[7]),(8,[4,5])]),
 (10,[(0,[0]),(1,[0,20]),(2,[2]),(3,[0,22]),(4,[0,26]),(5,[2]),(6,[0,3,4]),(7,[0,3,54]),(8,[2]),(9,[0]),(10,[0]),(11,[0]),(12,[0,90]),(13,[]),(14,[2])]),
 (13,[(0,[0,2]),(1,[0,2,6]),(2,[2]),(3,[0,2,14]),(4,[2]),(5,[0,2,3]),(6,[2,4]),(7,[2])]),
 (19,[(0,[0]),(1,[0,3]),(2,[0,3,4,5]),(3,[3,4,21]),(4,[3]),(5,[2])]),
 (40,[(0,[0,3]),(1,[0,3,15]),(2,[4]),(3,[0,3,16,17,18]),(4,[0,3,16,17,18,19]),(5,[0,3,5,6,16,17,18]),(6,[0,3,16,17,18,40]),(7,[4]),(8,[0,3,16,17,18]),(9,[0,3,42,43,44]),(10,[0,3,42,43,44,45]),(11,[0,3,8,42,43,44]),(12,[0,3,42,43,44,55]),(13,[4]),(14,[0,3,42,43,44]),(15,[0,3,59]),(16,[4]),(17,[3,60,61,62]),(18,[3,60,61,62,63]),(19,[3,10,60,61,62]),(20,[3,12,60,61,62]),(21,[3,12,60,61,62,76]),(22,[4]),(23,[3,60,61,62]),(24,[4])]),
 (41,[(0,[0]),(1,[0,4]),(2,[2]),(3,[2])]),
 (42,[(0,[0,25]),(1,[0])]),
 (43,[(0,[0]),(1,[2])]),
 (44,[(0,[0,3]),(1,[0,3,6,7]),(2,[0,3,6,7,20]),(3,[4,5]),(4,[0,3,6,23]),(5,[4,5]),(6,[0,3,8,9]),(7,[0,3,8,31]),(8,[4,5]),(9,[0,3,10]),(10,[0,10,11]),(11,[10,11,12]),(12,[10,11,12,37]),(13,[10,11,12]),(14,[10,11,12]),(15,[4,5])]),
 (45,[(0,[0]),(1,[2])]),
 (46,[(0,[2,3,4]),(1,[2,3,4,7]),(2,[3,4]),(3,[4])]),
 (47,[(0,[0]),(1,[0,2,3]),(2,[0,2,18]),(3,[0]),(4,[0]),(5,[0,36]),(6,[0]),(7,[])]),
 (50,[(0,[4,5,6,7,8]),(1,[4,5,6,7,8,23]),(2,[8,9]),(3,[4,5,6,7,8,38,39,40]),(4,[4,5,6,7,8,38,39,40,41]),(5,[4,5,6,7,8,11,38,39,40]),(6,[4,5,6,7,8,38,39,40,46]),(7,[8,9]),(8,[4,5,6,7,8,38,39,40]),(9,[4,5,8,12]),(10,[8,9])]),
 (52,[(0,[0,2]),(1,[0,2,14]),(2,[2,3]),(3,[0,2,4]),(4,[2,4]),(5,[2,3])]),
 (73,[(0,[1]),(1,[15]),(2,[2]),(3,[2])]),
 (74,[(0,[1]),(1,[2])]),
 (75,[(0,[0,3]),(1,[0,3,13]),(2,[4,5]),(3,[0,3,15]),(4,[4,5]),(5,[0,6]),(6,[4,5])]),
 (76,[(0,[1,2,3]),(1,[1,2,3,28]),(2,[6,7]),(3,[1,2,3,8]),(4,[1,2,3,8,9]),(5,[2,3,8,9,10]),(6,[2,3,8,9,10,32]),(7,[2,3,8,9,10]),(8,[2,3,8,9,10,11,12]),(9,[2,3,8,9,10,11,51]),(10,[6,7]),(11,[2,3,8,9,10]),(12,[2,3,8,9,10]),(13,[6,7])]),
 (77,[(0,[1]),(1,[2])]),
 (79,[(0,[2,3]),(1,[2,3,5]),(2,[2,3,5,8]),(3,[2,3,5]),(4,[2,3,5]),(5,[4])]),
 (80,[(0,[2,3,4]),(1,[2,3,4,5,6]),(2,[2,3,4,5,6,27]),(3,[2,3,4,5,6,7]),(4,[2,3,4,5,6,7,41]),(5,[2,3,4,5,6]),(6,[2,3,4,5,6]),(7,[4])]),
 (81,[(0,[0,1,2]),(1,[6])]),
 (82,[(0,[0,1,2,3]),(1,[6])]),
 (83,[(0,[0,1]),(1,[0,1,5]),(2,[5,12]),(3,[5]),(4,[4])]),
 (96,[(0,[3,4,5,6]),(1,[3,4,5,6,8]),(2,[4,6,8,9,10]),(3,[4,6,8,9,10,41]),(4,[6,7]),(5,[4,6,8,9,10,45]),(6,[4,6,8,9,10,11]),(7,[4,6,8,9,10,11,55]),(8,[4,6,8,9,10]),(9,[4,6,8,9,10]),(10,[6,7])]),
 (97,[(0,[0,3]),(1,[0,3,10]),(2,[4]),(3,[0,3,5]),(4,[0,3,5,14,15]),(5,[0,3,5,14,15,16]),(6,[0,3,5,6,14,15]),(7,[0,3,5,6,7,14,15]),(8,[0,3,5,6,7,14,15,21]),(9,[0,3,5,7,14,15]),(10,[0,3,5,7,14,15,59]),(11,[4]),(12,[0,3,5,14,15]),(13,[0,3,5,14,15]),(14,[4])]),
 (98,[(0,[2,3]),(1,[2,3,21]),(2,[4]),(3,[2,3,24]),(4,[4]),(5,[4])]),
 (99,[(0,[1,2]),(1,[1,2,9]),(2,[4]),(3,[1,2,5]),(4,[4])]),
 (112,[(0,[0,1,2,3]),(1,[2,3,6]),(2,[5])])]
end Go.Av

namespace Go.Av
open Go.Proofs
set_option maxRecDepth 1000000 in
theorem nx0:Ev M1 (.pure 96 [.agg [.int .i64 40,.int .i64 50,.int .i64 60],.agg [.int .i64 0,.int .i64 0],.int .i64 539]) (.tup [.agg [.int .i64 40,.int .i64 40],.bool true]) []:=Zbc (G:=⟨awkT,[],[],[]⟩) ZaN 30 (by kernel_rfl)
set_option maxRecDepth 1000000 in
theorem nx1:Ev M1 (.pure 96 [.agg [.int .i64 40,.int .i64 50,.int .i64 60],.agg [.int .i64 40,.int .i64 40],.int .i64 499]) (.tup [.agg [.int .i64 40,.int .i64 0],.bool true]) []:=Zbc (G:=⟨awkT,[],[],[]⟩) ZaN 30 (by kernel_rfl)
set_option maxRecDepth 1000000 in
theorem nx2:Ev M1 (.pure 96 [.agg [.int .i64 40,.int .i64 50,.int .i64 60],.agg [.int .i64 40,.int .i64 0],.int .i64 459]) (.tup [.agg [.int .i64 40,.int .i64 0],.bool true]) []:=Zbc (G:=⟨awkT,[],[],[]⟩) ZaN 30 (by kernel_rfl)
set_option maxRecDepth 1000000 in
theorem nx3:Ev M1 (.pure 96 [.agg [.int .i64 40,.int .i64 50,.int .i64 60],.agg [.int .i64 40,.int .i64 0],.int .i64 419]) (.tup [.agg [.int .i64 40,.int .i64 0],.bool true]) []:=Zbc (G:=⟨awkT,[],[],[]⟩) ZaN 30 (by kernel_rfl)
end Go.Av

namespace Go.Av
open Go.Proofs
set_option maxRecDepth 1000000 in
theorem nx4:Ev M1 (.pure 96 [.agg [.int .i64 40,.int .i64 50,.int .i64 60],.agg [.int .i64 40,.int .i64 0],.int .i64 379]) (.tup [.agg [.int .i64 40,.int .i64 0],.bool true]) []:=Zbc (G:=⟨awkT,[],[],[]⟩) ZaN 30 (by kernel_rfl)
set_option maxRecDepth 1000000 in
theorem nx5:Ev M1 (.pure 96 [.agg [.int .i64 40,.int .i64 50,.int .i64 60],.agg [.int .i64 40,.int .i64 0],.int .i64 339]) (.tup [.agg [.int .i64 40,.int .i64 0],.bool true]) []:=Zbc (G:=⟨awkT,[],[],[]⟩) ZaN 30 (by kernel_rfl)
set_option maxRecDepth 1000000 in
theorem nx6:Ev M1 (.pure 96 [.agg [.int .i64 40,.int .i64 50,.int .i64 60],.agg [.int .i64 40,.int .i64 0],.int .i64 299]) (.tup [.agg [.int .i64 40,.int .i64 0],.bool true]) []:=Zbc (G:=⟨awkT,[],[],[]⟩) ZaN 30 (by kernel_rfl)
set_option maxRecDepth 1000000 in
theorem nx7:Ev M1 (.pure 96 [.agg [.int .i64 40,.int .i64 50,.int .i64 60],.agg [.int .i64 40,.int .i64 0],.int .i64 259]) (.tup [.agg [.int .i64 40,.int .i64 0],.bool true]) []:=Zbc (G:=⟨awkT,[],[],[]⟩) ZaN 30 (by kernel_rfl)
end Go.Av

namespace Go.Av
open Go.Proofs
set_option maxRecDepth 1000000 in
theorem nx8:Ev M1 (.pure 96 [.agg [.int .i64 40,.int .i64 50,.int .i64 60],.agg [.int .i64 40,.int .i64 0],.int .i64 219]) (.tup [.agg [.int .i64 40,.int .i64 0],.bool true]) []:=Zbc (G:=⟨awkT,[],[],[]⟩) ZaN 30 (by kernel_rfl)
set_option maxRecDepth 1000000 in
theorem nx9:Ev M1 (.pure 96 [.agg [.int .i64 40,.int .i64 50,.int .i64 60],.agg [.int .i64 40,.int .i64 0],.int .i64 179]) (.tup [.agg [.int .i64 40,.int .i64 0],.bool true]) []:=Zbc (G:=⟨awkT,[],[],[]⟩) ZaN 30 (by kernel_rfl)
set_option maxRecDepth 1000000 in
theorem nx10:Ev M1 (.pure 96 [.agg [.int .i64 40,.int .i64 50,.int .i64 60],.agg [.int .i64 40,.int .i64 0],.int .i64 139]) (.tup [.agg [.int .i64 40,.int .i64 0],.bool true]) []:=Zbc (G:=⟨awkT,[],[],[]⟩) ZaN 30 (by kernel_rfl)
set_option maxRecDepth 1000000 in
theorem nx11:Ev M1 (.pure 96 [.agg [.int .i64 40,.int .i64 50,.int .i64 60],.agg [.int .i64 40,.int .i64 0],.int .i64 99]) (.tup [.agg [.int .i64 40,.int .i64 0],.bool true]) []:=Zbc (G:=⟨awkT,[],[],[]⟩) ZaN 30 (by kernel_rfl)
end Go.Av

namespace Go.Av
open Go.Proofs
set_option maxRecDepth 1000000 in
theorem nx12:Ev M1 (.pure 96 [.agg [.int .i64 40,.int .i64 50,.int .i64 60],.agg [.int .i64 40,.int .i64 0],.int .i64 59]) (.tup [.agg [.int .i64 40,.int .i64 0],.bool true]) []:=Zbc (G:=⟨awkT,[],[],[]⟩) ZaN 30 (by kernel_rfl)
set_option maxRecDepth 1000000 in
theorem nx13:Ev M1 (.pure 96 [.agg [.int .i64 40,.int .i64 50,.int .i64 60],.agg [.int .i64 40,.int .i64 0],.int .i64 19]) (.tup [.agg [.int .i64 19,.int .i64 (-21)],.bool true]) []:=Zbc (G:=⟨awkT,[],[],[]⟩) ZaN 30 (by kernel_rfl)
end Go.Av

namespace Go.Av
open Go.Proofs
def nxK:List (Nat × List AV × AV):=[(96,[.agg [.int .i64 40,.int .i64 50,.int .i64 60],.agg [.int .i64 0,.int .i64 0],.int .i64 539],.tup [.agg [.int .i64 40,.int .i64 40],.bool true]),
 (96,[.agg [.int .i64 40,.int .i64 50,.int .i64 60],.agg [.int .i64 40,.int .i64 40],.int .i64 499],.tup [.agg [.int .i64 40,.int .i64 0],.bool true]),
 (96,[.agg [.int .i64 40,.int .i64 50,.int .i64 60],.agg [.int .i64 40,.int .i64 0],.int .i64 459],.tup [.agg [.int .i64 40,.int .i64 0],.bool true]),
 (96,[.agg [.int .i64 40,.int .i64 50,.int .i64 60],.agg [.int .i64 40,.int .i64 0],.int .i64 419],.tup [.agg [.int .i64 40,.int .i64 0],.bool true]),
 (96,[.agg [.int .i64 40,.int .i64 50,.int .i64 60],.agg [.int .i64 40,.int .i64 0],.int .i64 379],.tup [.agg [.int .i64 40,.int .i64 0],.bool true]),
 (96,[.agg [.int .i64 40,.int .i64 50,.int .i64 60],.agg [.int .i64 40,.int .i64 0],.int .i64 339],.tup [.agg [.int .i64 40,.int .i64 0],.bool true]),
 (96,[.agg [.int .i64 40,.int .i64 50,.int .i64 60],.agg [.int .i64 40,.int .i64 0],.int .i64 299],.tup [.agg [.int .i64 40,.int .i64 0],.bool true]),
 (96,[.agg [.int .i64 40,.int .i64 50,.int .i64 60],.agg [.int .i64 40,.int .i64 0],.int .i64 259],.tup [.agg [.int .i64 40,.int .i64 0],.bool true]),
 (96,[.agg [.int .i64 40,.int .i64 50,.int .i64 60],.agg [.int .i64 40,.int .i64 0],.int .i64 219],.tup [.agg [.int .i64 40,.int .i64 0],.bool true]),
 (96,[.agg [.int .i64 40,.int .i64 50,.int .i64 60],.agg [.int .i64 40,.int .i64 0],.int .i64 179],.tup [.agg [.int .i64 40,.int .i64 0],.bool true]),
 (96,[.agg [.int .i64 40,.int .i64 50,.int .i64 60],.agg [.int .i64 40,.int .i64 0],.int .i64 139],.tup [.agg [.int .i64 40,.int .i64 0],.bool true]),
 (96,[.agg [.int .i64 40,.int .i64 50,.int .i64 60],.agg [.int .i64 40,.int .i64 0],.int .i64 99],.tup [.agg [.int .i64 40,.int .i64 0],.bool true]),
 (96,[.agg [.int .i64 40,.int .i64 50,.int .i64 60],.agg [.int .i64 40,.int .i64 0],.int .i64 59],.tup [.agg [.int .i64 40,.int .i64 0],.bool true]),
 (96,[.agg [.int .i64 40,.int .i64 50,.int .i64 60],.agg [.int .i64 40,.int .i64 0],.int .i64 19],.tup [.agg [.int .i64 19,.int .i64 (-21)],.bool true])]
theorem nxOk:Zcb M1 ⟨awkT,[],nxK,[]⟩:=by
 intro k hk
 simp only [nxK,List.mem_cons,List.not_mem_nil,or_false] at hk
 rcases hk with rfl | rfl | rfl | rfl | rfl | rfl | rfl | rfl | rfl | rfl | rfl | rfl | rfl | rfl
 ·exact nx0
 ·exact nx1
 ·exact nx2
 ·exact nx3
 ·exact nx4
 ·exact nx5
 ·exact nx6
 ·exact nx7
 ·exact nx8
 ·exact nx9
 ·exact nx10
 ·exact nx11
 ·exact nx12
 ·exact nx13
def stA:List AV:=[.int .i64 539,.agg [.int .i64 40,.int .i64 50,.int .i64 60]]
def stD:AV:=.tup [.vec false 1 [.int .i64 40,.int .i64 40,.int .i64 40,.int .i64 40,.int .i64 40,.int .i64 40,.int .i64 40,.int .i64 40,.int .i64 40,.int .i64 40,.int .i64 40,.int .i64 40,.int .i64 40,.int .i64 19],.int .i64 0]
set_option maxRecDepth 1000000 in
theorem steps5:Ev M1 (.pure 44 stA) stD []:=Zbc nxOk 30 (by kernel_rfl)
end Go.Av

namespace Go.Av
open Go.Proofs
def mot5:AV:=.agg [.int .i64 0,.int .i64 0,.int .i64 0,.int .i64 500,.int .i64 (-200),.int .i64 0,.int .i64 40000,.int .i64 2,.int .i64 0]
def awkG:EG:=⟨awkT,[],[(51,[mot5],.int .i64 539),(44,stA,stD)],[]⟩
theorem awkK:Zcb M1 awkG:=by
 intro k hk
 rcases List.mem_cons.1 hk with rfl | hk
 ·have:=ev51 0 0 0 500 (-200) 0 40000 2 0 ⟨by unfold Sp.cl;omega,by unfold Sp.cl;omega,by unfold Sp.cl;omega⟩
  have e:Sp.len (500 - 0) (-200 - 0) (0 - 0) = 539:=csq_eq ⟨by decide,by decide,.inr (by decide)⟩
  rw [e] at this;exact this
 ·rcases List.mem_cons.1 hk with rfl | hk
  ·exact steps5
  ·exact nomatch hk
set_option maxRecDepth 1000000 in
theorem ev8:Ev M1 (.pure 8 []) (.bool true) []:=exec_all (M:=M1) (by kernel_rfl) (itf:=none) (fun _ h=>nomatch h) awkK 30 (by kernel_rfl)
end Go.Av
