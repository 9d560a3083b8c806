/- PART 3 of the texts of a claim, joined by a program: what each part shows stands at its head. -/
import Derived.Test.YtboepobkdibhcaaPart245d89e214
import Derived.ProofKit
import Derived.OpenShut
import Derived.Test.YtboepobkdibhcaaRows
import Derived.RangeFuncIn
import Derived.Test.YtboepobkdibhcaaProg

namespace Go.Av
open Go.RowKit
theorem lift_get (env:Vars) (t:Nat):Env.get (lift env) t = ([],env.get t):=by
 induction env with
 | nil => rfl
 | cons e env ih =>
  obtain ⟨k,v⟩:=e
  simp only [lift,List.map_cons,Env.get,Vars.get]
  cases k == t with
  | true => rfl
  | false => exact ih
theorem ZbZ {S:St} {env:Vars} {tm:Array Value} (h:VRel S env tm):TRel S (lift env) tm:=by
 refine ⟨fun t => ?_,fun t _ => ?_,fun t ht => ?_⟩
 ·rw [lift_get];exact .nil
 ·rw [lift_get];exact h t
 ·rw [lift_get] at ht;simp [Zaj] at ht
theorem Za2 {S:St} {env:Env} {tm:Array Value} (h:TRel S env tm) (keep:List Nat):VRel S (Zbe keep env) tm:=by
 intro t
 induction keep with
 | nil => exact .any _
 | cons k keep ih =>
  simp only [Zbe,List.map_cons,Vars.get]
  cases hk:k == t with
  | false => exact ih
  | true =>
   have hk:k = t:=by simpa using hk
   subst hk
   simp only [cond_true]
   split
   ·rename_i v hv
    have:=h.yes k (by rw [hv];rfl)
    rw [hv] at this;exact this
   ·exact .any _
theorem ZeW {S:St} {env:Vars} {a:Act} (h:VRel S env a.tmps) (x:Operand):Rel S (evV env x) (a.eval x):=by
 cases x with
 | tmp t => exact h t
 | const v => exact Zfq S v
 | global g => exact .any _
 | func f => exact .data _ _ (.func _ [] [] [] [] rfl rfl (by simp) (by simp))
theorem args_rel {S:St}:∀ (i:Nat) (args:List AV) (vs:List Value) (t:Nat),RelL S args vs -> Rel S ((Zbi i args).get t) (if i <= t then vs.getD (t - i) undef else undef)
 | i,[],vs,t,_ => .any _
 | i,c :: args,[],t,h => by have:=h.1;simp at this
 | i,c :: args,u :: vs,t,h => by
  simp only [Zbi,Vars.get]
  cases hk:i == t with
  | true =>
   have hk:i = t:=by simpa using hk
   subst hk
   simp only [cond_true,Nat.le_refl,if_true,Nat.sub_self,List.getD_cons_zero]
   exact h.2 0 c u rfl rfl
  | false =>
   have hk:i ≠ t:=by simpa using hk
   have:=args_rel (S:=S) (i + 1) args vs t ⟨by simpa using h.1,fun j c v hc hv => h.2 (j + 1) c v (by simpa using hc) (by simpa using hv)⟩
   simp only [cond_false]
   by_cases hlt:i + 1 <= t
   ·rw [if_pos hlt] at this
    rw [if_pos (by omega)]
    obtain ⟨m,rfl⟩:∃ m,t = i + 1 + m:=⟨t - (i + 1),by omega⟩
    have e1:i + 1 + m - (i + 1) = m:=by omega
    have e2:i + 1 + m - i = m + 1:=by omega
    rw [e1] at this
    rw [e2];simpa using this
   ·rw [if_neg hlt] at this
    rw [if_neg (by omega)];exact this
theorem enter_rel {S:St} {args:List AV} {vs:List Value} (n:Nat) (h:RelL S args vs):VRel S (Zbi 0 args) ((⟨vs⟩:Array Value) ++ Array.replicate n undef):=by
 intro t
 have:=args_rel (S:=S) 0 args vs t h
 simp only [Nat.zero_le,if_true,Nat.sub_zero] at this
 have e:((⟨vs⟩:Array Value) ++ Array.replicate n undef).getD t undef = vs.getD t undef:=by
  simp only [Array.getD_eq_getD_getElem?,List.getD_eq_getElem?_getD,Array.getElem?_append,List.size_toArray,List.getElem?_toArray]
  by_cases ht:t < vs.length
  ·rw [if_pos ht]
  ·rw [if_neg ht,List.getElem?_eq_none (by omega:vs.length <= t)]
   simp only [Array.getElem?_replicate,Option.getD_none]
   split <;> rfl
 rw [e];exact this
def resF (tm:Array Value):ResultVar -> Sem Value
 | .tmp t => pure (tm.getD t undef)
 | .cell a t => do loadVar t (<- asAddr (tm.getD a undef))
theorem ZbG {P:Unit -> Program} {S:St} (hS:HeapOk S) {env:Vars} {tm:Array Value} (hV:VRel S env tm):∀ (l:List ResultVar) {vs:List AV},ZcD P env S.L l = some vs ->
  ∃ cvs:List Value,RelL S vs cvs /\ (l.mapM (resF tm)).run (P ()) S.w = .ok cvs S.w
 | [],vs,h => by
  simp only [ZcD,Option.some.injEq] at h;subst h
  exact ⟨[],.nil S,by simp⟩
 | .tmp t :: r,vs,h => by
  simp only [ZcD] at h
  split at h
  ·rename_i vs' h'
   simp only [Option.some.injEq] at h;subst h
   obtain ⟨cvs,h1,h2⟩:=ZbG hS hV r h'
   have h3:(resF tm (.tmp t)).run (P ()) S.w = .ok (tm.getD t undef) S.w:=rfl
   exact ⟨tm.getD t undef :: cvs,.cons (hV t) h1,by simp only [List.mapM_cons,Sem.run_bind,h3,Result.andThen_ok,h2,Sem.run_pure]⟩
  ·simp at h
 | .cell a T :: r,vs,h => by
  simp only [ZcD] at h
  split at h
  ·rename_i x vs' hx h'
   cases hall:x.asm.all fun b => b with
   | false => simp [hall] at h
   | true =>
    simp only [hall,cond_true,Option.some.injEq] at h;subst h
    obtain ⟨cvs,h1,h2⟩:=ZbG hS hV r h'
    have hel:∀ {xs:List AV} {i:Nat} {x:AV} {q:List Prop},elemA none xs i = some (x,q) -> q = []:=by
     intro xs i x q he
     unfold elemA at he
     simp only at he
     split at he
     ·simp only [Option.some.injEq,Prod.mk.injEq] at he;exact he.2.symm
     ·simp at he
    have hva:=hV a
    have key:x.eqs = [] /\ ∃ ad,tm.getD a undef = .pointer (some ad):=by
     unfold loadA at hx
     split at hx
     ·rename_i q ver i j hv
      rw [hv] at hva
      obtain ⟨hp,_⟩:=ZeY hva
      split at hx
      ·split at hx
       ·rename_i he
        split at hx
        ·simp only [Option.some.injEq] at hx;subst hx
         exact ⟨hel he,hp⟩
        ·simp at hx
       ·simp at hx
      ·simp at hx
     ·rename_i es xs i j hv
      rw [hv] at hva
      have hp:∃ ad,tm.getD a undef = .pointer (some ad):=by
       have hd:=Zdg hva
       generalize tm.getD a undef = pv at *
       cases hd with
       | eptr _ _ _ _ b off h1 h2 h3 => exact ⟨_,rfl⟩
      split at hx
      ·rename_i he
       split at hx
       ·simp only [Option.some.injEq] at hx;subst hx
        exact ⟨hel he,hp⟩
       ·simp at hx
      ·simp at hx
     ·simp at hx
    obtain ⟨heq,ad,had⟩:=key
    obtain ⟨_,_,cv,k1,k2⟩:=ZgB (P:=P) hS (hV a) hx (by simpa using hall) (by rw [heq];simp)
    have h3:(resF tm (.cell a T)).run (P ()) S.w = .ok cv S.w:=by
     rw [<- k1,had]
     simp [resF,asAddr,Instr.loadAt,Instr.sureAddr,had]
    exact ⟨cv :: cvs,.cons k2 h1,by simp only [List.mapM_cons,Sem.run_bind,h3,Result.andThen_ok,h2,Sem.run_pure]⟩
  ·simp at h
theorem ZeN {P:Unit -> Program} {S:St} (hS:HeapOk S) {env:Vars} {tm:Array Value} (hV:VRel S env tm) {fi:Fi} {fn:Func} (hfi:fn.results.toList = fi.res) {v:AV} (h:finish P fi env S.L = some v) :
  ∃ cv,(results fn tm).run (P ()) S.w = .ok cv S.w /\ Rel S v cv:=by
 have hrun:∀ {cvs:List Value},(fi.res.mapM (resF tm)).run (P ()) S.w = .ok cvs S.w -> (results fn tm).run (P ()) S.w = .ok (if h:cvs.length = 1 then cvs[0] else .tuple ⟨cvs⟩) S.w:=by
  intro cvs h
  have hm:results fn tm = (do let vs <- fn.results.mapM (resF tm);pure (if h:vs.size = 1 then vs[0] else .tuple vs)):=by
   unfold results
   congr 1
  rw [hm,Array.mapM_eq_mapM_toList,hfi]
  rw [map_eq_pure_bind]
  simp only [Sem.run_bind,h,Result.andThen_ok,Sem.run_pure]
  rfl
 unfold finish at h
 split at h
 ·rename_i u hr
  simp only [Option.some.injEq] at h;subst h
  obtain ⟨cvs,h1,h2⟩:=ZbG hS hV _ hr
  have:=h1.1
  match cvs,this,h1,h2 with
  | [cv],_,h1,h2 => exact ⟨cv,by simpa using hrun h2,h1.head⟩
 ·rename_i vs hne hr
  simp only [Option.some.injEq] at h;subst h
  obtain ⟨cvs,h1,h2⟩:=ZbG hS hV _ hr
  have hl:cvs.length ≠ 1:=by
   rw [<- h1.1]
   intro e
   obtain ⟨x,rfl⟩:=List.length_eq_one_iff.1 e
   exact hne x rfl
  exact ⟨.tuple ⟨cvs⟩,by simpa [hl] using hrun h2,.tup vs cvs h1.1 h1.2⟩
 ·simp at h
theorem call_runs {P:Program} {f:FuncId} {fn:Func} {c:Code} {args:Array Value} (hf:P.funcs[f]? = some fn) (hb:fn.body = some c) (hn:(fn.name == "runtime.NumGoroutine") = false) (w:World) :
  (callFunc f args).run P w = .ok (.enter f args) w:=by
 have hn':fn.name ≠ "runtime.NumGoroutine":=by simpa using hn
 simp [callFunc,hf,hb,hn']
theorem ZeU {S:St} {a d:AV} (h:Weak a d):∀ {v:Value},DRel S a v -> DRel S d v:=by
 induction h with
 | refl a => exact fun h => h
 | vnil es => intro v h;cases h;exact .vecE false es none 0 (by simp)
 | full es xs =>
  intro v h
  cases h with
  | vecE f es a cap hf => exact .vecE false es a cap (by simp)
  | vec f es xs b off cap ho hf hl hc hr => exact .vec false es xs b off cap ho (by simp) hl hc hr
 | tup xs ys hl _ ih =>
  intro v h
  cases h with
  | tup _ vs h1 h2 =>
   refine .tup ys vs (hl.symm.trans h1) fun i c v hc hv => ?_
   have hi:i < xs.length:=by rw [hl];exact (List.getElem?_eq_some_iff.1 hc).1
   exact ih i xs[i] c (List.getElem?_eq_getElem hi) hc (h2 i xs[i] v (List.getElem?_eq_getElem hi) hv)
 | agg xs ys hl _ ih =>
  intro v h
  cases h with
  | agg _ vs h1 h2 =>
   refine .agg ys vs (hl.symm.trans h1) fun i c v hc hv => ?_
   have hi:i < xs.length:=by rw [hl];exact (List.getElem?_eq_some_iff.1 hc).1
   exact ih i xs[i] c (List.getElem?_eq_getElem hi) hc (h2 i xs[i] v (List.getElem?_eq_getElem hi) hv)
 | cells f es xs ys hl _ hy hx ih =>
  intro v h
  have one:∀ {y:AV} {k:Nat} {c:AV},y.cells = [y] -> y.cells[k]? = some c -> k = 0 /\ c = y:=by
   intro y k c e hk
   rw [e] at hk
   cases k with
   | zero => simp at hk;exact ⟨rfl,hk.symm⟩
   | succ k => simp at hk
  have lk:∀ (i:Nat) y,ys[i]? = some y -> ∃ x,xs[i]? = some x:=fun i y h => by
   have hi:i < xs.length:=by rw [hl];exact (List.getElem?_eq_some_iff.1 h).1
   exact ⟨xs[i],List.getElem?_eq_getElem hi⟩
  have lk':∀ (i:Nat) x,xs[i]? = some x -> ∃ y,ys[i]? = some y:=fun i y h => by
   have hi:i < ys.length:=by rw [<- hl];exact (List.getElem?_eq_some_iff.1 h).1
   exact ⟨ys[i],List.getElem?_eq_getElem hi⟩
  cases h with
  | vecE f es a cap hf =>
   have:ys = []:=List.length_eq_zero_iff.1 (by simpa using hl.symm)
   subst this
   exact .vecE f es a cap hf
  | vec f es xs b off cap ho hf hlc hc hr =>
   have:=DRel.vec (S:=S) f es ys b off cap (fun i y h => by
     obtain ⟨x,hxi⟩:=lk i y h
     obtain ⟨q1,q2⟩:=ho i x hxi
     rw [hx x (List.mem_of_getElem? hxi)] at q1
     obtain ⟨p1,p2⟩:=hy y (List.mem_of_getElem? h)
     rw [p1];exact ⟨q1,by simp [p2]⟩)
    (fun e => by rw [<- hl];exact hf e) (by rw [<- hl];exact hlc)
    (fun i y k c h hk => by
     obtain ⟨x,hxi⟩:=lk i y h
     obtain ⟨rfl,rfl⟩:=one (hy y (List.mem_of_getElem? h)).1 hk
     exact hc i x 0 x hxi (by rw [hx x (List.mem_of_getElem? hxi)];rfl))
    (fun i y k c cv h hk hcv => by
     obtain ⟨x,hxi⟩:=lk i y h
     obtain ⟨rfl,rfl⟩:=one (hy y (List.mem_of_getElem? h)).1 hk
     exact ih i x c hxi h (hr i x 0 x cv hxi (by rw [hx x (List.mem_of_getElem? hxi)];rfl) hcv))
   rw [<- hl] at this
   exact this
theorem OwnQ.snd {M:Mach} {f:FuncId} {args:List AV} {L L':Heap} {v:AV} (h:OwnQ M f args L (isR v L')):OwnSnd M f args L v L':=by
 intro S cargs h1 h2 h3
 obtain ⟨k1,k2⟩:=h S cargs h1 h2 h3
 refine ⟨k1,Calls.mono k2 fun e w' he => ?_⟩
 cases e with
 | returned cv =>
  obtain ⟨v',K,β',⟨rfl,rfl⟩,m1,m2,m3⟩:=he
  exact ⟨β',m1,m2,m3⟩
 | panicked c => exact he.elim
 | outgrown => exact he.elim
theorem PureR.snd {M:Mach} {f:FuncId} {args:List AV} {v:AV} (h:PureR M f args (isR v [])):Zgf M f args v:=by
 intro base acc w cargs h1 h2 h3
 obtain ⟨k1,k2⟩:=h base acc w cargs h1 h2 h3
 refine ⟨k1,Calls.mono k2 fun e w' he => ?_⟩
 cases e with
 | returned cv =>
  obtain ⟨d,⟨rfl,_⟩,m1,m2⟩:=he
  exact ⟨m1,m2⟩
 | panicked c => exact he.elim
 | outgrown => exact he.elim
theorem ZaH.step {M:Mach} {fi:Fi} {k k':List Item} {env:Vars} {L:Heap} {Q:AV -> Heap -> Prop} (h:ZaH M fi k' env L Q) (ht:Zcp k = true -> Zcp k' = true)
  (hs:∀ (b:Frame) (a:Act) (cs:List Frame) (S:St),VRel S env a.tmps -> step (M.P ()) (lone (b.atR a k) cs S.w) = .next (lone (b.atR a k') cs S.w)):ZaH M fi k env L Q:=by
 intro S b a cs fn h1 h2 h3 h4 h5 h6 h7 h8
 obtain ⟨a',todo',Ds,w',β',v,L',hq,g1,g2,k1,k2⟩:=h S b a cs fn h1 h2 h3 (h4.imp id ht) h5 h6 h7 h8
 exact ⟨a',todo',Ds,w',β',v,L',hq,g1,g2,.head (hs b a cs S h7) k1,k2⟩
theorem Zfg {id:Nat}:∀ {k k':List Item},exitTo id k = some k' -> Zcp k = true -> Zcp k' = true
 | [],k',h,_ => by simp [exitTo] at h
 | x :: k,k',h,ht => by
  have ht':ZdM x = true /\ Zcp k = true:=by simpa [Zcp] using ht
  cases x with
  | inBlock id' =>
   simp only [exitTo] at h
   split at h
   ·simp only [Option.some.injEq] at h;subst h;exact ht'.2
   ·exact Zfg h ht'.2
  | _ => exact Zfg (by simpa [exitTo] using h) ht'.2
def onlyN (K:Act -> World -> Prop):Exit -> Act -> World -> Prop:=fun e a w => match e with
 | .normal => K a w
 | _ => False
theorem opsR {P:Program} {ops:Array Oper} {K:Act -> World -> Prop} {b:Frame} {k:List Item} {cs:List Frame} {rest:List Nat} (hb:b.roundOf = none \/ Zck ops = true):∀ (l:List Nat) (a:Act) (w:World),wpOps P ops (onlyN K) l a w ->
  ∃ a' w',K a' w' /\ Steps P (lone (b.atR a (.inRegion ops (l ++ rest) :: k)) cs w) (lone (b.atR a' (.inRegion ops rest :: k)) cs w'):=by
 intro l
 induction l with
 | nil => exact fun a w h => ⟨a,w,h,Steps.refl _ _⟩
 | cons i l ih =>
  intro a w h
  simp only [wpOps] at h
  simp only [List.cons_append]
  cases ho:ops[i]? with
  | none =>
   simp only [ho] at h
   obtain ⟨a',w',hq,harr⟩:=ih a w h
   have hs:=stepR_op_skip (P:=P) (b:=b) (a:=a) (k:=k) (cs:=cs) (w:=w) (ops:=ops) (i:=i) (rest:=l ++ rest) (by simp [ho])
   simp only [ho,Option.bind_none,Act.put] at hs
   exact ⟨a',w',hq,.head hs harr⟩
  | some o =>
   simp only [ho] at h
   by_cases hw:Region.wanted o (yielded ops a.tmps) = true
   ·simp only [hw,if_true] at h
    have hsem:o.semAt b.roundOf a.eval = execOp a.eval o:=by
     rcases hb with hb | hb
     ·rw [hb];rfl
     ·refine Oper.semAt_eq _ _ _ fun c hc => ?_
      have:=List.all_eq_true.1 hb o (by
       have:=Array.mem_of_getElem? ho
       exact Array.mem_toList_iff.2 this)
      rw [hc] at this;simp at this
    rcases h with h | ⟨_,a0,w0,h⟩
    ·unfold Oper.wp at h
     have hg:=stepGR_op (P:=P) (b:=b) (k:=k) (cs:=cs) (w:=w) (rest:=l ++ rest) ho hw
     rw [hsem] at hg
     have hfin:∀ v,(b.atR a (.inRegion ops (i :: (l ++ rest)) :: k)).finish v = b.atR (a.put o.dst v) (.inRegion ops (l ++ rest) :: k):=by
      intro v;rw [Frame.finish_atR,ho];rfl
     simp only [Oper.upon] at h
     split at h
     ·rename_i v w' hr'
      obtain ⟨a',w'',hq,harr⟩:=ih _ _ h
      refine ⟨a',w'',hq,.head (step_lone_go ?_) harr⟩
      rw [hg,<- hfin];simp [stepG.apply,hr']
     ·rename_i w' hr'
      obtain ⟨a',w'',hq,harr⟩:=ih _ _ h
      refine ⟨a',w'',hq,.head (step_lone_go ?_) harr⟩
      rw [hg,<- hfin];simp [stepG.apply,hr']
     ·rename_i d w' hr'
      obtain ⟨a',w'',hq,harr⟩:=ih _ _ h
      refine ⟨a',w'',hq,.head (step_lone_go ?_) harr⟩
      have:({ b.atR a (.inRegion ops (i :: (l ++ rest)) :: k) with defers:=d :: a.defers }:Frame).finish undef =
        b.atR ({ a with defers:=d :: a.defers }.put o.dst undef) (.inRegion ops (l ++ rest) :: k):=by
       have:=Frame.finish_atR b { a with defers:=d :: a.defers } ops i (l ++ rest) k undef
       rw [ho] at this;exact this
      rw [hg];simp only [stepG.apply,Sem.runT_eq,hr',GStep.bare_after]
      exact congrArg (fun fr => GStep.go { frame:=fr,callers:=cs,status:=.running,dying:=none } w') this
     ·rename_i f args w' hr'
      obtain ⟨e,w'',fr,hR,hsteps,hfn,hleave⟩:=h (b.atR a (.inRegion ops (i :: (l ++ rest)) :: k) :: cs)
      have henter:step P (lone (b.atR a (.inRegion ops (i :: (l ++ rest)) :: k)) cs w) =
        .next (lone (Frame.enter P f args .normal) (b.atR a (.inRegion ops (i :: (l ++ rest)) :: k) :: cs) w'):=
       step_lone_go (by rw [hg];simp [stepG.apply,hr',Frame.atR])
      cases e with
      | returned v =>
       obtain ⟨a',w₃,hq,harr⟩:=ih _ _ hR
       refine ⟨a',w₃,hq,.head henter (Steps.trans hsteps (.head ?_ harr))⟩
       rw [<- hfin];exact step_leave_returned hleave
      | panicked chain => exact hR.elim
      | outgrown => obtain ⟨a₀,w₀,hq⟩:=hR;exact hq.elim
     ·rename_i row args w' hr'
      obtain ⟨v,w'',hR,hsteps⟩:=h (b.atR a (.inRegion ops (i :: (l ++ rest)) :: k)) cs
      have henter:step P (lone (b.atR a (.inRegion ops (i :: (l ++ rest)) :: k)) cs w) =
        .next (lone (Frame.ofRow P row args .normal) (b.atR a (.inRegion ops (i :: (l ++ rest)) :: k) :: cs) w'):=
       step_lone_go (by rw [hg];simp [stepG.apply,hr',Frame.atR])
      obtain ⟨a',w₃,hq,harr⟩:=ih _ _ hR
      refine ⟨a',w₃,hq,.head henter (Steps.trans hsteps ?_)⟩
      rw [hfin];exact harr
     ·exact h.elim
     ·exact h.elim
    ·exact h.elim
   ·simp only [hw,if_false,Bool.false_eq_true] at h
    obtain ⟨a',w',hq,harr⟩:=ih _ _ h
    have hs:=stepR_op_skip (P:=P) (b:=b) (a:=a) (k:=k) (cs:=cs) (w:=w) (ops:=ops) (i:=i) (rest:=l ++ rest)
     (by simp [ho];simpa using hw)
    simp only [ho,Option.bind_some] at hs
    exact ⟨a',w',hq,.head hs harr⟩
def RegR (P:Program) (id:Nat) (ops:Array Oper) (draw:Bool) (K:Act -> World -> Prop) (a:Act) (w:World):Prop:=
 ∀ (b:Frame) (k:List Item) (cs:List Frame),(b.roundOf = none \/ Zck ops = true) ->
  ∃ a' w',K a' w' /\ Steps P (lone (b.atR a (.code (.region id ops draw) :: k)) cs w) (lone (b.atR a' k) cs w')
theorem ZdT {P:Program} {id:Nat} {ops:Array Oper} {K:Act -> World -> Prop} {a:Act} {w:World} (h:wpOps P ops (onlyN K) (List.range ops.size) a w):RegR P id ops false K a w:=by
 intro b k cs hb
 obtain ⟨a',w',h1,h2⟩:=opsR (k:=k) (cs:=cs) (rest:=[]) hb _ a w h
 rw [List.append_nil] at h2
 exact ⟨a',w',h1,.head stepR_region (Steps.trans h2 (.one stepR_region_end))⟩
theorem regR_any {P:Program} {id:Nat} {ops:Array Oper} {K:Act -> World -> Prop} {a:Act} {w:World} (hm:P.follows .mixedOrders = true)
  (h:wpAny P .any ops (onlyN K) ops.size (Array.replicate ops.size false) a { w with drawn:=w.drawn + 1 }):RegR P id ops true K a w:=by
 intro b k cs hb
 have h':wpOps P ops (onlyN K) (Region.schedule (P.follows .mixedOrders) ops (w.tape w.drawn (.order b.fn id))) a { w with drawn:=w.drawn + 1 }:=by
  simp only [Region.schedule,hm,Bool.true_or,if_true]
  exact wpAny_sound ops.size _ _ a _ h
 obtain ⟨a',w',h1,h2⟩:=opsR (k:=k) (cs:=cs) (rest:=[]) hb _ a _ h'
 rw [List.append_nil] at h2
 exact ⟨a',w',h1,.head stepR_region_draw (Steps.trans h2 (.one stepR_region_end))⟩
theorem ZaH.after {M:Mach} {fi:Fi} {id:Nat} {ops:Array Oper} {draw:Bool} {k:List Item} {env:Vars} {L:Heap} {Q:AV -> Heap -> Prop}
  (h:∀ (S:St) (a:Act),HeapOk S -> S.L = L -> VRel S env a.tmps -> fi.n <= a.tmps.size -> RegR (M.P ()) id ops draw (fun a' w' => ∃ (S':St) (env':Vars),S'.w = w' /\ HeapOk S' /\ Ext S S' /\ ZaH M fi k env' S'.L Q /\ VRel S' env' a'.tmps /\ a'.tmps.size = a.tmps.size /\ a'.defers = a.defers) a S.w) :
  ZaH M fi (.code (.region id ops draw) :: k) env L Q:=by
 intro S b a cs fn h1 h2 h3 h4 h5 h6 h7 h8
 have ht:b.roundOf = none \/ (Zck ops = true /\ Zcp k = true):=h4.imp (fun h => h) fun h => by simpa [Zcp,ZdM,Zb4] using h
 obtain ⟨a',w',⟨S',env',rfl,k1,k2,k3,k4,k5,k6⟩,hs⟩:=h S a h5 h6 h7 h8 b k cs (ht.imp (fun h => h) And.left)
 obtain ⟨a2,todo',Ds,w2,β',v,L',hq,g1,g2,m1,m2,m3,m4,m5,m6⟩:=k3 S' b a' cs fn h1 h2 h3 (ht.imp (fun h => h) And.right) k1 rfl k4 (by rw [k5];exact h8)
 rw [k2.base,k2.acc] at m5 m6
 exact ⟨a2,todo',Ds,w2,β',v,L',hq,g1,g2,Steps.trans hs m1,by rw [m2,k6],⟨m3.1,fun D hD => ⟨Nat.le_trans k2.below.size (m3.2 D hD).1,(m3.2 D hD).2⟩⟩,fun w'' hn => by obtain ⟨cv,z1,z2⟩:=m4 w'' hn;rw [k2.base,k2.acc] at z2;exact ⟨cv,z1,z2⟩,m5,k2.trans m6⟩
theorem run_eq_nil {P:Unit -> Program} {d:Nat} {T e:TypeId} (hu:(P ()).underlying T = some (.slice e)) (a:Option Addr) (c:Nat) (w:World) :
  (Op.equalIn (d + 1) T (.slice a 0 c) (.slice none 0 0)).run (P ()) w = .ok a.isNone w /\ (Op.equalIn (d + 1) T (.slice none 0 0) (.slice a 0 c)).run (P ()) w = .ok a.isNone w:=by
 constructor <;> cases a <;> simp [Op.equalIn,run_underlying hu]
theorem nilTest_runs {P:Unit -> Program} {env:Env} {o:Oper} {d:Nat} (h:nilTest P env o = some d) {S:St} {ρ:Operand -> Value} (hρ:∀ x,Rel S (ev env [] x) (ρ x)) :
  o.guard = none /\ o.dst = some d /\ ∃ b,(execOp ρ o).run (P ()) S.w = .ok (.value (.bool b)) S.w:=by
 unfold nilTest at h
 split at h
 ·rename_i d' op T x y yT hg hd ho
  have hx:=hρ x
  have hy:=hρ y
  have emp:∀ {f:Bool} {es:Nat} {v:Value},Rel S (.vec f es []) v -> ∃ a c,v = .slice a 0 c:=by
   intro f es v hv
   have:=ZbM hv
   cases this with
   | vecE f es a cap _ => exact ⟨a,cap,rfl⟩
   | vec f es xs b off cap => exact ⟨_,_,rfl⟩
  refine ⟨hg,?_⟩
  have eqn':∀ {e:TypeId},(P ()).underlying T = some (.slice e) -> ∀ (a:Option Addr) (c:Nat),(Op.equalIn Op.maxDepth T (.slice a 0 c) (.slice none 0 0)).run (P ()) S.w = .ok a.isNone S.w /\ (Op.equalIn Op.maxDepth T (.slice none 0 0) (.slice a 0 c)).run (P ()) S.w = .ok a.isNone S.w:=
   fun hu a c => run_eq_nil (d:=Op.maxDepth - 1) hu a c S.w
  split at h
  ·rename_i e f es hu hvx hvy
   have eqn:=eqn' hu
   simp only [Option.some.injEq] at h;subst h
   rw [hvx] at hx;rw [hvy] at hy
   obtain ⟨a,c,ex⟩:=emp hx
   exact ⟨hd,a.isNone,by simp [execOp,ho,ex,ZaB hy,eqGuard,binOp,Op.equal,(eqn a c).1]⟩
  ·rename_i e f es hu hvx hvy
   have eqn:=eqn' hu
   simp only [Option.some.injEq] at h;subst h
   rw [hvx] at hx;rw [hvy] at hy
   obtain ⟨a,c,ey⟩:=emp hy
   exact ⟨hd,a.isNone,by simp [execOp,ho,ey,ZaB hx,eqGuard,binOp,Op.equal,(eqn a c).2]⟩
  ·rename_i e f es hu hvx hvy
   have eqn:=eqn' hu
   simp only [Option.some.injEq] at h;subst h
   rw [hvx] at hx;rw [hvy] at hy
   obtain ⟨a,c,ex⟩:=emp hx
   exact ⟨hd,!a.isNone,by simp [execOp,ho,ex,ZaB hy,eqGuard,binOp,Op.equal,(eqn a c).1]⟩
  ·rename_i e f es hu hvx hvy
   have eqn:=eqn' hu
   simp only [Option.some.injEq] at h;subst h
   rw [hvx] at hx;rw [hvy] at hy
   obtain ⟨a,c,ey⟩:=emp hy
   exact ⟨hd,!a.isNone,by simp [execOp,ho,ey,ZaB hx,eqGuard,binOp,Op.equal,(eqn a c).2]⟩
  ·simp at h
 ·simp at h
theorem rel_in {S:St} {a:AV} {v:Value} (h:Rel S a v):∀ r ∈ rowsA a,r < S.L.length:=by
 have lt:∀ {r:Nat} {row:Row},S.L[r]? = some row -> r < S.L.length:=fun h => (List.getElem?_eq_some_iff.1 h).1
 have all:∀ {cs:List AV} {vs:List Value},cs.length = vs.length -> (∀ (i:Nat) c v,cs[i]? = some c -> vs[i]? = some v -> ∀ r ∈ rowsA c,r < S.L.length) -> ∀ r ∈ rowsL cs,r < S.L.length:=by
  intro cs
  induction cs with
  | nil => intro vs _ _ r hr;simp [rowsL] at hr
  | cons c cs ih =>
   intro vs hl h r hr
   cases vs with
   | nil => simp at hl
   | cons u vs =>
    simp only [rowsL,List.mem_append] at hr
    rcases hr with hr | hr
    ·exact h 0 c u rfl rfl r hr
    ·exact ih (vs:=vs) (by simpa using hl) (fun i c v hc hv => h (i + 1) c v (by simpa using hc) (by simpa using hv)) r hr
 induction h with
 | any v => intro r hr;simp [rowsA] at hr
 | data a v h =>
  intro r hr
  have h1:=rowsA_ren (fun _ => S.L.length) a
  have h2:=dren h (fun _ => S.L.length)
  have h3:=dren h (fun _ => S.L.length + 1)
  have h4:=rowsA_ren (fun _ => S.L.length + 1) a
  rw [h2] at h1
  rw [h3,h1] at h4
  cases hra:rowsA a with
  | nil => rw [hra] at hr;simp at hr
  | cons q l => rw [hra] at h4;simp at h4
 | agg cs vs hl _ ih => exact all hl ih
 | tup cs vs hl _ ih => exact all hl ih
 | func fn a b va vb ha hb _ _ ih1 ih2 =>
  intro r hr
  simp only [rowsA,List.mem_append] at hr
  rcases hr with hr | hr
  ·exact all ha ih1 r hr
  ·exact all hb ih2 r hr
 | mapr r0 row info v _ _ h1 => intro r hr;simp only [rowsA,List.mem_singleton] at hr;subst hr;exact lt h1
 | ptr r0 ver i j row info v _ h1 => intro r hr;simp only [rowsA,List.mem_singleton] at hr;subst hr;exact lt h1
 | row r0 ver row info v _ h1 => intro r hr;simp only [rowsA,List.mem_singleton] at hr;subst hr;exact lt h1
 | ref r0 ver lo len row info v _ h1 => intro r hr;simp only [rowsA,List.mem_singleton] at hr;subst hr;exact lt h1
theorem refs_in {S:St} (hS:HeapOk S):∀ row ∈ S.L,∀ r ∈ Zag row,r < S.L.length:=by
 intro row hm r hr
 obtain ⟨q,hq⟩:=List.getElem?_of_mem hm
 have hlt:q < S.β.length:=by rw [<- hS.len];exact (List.getElem?_eq_some_iff.1 hq).1
 obtain ⟨info,hi⟩:∃ info,S.β[q]? = some info:=⟨_,List.getElem?_eq_getElem hlt⟩
 unfold Zag at hr
 cases hc:row.clean with
 | true => rw [hc] at hr;simp at hr
 | false =>
  rw [hc] at hr
  simp only [cond_false] at hr
  obtain ⟨i,x,h1,h2⟩:=Zce hr
  have hcell:∃ (k:Nat) (c:AV),x.cells[k]? = some c /\ r ∈ rowsA c:=by
   cases x with
   | agg cs => exact Zce h2
   | _ => exact ⟨0,_,rfl,h2⟩
  obtain ⟨k,c,h3,h4⟩:=hcell
  cases hmp:info.mp with
  | false =>
   obtain ⟨cv,_,hcr⟩:=ZdP hS hq hi hmp h1 k c h3
   exact rel_in hcr r h4
  | true =>
   obtain ⟨es,b1,b2,b3,b4⟩:=hS.maps q row info hq hi hmp
   have hil:i < es.size:=by have:=(List.getElem?_eq_some_iff.1 h1).1;omega
   obtain ⟨_,kk,n,v,rfl,_,_,g5,_⟩:=b4 i es[i] x (Array.getElem?_eq_getElem hil) h1
   match k with
   | 0 => simp [AV.cells] at h3;subst h3;simp [rowsA] at h4
   | 1 => simp [AV.cells] at h3;subst h3;exact rel_in g5 r h4
   | k + 2 => simp [AV.cells] at h3
theorem get_renV (f:Nat -> Nat) (env:Vars) (t:Nat):(renV f env).get t = renA f (env.get t):=by
 induction env with
 | nil => rfl
 | cons e env ih =>
  obtain ⟨k,v⟩:=e
  simp only [renV,List.map_cons,Vars.get]
  cases k == t with
  | true => rfl
  | false => exact ih
theorem rows_get {env:Vars} {t r:Nat} (h:r ∈ rowsA (env.get t)):r ∈ rowsL (env.map (·.2)):=by
 induction env with
 | nil => simp [Vars.get,rowsA] at h
 | cons e env ih =>
  obtain ⟨k,v⟩:=e
  simp only [Vars.get] at h
  simp only [List.map_cons,rowsL,List.mem_append]
  cases hk:k == t with
  | true => rw [hk] at h;exact .inl h
  | false => rw [hk] at h;exact .inr (ih h)
theorem Zc8 (l:List Row):∀ n,n <= l.length -> Zav l (List.range n) = some (l.take n):=by
 intro n hn
 have gen:∀ (k m:Nat),k + m <= l.length -> Zav l (List.range' k m) = some ((l.drop k).take m):=by
  intro k m
  induction m generalizing k with
  | zero => intro _;rfl
  | succ m ih =>
   intro h
   have hk:k < l.length:=by omega
   simp only [List.range'_succ,Zav,List.getElem?_eq_getElem hk,ih (k + 1) (by omega)]
   rw [List.drop_eq_getElem_cons hk];rfl
 have:=gen 0 n (by omega)
 rw [List.range_eq_range'];simpa using this
theorem getRows_drop (l:List Row) (n:Nat) (hn:n <= l.length):Zav l (List.range' n (l.length - n)) = some (l.drop n):=by
 have gen:∀ (k m:Nat),k + m <= l.length -> Zav l (List.range' k m) = some ((l.drop k).take m):=by
  intro k m
  induction m generalizing k with
  | zero => intro _;rfl
  | succ m ih =>
   intro h
   have hk:k < l.length:=by omega
   simp only [List.range'_succ,Zav,List.getElem?_eq_getElem hk,ih (k + 1) (by omega)]
   rw [List.drop_eq_getElem_cons hk];rfl
 rw [gen n _ (by omega),List.take_of_length_le (by simp)]
theorem ZcZ:∀ (m k i:Nat),k <= i -> i < k + m -> Zai (List.range' k m) i = i - k
 | 0,k,i,h1,h2 => by omega
 | m + 1,k,i,h1,h2 => by
  simp only [List.range'_succ,Zai]
  by_cases he:k = i
  ·subst he;simp
  ·have:(k == i) = false:=by simpa using he
   rw [this,ZcZ m (k + 1) i (by omega) (by omega)]
   simp only [cond_false];omega
theorem DRel.recell {S S':St} (hL:S'.L = S.L) (hβ:S'.β = S.β) (ha:S'.acc = S.acc) (hc:∀ b off,S'.w.cell? ⟨b,off,none⟩ = S.w.cell? ⟨b,off,none⟩) {a:AV} {v:Value} (h:DRel S a v):DRel S' a v:=by
 have hi:∀ b off,Imm S b off -> Imm S' b off:=fun b off ⟨h1,h2⟩ => ⟨by rw [ha];exact h1,fun r info hr hb => by rw [hβ] at hr;rw [hL];exact h2 r info hr hb⟩
 induction h with
 | bool b => exact .bool b
 | int k n => exact .int k n
 | str s => exact .str s
 | flt s => exact .flt s
 | nilp => exact .nilp
 | nilf => exact .nilf
 | nilm => exact .nilm
 | agg cs vs hl _ ih => exact .agg cs vs hl ih
 | tup cs vs hl _ ih => exact .tup cs vs hl ih
 | func fn a b va vb ha hb _ _ ih1 ih2 => exact .func fn a b va vb ha hb ih1 ih2
 | eptr es xs i j b off ho hk _ ih => exact .eptr es xs i j b off ho (fun i x k c hx hk' => by obtain ⟨⟨cv,q1⟩,q2⟩:=hk i x k c hx hk';exact ⟨⟨cv,by rw [hc];exact q1⟩,hi _ _ q2⟩) (fun i x k c cv hx hk' hcv => ih i x k c cv hx hk' (by rw [<- hc];exact hcv))
 | vnil => exact .vnil
 | vecE f es a cap hf => exact .vecE f es a cap hf
 | vec f es xs b off cap ho hf hl hk _ ih => exact .vec f es xs b off cap ho hf hl (fun i x k c hx hk' => by obtain ⟨⟨cv,q1⟩,q2⟩:=hk i x k c hx hk';exact ⟨⟨cv,by rw [hc];exact q1⟩,hi _ _ q2⟩) (fun i x k c cv hx hk' hcv => ih i x k c cv hx hk' (by rw [<- hc];exact hcv))
theorem Rel.recell {S S':St} (hL:S'.L = S.L) (hβ:S'.β = S.β) (ha:S'.acc = S.acc) (hc:∀ b off,S'.w.cell? ⟨b,off,none⟩ = S.w.cell? ⟨b,off,none⟩) {a:AV} {v:Value} (h:Rel S a v):Rel S' a v:=by
 induction h with
 | any v => exact .any v
 | data a v h => exact .data a v (h.recell hL hβ ha hc)
 | agg cs vs hl _ ih => exact .agg cs vs hl ih
 | tup cs vs hl _ ih => exact .tup cs vs hl ih
 | func fn a b va vb ha hb _ _ ih1 ih2 => exact .func fn a b va vb ha hb ih1 ih2
 | mapr r row info v h0 h3 h1 h2 => exact .mapr r row info v h0 h3 (hL ▸ h1) (hβ ▸ h2)
 | ptr r ver i j row info v h0 h1 h2 h3 h4 => exact .ptr r ver i j row info v h0 (hL ▸ h1) (hβ ▸ h2) h3 h4
 | row r ver row info v h0 h1 h2 h3 h4 => exact .row r ver row info v h0 (hL ▸ h1) (hβ ▸ h2) h3 h4
 | ref r ver lo len row info v h0 h1 h2 h3 h4 => exact .ref r ver lo len row info v h0 (hL ▸ h1) (hβ ▸ h2) h3 h4
theorem other_blk {S:St} (hS:HeapOk S) {D:Nat} {o:Obj} (ho:S.w.heap[D]? = some o) (hk:Zbs o = true):∀ (r:Nat) info,S.β[r]? = some info -> info.blk ≠ D:=by
 intro r info hi e
 have hlt:r < S.L.length:=by rw [hS.len];exact (List.getElem?_eq_some_iff.1 hi).1
 obtain ⟨row,hr⟩:∃ row,S.L[r]? = some row:=⟨_,List.getElem?_eq_getElem hlt⟩
 cases hmp:info.mp with
 | true =>
  obtain ⟨es,h1,_⟩:=hS.maps r row info hr hi hmp
  rw [e,ho] at h1;simp only [Option.some.injEq] at h1;subst h1;simp [Zbs] at hk
 | false =>
  obtain ⟨_,_,cs,T,h1,_⟩:=hS.cells r row info hr hi hmp
  rw [e,ho] at h1;simp only [Option.some.injEq] at h1;subst h1;simp [Zbs] at hk
theorem Rel.at {base:Nat} {acc:Nat -> Nat -> Prop} {L:Heap} {β:List BI} {w w':World} (hc:∀ b off,w'.cell? ⟨b,off,none⟩ = w.cell? ⟨b,off,none⟩) {a:AV} {v:Value} (h:Rel ⟨base,acc,L,β,w⟩ a v):Rel ⟨base,acc,L,β,w'⟩ a v:=
 Rel.recell (S:=⟨base,acc,L,β,w⟩) (S':=⟨base,acc,L,β,w'⟩) rfl rfl rfl hc h
theorem ZgK {w:World} {D:Nat} {o:Obj} (ho:w.heap[D]? = some o) (hk:Zbs o = true) (off:Nat):w.cell? ⟨D,off,none⟩ = none:=by
 unfold World.cell?
 simp only [ho]
 cases o <;> first | rfl | (simp [Zbs] at hk;done)
theorem cell_put {w:World} {D:Nat} {o o':Obj} (ho:w.heap[D]? = some o) (hk:Zbs o = true) (hk':Zbs o' = true) (b off:Nat):(w.putObj D o').cell? ⟨b,off,none⟩ = w.cell? ⟨b,off,none⟩:=by
 by_cases e:b = D
 ·subst e
  rw [ZgK ho hk,ZgK (World.putObj_heap_same (w:=w) (o:=o') (Array.getElem?_eq_some_iff.1 ho).1) hk']
 ·exact Zao (World.putObj_heap_other e)
theorem ZdU {S:St} (hS:HeapOk S) {D:Nat} {o o':Obj} (ho:S.w.heap[D]? = some o) (hk:Zbs o = true) (hk':Zbs o' = true) :
  HeapOk ⟨S.base,S.acc,S.L,S.β,S.w.putObj D o'⟩ /\ ∀ a v,Rel S a v -> Rel ⟨S.base,S.acc,S.L,S.β,S.w.putObj D o'⟩ a v:=by
 have hne:=other_blk hS ho hk
 have hcell:=cell_put ho hk hk'
 have hh:∀ b,b ≠ D -> (S.w.putObj D o').heap[b]? = S.w.heap[b]?:=fun b h => World.putObj_heap_other h
 have hrel:∀ a v,Rel S a v -> Rel ⟨S.base,S.acc,S.L,S.β,S.w.putObj D o'⟩ a v:=fun a v h => Rel.recell (S:=S) (S':=⟨S.base,S.acc,S.L,S.β,S.w.putObj D o'⟩) rfl rfl rfl hcell h
 have hdrel:∀ a v,DRel S a v -> DRel ⟨S.base,S.acc,S.L,S.β,S.w.putObj D o'⟩ a v:=fun a v h => DRel.recell (S:=S) (S':=⟨S.base,S.acc,S.L,S.β,S.w.putObj D o'⟩) rfl rfl rfl hcell h
 refine ⟨⟨by simpa using hS.base,hS.len,fun r info h => by simpa using hS.blk r info h,hS.inj,fun r row info h1 h2 h3 => ?_,fun r row info h1 h2 h3 => ?_,hS.elems,fun r row info i x k c cv h1 h2 h3 h4 h5 => ?_,fun r row info i x k c cv h1 h2 h0 h3 h4 h5 => ?_,hS.acq,fun b off h => hS.anew b off (by simpa using h)⟩,hrel⟩
 ·obtain ⟨es,q1,q2,q3,q4⟩:=hS.maps r row info h1 h2 h3
  refine ⟨es,(hh _ (hne r info h2)).trans q1,q2,q3,fun i e x he hx => ?_⟩
  obtain ⟨z1,kk,n,v,z2,z3,z4,z5,z6⟩:=q4 i e x he hx
  exact ⟨z1,kk,n,v,z2,z3,z4,hrel _ _ z5,fun hc => hdrel _ _ (z6 hc)⟩
 ·obtain ⟨q1,q2,cs,T,q3,q4⟩:=hS.cells r row info h1 h2 h3
  exact ⟨q1,q2,cs,T,(hh _ (hne r info h2)).trans q3,q4⟩
 ·exact hrel _ _ (hS.rel r row info i x k c cv h1 h2 h3 h4 (by rw [<- hcell];exact h5))
 ·exact hdrel _ _ (hS.clean r row info i x k c cv h1 h2 h0 h3 h4 (by rw [<- hcell];exact h5))
theorem put_ext {S0 S:St} {D:Nat} {o o':Obj} (ho:S.w.heap[D]? = some o) (hk:Zbs o = true) (hk':Zbs o' = true) (hD:S0.base <= S0.w.heap.size) (hD0:S0.w.heap.size <= D) (he:Ext S0 S):Ext S0 ⟨S.base,S.acc,S.L,S.β,S.w.putObj D o'⟩:=by
 have hcell:=cell_put ho hk hk'
 have hh:∀ b,b ≠ D -> (S.w.putObj D o').heap[b]? = S.w.heap[b]?:=fun b h => World.putObj_heap_other h
 refine ⟨he.base,he.acc,fun b off hi hlt => ?_,he.rows,?_,he.fresh,fun b h1 h2 h3 => (hh b (by omega)).trans (he.other b h1 h2 h3)⟩
 ·obtain ⟨q1,q2⟩:=he.imm b off hi hlt
  exact ⟨q1,(hcell b off).trans q2⟩
 ·have hb:=he.below
  exact ⟨hb.os,hb.tape,hb.output,by simpa using hb.size,fun k hk => (hh k (by omega)).trans (hb.block k hk)⟩
theorem ZfF {w w':World} (h:Near w w'):∀ b off,w'.cell? ⟨b,off,none⟩ = w.cell? ⟨b,off,none⟩:=by
 induction h with
 | refl => exact fun _ _ => rfl
 | put o' _ h1 h2 h3 ih => exact fun b off => (cell_put h1 h2 h3 b off).trans (ih b off)
theorem near_ok {base:Nat} {acc:Nat -> Nat -> Prop} {L:Heap} {β:List BI} {w w':World} (hn:Near w w'):HeapOk ⟨base,acc,L,β,w⟩ -> HeapOk ⟨base,acc,L,β,w'⟩:=by
 induction hn with
 | refl => exact fun h => h
 | put o' _ h1 h2 h3 ih => exact fun h => (ZdU (ih h) h1 h2 h3).1
theorem narrow_sound {M:Mach} {fi:Fi} {k:List Item} {env env':Vars} {L Lc:Heap} {Q:AV -> Heap -> Prop} {rs:List Nat} (hn:Za6 L rs env = some (env',Lc))
  (ih:ZaH M fi k env' Lc fun v L1 => Q (renA (Zcc L.length rs) v) (ZcL L rs L1)):ZaH M fi k env L Q:=by
 unfold Za6 at hn
 split at hn
 ·rename_i rows hrows
  split at hn
  ·rename_i hc
   simp only [Option.some.injEq,Prod.mk.injEq] at hn
   obtain ⟨rfl,rfl⟩:=hn
   simp only [Bool.and_eq_true,List.all_eq_true,List.contains_iff_mem] at hc
   obtain ⟨hnd,ha,hcl⟩:=hc
   have hnd:=(ZaU rs).1 hnd
   intro S b a cs fn h1 h2 h3 h4 h5 h6 h7 h8
   subst h6
   obtain ⟨hSc,_,hrelc⟩:=Zgm h5 hrows hnd hcl
   obtain ⟨gl,_⟩:=Zaw hrows
   have hV:VRel ⟨S.base,Za7 S rs,rows.map (Zae (Zai rs)),subβ S.β rs,S.w⟩ (renV (Zai rs) env) a.tmps:=by
    intro t
    rw [get_renV]
    exact hrelc _ _ (h7 t) fun r hr => ha r (rows_get hr)
   obtain ⟨a',todo',Ds,w',β',v,L1,hq,g1,g2,k1,k2,k3,k3',k4,k5⟩:=ih _ b a cs fn h1 h2 h3 h4 hSc rfl hV h8
   have hle:rs.length <= L1.length:=by
    by_cases hz:rs.length = 0
    ·omega
    ·have hlt:rs.length - 1 < (rows.map (Zae (Zai rs))).length:=by simp;omega
     have hβ:rs.length - 1 < (subβ S.β rs).length:=by simp [subβ];omega
     obtain ⟨row',info',q1,_⟩:=k5.rows (rs.length - 1) _ _ (List.getElem?_eq_getElem hlt) (List.getElem?_eq_getElem hβ)
     have:=(List.getElem?_eq_some_iff.1 q1).1
     simp only at this;omega
   let ns:=List.range' rs.length (L1.length - rs.length)
   have hmem:∀ i,i ∈ ns ↔ rs.length <= i /\ i < L1.length:=by
    intro i;simp only [ns,List.mem_range'_1];omega
   have hrefs:=refs_in k4
   obtain ⟨m1,m2,m3⟩:=Zgb (S1:=⟨S.base,Za7 S rs,L1,β',w'⟩) (ns:=ns) (old:=L1.take rs.length) (new:=L1.drop rs.length) h5 hrows hnd hcl k4 k5 List.nodup_range' (fun i hi => ((hmem i).1 hi).1)
    (Zc8 L1 _ hle) (getRows_drop L1 _ hle) (fun row hr r hrr => by
     have hm:row ∈ L1:=by
      rcases List.mem_append.1 hr with h | h
      ·exact List.mem_of_mem_take h
      ·exact List.mem_of_mem_drop h
     have:=hrefs row hm r hrr
     by_cases hlt:r < rs.length
     ·exact .inl hlt
     ·exact .inr ((hmem r).2 ⟨by omega,this⟩))
   have heq:∀ r,r < L1.length -> ZaG S.L.length rs ns r = Zcc S.L.length rs r:=by
    intro r hr
    unfold ZaG Zcc
    cases hb:Nat.blt r rs.length with
    | true => rfl
    | false =>
     have hge:rs.length <= r:=by
      rcases Nat.lt_or_ge r rs.length with h | h
      ·rw [Nat.blt_eq.mpr h] at hb;simp at hb
      ·exact h
     simp only [cond_false,ns]
     rw [ZcZ _ _ _ hge (by omega)]
   have hrow:∀ row ∈ L1,Zae (ZaG S.L.length rs ns) row = Zae (Zcc S.L.length rs) row:=by
    intro row hm
    unfold Zae
    cases hcr:row.clean with
    | true => rfl
    | false =>
     simp only [cond_false]
     rw [renL_ext _ fun r hr => heq r (hrefs row hm r (by unfold Zag;rw [hcr];exact hr))]
   have hLL:ZaY S.L rs ns (L1.take rs.length) (L1.drop rs.length) = ZcL S.L rs L1:=by
    unfold ZaY ZcL
    rw [List.map_congr_left fun row hm => hrow row (List.mem_of_mem_take hm),List.map_congr_left fun row hm => hrow row (List.mem_of_mem_drop hm)]
   rw [hLL] at m1 m2 m3
   refine ⟨a',todo',Ds,w',_,_,_,hq,g1,g2,k1,k2,k3,fun w'' hne => ?_,m1,m2⟩
   obtain ⟨cv,z1,z2⟩:=k3' w'' hne
   have hcell:=ZfF hne
   have k6:Rel ⟨S.base,Za7 S rs,L1,β',w'⟩ v cv:=Rel.at (fun b off => (hcell b off).symm) z2
   have hin:=rel_in k6
   have m3':=m3 v cv k6 fun r hr => by
    have:=hin r hr
    by_cases hlt:r < rs.length
    ·exact .inl hlt
    ·exact .inr ((hmem r).2 ⟨by omega,this⟩)
   rw [renA_ext v fun r hr => heq r (hin r hr)] at m3'
   exact ⟨cv,z1,Rel.at hcell m3'⟩
  ·simp at hn
 ·simp at hn
theorem ZcH {n i:Nat} (h:i < n):Zai (List.range n) i = i:=by
 rw [List.range_eq_range',ZcZ n 0 i (Nat.zero_le _) (by omega)];rfl
theorem ZcE {f:Nat -> Nat} {row:Row} (h:∀ r ∈ Zag row,f r = r):Zae f row = row:=by
 unfold Zae
 cases hc:row.clean with
 | true => rfl
 | false =>
  simp only [cond_false]
  rw [renL_ext (g:=fun r => r) row.elems (fun r hr => h r (by unfold Zag;rw [hc];exact hr)),renL_id,<- hc]
theorem ZdS {f:Nat -> Nat} {a:AV} (h:∀ r ∈ rowsA a,f r = r):renA f a = a:=by
 rw [renA_ext (g:=fun r => r) a h,renA_id]
theorem put_all {α:Type} (l xs:List α) (h:xs.length = l.length):Zdp l (List.range l.length) xs = xs:=by
 apply List.ext_getElem?
 intro i
 by_cases hi:i < l.length
 ·rw [ZdV (List.range l.length) l xs List.nodup_range i i xs[i] (by simp [hi]) (List.getElem?_eq_getElem (by omega)) hi,List.getElem?_eq_getElem (by omega)]
 ·rw [List.getElem?_eq_none (by rw [Zax];omega),List.getElem?_eq_none (by omega)]
theorem ZfL {S:St} {env:Vars} {tm:Array Value} (h:VRel S env tm) (ks:List Nat):VRel S (keepV ks env) tm:=by
 intro t
 have key:∀ ks:List Nat,Vars.get (keepV ks env) t = env.get t \/ Vars.get (keepV ks env) t = .any:=by
  intro ks
  induction ks with
  | nil => exact .inr rfl
  | cons x ks ih =>
   show (bif x == t then env.get x else Vars.get (keepV ks env) t) = _ \/ (bif x == t then env.get x else Vars.get (keepV ks env) t) = _
   cases hx:x == t with
   | true =>
    have:x = t:=by simpa using hx
    subst this;exact .inl rfl
   | false => exact ih
 rcases key ks with e | e
 ·rw [e];exact h t
 ·rw [e];exact .any _
theorem drop_sound {M:Mach} {f:FuncId} {args:List AV} {L:Heap} {v:AV} {K:Heap} (hk:ZgC L.length v K = true) (ih:OwnQ M f args L (KeepQ v K)):OwnQ M f args L (isR v K):=by
 unfold ZgC at hk
 simp only [Bool.and_eq_true,List.all_eq_true,Nat.blt_eq,Nat.beq_eq] at hk
 obtain ⟨hKl,hv,hK⟩:=hk
 intro S cargs h1 h2 h3
 subst h2
 have hrows:=ZdA S.L
 have hnd:(List.range S.L.length).Nodup:=List.nodup_range
 have hin:=refs_in h1
 have hcl:∀ row ∈ S.L,∀ r ∈ Zag row,r ∈ List.range S.L.length:=fun row hr r hrr => by simpa using hin row hr r hrr
 obtain ⟨hSc,_,hrelc⟩:=Zgm h1 hrows hnd hcl
 have hself:S.L.map (Zae (Zai (List.range S.L.length))) = S.L:=by
  have:S.L.map (Zae (Zai (List.range S.L.length))) = S.L.map id:=List.map_congr_left fun row hr => by
   rw [ZcE fun r hrr => ZcH (hin row hr r hrr)];rfl
  rw [this,List.map_id]
 have hrel':RelL ⟨S.base,Za7 S (List.range S.L.length),S.L.map (Zae (Zai (List.range S.L.length))),subβ S.β (List.range S.L.length),S.w⟩ args cargs:=by
  refine ⟨h3.1,fun i c cv hc hcv => ?_⟩
  have hri:=rel_in (h3.2 i c cv hc hcv)
  have:=hrelc c cv (h3.2 i c cv hc hcv) fun r hr => by simpa using hri r hr
  rwa [ZdS fun r hr => ZcH (hri r hr)] at this
 obtain ⟨m1,m2⟩:=ih _ cargs hSc hself hrel'
 refine ⟨m1,Calls.mono m2 fun e w' he => ?_⟩
 cases e with
 | panicked c => exact he.elim
 | outgrown => exact he.elim
 | returned cv =>
  obtain ⟨v',L1,β1,⟨rfl,hq⟩,n1,n2,n3⟩:=he
  rw [hKl] at hq
  have hlen:(List.range S.L.length).length = S.L.length:=List.length_range
  have hle:S.L.length <= L1.length:=by
   have:=congrArg List.length hq
   rw [List.length_take,hKl] at this
   omega
  have ho:Zav L1 (List.range (List.range S.L.length).length) = some K:=by
   rw [hlen,<- hq]
   have:=Zc8 L1 S.L.length hle
   rw [hq] at this ⊢
   exact this
  obtain ⟨k1,k2,k3⟩:=Zgb (S1:=⟨S.base,Za7 S (List.range S.L.length),L1,β1,w'⟩) (ns:=[]) (new:=[]) h1 hrows hnd hcl n1 n2 List.nodup_nil (by simp) ho rfl
   (fun row hr r hrr => .inl (by rw [hlen];exact hK row (by simpa using hr) r hrr))
  have hb:∀ r,r < S.L.length -> ZaG S.L.length (List.range S.L.length) [] r = r:=by
   intro r hr
   rw [ZeB (by rw [hlen];exact hr)];simp
  have hKK:ZaY S.L (List.range S.L.length) [] K [] = K:=by
   unfold ZaY
   rw [List.map_nil,List.append_nil]
   have:K.map (Zae (ZaG S.L.length (List.range S.L.length) [])) = K.map id:=List.map_congr_left fun row hr => by
    rw [ZcE fun r hrr => hb r (hK row hr r hrr)];rfl
   rw [this,List.map_id,put_all _ _ hKl]
  have k3':=k3 v' cv n3 fun r hr => .inl (by rw [hlen];exact hv r hr)
  rw [ZdS fun r hr => hb r (hv r hr)] at k3'
  rw [hKK] at k1 k2 k3'
  exact ⟨v',K,_,⟨rfl,rfl⟩,k1,k2,k3'⟩
theorem text_app {M:Mach} {call:Zas} {n:Nat} {ops:Array Oper} {ans:Nat -> Option Ans} {hot:Nat -> Nat} {Q:Exit -> Act -> World -> Prop} (l2:List Nat):∀ (l:List Nat) {s sf:RS} {S:St} {a:Act},Zak M.P M.inl call n ops ans hot l s = some sf ->
  (∀ b ∈ sf.asm,b = true) -> (∀ q ∈ sf.eqs,q) -> (∀ c ∈ sf.calls,c.cond = true -> ZbF M c) ->
  HeapOk S -> S.L = s.L -> TRel S s.env a.tmps -> n <= a.tmps.size ->
  (∀ S' a',HeapOk S' -> Ext S S' -> S'.L = sf.L -> TRel S' sf.env a'.tmps -> a'.tmps.size = a.tmps.size -> a'.defers = a.defers -> wpOps (M.P ()) ops Q l2 a' S'.w) ->
  wpOps (M.P ()) ops Q (l ++ l2) a S.w
 | [],s,sf,S,a,h,_,_,_,hS,hL,hT,_,hK => by
  simp only [Zak,Option.some.injEq] at h;subst h
  exact hK S a hS (Ext.refl S) hL hT rfl rfl
 | i :: rest,s,sf,S,a,h,hA,hQ,hC,hS,hL,hT,hn,hK => by
  rw [List.cons_append,wpOps_cons]
  simp only [Zak] at h
  cases ho:ops[i]? with
  | none =>
   rw [ho] at h
   unfold wpOp
   simp only [ho]
   exact text_app l2 rest h hA hQ hC hS hL hT hn hK
  | some o =>
   rw [ho] at h
   simp only at h
   cases h1:Za8 M.P M.inl call n ops (ans i) (hot i) o s with
   | none => rw [h1] at h;simp at h
   | some s1 =>
    rw [h1] at h
    simp only at h
    obtain ⟨env,L,x,y,z,rfl,_⟩:=ZaM _ h
    refine Zch hS hL hT hn ho h1 (fun b hb => hA b (by simp [hb])) (fun b hb => hQ b (by simp [hb])) (fun b hb => hC b (by simp [hb])) fun S' a' k1 k2 k3 k4 k5 k6 => ?_
    exact text_app l2 rest h hA hQ hC k1 k3 k4 (by rw [k5];exact hn) fun S'' a'' m1 m2 m3 m4 m5 m6 => hK S'' a'' m1 (k2.trans m2) m3 m4 (m5.trans k5) (m6.trans k6)
theorem range_split {n i:Nat} (h:i < n):List.range n = List.range i ++ i :: (List.range n).drop (i + 1):=by
 have h1:List.range i = (List.range n).take i:=by rw [List.take_range,Nat.min_eq_left (by omega)]
 have h2:(List.range n).drop i = i :: (List.range n).drop (i + 1):=by
  have h3:i < (List.range n).length:=by simpa using h
  rw [List.drop_eq_getElem_cons h3];simp
 rw [h1,<- h2,List.take_append_drop]
theorem nil_sound {M:Mach} {fi:Fi} {id i:Nat} {ops:Array Oper} {k:List Item} {env:Vars} {L:Heap} {Q:AV -> Heap -> Prop} {keep:List Nat} {s:Bool -> RS}
  (hr:∀ b,nilRun M.P M.inl fi.n ops i env L b = some (s b)) (hA:∀ b,(∀ x ∈ (s b).asm,x = true) /\ (s b).eqs = [] /\ (s b).calls = [])
  (ih:∀ b,ZaH M fi k (Zbe keep (s b).env) (s b).L Q):ZaH M fi (.code (.region id ops false) :: k) env L Q:=by
 refine ZaH.after fun S a h5 h6 h7 h8 => ?_
 refine ZdT ?_
 show wpOps (M.P ()) ops _ _ a S.w
 ·have h0:=hr true
  unfold nilRun at h0
  cases ho:ops[i]? with
  | none => simp [ho] at h0
  | some o =>
  cases hs1:Zak M.P M.inl (fun _ _ _ => none) fi.n ops (fun _ => none) (fun _ => 2) (List.range i) ⟨lift env,L,[],[],[]⟩ with
  | none => simp [hs1] at h0
  | some s1 =>
  simp only [ho,hs1] at h0
  cases hd:nilTest M.P s1.env o with
  | none => simp [hd] at h0
  | some d =>
  have hb:∀ t,∃ env1,putE fi.n (some d) [] (.bool t) s1.env = some env1 /\ Zak M.P M.inl (fun _ _ _ => none) fi.n ops (fun _ => none) (fun _ => 2) ((List.range ops.size).drop (i + 1)) ⟨env1,s1.L,s1.asm,s1.eqs,s1.calls⟩ = some (s t):=by
   intro t
   have ht:=hr t
   unfold nilRun at ht
   simp only [ho,hs1,hd] at ht
   split at ht
   ·rename_i env1 he;exact ⟨env1,he,ht⟩
   ·simp at ht
  have hin:(∀ x ∈ s1.asm,x = true) /\ s1.eqs = [] /\ s1.calls = []:=by
   obtain ⟨env1,_,ht⟩:=hb true
   obtain ⟨e2,L2,x,y,z,he,_⟩:=ZaM _ ht
   have:=hA true
   rw [he] at this
   simp only [List.append_eq_nil_iff] at this
   exact ⟨fun w hw => this.1 w (by simp [hw]),this.2.1.1,this.2.2.1⟩
  have hlt:i < ops.size:=(Array.getElem?_eq_some_iff.1 ho).1
  rw [range_split hlt]
  refine text_app _ (List.range i) hs1 hin.1 (by rw [hin.2.1];simp) (by rw [hin.2.2];simp) h5 h6 (ZbZ h7) h8 fun S' a' k1 k2 k3 k4 k5 k6 => ?_
  rw [wpOps_cons]
  have hρ:∀ x,Rel S' (ev s1.env [] x) (a'.eval x):=ev_rel k4 (by intro x hx;simp at hx)
  obtain ⟨n1,n2,t,n3⟩:=nilTest_runs hd (S:=S') hρ
  obtain ⟨env1,he,ht⟩:=hb t
  have hc:ZaV ops s1.env o = some (some []):=by unfold ZaV;rw [n1]
  obtain ⟨hco,hw⟩:=Zf4 k4 hc
  unfold wpOp
  simp only [ho]
  rw [hw]
  simp only [Zaj,if_true]
  left
  unfold Oper.wp
  rw [n3,Oper.upon_value,n2]
  have hput:=Zft (cv:=.bool t) k4 (by rw [k5];exact h8) hco he (fun _ => .data _ _ (.bool t)) (fun h => by simp [Zaj] at h)
  obtain ⟨p1,p2,p3⟩:=hA t
  refine Zby _ ht p1 (by rw [p2];simp) (by rw [p3];simp) k1 k3 hput (by rw [ZbU,k5];exact h8) fun S'' a'' m1 m2 m3 m4 m5 m6 => ?_
  exact ⟨S'',Zbe keep (s t).env,rfl,m1,k2.trans m2,m3.symm ▸ ih t,Za2 m4 keep,by rw [m5,ZbU,k5],by rw [m6];simpa [Act.put] using k6⟩
theorem both_sound {M:Mach} (hm:(M.P ()).follows .mixedOrders = true) {fi:Fi} {id:Nat} {ops:Array Oper} {env:Vars} {L:Heap} {call:Zas} {ans:Nat -> Option Ans} {hot:Bool -> Nat -> Nat} {keep rs:List Nat} {p:Nat} {e1:Vars} {L1:Heap} {asl:List Bool} {qs:List Prop} {cl:List CF}
  (hd:∀ t,Zew (hot t) ops p = true) (hr:∀ t,bothRun M.P M.inl call fi.n ops ans (hot t) keep rs p env L t = some (e1,L1,asl,qs,cl)) (hA:∀ b ∈ asl,b = true) (hQ:∀ q ∈ qs,q) (hC:∀ c ∈ cl,c.cond = true -> ZbF M c)
  {S:St} {a:Act} (h5:HeapOk S) (h6:S.L = L) (h7:VRel S env a.tmps) (h8:fi.n <= a.tmps.size) :
  RegR (M.P ()) id ops true (fun a' w' => ∃ S':St,S'.w = w' /\ HeapOk S' /\ Ext S S' /\ S'.L = L1 /\ VRel S' e1 a'.tmps /\ a'.tmps.size = a.tmps.size /\ a'.defers = a.defers) a S.w:=by
 refine regR_any hm ?_
 obtain ⟨n1,n2⟩:=Zb6 h5 (w':={ S.w with drawn:=S.w.drawn + 1 }) ⟨rfl,rfl,rfl,Nat.le_refl _,fun _ _ => rfl⟩ (fun _ _ => rfl)
 have hf:=hr false
 have ht:=hr true
 unfold bothRun at hf ht
 simp only at hf ht
 have hp1:p + 1 < ops.size:=by
  have hd:=hd false
  unfold Zew at hd
  simp only [Bool.and_eq_true] at hd
  have:=hd.2.1
  cases h:ops[p + 1]? with
  | none => rw [h] at this;simp at this
  | some o => exact (Array.getElem?_eq_some_iff.1 h).1
 split at hf
 ·rename_i s1 hs1
  simp only [Option.some.injEq,Prod.mk.injEq] at hf
  obtain ⟨f1,f2,f3,f4,f5⟩:=hf
  split at ht
  ·rename_i s2 hs2
   split at ht
   ·rename_i e2 K hn hall
    simp only [Option.some.injEq,Prod.mk.injEq] at ht
    obtain ⟨g1,g2,g3,g4,g5⟩:=ht
    subst g1 g2
    have hclosed:∀ (j:Nat) (o:Oper),ops[j]? = some o -> (Array.replicate ops.size false).getD j false = true -> ∀ e ∈ o.after,Region.binds .any e = true -> (Array.replicate ops.size false).getD e.on false = true:=by
     intro j o _ hj
     by_cases hlt:j < ops.size <;> simp [hlt] at hj
    refine draw_two (hd false) (hd true) ops.size (Array.replicate ops.size false) (List.range ops.size) ((List.range ops.size).map (sw p)) (S:=⟨S.base,S.acc,S.L,S.β,{ S.w with drawn:=S.w.drawn + 1 }⟩)
     ⟨by simp,List.pairwise_lt_range,fun i => ?_,hclosed,hs1⟩ ⟨by simp,?_,fun i => ?_,hclosed,hs2⟩ (by simp) (by simp)
     (by rw [f3];exact hA) (by rw [f4];exact hQ) (by rw [f5];exact hC) (by rw [g3];exact hA) (by rw [g4];exact hQ) (by rw [g5];exact hC) n1 h6 ((ZbZ h7).mono n2) h8
     (fun S' a' k1 k2 k3 k4 k5 k6 => ⟨S',rfl,k1,n2.trans k2,k3.trans f2,f1 ▸ Za2 k4 keep,k5,k6⟩)
     (fun S' a' k1 k2 k3 k4 k5 k6 => ?_)
    ·simp only [List.mem_range]
     constructor
     ·intro h;exact ⟨h,by simp [h]⟩
     ·intro h;exact h.1
    ·rw [List.pairwise_map]
     exact List.pairwise_lt_range.imp fun h => by rw [sw_sw,sw_sw];exact h
    ·simp only [List.mem_map,List.mem_range]
     constructor
     ·rintro ⟨j,h,rfl⟩
      have:=(sw_lt (i:=j) hp1).2 h
      exact ⟨this,by simp [this]⟩
     ·intro h;exact ⟨sw p i,(sw_lt hp1).2 h.1,sw_sw p i⟩
    ·unfold Za6 at hn
     split at hn
     ·rename_i rows hrows
      split at hn
      ·rename_i hc
       simp only [Option.some.injEq,Prod.mk.injEq] at hn
       obtain ⟨rfl,rfl⟩:=hn
       simp only [Bool.and_eq_true,List.all_eq_true,List.contains_iff_mem] at hc
       obtain ⟨hnd,ha,hcl⟩:=hc
       have hnd:=(ZaU rs).1 hnd
       simp only [Bool.and_eq_true,List.all_eq_true,List.mem_range] at hall
       rw [<- k3] at hrows
       obtain ⟨p1,p2,p3⟩:=perm_ok k1 n1 k2 hrows hnd hcl (fun r hr => by
        have:=hall.2 r (by rw [<- h6];exact hr)
        cases h:rs[r]? with
        | none => rw [h] at this;simp at this
        | some q => rw [h] at this;simp only [Nat.beq_eq] at this;rw [this])
       refine ⟨⟨S'.base,S'.acc,rows.map (Zae (Zai rs)),subβ S'.β rs,S'.w⟩,rfl,p1,n2.trans p2,rfl,fun t => ?_,k5,k6⟩
       rw [get_renV]
       exact p3 _ _ (Za2 k4 keep t) fun r hr => ha r (rows_get hr)
      ·simp at hn
     ·simp at hn
   ·simp at ht
  ·simp at ht
 ·simp at hf
theorem marks_out {P:Program} {S0:St}:∀ (Ds:List Nat) {S:St} {fr:Frame} {cs:List Frame},HeapOk S -> Ext S0 S -> S0.base <= S0.w.heap.size -> MarksOk S0.w.heap.size S.w Ds ->
  fr.mode = .returning -> fr.defers = Ds.map ZeK ->
  ∃ w',Steps P (lone fr cs S.w) (lone { fr with defers:=[] } cs w') /\ Near S.w w' /\ HeapOk ⟨S.base,S.acc,S.L,S.β,w'⟩ /\ Ext S0 ⟨S.base,S.acc,S.L,S.β,w'⟩
 | [],S,fr,cs,hS,he,_,_,h1,h2 => by
  have:({ fr with defers:=[] }:Frame) = fr:=by cases fr;simp at h2;subst h2;rfl
  rw [this]
  exact ⟨S.w,Steps.refl _ _,.refl _,hS,he⟩
 | D :: Ds,S,fr,cs,hS,he,hb,hm,h1,h2 => by
  obtain ⟨hnd,hD⟩:=hm
  obtain ⟨d1,d2⟩:=hD D (List.mem_cons_self ..)
  obtain ⟨p1,p3⟩:=ZdU (o':=.deferred none) hS d2 rfl rfl
  have p2:=put_ext (o':=.deferred none) d2 rfl rfl hb d1 he
  have hstep:=step_collected (P:=P) (fr:=fr) (cs:=cs) (w:=S.w) (d:=ZeK D) (r:=D) (ds:=Ds.map ZeK) (by rw [h1];simp) (by rw [h2];rfl) rfl (run_takeDeferred d2)
  obtain ⟨w',s1,s2,s3,s4⟩:=marks_out Ds (S:=⟨S.base,S.acc,S.L,S.β,S.w.putObj D (.deferred none)⟩) (fr:={ fr with defers:=[] ++ Ds.map ZeK }) (cs:=cs) p1 p2 hb
   ⟨(List.nodup_cons.1 hnd).2,fun D' h' => by
    obtain ⟨e1,e2⟩:=hD D' (List.mem_cons_of_mem _ h')
    have hne:D' ≠ D:=fun e => (List.nodup_cons.1 hnd).1 (e ▸ h')
    exact ⟨e1,(World.putObj_heap_other hne).trans e2⟩⟩ h1 rfl
  have near:∀ {w1 w2:World},Near w1 w2 -> ∀ {w0:World},Near w0 w1 -> Near w0 w2:=by
   intro w1 w2 h
   induction h with
   | refl => exact fun h => h
   | put o' _ q1 q2 q3 ih => exact fun h => .put o' (ih h) q1 q2 q3
  exact ⟨w',.head hstep s1,near s2 (.put _ (.refl _) d2 rfl rfl),s3,s4⟩
theorem own_of_run {M:Mach} {f:FuncId} {args:List AV} {L:Heap} {Q:AV -> Heap -> Prop} {fn:Func} {c:Code} (hf:(M.P ()).funcs[f]? = some fn) (hb:fn.body = some c) (hn:(fn.name == "runtime.NumGoroutine") = false)
  (ih:ZaH M ⟨fn.ntmps,fn.results.toList⟩ [.code c] (Zbi 0 args) L Q):OwnQ M f args L Q:=by
 intro S cargs hS hL hr
 refine ⟨call_runs hf hb hn,fun cs => ?_⟩
 let b:Frame:={ (default:Frame) with fn:=f,kind:=.normal,roundOf:=none }
 let a:Act:={ tmps:=⟨cargs⟩ ++ Array.replicate (fn.ntmps - (⟨cargs⟩:Array Value).size) undef,defers:=[] }
 have henter:Frame.enter (M.P ()) f ⟨cargs⟩ .normal = b.atR a [.code c]:=by
  simp [Frame.enter,Frame.atR,hf,hb,b,a]
 obtain ⟨a',todo',Ds,w',β',v,L',hq,g1,g2,k1,k2,k3,k4,k5,k6⟩:=ih S b a cs fn hf rfl rfl (.inl rfl) hS hL (enter_rel _ hr) (by simp [a];omega)
 have hout:step (M.P ()) (lone (b.atR a' todo') cs w') = .next (lone { b.atR a' todo' with mode:=.returning } cs w'):=by
  rcases g1 with rfl | ⟨k,rfl⟩
  ·exact stepR_end rfl
  ·exact stepR_ret rfl
 have hd:a'.defers = Ds.map ZeK:=by rw [k2];simp [a]
 obtain ⟨w2,s1,s2,s3,s4⟩:=marks_out (P:=M.P ()) (S0:=S) Ds (S:=⟨S.base,S.acc,L',β',w'⟩) (fr:={ b.atR a' todo' with mode:=.returning }) (cs:=cs) k5 k6 hS.base k3 rfl hd
 obtain ⟨cv,z1,z2⟩:=k4 w2 s2
 rw [<- henter] at k1
 exact ⟨.returned cv,w2,_,⟨v,L',β',hq,s3,s4,z2⟩,Steps.trans k1 (.head hout s1),rfl,rfl,rfl,rfl,fn,hf,z1⟩
theorem Zbj {M:Mach} (hm:(M.P ()).follows .mixedOrders = true) {c:Conf} {Q:AV -> Heap -> Prop} (h:Wp M c Q):Means M c Q:=by
 induction h with
 | skip _ ih => exact ZaH.step ih (fun h => by simpa [Zcp,ZdM,Zb4] using h) fun b a cs S _ => stepR_skip
 | seq _ ih => exact ZaH.step ih (fun h => by simp only [Zcp,List.all_cons,ZdM,Zb4,Bool.and_eq_true] at h ⊢;exact ⟨h.1.1,h.1.2,h.2⟩) fun b a cs S _ => stepR_seq
 | @cond fi c x y k env L Q t ht _ ih =>
  refine ZaH.step ih (fun h => ?_) fun b a cs S hV => ?_
  ·simp only [Zcp,List.all_cons,ZdM,Zb4,Bool.and_eq_true] at h ⊢
   cases t with
   | true => exact ⟨h.1.1,h.2⟩
   | false => exact ⟨h.1.2,h.2⟩
  have:=ZeW (a:=a) hV c
  rw [ht] at this
  have hc:=Zbb this
  cases t with
  | true => exact stepR_cond (t:=true) hc
  | false => exact stepR_cond (t:=false) hc
 | block _ ih => exact ZaH.step ih (fun h => by simpa [Zcp,ZdM,Zb4] using h) fun b a cs S _ => stepR_block
 | inBlock _ ih => exact ZaH.step ih (fun h => by simpa [Zcp,ZdM,Zb4] using h) fun b a cs S _ => stepR_inBlock
 | loop _ ih => exact ZaH.step ih (fun h => by simp only [Zcp,List.all_cons,ZdM,Zb4,Bool.and_eq_true] at h ⊢;exact ⟨h.1,h.1,h.2⟩) fun b a cs S _ => stepR_loop
 | inLoop _ ih => exact ZaH.step ih (fun h => by simp only [Zcp,List.all_cons,ZdM,Zb4,Bool.and_eq_true] at h ⊢;exact ⟨h.1,h.1,h.2⟩) fun b a cs S _ => stepR_inLoop
 | exit he _ ih => exact ZaH.step ih (fun h => Zfg he (by simpa [Zcp,ZdM,Zb4] using h)) fun b a cs S _ => stepR_exit he
 | @region fi id ops draw k env L Q0 call ans hot keep s hd hr hA hQ ho hp _ iho ihp ih =>
  have hC:∀ c ∈ s.calls,c.cond = true -> ZbF M c:=by
   intro c hc hcc
   unfold ZbF
   cases hown:c.own with
   | true => exact OwnQ.snd (iho c hc hcc hown)
   | false => exact PureR.snd (ihp c hc hcc hown)
  refine ZaH.after fun S a h5 h6 h7 h8 => ?_
  cases draw with
  | false =>
   exact ZdT (Zby _ hr hA hQ hC h5 h6 (ZbZ h7) h8 fun S' a' k1 k2 k3 k4 k5 k6 => ⟨S',_,rfl,k1,k2,k3.symm ▸ ih,Za2 k4 keep,k5,k6⟩)
  | true =>
   refine regR_any hm ?_
   obtain ⟨n1,n2⟩:=Zb6 h5 (w':={ S.w with drawn:=S.w.drawn + 1 }) ⟨rfl,rfl,rfl,Nat.le_refl _,fun _ _ => rfl⟩ (fun _ _ => rfl)
   refine draw_sound (hd rfl) ops.size (Array.replicate ops.size false) (List.range ops.size) (S:=⟨S.base,S.acc,S.L,S.β,{ S.w with drawn:=S.w.drawn + 1 }⟩) (by simp) List.pairwise_lt_range (fun i => ?_) (fun j o _ hj => ?_) (by simp) hr hA hQ hC n1 h6 ((ZbZ h7).mono n2) h8 fun S' a' k1 k2 k3 k4 k5 k6 => ⟨S',_,rfl,k1,n2.trans k2,k3.symm ▸ ih,Za2 k4 keep,k5,k6⟩
   ·simp only [List.mem_range]
    constructor
    ·intro h;exact ⟨h,by simp [h]⟩
    ·intro h;exact h.1
   ·by_cases hlt:j < ops.size <;> simp [hlt] at hj
 | @both fi id ops k env L Q0 call ans hot keep rs p e1 L1 asl qs cl hd hr hA hQ ho hp _ iho ihp ih =>
  have hC:∀ c ∈ cl,c.cond = true -> ZbF M c:=by
   intro c hc hcc
   unfold ZbF
   cases hown:c.own with
   | true => exact OwnQ.snd (iho c hc hcc hown)
   | false => exact PureR.snd (ihp c hc hcc hown)
  refine ZaH.after fun S a h5 h6 h7 h8 b k2 cs hb => ?_
  obtain ⟨a',w',⟨S',e0,n1,n2,n3,n4,n5,n6⟩,hs⟩:=both_sound hm hd hr hA hQ hC h5 h6 h7 h8 b k2 cs hb
  exact ⟨a',w',⟨S',e1,e0,n1,n2,n3.symm ▸ ih,n4,n5,n6⟩,hs⟩
 | @ret fi k env L v Q hf hq =>
  intro S b a cs fn h1 h2 h3 h4 h5 h6 h7 h8
  subst h6
  have hn:b.roundOf = none:=by
   rcases h4 with h | h
   ·exact h
   ·simp [Zcp,ZdM,Zb4] at h
  exact ⟨a,_,[],S.w,S.β,v,_,hq,.inr ⟨k,rfl⟩,.inl hn,Steps.refl _ _,rfl,⟨.nil,by simp⟩,fun w'' hne => ZeN (S:=⟨S.base,S.acc,S.L,S.β,w''⟩) (near_ok hne h5) (fun t => Rel.at (ZfF hne) (h7 t)) h2 hf,h5,Ext.refl S⟩
 | @done fi env L v Q hf hq =>
  intro S b a cs fn h1 h2 h3 h4 h5 h6 h7 h8
  subst h6
  exact ⟨a,_,[],S.w,S.β,v,_,hq,.inl rfl,.inr ⟨rfl,rfl⟩,Steps.refl _ _,rfl,⟨.nil,by simp⟩,fun w'' hne => ZeN (S:=⟨S.base,S.acc,S.L,S.β,w''⟩) (near_ok hne h5) (fun t => Rel.at (ZfF hne) (h7 t)) h2 hf,h5,Ext.refl S⟩
 | @own f args L Q fn c hf hb hn _ ih => exact own_of_run hf hb hn ih
 | @pure f args Q _ ih =>
  intro base acc w cargs hb hac hr
  have hS:HeapOk ⟨base,acc,[],[],w⟩:=⟨hb,rfl,by simp,by simp,by simp,by simp,by simp,by simp,by simp,by simp,fun b off h => hac b off (Nat.le_trans hb h)⟩
  obtain ⟨k1,k2⟩:=ih ⟨base,acc,[],[],w⟩ cargs hS rfl hr
  refine ⟨k1,Calls.mono k2 fun e w' he => ?_⟩
  cases e with
  | returned cv =>
   obtain ⟨v,L',β',⟨d,d',hd,hv,hcl,hw,hq⟩,m1,m2,m3⟩:=he
   refine ⟨d',hq,m2.below,ZeU hw (pure_rel (S:=⟨base,acc,L',β',w'⟩) (S':=⟨base,acc,[],[],w'⟩) m1 rfl (fun b off hi _ => ?_) v m3 hd hv fun r hr row info q1 q2 off _ _ => ?_)⟩
   ·exact ⟨hi.1,by simp⟩
   ·exact ⟨m1.acq r info off q2,by simp⟩
  | panicked c => exact he.elim
  | outgrown => exact he.elim
 | @narrow fi k env L Q rs env' Lc hn _ ih => exact narrow_sound hn ih
 | @drop f args L v K hk _ ih => exact drop_sound hk ih
 | @less fi k env L Q ks _ ih => exact fun S b a cs fn h1 h2 h3 h4 h5 h6 h7 h8 => ih S b a cs fn h1 h2 h3 h4 h5 h6 (ZfL h7 ks) h8
 | @nilq fi id ops k env L Q i keep s hr hA _ ih => exact nil_sound hr hA ih
 | sem h => exact h
 | @mono c Q Q' _ hq ih =>
  cases c with
  | run fi todo env L =>
   intro S b a cs fn h1 h2 h3 h4 h5 h6 h7 h8
   obtain ⟨a',todo',Ds,w',β',v,L',hqq,k⟩:=ih S b a cs fn h1 h2 h3 h4 h5 h6 h7 h8
   exact ⟨a',todo',Ds,w',β',v,L',hq v L' hqq,k⟩
  | own f args L =>
   intro S cargs h1 h2 h3
   obtain ⟨k1,k2⟩:=ih S cargs h1 h2 h3
   refine ⟨k1,Calls.mono k2 fun e w' he => ?_⟩
   cases e with
   | returned cv =>
    obtain ⟨v,L',β',hqq,m⟩:=he
    exact ⟨v,L',β',hq v L' hqq,m⟩
   | panicked c => exact he.elim
   | outgrown => exact he.elim
  | pure f args =>
   intro base acc w cargs h1 h2 h3
   obtain ⟨k1,k2⟩:=ih base acc w cargs h1 h2 h3
   refine ⟨k1,Calls.mono k2 fun e w' he => ?_⟩
   cases e with
   | returned cv =>
    obtain ⟨d,hqq,m⟩:=he
    exact ⟨d,hq d [] hqq,m⟩
   | panicked c => exact he.elim
   | outgrown => exact he.elim
 | @weak f args v d _ hw ih =>
  intro base acc w cargs hb hac hr
  obtain ⟨k1,k2⟩:=ih base acc w cargs hb hac hr
  refine ⟨k1,Calls.mono k2 fun e w' he => ?_⟩
  cases e with
  | returned cv =>
   obtain ⟨d0,⟨rfl,_⟩,m1,m2⟩:=he
   exact ⟨d,⟨rfl,rfl⟩,m1,ZeU hw m2⟩
  | panicked c => exact he.elim
  | outgrown => exact he.elim
theorem ev_sound {M:Mach} (hm:(M.P ()).follows .mixedOrders = true) {f:FuncId} {args:List AV} {v:AV} (h:Ev M (.pure f args) v []):Zgf M f args v:=
 PureR.snd (Zbj hm h)
end Go.Av

namespace Go.Av
open Go.RowKit Go.WideShapes Go.ChangeShapes
def TyL (R:TypeId -> List AV -> Prop):List TypeId -> List AV -> Prop
 | [],cs => cs = []
 | t :: ts,cs => ∃ a b,cs = a ++ b /\ R t a /\ TyL R ts b
def aggT (P:Program) (t:TypeId):Bool:=
 match P.underlying t with
 | some (.struct _) | some (.array _ _) => true
 | _ => false
def Zc0 (P:Program) (t:TypeId) (cs:List AV):AV:=if aggT P t=true then .agg cs else cs.headD .any
def Ty (P:Program):Nat -> TypeId -> List AV -> Prop
 | 0,_,_ => False
 | n + 1,t,cs =>
  match P.underlying t with
  | some .bool => ∃ b,cs = [.bool b]
  | some (.int k) => ∃ m,cs = [.int k m] /\ k.min <= m /\ m <= k.max
  | some .string => ∃ s,cs = [.str s] /\ s.length <= maxLen
  | some (.slice e) => ∃ xs,cs = [.vec false (P.cellsOf e) xs] /\ xs.length <= maxLen /\ ∀ x ∈ xs,∃ ys,Ty P n e ys /\ x = Zc0 P e ys
  | some (.struct fs) => TyL (Ty P n) (fs.toList.map (·.type)) cs
  | some (.array m e) => TyL (Ty P n) (List.replicate m e) cs
  | _ => False
def Zd6 (P:Program):Nat -> List Field -> Nat -> Bool
 | off,[],n => off == n
 | off,f :: fs,n => f.offset == off && Zd6 P (off + P.cellsOf f.type) fs n
def ZcV (P:Program):Nat -> TypeId -> Bool
 | 0,_ => false
 | n + 1,t =>
  match P.underlying t with
  | some .bool | some (.int _) | some .string => P.cellsOf t == 1
  | some (.slice e) => P.cellsOf t == 1 && ZcV P n e && Nat.blt 0 (P.cellsOf e)
  | some (.struct fs) => (fs.toList.all fun f => ZcV P n f.type) && Zd6 P 0 fs.toList (P.cellsOf t)
  | some (.array m e) => ZcV P n e && P.cellsOf t == m * P.cellsOf e
  | _ => false
def S0 (w:World):St:=⟨w.heap.size,fun _ _=>True,[],[],w⟩
structure RelD (w:World) (axs:List AV) (cs:List Value):Prop where
 len:axs.length = cs.length
 plain:axs.all AV.plain = true
 rel:∀ (i:Nat) a c,axs[i]? = some a -> cs[i]? = some c -> DRel (S0 w) a c
theorem RelD.append {w:World} {axs bs:List AV} {cs ds:List Value} (h:RelD w axs cs) (k:RelD w bs ds):RelD w (axs ++ bs) (cs ++ ds):=by
 refine ⟨by simp [h.len,k.len],by simp [List.all_append,h.plain,k.plain],fun i a c ha hc => ?_⟩
 by_cases hi:i < axs.length
 ·rw [List.getElem?_append_left hi] at ha
  rw [List.getElem?_append_left (by rw [<- h.len];exact hi)] at hc
  exact h.rel i a c ha hc
 ·rw [List.getElem?_append_right (by omega)] at ha
  rw [List.getElem?_append_right (by have:=h.len;omega),<- h.len] at hc
  exact k.rel _ a c ha hc
theorem RelD.one {w:World} {a:AV} {c:Value} (hp:a.plain = true) (h:DRel (S0 w) a c):RelD w [a] [c]:=
 ⟨rfl,by simp [hp],fun i x y hx hy => by cases i with
  | zero => simp at hx hy;subst hx;subst hy;exact h
  | succ i => simp at hx⟩
theorem list_of {α:Type} {R:Nat -> α -> Prop}:∀ (n:Nat),(∀ i,i < n -> ∃ x,R i x) -> ∃ xs:List α,xs.length = n /\ ∀ (i:Nat) x,xs[i]? = some x -> R i x
 | 0,_ => ⟨[],rfl,by simp⟩
 | n + 1,h => by
  obtain ⟨xs,h1,h2⟩:=list_of n (fun i hi => h i (by omega))
  obtain ⟨x,hx⟩:=h n (by omega)
  refine ⟨xs ++ [x],by simp [h1],fun i y hy => ?_⟩
  by_cases hi:i < xs.length
  ·rw [List.getElem?_append_left hi] at hy;exact h2 i y hy
  ·rw [List.getElem?_append_right (by omega)] at hy
   have:i = n:=by
    have:=(List.getElem?_eq_some_iff.1 hy).1
    simp at this;omega
   subst this
   rw [h1] at hy
   simp at hy;subst hy;exact hx
section
variable {H:Type} {enc:TypeId × Value->H} {P:Program} {w:World} {sp:Nat->Bool} {held:Bool}
theorem Zgv {R:TypeId -> List AV -> Prop}:∀ (fs:List Field) (off:Nat) (cs:List Value),Zd6 P off fs cs.length = true ->
  (∀ f ∈ fs,∃ axs,R f.type axs /\ RelD w axs ((cs.drop f.offset).take (P.cellsOf f.type)) /\ ((cs.drop f.offset).take (P.cellsOf f.type)).length = P.cellsOf f.type) ->
  ∃ axs,TyL R (fs.map (·.type)) axs /\ RelD w axs (cs.drop off)
 | [],off,cs,hl,_ => by
  simp only [Zd6,beq_iff_eq] at hl
  refine ⟨[],rfl,?_⟩
  rw [List.drop_eq_nil_of_le (by omega)]
  exact ⟨rfl,rfl,by simp⟩
 | f :: fs,off,cs,hl,h => by
  simp only [Zd6,Bool.and_eq_true,beq_iff_eq] at hl
  obtain ⟨rfl,hl⟩:=hl
  obtain ⟨axs,h1,h2,h3⟩:=h f (List.mem_cons_self ..)
  obtain ⟨bs,k1,k2⟩:=Zgv fs _ cs hl (fun g hg => h g (List.mem_cons_of_mem _ hg))
  refine ⟨axs ++ bs,⟨axs,bs,rfl,h1,k1⟩,?_⟩
  have:=h2.append k2
  rwa [<- List.drop_drop,List.take_append_drop] at this
theorem read_same {R:TypeId -> List AV -> Prop} {e:TypeId} {z:Nat}:∀ (m:Nat) (cs:List Value),cs.length = m * z ->
  (∀ i,i < m -> ∃ axs,R e axs /\ RelD w axs ((cs.drop (i * z)).take z)) -> ∃ axs,TyL R (List.replicate m e) axs /\ RelD w axs cs
 | 0,cs,hl,_ => by
  have:cs = []:=List.length_eq_zero_iff.1 (by simpa using hl)
  subst this
  exact ⟨[],rfl,rfl,rfl,by simp⟩
 | m + 1,cs,hl,h => by
  obtain ⟨axs,h1,h2⟩:=h 0 (by omega)
  simp only [Nat.zero_mul,List.drop_zero] at h2
  obtain ⟨bs,k1,k2⟩:=read_same (R:=R) (e:=e) (z:=z) m (cs.drop z) (by simp [hl,Nat.add_mul]) fun i hi => by
   obtain ⟨axs,q1,q2⟩:=h (i + 1) (by omega)
   refine ⟨axs,q1,?_⟩
   rw [List.drop_drop]
   have:z + i * z = (i + 1) * z:=by rw [Nat.add_mul];omega
   rw [this];exact q2
  refine ⟨axs ++ bs,⟨axs,bs,rfl,h1,k1⟩,?_⟩
  have:=h2.append k2
  rwa [List.take_append_drop] at this
theorem Zdh:∀ (n:Nat) (t:TypeId) (cs:List Value) (x:DataW H × List MemPlace) (fuel:Nat),ZcV P n t = true -> DataW.trod enc P w 0 sp held fuel t cs = some x ->
  ∃ axs,Ty P n t axs /\ RelD w axs cs /\ cs.length = P.cellsOf t
 | 0,t,cs,x,fuel,hs,_ => by simp [ZcV] at hs
 | n + 1,t,cs,x,fuel,hs,hx => by
  unfold ZcV at hs
  unfold Ty
  split at hs
  ·rename_i hu
   try simp only [hu]
   obtain ⟨b,rfl,_⟩:=DataW.trod_bool hu hx
   exact ⟨[.bool b],⟨b,rfl⟩,.one rfl (.bool b),by simp only [beq_iff_eq] at hs;exact hs.symm⟩
  ·rename_i k hu
   try simp only [hu]
   obtain ⟨m,rfl,_,hw⟩:=DataW.trod_int hu hx
   simp only [Lit.wf,Bool.and_eq_true,decide_eq_true_eq] at hw
   exact ⟨[.int k m],⟨m,rfl,hw.1,hw.2⟩,.one rfl (.int k m),by simp only [beq_iff_eq] at hs;exact hs.symm⟩
  ·rename_i hu
   try simp only [hu]
   obtain ⟨s,rfl,_,hw⟩:=DataW.trod_string hu hx
   obtain ⟨⟨l⟩⟩:=s
   exact ⟨[.str l],⟨l,rfl,hw⟩,.one rfl (.str l),by simp only [beq_iff_eq] at hs;exact hs.symm⟩
  ·rename_i e hu
   try simp only [hu]
   simp only [Bool.and_eq_true,beq_iff_eq,Nat.blt_eq] at hs
   obtain ⟨⟨hs1,hs2⟩,hs3⟩:=hs
   rcases DataW.trod_slice hu hx with ⟨rfl,_⟩ | ⟨a,len,cap,elems,rest,m,_,rfl,_,_,hlc,hcm,hel,hall,_,_⟩
   ·exact ⟨[.vec false (P.cellsOf e) []],⟨[],rfl,by simp,by simp⟩,.one rfl (.vecE _ _ _ _ (by simp)),hs1.symm⟩
   ·have hget:∀ i,i < len -> ∃ x:AV,∃ ys cs',Ty P n e ys /\ x = Zc0 P e ys /\ RelD w ys cs' /\ cs'.length = P.cellsOf e /\ w.cells? 0 (a.add (i * P.cellsOf e)) (P.cellsOf e) = some cs':=by
     intro i hi
     have h1:=hall i hi
     rw [List.getElem?_eq_getElem (by omega)] at h1
     obtain ⟨cs',h2,h3⟩:=Option.bind_eq_some_iff.1 h1
     obtain ⟨ys,k1,k2,k3⟩:=Zdh n e cs' _ m hs2 h3
     exact ⟨_,ys,cs',k1,rfl,k2,k3,h2⟩
    obtain ⟨xs,hxl,hxs⟩:=list_of len hget
    have hpack:∀ {ys:List AV} {cs':List Value},Ty P n e ys -> RelD w ys cs' -> cs'.length = P.cellsOf e -> (Zc0 P e ys).cells = ys:=by
     intro ys cs' hty hrd hl
     unfold Zc0
     split
     ·rfl
     ·rename_i hagg
      have h1:∃ y,ys = [y]:=by
       cases n with
       | zero => simp [ZcV] at hs2
       | succ n =>
        unfold Ty at hty
        unfold aggT at hagg
        split at hty
        ·obtain ⟨b,rfl⟩:=hty;exact ⟨_,rfl⟩
        ·obtain ⟨b,rfl,_⟩:=hty;exact ⟨_,rfl⟩
        ·obtain ⟨b,rfl,_⟩:=hty;exact ⟨_,rfl⟩
        ·obtain ⟨b,rfl,_⟩:=hty;exact ⟨_,rfl⟩
        ·rename_i hu';simp [hu'] at hagg
        ·rename_i hu';simp [hu'] at hagg
        ·exact hty.elim
      obtain ⟨y,rfl⟩:=h1
      have:=hrd.plain
      simp only [List.all_cons,List.all_nil,Bool.and_true] at this
      simp only [List.headD_cons]
      cases y <;> first | rfl | simp [AV.plain] at this
    have hok:ZaX (P.cellsOf e) xs:=by
     intro i x hix
     obtain ⟨ys,cs',k1,rfl,k3,k4,_⟩:=hxs i x hix
     rw [hpack k1 k3 k4]
     exact ⟨k3.len.trans k4,k3.plain⟩
    refine ⟨[.vec false (P.cellsOf e) xs],⟨xs,rfl,by omega,fun x hx => ?_⟩,.one rfl ?_,hs1.symm⟩
    ·obtain ⟨i,hi⟩:=List.getElem?_of_mem hx
     obtain ⟨ys,cs',k1,k2,_⟩:=hxs i x hi
     exact ⟨ys,k1,k2⟩
    ·subst hxl
     cases hxe:xs with
     | nil => exact .vecE _ _ _ _ (by simp)
     | cons x0 xs0 =>
      obtain ⟨b,off,spot⟩:=a
      have hlen0:0 < xs.length:=by rw [hxe];simp
      obtain ⟨ys0,cs0,_,_,_,z4,z5⟩:=hxs 0 xs[0] (List.getElem?_eq_getElem hlen0)
      obtain ⟨_,_,z6⟩:=World.cells?_some z5
      have z7:=z6 0 hs3
      rw [List.getElem?_eq_getElem (by omega)] at z7
      have hspot:spot = none:=by simpa [Addr.add] using World.cell?_spot z7
      subst hspot
      have hcell:∀ (i:Nat) x (k:Nat) c,xs[i]? = some x -> x.cells[k]? = some c -> ∃ cv,w.cell? ⟨b,off + i * P.cellsOf e + k,none⟩ = some cv /\ DRel (S0 w) c cv:=by
       intro i x k c hix hk
       obtain ⟨ys,cs',k1,rfl,k3,k4,k5⟩:=hxs i x hix
       rw [hpack k1 k3 k4] at hk
       obtain ⟨_,_,k6⟩:=World.cells?_some k5
       have hkl:k < ys.length:=(List.getElem?_eq_some_iff.1 hk).1
       have hkc:k < cs'.length:=by rw [<- k3.len];exact hkl
       have h1:=k6 k (by omega)
       rw [List.getElem?_eq_getElem hkc] at h1
       rw [ZaZ,ZaZ] at h1
       exact ⟨_,h1,k3.rel k c _ hk (List.getElem?_eq_getElem hkc)⟩
      rw [<- hxe]
      refine .vec false (P.cellsOf e) xs b off cap hok (by simp) hlc (fun i x k c hix hk => ?_) (fun i x k c cv hix hk hcv => ?_)
      ·obtain ⟨cv,h1,_⟩:=hcell i x k c hix hk
       exact ⟨⟨cv,h1⟩,⟨trivial,by simp [S0]⟩⟩
      ·obtain ⟨cv',h1,h2⟩:=hcell i x k c hix hk
       have:cv' = cv:=by
        have h3:w.cell? ⟨b,off + i * P.cellsOf e + k,none⟩ = some cv:=hcv
        rw [h1] at h3;exact Option.some.inj h3
       subst this;exact h2
  ·rename_i fs hu
   try simp only [hu]
   simp only [Bool.and_eq_true,List.all_eq_true] at hs
   obtain ⟨hs1,hs2⟩:=hs
   obtain ⟨xs,m,_,_,hl,hxl,hf⟩:=DataW.trod_struct hu hx
   obtain ⟨axs,k1,k2⟩:=Zgv (P:=P) (w:=w) (R:=Ty P n) fs.toList 0 cs (by rw [hl];exact hs2) fun f hfm => by
    obtain ⟨i,hi⟩:=List.getElem?_of_mem hfm
    have hi':fs[i]? = some f:=by simpa using hi
    have h1:=hf i f hi'
    have hilt:i < xs.length:=by rw [hxl];exact (Array.getElem?_eq_some_iff.1 hi').1
    rw [List.getElem?_eq_getElem hilt] at h1
    obtain ⟨axs,q1,q2,q3⟩:=Zdh n f.type _ _ m (hs1 f hfm) h1
    exact ⟨axs,q1,q2,q3⟩
   exact ⟨axs,k1,by simpa using k2,hl⟩
  ·rename_i m e hu
   try simp only [hu]
   simp only [Bool.and_eq_true,beq_iff_eq] at hs
   obtain ⟨hs1,hs2⟩:=hs
   obtain ⟨xs,q,_,_,hl,hxl,hf⟩:=DataW.trod_array hu hx
   obtain ⟨axs,k1,k2⟩:=read_same (w:=w) (R:=Ty P n) (e:=e) (z:=P.cellsOf e) m cs (by rw [hl,hs2]) fun i hi => by
    have h1:=hf i hi
    rw [List.getElem?_eq_getElem (by omega)] at h1
    obtain ⟨axs,q1,q2,_⟩:=Zdh n e _ _ q hs1 h1
    exact ⟨axs,q1,q2⟩
   exact ⟨axs,k1,k2,hl⟩
  ·simp at hs
theorem read_arg {n:Nat} {t:TypeId} {v:Value} {d:DataW H} {ps:List MemPlace} {r:Reach} {b0:Nat} (hs:ZcV P n t = true) (hval:Value.okWide P w r b0 t v) (hd:DataW.Trod enc P w 0 sp held t v d ps) :
  ∃ axs,Ty P n t axs /\ DRel (S0 w) (Zc0 P t axs) v:=by
 obtain ⟨fuel,hf⟩:=hd
 obtain ⟨axs,h1,h2,h3⟩:=Zdh n t _ _ fuel hs hf
 refine ⟨axs,h1,?_⟩
 unfold Zc0
 cases n with
 | zero => simp [ZcV] at hs
 | succ n =>
  have one:v.cells = #[v] -> (∃ a,axs = [a]) -> DRel (S0 w) (axs.headD .any) v:=by
   rintro hc ⟨a,rfl⟩
   exact h2.rel 0 a v rfl (by rw [hc];rfl)
  unfold Ty at h1
  unfold aggT
  split at h1
  ·rename_i hu
   obtain ⟨b,rfl⟩:=h1
   obtain ⟨b',rfl⟩:=okWide_bool hu hval
   simp only [hu,Bool.false_eq_true,if_false]
   exact one rfl ⟨_,rfl⟩
  ·rename_i hu
   obtain ⟨b,rfl,_⟩:=h1
   obtain ⟨b',rfl⟩:=okWide_int hu hval
   simp only [hu,Bool.false_eq_true,if_false]
   exact one rfl ⟨_,rfl⟩
  ·rename_i hu
   obtain ⟨b,rfl,_⟩:=h1
   obtain ⟨b',rfl⟩:=okWide_string hu hval
   simp only [hu,Bool.false_eq_true,if_false]
   exact one rfl ⟨_,rfl⟩
  ·rename_i hu
   obtain ⟨b,rfl,_⟩:=h1
   obtain ⟨b1,b2,b3,rfl⟩:=okWide_slice hu hval
   simp only [hu,Bool.false_eq_true,if_false]
   exact one rfl ⟨_,rfl⟩
  ·rename_i fs hu
   obtain ⟨cs,rfl,_⟩:=okWide_struct hu hval
   simp only [hu,if_true]
   obtain ⟨cs⟩:=cs
   exact .agg axs cs h2.len h2.rel
  ·rename_i m e hu
   have:∃ cs,v = .agg cs:=by
    unfold Value.okWide at hval
    rw [hu] at hval
    obtain ⟨cs,rfl,_⟩:=hval
    exact ⟨cs,rfl⟩
   obtain ⟨⟨cs⟩,rfl⟩:=this
   simp only [hu,if_true]
   exact .agg axs cs h2.len h2.rel
  ·exact h1.elim
end
theorem ty_int {P:Program} {n:Nat} {t:TypeId} {k:IntKind} {cs:List AV} (hu:P.underlying t = some (.int k)) (h:Ty P (n + 1) t cs):∃ m,cs = [.int k m] /\ k.min <= m /\ m <= k.max:=by
 unfold Ty at h;rw [hu] at h;exact h
theorem list_form {τ:Type} {enc:τ -> AV}:∀ (xs:List AV),(∀ x ∈ xs,∃ a,x = enc a) -> ∃ X:List τ,xs = X.map enc
 | [],_ => ⟨[],rfl⟩
 | x :: xs,h => by
  obtain ⟨a,rfl⟩:=h x (List.mem_cons_self ..)
  obtain ⟨X,rfl⟩:=list_form xs fun y hy => h y (List.mem_cons_of_mem _ hy)
  exact ⟨a :: X,rfl⟩
theorem ty_list {P:Program} {τ:Type} {enc:τ -> AV} {n:Nat} {t e:TypeId} {cs:List AV} (hu:P.underlying t = some (.slice e)) (he:∀ ys,Ty P n e ys -> ∃ a,Zc0 P e ys = enc a) (h:Ty P (n + 1) t cs) :
  ∃ X:List τ,cs = [.vec false (P.cellsOf e) (X.map enc)] /\ X.length <= maxLen:=by
 simp only [Ty,hu] at h
 obtain ⟨xs,rfl,hl,hx⟩:=h
 obtain ⟨X,rfl⟩:=list_form (enc:=enc) xs fun x hxm => by
  obtain ⟨ys,h1,rfl⟩:=hx x hxm
  obtain ⟨a,ha⟩:=he ys h1
  exact ⟨a,ha⟩
 exact ⟨X,rfl,by simpa using hl⟩
end Go.Av

namespace Go.Av
open Go.RowKit Go.WideShapes Go.ChangeShapes
section
variable {H:Type} {enc:TypeId × Value->H} {P:Program}
theorem all_stays (hl:laidOutB P = true) {W W':World} {sp:Nat -> Bool} (hb:Below W.heap.size W W'):∀ (ts:List TypeId) (vs:List Value) (ds:List (DataW H)) (ps:List MemPlace),
  (∀ t ∈ ts,P.readableRec t = true /\ t < P.types.size) -> (∀ x ∈ ps,x.block < W.heap.size) -> (∀ x ∈ ps,sp x.block = true) -> DataW.TrodAll enc P W 0 (fun _ => true) true ts vs ds ps -> DataW.TrodAll enc P W' 0 sp true ts vs ds ps
 | [],vs,ds,ps,_,_,_,h => by
  obtain ⟨rfl,rfl,rfl⟩:=trodAll_nil h
  rfl
 | t :: ts,vs,ds,ps,ht,hlt,hsp,h => by
  obtain ⟨v,vs,d,ds,p,q,rfl,rfl,rfl,h1,h2⟩:=trodAll_cons h
  obtain ⟨r1,r2⟩:=ht t (List.mem_cons_self ..)
  exact ⟨p,q,WideElems.Trod_stays hl r1 r2 h1 (fun x hx => hb.same (hlt x (by simp [hx]))) (fun x hx => hsp x (by simp [hx])),
   all_stays hl hb ts vs ds q (fun t ht' => ht t (List.mem_cons_of_mem _ ht')) (fun x hx => hlt x (by simp [hx])) (fun x hx => hsp x (by simp [hx])) h2,rfl⟩
theorem args_read {W:World} {n base:Nat}:∀ (ts:List TypeId) (vs:List Value) (ds:List (DataW H)) (ps:List MemPlace),(∀ t ∈ ts,ZcV P n t = true) ->
  (∀ (j:Nat) t v,ts[j]? = some t -> vs[j]? = some v -> Value.okWide P W .any base t v) -> DataW.TrodAll enc P W 0 (fun _ => true) true ts vs ds ps ->
  ∃ ass:List (List AV),ass.length = ts.length /\ (∀ (j:Nat) t bs,ts[j]? = some t -> ass[j]? = some bs -> Ty P n t bs) /\ RelL (S0 W) ((ts.zip ass).map fun x => Zc0 P x.1 x.2) vs /\ ds.length = ts.length
 | [],vs,ds,ps,_,_,h => by
  obtain ⟨rfl,rfl,rfl⟩:=trodAll_nil h
  exact ⟨[],rfl,by simp,.nil _,rfl⟩
 | t :: ts,vs,ds,ps,hs,hv,h => by
  obtain ⟨v,vs,d,ds,p,q,rfl,rfl,rfl,h1,h2⟩:=trodAll_cons h
  obtain ⟨bs,k1,k2⟩:=read_arg (hs t (List.mem_cons_self ..)) (hv 0 t v rfl rfl) h1
  obtain ⟨ass,m1,m2,m3,m4⟩:=args_read ts vs ds q (fun t ht => hs t (List.mem_cons_of_mem _ ht)) (fun j t v hj hv' => hv (j + 1) t v (by simpa using hj) (by simpa using hv')) h2
  refine ⟨bs :: ass,by simp [m1],fun j t' bs' hj ha => ?_,.cons (.data _ _ k2) m3,by simp [m4]⟩
  cases j with
  | zero => simp at hj ha;subst hj;subst ha;exact k1
  | succ j => exact m2 j t' bs' (by simpa using hj) (by simpa using ha)
theorem law_post {M:Mach} (hP:M.P () = P) (hm:P.follows .mixedOrders = true) (hl:laidOutB P = true) {f:FuncId} {F:Func} {s:ChangeSpec} {n:Nat} {tb:TypeId} (hvars:s.vars = []) (hrt:F.resultTypes = #[tb]) (htb:P.underlying tb = some .bool)
  (hserved:∀ t ∈ F.params.toList,ZcV P n t = true /\ P.readableRec t = true /\ t < P.types.size)
  (hs:∀ (ds:List (DataW H)),ds.length = F.params.toList.length -> s.fn H ds = { results:=[.lit (.bool true)],args:=ds })
  (hev:∀ ass:List (List AV),ass.length = F.params.toList.length -> (∀ (j:Nat) t bs,F.params.toList[j]? = some t -> ass[j]? = some bs -> Ty P n t bs) ->
   Ev M (.pure f ((F.params.toList.zip ass).map fun x => Zc0 P x.1 x.2)) (.bool true) [])
  {apart handsOn:Bool} {W:World} {base:Nat} {args:Array Value} {ds gs:List (DataW H)} {before:List MemPlace}
  (hval:∀ (j:Nat) t v,F.params[j]? = some t -> args[j]? = some v -> Value.okWide P W .any base t v) (hW:DataW.Whole enc P F.params.toList s.vars apart W args.toList ds gs before) :
  Calls P f args W fun e W' => ∃ v,e = .returned v /\ s.post enc P F apart true handsOn false W args v W':=by
 have hW':=hW
 obtain ⟨p,q,hA,hV,rfl,hfz,hnd⟩:=hW
 rw [hvars] at hV
 obtain ⟨rfl,rfl⟩:=trodVars_none hV
 obtain ⟨ass,k1,k2,k3,k4⟩:=args_read F.params.toList args.toList ds p (fun t ht => (hserved t ht).1) (fun j t v hj hv => hval j t v (by simpa using hj) (by simpa using hv)) hA
 have hlt:∀ x ∈ p,x.block < W.heap.size:=fun x hx => by simpa using hW'.lt x (by simpa using hx)
 obtain ⟨_,h2⟩:=(ev_sound (M:=M) (by rw [hP];exact hm) (hev ass k1 k2):Zgf M f _ _) W.heap.size (fun _ _ => True) W args.toList (Nat.le_refl _) (fun _ _ _ => trivial) k3
 rw [hP] at h2
 refine Calls.mono h2 fun e W' he => ?_
 cases e with
 | returned cv =>
  obtain ⟨hb,hd⟩:=he
  cases hd
  have hpl:∀ x ∈ p,decide (x.block < W.heap.size) = true:=fun x hx => by simpa using hlt x hx
  refine ⟨_,rfl,ds,[],p ++ [],[],p,[],hW',?_,?_,?_,hb.frame _,fun h => by simp at h⟩
  ·rw [List.append_nil,hs ds k4,hrt]
   exact trodAll_mk1 (shut_bool htb true)
  ·rw [List.append_nil,hs ds k4]
   exact all_stays hl hb _ _ _ _ (fun t ht => (hserved t ht).2) hlt hpl hA
  ·rw [List.append_nil,hs ds k4,hvars];rfl
 | panicked c => exact he.elim
 | outgrown => exact he.elim
end
end Go.Av

namespace Go.Av
def Zan (d:AV):AV->Heap->Prop:=fun v L => ∃ d0,pureA L v=some d0/\allB (versA L v)/\d0.clean=true/\Weak d0 d
theorem pq_weak {L:Heap} {v d dq:AV} {bs:List Bool} (h1:pureA L v=some d) (h2:versA L v=bs) (h3:allB bs) (h4:d.clean=true) (h:Weak d dq):Zan dq v L:=⟨d,h1,by rw [h2];exact h3,h4,h⟩
theorem pure_pq {M:Mach} {f:FuncId} {args:List AV} {d:AV} (fn:Func) (fi:Fi) (hf:(M.P ()).funcs[f]? = some fn) (hb:fn.body = some (cd fn)) (hn:(fn.name == "runtime.NumGoroutine") = false)
  (hi:(⟨fn.ntmps,fn.results.toList⟩:Fi) = fi) (h:Wp M (.run fi [.code (cd fn)] (Zbi 0 args) []) (Zan d)):Ev M (.pure f args) d []:=
 .pure (.mono (Zgz fn fi hf hb hn hi h) fun _ _ ⟨d0,h1,h2,h3,h4⟩ => ⟨d0,d,h1,(Zbv _).1 h2,h3,h4,rfl,rfl⟩)
mutual
theorem clean_ren (f:Nat -> Nat):∀ (a:AV),a.clean = true -> renA f a = a
 | .any,h => by simp [AV.clean] at h
 | .bool _,_ => rfl
 | .int _ _,_ => rfl
 | .str _,_ => rfl
 | .flt _,_ => rfl
 | .nilp,_ => rfl
 | .nilf,_ => rfl
 | .nilm,_ => rfl
 | .mapr _,h => by simp [AV.clean] at h
 | .vnil,_ => rfl
 | .eptr ..,_ => rfl
 | .vec ..,_ => rfl
 | .ptr ..,h => by simp [AV.clean] at h
 | .row ..,h => by simp [AV.clean] at h
 | .ref ..,h => by simp [AV.clean] at h
 | .agg cs,h => by simp only [renA,cleanL_ren f cs (by simpa [AV.clean] using h)]
 | .tup cs,h => by simp only [renA,cleanL_ren f cs (by simpa [AV.clean] using h)]
 | .func fn a b,h => by
  simp only [AV.clean,Bool.and_eq_true] at h
  simp only [renA,cleanL_ren f a h.1,cleanL_ren f b h.2]
theorem cleanL_ren (f:Nat -> Nat):∀ (l:List AV),cleanL l = true -> renL f l = l
 | [],_ => rfl
 | c :: l,h => by
  simp only [cleanL,Bool.and_eq_true] at h
  simp only [renL,clean_ren f c h.1,cleanL_ren f l h.2]
end
mutual
theorem pureA_ren {L K:Heap} {f:Nat -> Nat} (hb:∀ (r:Nat) row,L[r]? = some row -> K[f r]? = some (Zae f row)):∀ (a:AV) {d:AV},pureA L a = some d -> pureA K (renA f a) = some d /\ versA K (renA f a) = versA L a
 | .any,_,h => by simp [pureA] at h
 | .bool b,_,h => ⟨h,rfl⟩
 | .int k n,_,h => ⟨h,rfl⟩
 | .str s,_,h => ⟨h,rfl⟩
 | .flt s,_,h => ⟨h,rfl⟩
 | .nilp,_,h => ⟨h,rfl⟩
 | .nilf,_,h => ⟨h,rfl⟩
 | .nilm,_,h => ⟨h,rfl⟩
 | .mapr _,_,h => by simp [pureA] at h
 | .vnil,_,h => ⟨h,rfl⟩
 | .eptr ..,_,h => ⟨h,rfl⟩
 | .vec ..,_,h => ⟨h,rfl⟩
 | .row r v,_,h => by
  cases hr:L[r]? with
  | none => simp [pureA,hr] at h
  | some row =>
   have h2:=hb r row hr
   obtain ⟨_,s2,_,_,_⟩:=Zay f row
   simp only [pureA,hr] at h
   split at h
   ·rename_i hc
    have e:Zae f row = row:=by simp [Zae,hc]
    exact ⟨by simp only [renA,pureA,h2,e,hc,if_true];exact h,by simp only [renA,versA,Zbf,h2,hr,s2]⟩
   ·simp at h
 | .ref r v lo len,_,h => by
  cases hr:L[r]? with
  | none => simp [pureA,hr] at h
  | some row =>
   have h2:=hb r row hr
   obtain ⟨_,s2,_,_,_⟩:=Zay f row
   simp only [pureA,hr] at h
   split at h
   ·rename_i hc
    have e:Zae f row = row:=by simp [Zae,hc]
    exact ⟨by simp only [renA,pureA,h2,e,hc,if_true];exact h,by simp only [renA,versA,Zbf,h2,hr,s2]⟩
   ·simp at h
 | .ptr r v i j,_,h => by
  cases hr:L[r]? with
  | none => simp [pureA,hr] at h
  | some row =>
   have h2:=hb r row hr
   obtain ⟨s1,s2,_,_,_⟩:=Zay f row
   simp only [pureA,hr] at h
   split at h
   ·rename_i x hx
    split at h
    ·rename_i hcx
     have e:(Zae f row).elems = [x]:=by
      unfold Zae
      cases hc:row.clean with
      | true => simpa using hx
      | false => simp only [cond_false,hx,renL,clean_ren f x hcx]
     exact ⟨by simp only [renA,pureA,h2,e,hcx,s1,if_true];exact h,by simp only [renA,versA,Zbf,h2,hr,s2]⟩
    ·simp at h
   ·simp at h
 | .agg cs,_,h => by
  cases hr:pureL L cs with
  | none => simp [pureA,hr] at h
  | some ds =>
   obtain ⟨h1,h2⟩:=pureL_ren hb cs hr
   exact ⟨by simpa only [renA,pureA,h1,hr] using h,by simp only [renA,versA,h2]⟩
 | .tup cs,_,h => by
  cases hr:pureL L cs with
  | none => simp [pureA,hr] at h
  | some ds =>
   obtain ⟨h1,h2⟩:=pureL_ren hb cs hr
   exact ⟨by simpa only [renA,pureA,h1,hr] using h,by simp only [renA,versA,h2]⟩
 | .func fn a b,_,h => by
  cases hr:pureL L a with
  | none => simp [pureA,hr] at h
  | some ds =>
   cases hr2:pureL L b with
   | none => simp [pureA,hr,hr2] at h
   | some ds2 =>
    obtain ⟨h1,h2⟩:=pureL_ren hb a hr
    obtain ⟨h3,h4⟩:=pureL_ren hb b hr2
    exact ⟨by simpa only [renA,pureA,h1,h3,hr,hr2] using h,by simp only [renA,versA,h2,h4]⟩
theorem pureL_ren {L K:Heap} {f:Nat -> Nat} (hb:∀ (r:Nat) row,L[r]? = some row -> K[f r]? = some (Zae f row)):∀ (l:List AV) {ds:List AV},pureL L l = some ds -> pureL K (renL f l) = some ds /\ versL K (renL f l) = versL L l
 | [],_,h => ⟨h,rfl⟩
 | c :: l,_,h => by
  cases hr:pureA L c with
  | none => simp [pureL,hr] at h
  | some d =>
   cases hr2:pureL L l with
   | none => simp [pureL,hr,hr2] at h
   | some ds2 =>
    obtain ⟨h1,h2⟩:=pureA_ren hb c hr
    obtain ⟨h3,h4⟩:=pureL_ren hb l hr2
    exact ⟨by simpa only [renL,pureL,h1,h3,hr,hr2] using h,by simp only [renL,versL,h2,h4]⟩
end
theorem back_at {L L1:Heap} {rs:List Nat} {rows:List Row} (hrows:Zav L rs = some rows) (hnd:rs.Nodup) (r:Nat) (row:Row) (h:L1[r]? = some row) :
  (ZcL L rs L1)[Zcc L.length rs r]? = some (Zae (Zcc L.length rs) row):=by
 obtain ⟨g1,g2⟩:=Zaw hrows
 unfold ZcL
 by_cases hlt:r < rs.length
 ·have hb:Nat.blt r rs.length = true:=Nat.blt_eq.mpr hlt
  have e:Zcc L.length rs r = rs[r]:=by simp [Zcc,hb,hlt]
  obtain ⟨row0,k1,_⟩:=g2 r _ (List.getElem?_eq_getElem hlt)
  have hin:rs[r] < L.length:=(List.getElem?_eq_some_iff.1 k1).1
  rw [e,List.getElem?_append_left (by rw [Zax];exact hin)]
  exact ZdV rs _ _ hnd r _ _ (List.getElem?_eq_getElem hlt) (by rw [List.getElem?_map,List.getElem?_take_of_lt hlt,h];rfl) hin
 ·have hb:Nat.blt r rs.length = false:=by
   cases hb:Nat.blt r rs.length with
   | false => rfl
   | true => have:=Nat.blt_eq.mp hb;omega
  have e:Zcc L.length rs r = L.length + (r - rs.length):=by simp [Zcc,hb]
  rw [e,List.getElem?_append_right (by rw [Zax];omega),Zax,List.getElem?_map,List.getElem?_drop]
  have e2:rs.length + (L.length + (r - rs.length) - L.length) = r:=by omega
  rw [e2,h];rfl
theorem ZcP {M:Mach} {fi:Fi} {k:List Item} {env env':Vars} {L Lc:Heap} {d:AV} (rs:List Nat) (hn:Za6 L rs env = some (env',Lc)) (h:Wp M (.run fi k env' Lc) (Zan d)):Wp M (.run fi k env L) (Zan d):=by
 refine .narrow rs env' Lc hn (.mono h fun v L1 ⟨d0,hq1,hq2,hq3,hq4⟩ => ?_)
 unfold Za6 at hn
 split at hn
 ·rename_i rows hrows
  split at hn
  ·rename_i hc
   simp only [Bool.and_eq_true] at hc
   obtain ⟨p1,p2⟩:=pureA_ren (back_at (L1:=L1) hrows ((ZaU rs).1 hc.1)) v hq1
   exact ⟨d0,p1,by rw [p2];exact hq2,hq3,hq4⟩
  ·simp at hn
 ·simp at hn
end Go.Av

namespace Go.Av
structure EG where
 keep:List (Nat × List (Nat × List Nat))
 hot:List (Nat × List (Nat × List Nat))
 known:List (Nat × List AV × AV):=[]
 rows:List (Nat × List (Nat × List Nat)):=[]
mutual
def beqA:AV -> AV -> Bool
 | .bool a,.bool b => a == b
 | .int k n,.int j m => decide (k = j) && n == m
 | .str a,.str b => a == b
 | .flt a,.flt b => a == b
 | .agg a,.agg b => beqAL a b
 | .tup a,.tup b => beqAL a b
 | .vec f es a,.vec g fs b => f == g && (es == fs && beqAL a b)
 | .nilp,.nilp => true
 | .vnil,.vnil => true
 | _,_ => false
def beqAL:List AV -> List AV -> Bool
 | [],[] => true
 | a :: l,b :: m => beqA a b && beqAL l m
 | _,_ => false
end
mutual
theorem beqA_eq:∀ (a b:AV),beqA a b = true -> a = b
 | .bool a,b,h => by cases b <;> simp [beqA] at h;rw [h]
 | .int k n,b,h => by cases b <;> simp [beqA] at h;rw [h.1,h.2]
 | .str a,b,h => by cases b <;> simp [beqA] at h;rw [h]
 | .flt a,b,h => by cases b <;> simp [beqA] at h;rw [h]
 | .agg a,b,h => by cases b <;> simp [beqA] at h;rw [beqAL_eq a _ h]
 | .tup a,b,h => by cases b <;> simp [beqA] at h;rw [beqAL_eq a _ h]
 | .vec f es a,b,h => by cases b <;> simp [beqA] at h;rw [h.1,h.2.1,beqAL_eq a _ h.2.2]
 | .nilp,b,h => by cases b <;> simp [beqA] at h;rfl
 | .vnil,b,h => by cases b <;> simp [beqA] at h;rfl
 | .any,b,h => by cases b <;> simp [beqA] at h
 | .ptr ..,b,h => by cases b <;> simp [beqA] at h
 | .eptr ..,b,h => by cases b <;> simp [beqA] at h
 | .row ..,b,h => by cases b <;> simp [beqA] at h
 | .ref ..,b,h => by cases b <;> simp [beqA] at h
 | .func ..,b,h => by cases b <;> simp [beqA] at h
 | .nilf,b,h => by cases b <;> simp [beqA] at h
 | .mapr ..,b,h => by cases b <;> simp [beqA] at h
 | .nilm,b,h => by cases b <;> simp [beqA] at h
theorem beqAL_eq:∀ (a b:List AV),beqAL a b = true -> a = b
 | [],b,h => by cases b <;> simp [beqAL] at h;rfl
 | a :: l,b,h => by
  cases b with
  | nil => simp [beqAL] at h
  | cons b m => simp [beqAL] at h;rw [beqA_eq a b h.1,beqAL_eq l m h.2]
end
def ZfK (f:Nat) (args:List AV):List (Nat × List AV × AV) -> Option AV
 | [] => none
 | (g,bs,v) :: l => bif Nat.beq f g && beqAL args bs then some v else ZfK f args l
theorem known_in {f:Nat} {args:List AV} {v:AV}:∀ {l:List (Nat × List AV × AV)},ZfK f args l = some v -> (f,args,v) ∈ l
 | [],h => by simp [ZfK] at h
 | (g,bs,u) :: l,h => by
  unfold ZfK at h
  cases hb:(Nat.beq f g && beqAL args bs) with
  | true =>
   rw [hb] at h
   simp only [cond_true,Option.some.injEq] at h
   simp only [Bool.and_eq_true,Nat.beq_eq] at hb
   rw [h,hb.1,beqAL_eq _ _ hb.2];exact .head _
  | false => rw [hb] at h;exact .tail _ (known_in h)
def ofFn:List (Nat × List (Nat × List Nat)) -> Nat -> List (Nat × List Nat)
 | [],_ => []
 | (f,l) :: t,g => bif Nat.beq f g then l else ofFn t g
def Zes (l:List Nat) (i:Nat):Option Ans:=bif l.contains i then some .keep else none
def Zgl (inl:FuncId -> Bool) (call:Zas) (c:CF):Prop:=
 (c.own = true /\ inl c.f = true /\ ∃ o,call c.f c.args c.L = some (c.v,o) /\ c.L' = o.getD c.L) \/
 (inl c.f = false /\ ∃ L1,call c.f c.args [] = some (c.v,some L1)) \/
 (c.own = false /\ inl c.f = false /\ call c.f c.args [] = some (c.v,none))
section
variable {P:Unit->Program}
theorem Zbk {x:Option AV} {r:SR} (h:ZbA x = some r):r.calls = []:=by
 unfold ZbA at h;split at h
 ·simp only [Option.some.injEq] at h;subst h;rfl
 ·simp at h
theorem convS_no {src dst:TypeId} {x:AV} {r:SR} (h:convS P src dst x = some r):r.calls = []:=by
 unfold convS at h
 repeat' split at h
 all_goals first | (simp only [Option.some.injEq] at h;subst h;rfl) | simp at h
theorem intBin_no {op:BinOp} {k:IntKind} {x y:Int} {r:SR} (h:ZgD op k x y = some r):r.calls = []:=by
 unfold ZgD at h
 split at h <;> first | (simp only [Option.some.injEq] at h;subst h;rfl) | (simp at h)
theorem strBin_no {op:BinOp} {x y:List UInt8} {r:SR} (h:Zgn op x y = some r):r.calls = []:=by
 unfold Zgn at h
 split at h <;> first | (simp only [Option.some.injEq] at h;subst h;rfl) | (simp at h)
theorem binA_no {op:BinOp} {T:TypeId} {x y:AV} {r:SR} (h:binA P op T x y = some r):r.calls = []:=by
 unfold binA at h
 split at h
 ·simp only [Option.some.injEq] at h;subst h;rfl
 ·simp only [Option.some.injEq] at h;subst h;rfl
 ·split at h
  ·exact intBin_no h
  ·simp at h
 ·exact strBin_no h
 ·split at h
  ·exact Zbk h
  ·simp at h
 ·split at h
  ·exact Zbk h
  ·simp at h
 ·simp at h
theorem boxA_no {L:Heap} {x:AV} {r:SR} (h:boxA L x = some r):r.calls = []:=by
 unfold boxA at h;split at h
 ·simp only [Option.some.injEq] at h;subst h;rfl
 ·simp at h
theorem loadA_no {el:Option AV} {L:Heap} {T:TypeId} {p:AV} {r:SR} (h:loadA P el L T p = some r):r.calls = []:=by
 unfold loadA at h
 repeat' split at h
 all_goals first | (simp only [Option.some.injEq] at h;subst h;rfl) | (simp at h)
theorem storeA_no {el:Option AV} {L:Heap} {T:TypeId} {p v:AV} {r:SR} (h:ZcU P el L T p v = some r):r.calls = []:=by
 unfold ZcU at h
 repeat' split at h
 all_goals first | (simp only [Option.some.injEq] at h;subst h;rfl) | (simp at h)
theorem Zgk {keep:Bool} {L:Heap} {T:TypeId} {len:Nat} {parts:List (Nat × AV)} {r:SR} (h:Za9 P keep L T len parts = some r):r.calls = []:=by
 unfold Za9 at h
 cases keep <;> simp only [cond_true,cond_false] at h <;> (repeat' split at h) <;> first | (simp only [Option.some.injEq] at h;subst h;rfl) | (simp at h)
theorem indexAddrA_no {L:Heap} {T:TypeId} {x i:AV} {r:SR} (h:ZbC P L T x i = some r):r.calls = []:=by
 unfold ZbC at h
 repeat' split at h
 all_goals first | (simp only [Option.some.injEq] at h;subst h;rfl) | (simp at h)
theorem indexA_no {T:TypeId} {x i:AV} {r:SR} (h:ZgE P T x i = some r):r.calls = []:=by
 unfold ZgE at h
 repeat' split at h
 all_goals first | (simp only [Option.some.injEq] at h;subst h;rfl) | (simp at h)
theorem sliceA_no {L:Heap} {T:TypeId} {x:AV} {lo hi mx:Option AV} {r:SR} (h:Zgq P L T x lo hi mx = some r):r.calls = []:=by
 unfold Zgq at h
 repeat' split at h
 all_goals first | (simp only [Option.some.injEq] at h;subst h;rfl) | (simp at h)
theorem ZgP {L:Heap} {T:TypeId} {s x:AV} {r:SR} (h:Zco P L T s x = some r):r.calls = []:=by
 unfold Zco at h
 repeat' split at h
 all_goals first | (simp only [Option.some.injEq] at h;subst h;rfl) | (simp at h)
theorem clearA_no {L:Heap} {T:TypeId} {d:AV} {r:SR} (h:clearA P L T d = some r):r.calls = []:=by
 unfold clearA at h
 repeat' split at h
 all_goals first | (simp only [Option.some.injEq] at h;subst h;rfl) | (simp at h)
theorem lenA_no {L:Heap} {T:TypeId} {x:AV} {r:SR} (h:lenA P L T x = some r):r.calls = []:=by
 unfold lenA at h
 repeat' split at h
 all_goals first | (simp only [Option.some.injEq] at h;subst h;rfl) | (simp at h)
theorem makeSliceA_no {L:Heap} {T:TypeId} {a b:AV} {r:SR} (h:Zb2 P L T a b = some r):r.calls = []:=by
 unfold Zb2 at h
 repeat' split at h
 all_goals first | (simp only [Option.some.injEq] at h;subst h;rfl) | (simp at h)
theorem sliceArrA_no {L:Heap} {n:Nat} {e:TypeId} {x:AV} {r:SR} (h:Zbp P L n e x = some r):r.calls = []:=by
 unfold Zbp at h
 repeat' split at h
 all_goals first | (simp only [Option.some.injEq] at h;subst h;rfl) | (simp at h)
theorem appendZ_no {L:Heap} {T:TypeId} {s x:AV} {r:SR} (h:ZdI P L T s x = some r):r.calls = []:=by
 unfold ZdI at h
 repeat' split at h
 all_goals first | (simp only [Option.some.injEq] at h;subst h;rfl) | (simp at h)
theorem makeMapA_no {L:Heap} {T:TypeId} {r:SR} (h:Zd3 P L T = some r):r.calls = []:=by
 unfold Zd3 at h
 repeat' split at h
 all_goals first | (simp only [Option.some.injEq] at h;subst h;rfl) | (simp at h)
theorem lookupA_no {el:Option AV} {L:Heap} {T:TypeId} {m k:AV} {ok:Bool} {r:SR} (h:ZfI P el L T m k ok = some r):r.calls = []:=by
 unfold ZfI at h
 repeat' split at h
 all_goals first | (simp only [Option.some.injEq] at h;subst h;rfl) | (simp at h)
theorem mapUpdateA_no {L:Heap} {T:TypeId} {m k v:AV} {r:SR} (h:Zcu P L T m k v = some r):r.calls = []:=by
 unfold Zcu at h
 repeat' split at h
 all_goals first | (simp only [Option.some.injEq] at h;subst h;rfl) | (simp at h)
theorem mapEntryA_no {el:Option AV} {L:Heap} {T:TypeId} {m k:AV} {r:SR} (h:Zc4 P el L T m k = some r):r.calls = []:=by
 unfold Zc4 at h
 repeat' split at h
 all_goals first | (simp only [Option.some.injEq] at h;subst h;rfl) | (simp at h)
theorem Zgj {L:Heap} {m i v:AV} {r:SR} (h:Zca L m i v = some r):r.calls = []:=by
 unfold Zca at h
 repeat' split at h
 all_goals first | (simp only [Option.some.injEq] at h;subst h;rfl) | (simp at h)
theorem callF_good {inl:FuncId -> Bool} {call:Zas} {L:Heap} {g:FuncId} {args:List AV} {r:SR} (h:ZeA inl call L g args = some r):∀ c ∈ r.calls,Zgl inl call c:=by
 unfold ZeA at h
 cases hi:inl g with
 | true =>
  rw [hi] at h
  simp only [cond_true] at h
  split at h
  ·rename_i rs args' Lc hin
   split at h
   ·rename_i v o hc
    split at h
    ·simp only [Option.some.injEq] at h
     subst h
     intro c hm
     simp only [List.mem_singleton] at hm
     subst hm
     exact .inl ⟨rfl,hi,o,hc,rfl⟩
    ·simp at h
   ·simp at h
  ·simp at h
 | false =>
  rw [hi] at h
  simp only [cond_false] at h
  split at h
  ·rename_i ds hds
   split at h
   ·rename_i d hc
    split at h
    ·split at h
     all_goals
      simp only [Option.some.injEq] at h
      subst h
      intro c hm
      simp only [List.mem_singleton] at hm
      subst hm
      exact .inr (.inr ⟨rfl,hi,hc⟩)
    ·simp at h
   ·rename_i v L1 hc
    split at h
    ·split at h
     ·split at h
      ·simp only [Option.some.injEq] at h
       subst h
       intro c hm
       simp only [List.mem_singleton] at hm
       subst hm
       exact .inr (.inl ⟨hi,L1,hc⟩)
      ·simp at h
     ·simp at h
    ·simp at h
   ·simp at h
  ·simp at h
theorem ZaA {inl:FuncId -> Bool} {call:Zas} {r:SR} (h:r.calls = []):∀ c ∈ r.calls,Zgl inl call c:=by
 rw [h];intro c hc;cases hc
theorem callA_good {inl:FuncId -> Bool} {call:Zas} {ρ:Operand -> AV} {L:Heap} {c:Call} {r:SR} (h:ZbK P inl call ρ L c = some r):∀ c ∈ r.calls,Zgl inl call c:=by
 unfold ZbK at h
 split at h
 ·apply ZaA
  split at h
  ·split at h
   ·exact ZgP h
   ·exact ZgP h
   ·exact appendZ_no h
   ·simp at h
  ·exact clearA_no h
  ·exact lenA_no h
  ·exact Zbk h
  ·exact Zbk h
  ·exact Zbk h
  ·simp at h
 ·split at h
  ·exact callF_good h
  ·simp at h
 ·simp at h
theorem stepA_good {inl:FuncId -> Bool} {call:Zas} {ρ:ZaW -> Operand -> AV} {L:Heap} {o:Oper} {r:SR} {an:Option Ans} (han:an = none \/ an = some .keep) (h:ZaL P inl call an ρ L o = some r):∀ c ∈ r.calls,Zgl inl call c:=by
 unfold ZaL at h
 simp only at h
 split at h
 ·simp only [Option.some.injEq] at h;subst h;exact ZaA rfl
 ·simp only [Option.some.injEq] at h;subst h;exact ZaA rfl
 ·split at h
  ·exact ZaA (Zbk h)
  ·exact ZaA (Zbk h)
 ·split at h
  ·exact ZaA (boxA_no h)
  ·simp at h
 ·exact ZaA (boxA_no h)
 ·exact ZaA (Zbk h)
 ·exact ZaA (Zgk h)
 ·exact ZaA (loadA_no h)
 ·exact ZaA (storeA_no h)
 ·split at h
  ·simp only [Option.some.injEq] at h;subst h;exact ZaA rfl
  ·simp only [Option.some.injEq] at h;subst h;exact ZaA rfl
  ·simp at h
 ·exact ZaA (binA_no h)
 ·exact ZaA (Zbk h)
 ·exact ZaA (convS_no h)
 ·simp only [Option.some.injEq] at h;subst h;exact ZaA rfl
 ·exact ZaA (makeSliceA_no h)
 ·split at h
  ·split at h
   ·exact ZaA (sliceArrA_no h)
   ·simp at h
  ·exact ZaA (sliceA_no h)
 ·exact ZaA (Zbk h)
 ·exact ZaA (Zbk h)
 ·exact ZaA (indexAddrA_no h)
 ·exact ZaA (indexA_no h)
 ·split at h
  ·exact ZaA (makeMapA_no h)
  ·simp at h
 ·exact ZaA (lookupA_no h)
 ·exact ZaA (mapUpdateA_no h)
 ·exact ZaA (mapEntryA_no h)
 ·exact ZaA (Zgj h)
 ·split at h
  ·exact ZaA (Zbk h)
  ·simp at h
 ·rcases han with rfl | rfl <;> exact callA_good h
 ·simp at h
theorem runOp_good {inl:FuncId -> Bool} {call:Zas} {n:Nat} {ops:Array Oper} {hot:Nat} {o:Oper} {s s':RS} {an:Option Ans} (han:an = none \/ an = some .keep) (h:Za8 P inl call n ops an hot o s = some s') (hs:∀ c ∈ s.calls,Zgl inl call c) :
  ∀ c ∈ s'.calls,Zgl inl call c:=by
 unfold Za8 at h
 split at h
 ·simp at h
 ·split at h
  ·simp only [Option.some.injEq] at h;subst h;exact hs
  ·simp at h
 ·split at h
  ·split at h
   ·simp at h
   ·split at h
    ·simp only [Option.some.injEq] at h;subst h;exact hs
    ·simp at h
  ·rename_i r hr
   have hg:=stepA_good han hr
   split at h
   ·simp at h
   ·split at h
    ·simp at h
    ·split at h
     ·simp only [Option.some.injEq] at h;subst h
      intro c hc
      rcases List.mem_append.1 hc with hc | hc
      ·exact hs c hc
      ·exact hg c hc
     ·simp only [Option.some.injEq] at h;subst h
      intro c hc
      rcases List.mem_append.1 hc with hc | hc
      ·exact hs c hc
      ·obtain ⟨c0,h1,rfl⟩:=List.mem_map.1 hc
       exact hg c0 h1
theorem Zer (l:List Nat) (i:Nat):Zes l i = none \/ Zes l i = some .keep:=by
 unfold Zes
 cases l.contains i with
 | true => exact .inr rfl
 | false => exact .inl rfl
theorem Zfm {inl:FuncId -> Bool} {call:Zas} {n:Nat} {ops:Array Oper} {hot:Nat -> Nat} {ans:Nat -> Option Ans} (hans:∀ i,ans i = none \/ ans i = some .keep):∀ (l:List Nat) {s s':RS},Zak P inl call n ops ans hot l s = some s' -> (∀ c ∈ s.calls,Zgl inl call c) ->
  ∀ c ∈ s'.calls,Zgl inl call c:=by
 intro l
 induction l with
 | nil => intro s s' h hs;simp only [Zak,Option.some.injEq] at h;subst h;exact hs
 | cons i rest ih =>
  intro s s' h hs
  simp only [Zak] at h
  split at h
  ·exact ih h hs
  ·split at h
   ·rename_i s1 h1
    exact ih h (runOp_good (hans _) h1 hs)
   ·simp at h
end
def AnsOk (M:Mach) (call:Zas):Prop:=∀ f args L v o,call f args L = some (v,o) ->
 (M.inl f = true -> Ev M (.own f args L) v (o.getD L)) /\ (M.inl f = false -> o = none /\ Ev M (.pure f args) v [])
def KnownOk (M:Mach) (G:EG):Prop:=∀ k ∈ G.known,Ev M (.pure k.1 k.2.1) k.2.2 []
end Go.Av

namespace Go.Av
open Go.RowKit
mutual
def deepA (L:Heap):AV -> Option AV
 | .row r v => match L[r]? with
  | some row => bif row.clean then some (.vec false row.es row.elems) else match pureL L row.elems with
   | some ys => some (.vec false row.es ys)
   | none => none
  | none => none
 | .agg cs => match deepL L cs with
  | some ds => some (.agg ds)
  | none => none
 | .tup cs => match deepL L cs with
  | some ds => some (.tup ds)
  | none => none
 | a => pureA L a
def deepL (L:Heap):List AV -> Option (List AV)
 | [] => some []
 | c :: r => match deepA L c,deepL L r with
  | some d,some ds => some (d :: ds)
  | _,_ => none
end
mutual
def deepV (L:Heap):AV -> List Bool
 | .row r v => Zbf L r v :: (match L[r]? with
  | some row => bif row.clean then [] else versL L row.elems
  | none => [])
 | .agg cs => deepVL L cs
 | .tup cs => deepVL L cs
 | a => versA L a
def deepVL (L:Heap):List AV -> List Bool
 | [] => []
 | c :: r => deepV L c ++ deepVL L r
end
theorem deep_get {L:Heap}:∀ {l ds:List AV},pureL L l = some ds -> ds.length = l.length /\ ∀ (i:Nat) d,ds[i]? = some d -> ∃ c,l[i]? = some c /\ pureA L c = some d
 | [],ds,h => by simp only [pureL,Option.some.injEq] at h;subst h;exact ⟨rfl,by simp⟩
 | c :: l,ds,h => by
  simp only [pureL] at h
  split at h
  ·rename_i d ds' hd hds
   simp only [Option.some.injEq] at h;subst h
   obtain ⟨h1,h2⟩:=deep_get hds
   refine ⟨by simp [h1],fun i x hx => ?_⟩
   cases i with
   | zero => simp at hx;subst hx;exact ⟨c,rfl,hd⟩
   | succ i => obtain ⟨y,q1,q2⟩:=h2 i x (by simpa using hx);exact ⟨y,by simpa using q1,q2⟩
  ·simp at h
theorem ZgJ {L:Heap} {c d:AV} (h:pureA L c = some d) (hp:c.plain = true):d.plain = true:=by
 cases c with
 | any => simp [AV.plain] at hp
 | agg cs => simp [AV.plain] at hp
 | tup cs => simp [AV.plain] at hp
 | row r v =>
  simp only [pureA] at h
  repeat' split at h
  all_goals first | (simp only [Option.some.injEq] at h;subst h;rfl) | (simp at h)
 | ref r v lo len =>
  simp only [pureA] at h
  repeat' split at h
  all_goals first | (simp only [Option.some.injEq] at h;subst h;rfl) | (simp at h)
 | ptr r v i j =>
  simp only [pureA] at h
  repeat' split at h
  all_goals first | (simp only [Option.some.injEq] at h;subst h;rfl) | (simp at h)
 | func fn a b =>
  simp only [pureA] at h
  repeat' split at h
  all_goals first | (simp only [Option.some.injEq] at h;subst h;rfl) | (simp at h)
 | mapr r => simp [pureA] at h
 | _ => simp only [pureA,Option.some.injEq] at h;subst h;rfl
theorem cells_one {c:AV} (hp:c.plain = true):c.cells = [c]:=by
 cases c <;> first | rfl | (simp [AV.plain] at hp)
theorem Zfd {L:Heap}:∀ {l:List AV} {i:Nat} {c:AV} {b:Bool},l[i]? = some c -> b ∈ versA L c -> b ∈ versL L l
 | [],i,c,b,h,_ => by simp at h
 | x :: l,i,c,b,h,hb => by
  simp only [versL,List.mem_append]
  cases i with
  | zero => simp at h;subst h;exact .inl hb
  | succ i => exact .inr (Zfd (by simpa using h) hb)
theorem Zex {L:Heap} {x y:AV} (h:pureA L x = some y) (hp:x.cells.all AV.plain = true) :
  y.cells.length = x.cells.length /\ y.cells.all AV.plain = true /\ ∀ (k:Nat) c,y.cells[k]? = some c -> ∃ c0,x.cells[k]? = some c0 /\ pureA L c0 = some c /\ ∀ b ∈ versA L c0,b ∈ versA L x:=by
 have single:x.plain = true -> y.cells.length = x.cells.length /\ y.cells.all AV.plain = true /\ ∀ (k:Nat) c,y.cells[k]? = some c -> ∃ c0,x.cells[k]? = some c0 /\ pureA L c0 = some c /\ ∀ b ∈ versA L c0,b ∈ versA L x:=by
  intro hx
  have hy:=ZgJ h hx
  rw [cells_one hx,cells_one hy]
  refine ⟨rfl,by simp [hy],fun k c hk => ?_⟩
  cases k with
  | zero => simp at hk;subst hk;exact ⟨x,rfl,h,fun b hb => hb⟩
  | succ k => simp at hk
 cases x with
 | agg cs =>
  simp only [pureA] at h
  split at h
  ·rename_i ds hd
   simp only [Option.some.injEq] at h;subst h
   obtain ⟨h1,h2⟩:=deep_get hd
   simp only [AV.cells] at hp ⊢
   refine ⟨h1,List.all_eq_true.2 fun d hdm => ?_,fun k c hk => ?_⟩
   ·obtain ⟨i,hi⟩:=List.getElem?_of_mem hdm
    obtain ⟨c,q1,q2⟩:=h2 i d hi
    exact ZgJ q2 (List.all_eq_true.1 hp c (List.mem_of_getElem? q1))
   ·obtain ⟨c0,q1,q2⟩:=h2 k c hk
    exact ⟨c0,q1,q2,fun b hb => by simp only [versA];exact Zfd q1 hb⟩
  ·simp at h
 | any => simp [pureA] at h
 | tup cs => simp [AV.cells,AV.plain] at hp
 | _ => exact single (by simpa [AV.cells] using hp)
theorem row_deep {S S':St} (hS:HeapOk S) (hw:S'.w = S.w) (hi:∀ b off,Imm S b off -> b < S.w.heap.size -> Imm S' b off) {r:Nat} {row:Row} {info:BI} (hr:S.L[r]? = some row) (hb:S.β[r]? = some info) (hmp:info.mp = false)
  (hh:∀ rs,ZeF S S' rs) {ys:List AV} (hy:pureL S.L row.elems = some ys) (hv:∀ b ∈ versL S.L row.elems,b = true) (cap:Nat) (hc:row.elems.length <= cap) :
  DRel S' (.vec false row.es ys) (.slice (some ⟨info.blk,info.off,none⟩) row.elems.length cap):=by
 have hes:=(hS.cells r row info hr hb hmp).1
 obtain ⟨hlen,hget⟩:=deep_get hy
 have:=DRel.vec (S:=S') false row.es ys info.blk info.off cap
  (fun i y hyi => by
   obtain ⟨x,q1,q2⟩:=hget i y hyi
   obtain ⟨o1,o2⟩:=hS.elems r row hr i x q1
   obtain ⟨p1,p2,_⟩:=Zex q2 o2
   exact ⟨p1.trans o1,p2⟩) (by simp) (by rw [hlen];exact hc)
  (fun i y k c hyi hk => by
   obtain ⟨x,q1,q2⟩:=hget i y hyi
   obtain ⟨o1,o2⟩:=hS.elems r row hr i x q1
   obtain ⟨p1,p2,_⟩:=Zex q2 o2
   have hk2:k < info.es:=by rw [hes,<- o1,<- p1];exact Zac hk
   obtain ⟨cv,h3⟩:=ZdQ hS hr hb hmp q1 hk2
   rw [hes] at h3
   refine ⟨⟨cv,by rw [hw];exact h3⟩,hh [r] r (by simp) row info hr hb _ (by omega) ?_⟩
   have:=ZbS (Zac q1) (Nat.le_refl row.elems.length) hk2
   rw [hes] at this ⊢
   omega)
  (fun i y k c cv hyi hk hcv => by
   obtain ⟨x,q1,q2⟩:=hget i y hyi
   obtain ⟨o1,o2⟩:=hS.elems r row hr i x q1
   obtain ⟨p1,p2,p3⟩:=Zex q2 o2
   obtain ⟨c0,z1,z2,z3⟩:=p3 k c hk
   rw [hw,<- hes] at hcv
   exact pure_rel hS hw hi c0 (hS.rel r row info i x k c0 cv hr hb q1 z1 hcv) z2 (fun b hb => hv b (Zfd q1 (z3 b hb))) (hh _))
 rw [hlen] at this
 exact this
mutual
theorem deep_rel {S S':St} (hS:HeapOk S) (hw:S'.w = S.w) (hi:∀ b off,Imm S b off -> b < S.w.heap.size -> Imm S' b off) (hh:∀ rs,ZeF S S' rs):∀ (a:AV) {d:AV} {v:Value},Rel S a v -> deepA S.L a = some d ->
  (∀ b ∈ deepV S.L a,b = true) -> DRel S' d v
 | .any,_,_,hr,h,hv => pure_rel hS hw hi _ hr h hv (hh _)
 | .bool b,_,_,hr,h,hv => pure_rel hS hw hi _ hr h hv (hh _)
 | .int k n,_,_,hr,h,hv => pure_rel hS hw hi _ hr h hv (hh _)
 | .str s,_,_,hr,h,hv => pure_rel hS hw hi _ hr h hv (hh _)
 | .flt s,_,_,hr,h,hv => pure_rel hS hw hi _ hr h hv (hh _)
 | .nilp,_,_,hr,h,hv => pure_rel hS hw hi _ hr h hv (hh _)
 | .nilf,_,_,hr,h,hv => pure_rel hS hw hi _ hr h hv (hh _)
 | .nilm,_,_,hr,h,hv => pure_rel hS hw hi _ hr h hv (hh _)
 | .mapr _,_,_,hr,h,hv => pure_rel hS hw hi _ hr h hv (hh _)
 | .vnil,_,_,hr,h,hv => pure_rel hS hw hi _ hr h hv (hh _)
 | .vec f es xs,_,_,hr,h,hv => pure_rel hS hw hi _ hr h hv (hh _)
 | .eptr es xs i j,_,_,hr,h,hv => pure_rel hS hw hi _ hr h hv (hh _)
 | .func fn a b,_,_,hr,h,hv => pure_rel hS hw hi _ hr h hv (hh _)
 | .ptr r ver i j,_,_,hr,h,hv => pure_rel hS hw hi _ hr h hv (hh _)
 | .ref r ver lo len,_,_,hr,h,hv => pure_rel hS hw hi _ hr h hv (hh _)
 | .agg cs,_,_,hr,h,hv => by
  simp only [deepA] at h
  split at h
  ·rename_i ds hd
   simp only [Option.some.injEq] at h;subst h
   obtain ⟨vs,rfl,l1,r1⟩:=ZbN hr
   obtain ⟨l2,r2⟩:=deep_relL hS hw hi hh cs ⟨l1,r1⟩ hd (by simpa [deepV] using hv)
   exact .agg ds vs l2 r2
  ·simp at h
 | .tup cs,_,_,hr,h,hv => by
  simp only [deepA] at h
  split at h
  ·rename_i ds hd
   simp only [Option.some.injEq] at h;subst h
   obtain ⟨vs,rfl,l1,r1⟩:=rel_tup hr
   obtain ⟨l2,r2⟩:=deep_relL hS hw hi hh cs ⟨l1,r1⟩ hd (by simpa [deepV] using hv)
   exact .tup ds vs l2 r2
  ·simp at h
 | .row r ver,_,_,hr,h,hv => by
  simp only [deepA] at h
  split at h
  ·rename_i row hrow
   cases hcl:row.clean with
   | true =>
    rw [hcl] at h
    exact pure_rel hS hw hi (.row r ver) hr (by simpa [pureA,hrow,hcl] using h) (fun b hb => hv b (by simp only [versA,List.mem_singleton] at hb;simp [deepV,hb])) (hh _)
   | false =>
    rw [hcl] at h
    simp only [cond_false] at h
    split at h
    ·rename_i ys hys
     simp only [Option.some.injEq] at h;subst h
     obtain ⟨row',info,a1,a2,a3,hmp⟩:=ZcX hr
     rw [hrow] at a1
     simp only [Option.some.injEq] at a1;subst a1
     have hver:row.ver = ver:=by
      have:=hv (Zbf S.L r ver) (by simp [deepV])
      simpa [Zbf,hrow] using this
     rw [a3 hver]
     exact row_deep hS hw hi hrow a2 hmp hh hys (fun b hb => hv b (by simp [deepV,hrow,hcl,hb])) info.cap (hS.cells r row info hrow a2 hmp).2.1
    ·simp at h
  ·simp at h
theorem deep_relL {S S':St} (hS:HeapOk S) (hw:S'.w = S.w) (hi:∀ b off,Imm S b off -> b < S.w.heap.size -> Imm S' b off) (hh:∀ rs,ZeF S S' rs):∀ (l:List AV) {ds:List AV} {vs:List Value},RelL S l vs -> deepL S.L l = some ds ->
  (∀ b ∈ deepVL S.L l,b = true) -> ds.length = vs.length /\ ∀ (i:Nat) c v,ds[i]? = some c -> vs[i]? = some v -> DRel S' c v
 | [],_,vs,hr,h,_ => by
  simp only [deepL,Option.some.injEq] at h;subst h
  exact ⟨by simpa using hr.1,by simp⟩
 | c :: l,_,[],hr,h,_ => by have:=hr.1;simp at this
 | c :: l,_,u :: vs,hr,h,hv => by
  simp only [deepL] at h
  split at h
  ·rename_i d ds hd hds
   simp only [Option.some.injEq] at h;subst h
   have h1:=deep_rel hS hw hi hh c hr.head hd (fun b hb => hv b (by simp [deepVL,hb]))
   obtain ⟨l2,r2⟩:=deep_relL hS hw hi hh l hr.tail hds (fun b hb => hv b (by simp [deepVL,hb]))
   refine ⟨by simp [l2],fun i a b ha hb => ?_⟩
   cases i with
   | zero => simp at ha hb;subst ha;subst hb;exact h1
   | succ i => exact r2 i a b (by simpa using ha) (by simpa using hb)
  ·simp at h
end
def ZaJ (d:AV):AV->Heap->Prop:=fun v L => ∃ d0,deepA L v=some d0/\allB (deepV L v)/\Weak d0 d
theorem deep_of {L:Heap} {v d:AV} (h1:deepA L v=some d) (h2:allB (deepV L v)):ZaJ d v L:=⟨d,h1,h2,.refl _⟩
theorem Zf2 {M:Mach} (hm:(M.P ()).follows .mixedOrders = true) {f:FuncId} {args:List AV} {d:AV} (h:Wp M (.own f args []) (ZaJ d)):Ev M (.pure f args) d []:=by
 refine .sem ?_
 have h':OwnQ M f args [] (ZaJ d):=Zbj hm h
 intro base acc w cargs hb hac hr
 have hS:HeapOk ⟨base,acc,[],[],w⟩:=⟨hb,rfl,by simp,by simp,by simp,by simp,by simp,by simp,by simp,by simp,fun b off h => hac b off (Nat.le_trans hb h)⟩
 obtain ⟨k1,k2⟩:=h' ⟨base,acc,[],[],w⟩ cargs hS rfl hr
 refine ⟨k1,Calls.mono k2 fun e w' he => ?_⟩
 cases e with
 | returned cv =>
  obtain ⟨v,L',β',⟨d0,hd,hv,hwk⟩,m1,m2,m3⟩:=he
  exact ⟨d,⟨rfl,rfl⟩,m2.below,ZeU hwk (deep_rel (S:=⟨base,acc,L',β',w'⟩) (S':=⟨base,acc,[],[],w'⟩) m1 rfl (fun b off hi _ => ⟨hi.1,by simp⟩)
   (fun rs r hr row info q1 q2 off _ _ => ⟨m1.acq r info off q2,by simp⟩) v m3 hd ((Zbv _).1 hv))⟩
 | panicked c => exact he.elim
 | outgrown => exact he.elim
theorem Zf3 {M:Mach} (hm:(M.P ()).follows .mixedOrders=true) {f:FuncId} {args:List AV} {d:AV} (fn:Func) (fi:Fi) (hf:(M.P ()).funcs[f]? = some fn) (hb:fn.body=some (cd fn)) (hn:(fn.name == "runtime.NumGoroutine")=false)
  (hi:(⟨fn.ntmps,fn.results.toList⟩:Fi)=fi) (h:Wp M (.run fi [.code (cd fn)] (Zbi 0 args) []) (ZaJ d)):Ev M (.pure f args) d []:=Zf2 hm (Zgz fn fi hf hb hn hi h)
def ansY (M:Mach) (K:List (Nat × List AV × AV)) (ex:FuncId -> List AV -> Heap -> Option (AV × Heap)):Zas:=fun g args L =>
 match M.inl g with
 | true => match ex g args L with
  | some (v,L') => some (v,some L')
  | none => none
 | false => match ZfK g args K with
  | some d => some (d,none)
  | none => match ex g args [] with
   | some (v,L') => match deepA L' v with
    | some d => bif (deepV L' v).all (fun b => b) then some (d,none) else none
    | none => none
   | none => none
theorem ansY_ok {M:Mach} (hm:(M.P ()).follows .mixedOrders = true) {G:EG} (hK:KnownOk M G) {ex:FuncId -> List AV -> Heap -> Option (AV × Heap)} (h:∀ f args L v L',ex f args L = some (v,L') -> Ev M (.own f args L) v L'):AnsOk M (ansY M G.known ex):=by
 intro f args L v o hc
 unfold ansY at hc
 split at hc
 ·rename_i hi
  refine ⟨fun _ => ?_,fun h2 => by rw [hi] at h2;simp at h2⟩
  split at hc
  ·rename_i w L' he
   simp only [Option.some.injEq,Prod.mk.injEq] at hc
   obtain ⟨rfl,rfl⟩:=hc
   exact h _ _ _ _ _ he
  ·simp at hc
 ·rename_i hi
  refine ⟨fun h2 => by rw [hi] at h2;simp at h2,fun _ => ?_⟩
  split at hc
  ·rename_i d hd
   simp only [Option.some.injEq,Prod.mk.injEq] at hc
   obtain ⟨rfl,rfl⟩:=hc
   exact ⟨rfl,hK _ (known_in hd)⟩
  split at hc
  ·rename_i w L' he
   split at hc
   ·rename_i d hd
    cases hb:(deepV L' w).all (fun b => b) with
    | false => rw [hb] at hc;simp at hc
    | true =>
     rw [hb] at hc
     simp only [cond_true,Option.some.injEq,Prod.mk.injEq] at hc
     obtain ⟨rfl,rfl⟩:=hc
     exact ⟨rfl,Zf2 hm (.mono (h _ _ _ _ _ he) fun x K ⟨e1,e2⟩ => by subst e1;subst e2;exact deep_of hd ((Zbv _).2 fun b hbm => (List.all_eq_true.1 hb) b hbm))⟩
   ·simp at hc
  ·simp at hc
end Go.Av

namespace Go.Av
open Go.RowKit
def ZeE (M:Mach) (it:FuncId) (A:AV) (xs:List (AV × AV)):Prop:=
 ∀ (l:Nat) (J:Nat -> St -> Prop),(∀ j T,J j T -> HeapOk T) -> (∀ j T T',J j T -> HeapOk T' -> Ext T T' -> T'.L = T.L -> J j T') ->
  (∀ j T v1 v2 (hj:j < xs.length),J j T -> Rel T (xs[j]).1 v1 -> Rel T (xs[j]).2 v2 -> ∃ fid tmps asg bd,(Instr.yield l #[v1,v2]).run (M.P ()) T.w = .ok (.round l fid tmps asg bd) T.w /\
   ∀ c cs,∃ T',J (j + 1) T' /\ (∀ a v,Rel T a v -> Rel T' a v) /\ Steps (M.P ()) (lone (Frame.round l fid tmps asg bd .normal) (c :: cs) T.w) (lone (c.finish (.bool true)) cs T'.w)) ->
  ∀ T cA,J 0 T -> Rel T A cA -> ∀ cs,∃ cv fr T',J xs.length T' /\ (∀ a v,Rel T a v -> Rel T' a v) /\
   Steps (M.P ()) (lone (Frame.enter (M.P ()) it #[.func (.yield l) #[] #[],cA] .normal) cs T.w) (lone fr cs T'.w) /\ fr.leaving (M.P ()) T'.w (.returned cv)
theorem Zb9 {T T':St} (hT:HeapOk T) (he:Ext T T') {l:Nat} {o:Obj} (ho:T.w.heap[l]? = some o) (hk:Zbs o = true) (hl:T.base <= l):T'.w.heap[l]? = some o:=
 (he.other l hl (Array.getElem?_eq_some_iff.1 ho).1 (other_blk hT ho hk)).trans ho
theorem vrel_mono {S S':St} (he:Ext S S') {env:Vars} {tm:Array Value} (h:VRel S env tm):VRel S' env tm:=fun t=>(h t).mono he
theorem ZeV {S:St} {env:Vars} {tm:Array Value} (h:VRel S env tm) {p:Nat} (hp:p < tm.size) {x:AV} {v:Value} (hx:Rel S x v):VRel S ((p,x) :: env) (tm.setIfInBounds p v):=by
 intro t
 simp only [Vars.get]
 by_cases e:p = t
 ·subst e
  have:(p == p) = true:=by simp
  rw [this]
  simpa [hp] using hx
 ·have:(p == t) = false:=by simpa using e
  rw [this]
  simpa [e] using h t
theorem fold_two {p0 p1:Tmp} {v1 v2:Value} (f:Array Value -> Tmp × Value -> Array Value) (a:Array Value):(#[p0,p1].zip #[v1,v2]).foldl f a = f (f a (p0,v1)) (p1,v2):=by
 have:(#[p0,p1].zip #[v1,v2]) = #[(p0,v1),(p1,v2)]:=by
  show [p0,p1].toArray.zip [v1,v2].toArray = _
  rw [List.zip_toArray];rfl
 rw [this];rfl
theorem range_sound {M:Mach} {fi:Fi} {g:Operand} {p0 p1:Tmp} {ida:Nat} {opsA:Array Oper} {body:Code} {k:List Item} {env:Vars} {L:Heap} {Q:AV -> Heap -> Prop} {it:FuncId} {A:AV} {xs:List (AV × AV)} {keepA:List Nat}
  (hg:evV env g = .func (.func it) [] [A]) (hit:∀ args w,(callFunc it args).run (M.P ()) w = .ok (.enter it args) w) (hI:ZeE M it A xs) (hna:Zck opsA = true) (hnb:Zb4 body = true) (hp0:p0 < fi.n) (hp1:p1 < fi.n)
  (Ls:Nat -> Heap) (h0:Ls 0 = L) (eA:Nat -> Env)
  (hasg:∀ j (hj:j < xs.length),Zak M.P M.inl (fun _ _ _ => none) fi.n opsA (fun _ => none) (fun _ => 2) (List.range opsA.size) ⟨lift ((p1,(xs[j]).2) :: (p0,(xs[j]).1) :: env),Ls j,[],[],[]⟩ = some ⟨eA j,Ls j,[],[],[]⟩)
  (hbody:∀ j,j < xs.length -> ZaH M fi [.code body] (Zbe keepA (eA j)) (Ls j) (fun _ L' => L' = Ls (j + 1)))
  (hk:ZaH M fi k env (Ls xs.length) Q):ZaH M fi (.code (.rangeFunc g #[p0,p1] (.region ida opsA false) body) :: k) env L Q:=by
 intro S b a cs fn h1 h2 h3 h4 h5 h6 h7 h8
 have hb:b.roundOf = none:=by
  rcases h4 with h | h
  ·exact h
  ·simp [Zcp,ZdM,Zb4] at h
 obtain ⟨R,hR⟩:∃ R:Loop,R = { state:=.ready,pending:=none,fn:=b.fn,tmps:=a.tmps,params:=#[p0,p1],assign:=.region ida opsA false,body,defers:=S.w.heap.size }:=⟨_,rfl⟩
 obtain ⟨B,hB⟩:∃ B:Loop,B = { R with state:=.busy }:=⟨_,rfl⟩
 obtain ⟨X,hX⟩:∃ X:Loop,X = { R with state:=.exhausted }:=⟨_,rfl⟩
 obtain ⟨W1,hW1⟩:∃ W1,(S.w.alloc (.deferred (some []))).alloc (.loop R) = W1:=⟨_,rfl⟩
 have hl1:W1.heap[S.w.heap.size + 1]? = some (.loop R):=by
  rw [<- hW1];have:=World.alloc_heap_new (S.w.alloc (.deferred (some []))) (.loop R);rwa [World.size_alloc] at this
 have hd1:W1.heap[S.w.heap.size]? = some (.deferred (some [])):=by
  rw [<- hW1];exact (Below.heap_alloc _ _ _ (by simp)).trans (World.alloc_heap_new S.w _)
 have hbelow:Below S.base S.w W1:=by
  rw [<- hW1];exact (((Below.refl _ S.w).alloc h5.base _).alloc (by simp;have:=h5.base;omega) _)
 have hsame:∀ q,q < S.w.heap.size -> W1.heap[q]? = S.w.heap[q]?:=fun q hq => by
  rw [<- hW1];exact (Below.heap_alloc _ _ q (by simp;omega)).trans (Below.heap_alloc _ _ q hq)
 obtain ⟨o1,e1⟩:=Zb6 h5 hbelow hsame
 obtain ⟨cg,hcg⟩:∃ cg,a.eval g = cg:=⟨_,rfl⟩
 have hrg:=ZeW (a:=a) h7 g
 rw [hg,hcg] at hrg
 obtain ⟨va,vb,rfl,l1,l2,r1,r2⟩:=ZbW hrg
 have hva:va = []:=List.length_eq_zero_iff.1 l1.symm
 subst hva
 obtain ⟨cA,rfl⟩:=List.length_eq_one_iff.1 l2.symm
 have hcA:Rel S A cA:=r2 0 A cA rfl rfl
 let J:Nat -> St -> Prop:=fun j T => HeapOk T /\ Ext S T /\ T.L = Ls j /\ T.w.heap[S.w.heap.size + 1]? = some (.loop R) /\ T.w.heap[S.w.heap.size]? = some (.deferred (some []))
 have hbase:∀ {T:St},Ext S T -> T.base <= S.w.heap.size:=fun he => by rw [he.base];exact h5.base
 have hJ:∀ j T T',J j T -> HeapOk T' -> Ext T T' -> T'.L = T.L -> J j T':=fun j T T' ⟨q1,q2,q3,q4,q5⟩ hT' he hL =>
  ⟨hT',q2.trans he,hL.trans q3,Zb9 q1 he q4 rfl (by have:=hbase q2;omega),Zb9 q1 he q5 rfl (hbase q2)⟩
 have hround:∀ j T v1 v2 (hj:j < xs.length),J j T -> Rel T (xs[j]).1 v1 -> Rel T (xs[j]).2 v2 -> ∃ fid tmps asg bd,(Instr.yield (S.w.heap.size + 1) #[v1,v2]).run (M.P ()) T.w = .ok (.round (S.w.heap.size + 1) fid tmps asg bd) T.w /\
   ∀ c cs,∃ T',J (j + 1) T' /\ (∀ a v,Rel T a v -> Rel T' a v) /\ Steps (M.P ()) (lone (Frame.round (S.w.heap.size + 1) fid tmps asg bd .normal) (c :: cs) T.w) (lone (c.finish (.bool true)) cs T'.w):=by
  intro j T v1 v2 hj ⟨q1,q2,q3,q4,q5⟩ hv1 hv2
  obtain ⟨tm,htm⟩:∃ tm:Array Value,tm = (a.tmps.setIfInBounds p0 v1).setIfInBounds p1 v2:=⟨_,rfl⟩
  have hy:(Instr.yield (S.w.heap.size + 1) #[v1,v2]).run (M.P ()) T.w = .ok (.round (S.w.heap.size + 1) b.fn tm (.region ida opsA false) body) T.w:=by
   have:=run_yield (P:=M.P ()) (args:=#[v1,v2]) q4 (by rw [hR];rfl)
   rw [hR] at this
   simp only [fold_two] at this
   rw [this,htm]
  refine ⟨b.fn,tm,.region ida opsA false,body,hy,fun c cs => ?_⟩
  have hV:VRel T ((p1,(xs[j]).2) :: (p0,(xs[j]).1) :: env) tm:=by
   rw [htm]
   exact ZeV (ZeV (vrel_mono q2 h7) (Nat.lt_of_lt_of_le hp0 h8) hv1) (by rw [Array.size_setIfInBounds];exact Nat.lt_of_lt_of_le hp1 h8) hv2
  let bR:Frame:={ (default:Frame) with fn:=b.fn,kind:=.normal,roundOf:=some (S.w.heap.size + 1) }
  have hfr:Frame.round (S.w.heap.size + 1) b.fn tm (.region ida opsA false) body .normal = bR.atR { tmps:=tm,defers:=[] } [.code (.region ida opsA false),.beginRound,.code body]:=by
   simp [Frame.round,Frame.atR,bR]
  have hsz:fi.n <= tm.size:=by rw [htm,Array.size_setIfInBounds,Array.size_setIfInBounds];exact h8
  rw [hfr]
  have hA:RegR (M.P ()) ida opsA false (fun a' w' => ∃ T2:St,T2.w = w' /\ HeapOk T2 /\ Ext T T2 /\ T2.L = Ls j /\ VRel T2 (Zbe keepA (eA j)) a'.tmps /\ a'.tmps.size = tm.size /\ a'.defers = []) { tmps:=tm,defers:=[] } T.w:=
   ZdT (Zby _ (hasg j hj) (by simp) (by simp) (by simp) q1 q3 (ZbZ hV) hsz fun S' a' k1 k2 k3 k4 k5 k6 => ⟨S',rfl,k1,k2,k3,Za2 k4 keepA,k5,k6⟩)
  obtain ⟨a2,_,⟨T2,rfl,u1,u2,u3,u4,u5,u6⟩,st1⟩:=hA bR [.beginRound,.code body] (c :: cs) (.inr hna)
  have hl2:=Zb9 q1 u2 q4 rfl (by have:=hbase q2;omega)
  have hd2:=Zb9 q1 u2 q5 rfl (hbase q2)
  have hbr:=run_beginRound (P:=M.P ()) hl2 (by rw [hR])
  rw [<- hB] at hbr
  obtain ⟨v1',v2'⟩:=ZdU (o':=.loop B) u1 hl2 rfl rfl
  have x3:Ext S ⟨T2.base,T2.acc,T2.L,T2.β,T2.w.putObj (S.w.heap.size + 1) (.loop B)⟩:=
   put_ext hl2 rfl rfl h5.base (by omega) (q2.trans u2)
  have hl3:(T2.w.putObj (S.w.heap.size + 1) (.loop B)).heap[S.w.heap.size + 1]? = some (.loop B):=World.putObj_heap_same (Array.getElem?_eq_some_iff.1 hl2).1
  have hd3:(T2.w.putObj (S.w.heap.size + 1) (.loop B)).heap[S.w.heap.size]? = some (.deferred (some [])):=(World.putObj_heap_other (by omega)).trans hd2
  obtain ⟨a4,todo4,Ds4,w4,β4,v4,L4,hq4,g1,g2,s4,d4,m4,r4,o4,x4⟩:=hbody j hj ⟨T2.base,T2.acc,T2.L,T2.β,T2.w.putObj (S.w.heap.size + 1) (.loop B)⟩ bR a2 (c :: cs) fn h1 h2 rfl
   (.inr (by simp [Zcp,ZdM,hnb])) v1' u3 (fun t => v2' _ _ (u4 t)) (by rw [u5];exact hsz)
  obtain ⟨rfl,rfl⟩:todo4 = [] /\ Ds4 = []:=by
   rcases g2 with g | g
   ·simp [bR] at g
   ·exact g
  subst hq4
  have hb3:T2.base <= S.w.heap.size:=hbase (q2.trans u2)
  have hl4:=Zb9 v1' x4 hl3 rfl (by show T2.base <= _;omega)
  have hd4:=Zb9 v1' x4 hd3 rfl hb3
  have her:=run_endRound (P:=M.P ()) none hl4
  have hrr:({ B with state:=if (none:Option Code).isNone then .ready else .done,pending:=none }:Loop) = R:=by rw [hB,hR];rfl
  rw [hrr] at her
  obtain ⟨y1,y2⟩:=ZdU (o':=.loop (R)) o4 hl4 rfl rfl
  have x5:=put_ext (o':=.loop (R)) hl4 rfl rfl h5.base (by omega) (x3.trans x4)
  refine ⟨_,⟨y1,x5,rfl,World.putObj_heap_same (Array.getElem?_eq_some_iff.1 hl4).1,(World.putObj_heap_other (by omega)).trans hd4⟩,fun a v h => y2 _ _ ((v2' _ _ (h.mono u2)).mono x4),?_⟩
  exact Steps.trans st1 (.head (stepR_beginRound rfl hbr) (Steps.trans s4 (.one (stepR_round_end rfl rfl her))))
 have hmono:∀ a v,Rel S a v -> Rel ⟨S.base,S.acc,S.L,S.β,W1⟩ a v:=fun a v h => h.mono e1
 obtain ⟨cv,fr,T,⟨q1,q2,q3,q4,q5⟩,t2,t3,t4⟩:=hI (S.w.heap.size + 1) J (fun j T h => h.1) hJ hround ⟨S.base,S.acc,S.L,S.β,W1⟩ cA ⟨o1,e1,h6.trans h0.symm,hl1,hd1⟩ (hmono _ _ hcA)
  (b.atR { a with defers:=[ZeK S.w.heap.size] ++ a.defers } (.inRangeFunc (S.w.heap.size + 1) :: k) :: cs)
 have he:=run_enterLoop_outer (P:=M.P ()) (w:=S.w) b.fn a.tmps #[p0,p1] (.region ida opsA false) body
 have hW1':(S.w.alloc (.deferred (some []))).alloc (.loop { state:=.ready,pending:=none,fn:=b.fn,tmps:=a.tmps,params:=#[p0,p1],assign:=.region ida opsA false,body,defers:=S.w.heap.size }) = W1:=by rw [<- hW1,hR]
 rw [hW1',<- hb] at he
 have henter:=stepR_rangeFunc (P:=M.P ()) (b:=b) (a:=a) (k:=k) (cs:=cs) (w:=S.w) (g:=g) (d:={ target:=.fn (.func it) #[cA],args:=#[.func (.yield (S.w.heap.size + 1)) #[] #[]] }) (w₁':=W1) (w₂:=W1) (f:=it) (args:=#[.func (.yield (S.w.heap.size + 1)) #[] #[]] ++ #[cA]) he
  (by simp only [resolve,rangeCall,hcg];simp [go_sem]) (by simp [invoke,go_sem,hit])
 have hend:=run_endLoop (P:=M.P ()) q4 (by rw [hR];simp)
 rw [<- hX,(show R.pending = none by rw [hR])] at hend
 obtain ⟨z1,z2⟩:=ZdU (o':=.loop X) q1 q4 rfl rfl
 have x6:=put_ext (o':=.loop X) q4 rfl rfl h5.base (by omega) q2
 have hd6:(T.w.putObj (S.w.heap.size + 1) (.loop X)).heap[S.w.heap.size]? = some (.deferred (some [])):=(World.putObj_heap_other (by omega)).trans q5
 have hb6:=hbase q2
 obtain ⟨a7,todo7,Ds7,w7,β7,v7,L7,hq7,g1,g2,s7,d7,m7,r7,o7,x7⟩:=hk ⟨T.base,T.acc,T.L,T.β,T.w.putObj (S.w.heap.size + 1) (.loop X)⟩ b { a with defers:=[ZeK S.w.heap.size] ++ a.defers } cs fn h1 h2 h3 (.inl hb) z1 q3
  (fun t => z2 _ _ ((h7 t).mono q2)) h8
 have hd7:=Zb9 z1 x7 hd6 rfl hb6
 have hsz7:S.w.heap.size < (T.w.putObj (S.w.heap.size + 1) (.loop X)).heap.size:=(Array.getElem?_eq_some_iff.1 hd6).1
 have hb7:T.base = S.base:=q2.base
 have ha7:T.acc = S.acc:=q2.acc
 refine ⟨a7,todo7,Ds7 ++ [S.w.heap.size],w7,β7,v7,L7,hq7,g1,.inl hb,?_,by rw [d7];simp,⟨?_,fun D hD => ?_⟩,?_,?_,?_⟩
 ·refine .head henter (Steps.trans t3 (.head ?_ (.head (stepR_endRangeFunc hend) s7)))
  rw [<- finish_atR_inRangeFunc (S.w.heap.size + 1) cv]
  exact step_leave_returned t4
 ·rw [List.nodup_append]
  refine ⟨m7.1,by simp,fun x hx y hy => ?_⟩
  simp only [List.mem_singleton] at hy
  have:=(m7.2 x hx).1
  simp only at this
  omega
 ·rcases List.mem_append.1 hD with h | h
  ·obtain ⟨n1,n2⟩:=m7.2 D h
   simp only at n1
   exact ⟨by omega,n2⟩
  ·simp only [List.mem_singleton] at h;subst h
   exact ⟨Nat.le_refl _,hd7⟩
 ·intro w'' hn
  obtain ⟨cv',n1,n2⟩:=r7 w'' hn
  simp only [hb7,ha7] at n2
  exact ⟨cv',n1,n2⟩
 ·simpa only [hb7,ha7] using o7
 ·have:=x6.trans x7
  simpa only [hb7,ha7] using this
def bkX (X:List Int):List (AV × AV):=(List.range X.length).map fun j=>(.int .i64 ((X.length-1-j:Nat):Int),.int .i64 (X.getD (X.length-1-j) 0))
inductive Rounds (M:Mach) (fi:Fi) (p0 p1:Tmp) (opsA:Array Oper) (body:Code) (env:Vars) (keepA:List Nat):List (AV × AV) -> Heap -> Heap -> Prop
 | nil (L:Heap):Rounds M fi p0 p1 opsA body env keepA [] L L
 | cons {x:AV × AV} {xs:List (AV × AV)} {L L1 L2:Heap} (e:Env):Zak M.P M.inl (fun _ _ _ => none) fi.n opsA (fun _ => none) (fun _ => 2) (List.range opsA.size) ⟨lift ((p1,x.2) :: (p0,x.1) :: env),L,[],[],[]⟩ = some ⟨e,L,[],[],[]⟩ ->
   ZaH M fi [.code body] (Zbe keepA e) L (fun _ L' => L' = L1) -> Rounds M fi p0 p1 opsA body env keepA xs L1 L2 -> Rounds M fi p0 p1 opsA body env keepA (x :: xs) L L2
theorem Rounds.to {M:Mach} {fi:Fi} {p0 p1:Tmp} {opsA:Array Oper} {body:Code} {env:Vars} {keepA:List Nat} {xs:List (AV × AV)} {L L2:Heap} (h:Rounds M fi p0 p1 opsA body env keepA xs L L2) :
  ∃ (Ls:Nat -> Heap) (eA:Nat -> Env),Ls 0 = L /\ Ls xs.length = L2 /\
   (∀ j (hj:j < xs.length),Zak M.P M.inl (fun _ _ _ => none) fi.n opsA (fun _ => none) (fun _ => 2) (List.range opsA.size) ⟨lift ((p1,(xs[j]).2) :: (p0,(xs[j]).1) :: env),Ls j,[],[],[]⟩ = some ⟨eA j,Ls j,[],[],[]⟩) /\
   (∀ j,j < xs.length -> ZaH M fi [.code body] (Zbe keepA (eA j)) (Ls j) (fun _ L' => L' = Ls (j + 1))):=by
 induction h with
 | nil L => exact ⟨fun _ => L,fun _ => [],rfl,rfl,fun j hj => absurd hj (Nat.not_lt_zero _),fun j hj => absurd hj (Nat.not_lt_zero _)⟩
 | @cons x xs L L1 L2 e h1 h2 _ ih =>
  obtain ⟨Ls,eA,g1,g2,g3,g4⟩:=ih
  refine ⟨fun j => match j with | 0 => L | j + 1 => Ls j,fun j => match j with | 0 => e | j + 1 => eA j,rfl,g2,fun j hj => ?_,fun j hj => ?_⟩
  ·cases j with
   | zero => exact h1
   | succ j => exact g3 j (by simpa using hj)
  ·cases j with
   | zero => subst g1;exact h2
   | succ j => exact g4 j (by simpa using hj)
theorem range_rounds {M:Mach} {fi:Fi} {g:Operand} {p0 p1:Tmp} {ida:Nat} {opsA:Array Oper} {body:Code} {k:List Item} {env:Vars} {L L2:Heap} {Q:AV -> Heap -> Prop} {it:FuncId} {A:AV} {xs:List (AV × AV)} {keepA:List Nat}
  (hg:evV env g = .func (.func it) [] [A]) (hit:∀ args w,(callFunc it args).run (M.P ()) w = .ok (.enter it args) w) (hI:ZeE M it A xs) (hna:Zck opsA = true) (hnb:Zb4 body = true) (hp0:p0 < fi.n) (hp1:p1 < fi.n)
  (hr:Rounds M fi p0 p1 opsA body env keepA xs L L2) (hk:ZaH M fi k env L2 Q):ZaH M fi (.code (.rangeFunc g #[p0,p1] (.region ida opsA false) body) :: k) env L Q:=by
 obtain ⟨Ls,eA,g1,g2,g3,g4⟩:=hr.to
 subst g2
 exact range_sound hg hit hI hna hnb hp0 hp1 Ls g1 eA g3 g4 hk
def runV (M:Mach) (n:Nat) (ops:Array Oper) (ans:Nat -> Option Ans) (l keep:List Nat) (env:Vars) (L:Heap):Option (Vars × Heap × List Bool × List Prop):=
 match Zak M.P M.inl (fun _ _ _ => none) n ops ans (fun _ => 2) l ⟨lift env,L,[],[],[]⟩ with
 | some s => match s.calls with
  | [] => some (Zbe keep s.env,s.L,s.asm,s.eqs)
  | _ => none
 | none => none
theorem ops_run {M:Mach} {n:Nat} {ops:Array Oper} {ans:Nat -> Option Ans} {l keep:List Nat} {env env':Vars} {L L':Heap} {asm:List Bool} {eqs:List Prop} (h:runV M n ops ans l keep env L = some (env',L',asm,eqs)) (hA:allB asm) (hQ:allP eqs)
  {S:St} {a:Act} (h5:HeapOk S) (h6:S.L = L) (h7:VRel S env a.tmps) (h8:n <= a.tmps.size) (b:Frame) (hb:b.roundOf = none \/ Zck ops = true) (rest:List Nat) (k:List Item) (cs:List Frame) :
  ∃ S' a',Steps (M.P ()) (lone (b.atR a (.inRegion ops (l ++ rest) :: k)) cs S.w) (lone (b.atR a' (.inRegion ops rest :: k)) cs S'.w) /\ HeapOk S' /\ Ext S S' /\ S'.L = L' /\ VRel S' env' a'.tmps /\ a'.tmps.size = a.tmps.size /\ a'.defers = a.defers:=by
 unfold runV at h
 split at h
 ·rename_i s hs
  split at h
  ·rename_i hc
   simp only [Option.some.injEq,Prod.mk.injEq] at h
   obtain ⟨rfl,rfl,rfl,rfl⟩:=h
   have hw:wpOps (M.P ()) ops (onlyN fun a' w' => ∃ S':St,S'.w = w' /\ HeapOk S' /\ Ext S S' /\ S'.L = s.L /\ VRel S' (Zbe keep s.env) a'.tmps /\ a'.tmps.size = a.tmps.size /\ a'.defers = a.defers) l a S.w:=
    Zby _ hs ((Zbv _).1 hA) ((Ze8 _).1 hQ) (by rw [hc];simp) h5 h6 (ZbZ h7) h8 fun S' a' k1 k2 k3 k4 k5 k6 => ⟨S',rfl,k1,k2,k3,Za2 k4 keep,k5,k6⟩
   obtain ⟨a',w',⟨S',rfl,k1,k2,k3,k4,k5,k6⟩,hst⟩:=opsR (b:=b) (k:=k) (cs:=cs) (rest:=rest) hb l a S.w hw
   exact ⟨S',a',hst,k1,k2,k3,k4,k5,k6⟩
  ·simp at h
 ·simp at h
theorem reg_run {M:Mach} {n id:Nat} {ops:Array Oper} {ans:Nat -> Option Ans} {keep:List Nat} {env env':Vars} {L L':Heap} {asm:List Bool} {eqs:List Prop} (h:runV M n ops ans (List.range ops.size) keep env L = some (env',L',asm,eqs)) (hA:allB asm) (hQ:allP eqs)
  {S:St} {a:Act} (h5:HeapOk S) (h6:S.L = L) (h7:VRel S env a.tmps) (h8:n <= a.tmps.size) (b:Frame) (hb:b.roundOf = none \/ Zck ops = true) (k:List Item) (cs:List Frame) :
  ∃ S' a',Steps (M.P ()) (lone (b.atR a (.code (.region id ops false) :: k)) cs S.w) (lone (b.atR a' k) cs S'.w) /\ HeapOk S' /\ Ext S S' /\ S'.L = L' /\ VRel S' env' a'.tmps /\ a'.tmps.size = a.tmps.size /\ a'.defers = a.defers:=by
 obtain ⟨S',a',hst,hr⟩:=ops_run h hA hQ h5 h6 h7 h8 b hb [] k cs
 rw [List.append_nil] at hst
 exact ⟨S',a',.head stepR_region (Steps.trans hst (.one stepR_region_end)),hr⟩
theorem yield_step {P:Program} {ops:Array Oper} {i l:Nat} {rest:List Nat} {o:Oper} {tf t1 t2:Tmp} {at':Array TypeId} {b:Frame} {a:Act} {k:List Item} {cs:List Frame} {w:World} {fid:FuncId} {tm:Array Value} {asg bd:Code}
  (ho:ops[i]? = some o) (hop:o.op = .call { callee:=.value (.tmp tf),args:=#[.tmp t1,.tmp t2],argTypes:=at' }) (hgd:o.guard = none) (hf:a.eval (.tmp tf) = .func (.yield l) #[] #[])
  (hy:(Instr.yield l #[a.eval (.tmp t1),a.eval (.tmp t2)]).run P w = .ok (.round l fid tm asg bd) w) :
  step P (lone (b.atR a (.inRegion ops (i :: rest) :: k)) cs w) = .next (lone (Frame.round l fid tm asg bd .normal) (b.atR a (.inRegion ops (i :: rest) :: k) :: cs) w):=by
 have hw:Region.wanted o (yielded ops a.tmps) = true:=by simp [Region.wanted,hgd]
 have hg:=stepGR_op (P:=P) (b:=b) (a:=a) (k:=k) (cs:=cs) (w:=w) (rest:=rest) ho hw
 rw [Oper.semAt_eq _ _ _ (by rw [hop];simp)] at hg
 have hr':(execOp a.eval o).run P w = .ok (.round l fid tm asg bd) w:=by
  simp only [execOp,hop,resolve,hf]
  simp [go_sem,invoke]
  simpa [Act.eval] using hy
 exact step_lone_go (by rw [hg];simp [stepG.apply,hr',Frame.atR])
end Go.Av

namespace Go.Av
open Go.Proofs
noncomputable def M1:Mach:=⟨fun _=>Try.prog,fun f=>[35,42,43,52,49,54,50,39].contains f⟩
theorem hm1:(M1.P ()).follows .mixedOrders=true:=by kernel_rfl
end Go.Av

namespace Go.Av
open Go.Proofs Go.RowKit
set_option maxRecDepth 100000
noncomputable def bkC:Code:=cd Try.f55
noncomputable def bk0:Array Oper:=match bkC with
 | .seq (.region _ o _) _ => o
 | _ => #[]
noncomputable def bk1:Array Oper:=match bkC with
 | .seq _ (.block _ (.loop (.seq (.seq (.region _ o _) _) _))) => o
 | _ => #[]
noncomputable def bk2:Array Oper:=match bkC with
 | .seq _ (.block _ (.loop (.seq _ (.seq _ (.region _ o _))))) => o
 | _ => #[]
noncomputable def bk3:Array Oper:=match bkC with
 | .seq _ (.block _ (.loop (.seq _ (.seq (.block _ (.seq (.region _ o _) _)) _)))) => o
 | _ => #[]
noncomputable def bkR:Code:=.seq (.seq (.region 1 bk1 false) (.cond (.tmp 8) .skip (.exit 0))) (.seq (.block 1 (.seq (.region 3 bk3 false) (.cond (.tmp 18) .ret .skip))) (.region 2 bk2 false))
theorem bk_code:bkC = .seq (.region 0 bk0 false) (.block 0 (.loop bkR)):=by kernel_rfl
theorem bk_ops:bk3[6]? = some (bk3[6]?.getD default)/\(bk3[6]?.getD default).op = .call { callee:=.value (.tmp 11),args:=#[.tmp 12,.tmp 16],argTypes:=#[3,3] } /\ (bk3[6]?.getD default).guard=none/\(bk3[6]?.getD default).dst=some 17:=⟨by kernel_rfl,by kernel_rfl,by kernel_rfl,by kernel_rfl⟩
noncomputable abbrev bkY (l:Nat):AV:=.func (.yield l) [] []
noncomputable abbrev bkA (f:Bool) (X:List Int):AV:=.eptr 1 [.vec f 1 (X.map (.int .i64))] 0 0
theorem bk_r0 (l:Nat) (f:Bool) (X:List Int) (L:Heap):runV M1 19 bk0 (fun _=>none) (List.range bk0.size) [0,1,3] [(0,bkY l),(1,bkA f X)] L=some ([(0,bkY l),(1,bkA f X),(3,.int .i64 (IntKind.i64.wrap (((X.map (AV.int .i64)).length:Int)-1)))],L,[],[]):=by kernel_rfl
theorem bk_r1 (l:Nat) (f:Bool) (X:List Int) (i:Int) (L:Heap):runV M1 19 bk1 (fun _=>none) (List.range bk1.size) [0,1,3,8] [(0,bkY l),(1,bkA f X),(3,.int .i64 i)] L=some ([(0,bkY l),(1,bkA f X),(3,.int .i64 i),(8,.bool (decide (i>=0)))],L,[],[]):=by kernel_rfl
theorem bk_r2 (l:Nat) (f:Bool) (X:List Int) (i:Int) (L:Heap):runV M1 19 bk2 (fun _=>none) (List.range bk2.size) [0,1,3] [(0,bkY l),(1,bkA f X),(3,.int .i64 i)] L=some ([(0,bkY l),(1,bkA f X),(3,.int .i64 (IntKind.i64.wrap (i-1)))],L,[],[]):=by kernel_rfl
theorem bk_r3 (l:Nat) (f:Bool) (X:List Int) (i x:Int) (L:Heap):runV M1 19 bk3 (fun j=>bif j==5 then some (.elem (.int .i64 x)) else none) (List.range 6) [0,1,3,11,12,16] [(0,bkY l),(1,bkA f X),(3,.int .i64 i)] L =
  some ([(0,bkY l),(1,bkA f X),(3,.int .i64 i),(11,bkY l),(12,.int .i64 i),(16,.int .i64 x)],L,[decide (0<=i),decide (i.toNat<(X.map (AV.int .i64)).length)],[(X.map (AV.int .i64))[i.toNat]? = some (.int .i64 x)]):=by kernel_rfl
theorem bk_r4 (l:Nat) (f:Bool) (X:List Int) (i x:Int) (L:Heap):runV M1 19 bk3 (fun _=>none) [7] [0,1,3,18] [(17,.bool true),(0,bkY l),(1,bkA f X),(3,.int .i64 i),(11,bkY l),(12,.int .i64 i),(16,.int .i64 x)] L =
  some ([(0,bkY l),(1,bkA f X),(3,.int .i64 i),(18,.bool false)],L,[],[]):=by kernel_rfl
theorem bk_range:List.range bk3.size=List.range 6++[6,7]:=by kernel_rfl
theorem bk_loop {l:Nat} {f:Bool} {X:List Int} (hX:X.length < 4611686018427387904) {J:Nat -> St -> Prop} (hJ1:∀ j T,J j T -> HeapOk T) (hJ2:∀ j T T',J j T -> HeapOk T' -> Ext T T' -> T'.L = T.L -> J j T')
  (hr:∀ j T v1 v2 (hj:j < (bkX X).length),J j T -> Rel T ((bkX X)[j]).1 v1 -> Rel T ((bkX X)[j]).2 v2 -> ∃ fid tmps asg bd,(Instr.yield l #[v1,v2]).run (M1.P ()) T.w = .ok (.round l fid tmps asg bd) T.w /\
   ∀ c cs,∃ T',J (j + 1) T' /\ (∀ a v,Rel T a v -> Rel T' a v) /\ Steps (M1.P ()) (lone (Frame.round l fid tmps asg bd .normal) (c :: cs) T.w) (lone (c.finish (.bool true)) cs T'.w)) (b:Frame) (hb:b.roundOf = none) (cs:List Frame) :
  ∀ (m j:Nat),j + m = X.length -> ∀ (T:St) (a:Act),J j T -> VRel T [(0,bkY l),(1,bkA f X),(3,.int .i64 ((m:Int) - 1))] a.tmps -> 19 <= a.tmps.size -> a.defers = [] ->
   ∃ T' a',J X.length T' /\ (∀ a v,Rel T a v -> Rel T' a v) /\ a'.defers = [] /\ Steps (M1.P ()) (lone (b.atR a [.code bkR,.inLoop bkR,.inBlock 0]) cs T.w) (lone (b.atR a' []) cs T'.w):=by
 intro m
 induction m with
 | zero =>
  intro j hj T a hT hV hs hd
  obtain ⟨T1,a1,s1,k1,k2,k3,k4,k5,k6⟩:=reg_run (id:=1) (bk_r1 l f X _ T.L) trivial trivial (hJ1 _ _ hT) rfl hV hs b (.inl hb) [.code (.cond (.tmp 8) .skip (.exit 0)),.code (.seq (.block 1 (.seq (.region 3 bk3 false) (.cond (.tmp 18) .ret .skip))) (.region 2 bk2 false)),.inLoop bkR,.inBlock 0] cs
  have hc:=Zbb (k4 8)
  refine ⟨T1,a1,?_,fun a v h => h.mono k2,by rw [k6,hd],?_⟩
  ·have:j = X.length:=by omega
   subst this;exact hJ2 _ _ _ hT k1 k2 k3
  ·refine .head stepR_seq (.head stepR_seq (Steps.trans s1 (.head (stepR_cond (t:=false) ?_) (.one (stepR_exit rfl)))))
   rw [show a1.eval (.tmp 8) = a1.tmps.getD 8 undef from rfl,hc];rfl
 | succ m ih =>
  intro j hj T a hT hV hs hd
  have e1:((m + 1:Nat):Int) - 1 = (m:Int):=by omega
  rw [e1] at hV
  obtain ⟨T1,a1,s1,k1,k2,k3,k4,k5,k6⟩:=reg_run (id:=1) (bk_r1 l f X _ T.L) trivial trivial (hJ1 _ _ hT) rfl hV hs b (.inl hb) [.code (.cond (.tmp 8) .skip (.exit 0)),.code (.seq (.block 1 (.seq (.region 3 bk3 false) (.cond (.tmp 18) .ret .skip))) (.region 2 bk2 false)),.inLoop bkR,.inBlock 0] cs
  have hc:=Zbb (k4 8)
  have hT1:=hJ2 _ _ _ hT k1 k2 k3
  have hV1:VRel T1 [(0,bkY l),(1,bkA f X),(3,.int .i64 (m:Int))] a1.tmps:=ZfL k4 [0,1,3]
  have hm:m < X.length:=by omega
  obtain ⟨T2,a2,s2,u1,u2,u3,u4,u5,u6⟩:=ops_run (bk_r3 l f X (m:Int) (X.getD m 0) T1.L) (Zaf (by simp) (Zaf (by simpa using hm) trivial)) (Zei (by simp [hm]) trivial) k1 rfl hV1 (by omega) b (.inl hb) [6,7]
   [.code (.cond (.tmp 18) .ret .skip),.inBlock 1,.code (.region 2 bk2 false),.inLoop bkR,.inBlock 0] cs
  have hT2:=hJ2 _ _ _ hT1 u1 u2 u3
  have hlen:(bkX X).length = X.length:=by simp [bkX]
  have hjl:j < (bkX X).length:=by omega
  have hget:(bkX X)[j] = (.int .i64 (m:Int),.int .i64 (X.getD m 0)):=by
   simp only [bkX,List.getElem_map,List.getElem_range]
   have:X.length - 1 - j = m:=by omega
   rw [this]
  have v1:Rel T2 ((bkX X)[j]).1 (a2.eval (.tmp 12)):=by rw [hget];exact u4 12
  have v2:Rel T2 ((bkX X)[j]).2 (a2.eval (.tmp 16)):=by rw [hget];exact u4 16
  obtain ⟨fid,tm,asg,bd,hy,hround⟩:=hr j T2 _ _ hjl hT2 v1 v2
  have hyv:a2.eval (.tmp 11) = .func (.yield l) #[] #[]:=by
   obtain ⟨va,vb,e,l1,l2,_⟩:=ZbW (u4 11)
   have h1:va = []:=List.length_eq_zero_iff.1 l1.symm
   have h2:vb = []:=List.length_eq_zero_iff.1 l2.symm
   subst h1;subst h2;exact e
  obtain ⟨T3,hT3,hmono,s3⟩:=hround (b.atR a2 (.inRegion bk3 (6 :: [7]) :: [.code (.cond (.tmp 18) .ret .skip),.inBlock 1,.code (.region 2 bk2 false),.inLoop bkR,.inBlock 0])) cs
  have hys:=yield_step (P:=M1.P ()) (rest:=[7]) (b:=b) (k:=[.code (.cond (.tmp 18) .ret .skip),.inBlock 1,.code (.region 2 bk2 false),.inLoop bkR,.inBlock 0]) (cs:=cs) bk_ops.1 bk_ops.2.1 bk_ops.2.2.1 hyv hy
  rw [Frame.finish_atR] at s3
  have hdst:(bk3[6]?).bind (·.dst) = some 17:=by rw [bk_ops.1];exact bk_ops.2.2.2
  rw [hdst] at s3
  have hV3:VRel T3 ((17,.bool true) :: [(0,bkY l),(1,bkA f X),(3,.int .i64 (m:Int)),(11,bkY l),(12,.int .i64 (m:Int)),(16,.int .i64 (X.getD m 0))]) (a2.put (some 17) (.bool true)).tmps:=
   ZeV (fun t => hmono _ _ (u4 t)) (by omega) (.data _ _ (.bool true))
  obtain ⟨T4,a4,s4,w1,w2,w3,w4,w5,w6⟩:=ops_run (bk_r4 l f X (m:Int) (X.getD m 0) T3.L) trivial trivial (hJ1 _ _ hT3) rfl hV3 (by rw [ZbU];omega) b (.inl hb) [] [.code (.cond (.tmp 18) .ret .skip),.inBlock 1,.code (.region 2 bk2 false),.inLoop bkR,.inBlock 0] cs
  rw [List.append_nil] at s4
  have hT4:=hJ2 _ _ _ hT3 w1 w2 w3
  have hc4:=Zbb (w4 18)
  have hs4:19 <= a4.tmps.size:=by rw [w5,ZbU];omega
  obtain ⟨T5,a5,s5,x1,x2,x3,x4,x5,x6⟩:=reg_run (id:=2) (bk_r2 l f X (m:Int) T4.L) trivial trivial w1 rfl (ZfL w4 [0,1,3]) hs4 b (.inl hb) [.inLoop bkR,.inBlock 0] cs
  have hT5:=hJ2 _ _ _ hT4 x1 x2 x3
  rw [w64 _ (by omega)] at x4
  have hd2:a2.defers = []:=by rw [u6,k6,hd]
  obtain ⟨T6,a6,y1,y2,y3,y4⟩:=ih (j + 1) (by omega) T5 a5 hT5 x4 (by omega) (by rw [x6,w6];simpa [Act.put] using hd2)
  refine ⟨T6,a6,y1,fun a v h => y2 _ _ (((hmono _ _ ((h.mono k2).mono u2)).mono w2).mono x2),y3,?_⟩
  refine .head stepR_seq (.head stepR_seq (Steps.trans s1 (.head (stepR_cond (t:=true) ?_) (.head stepR_skip (.head stepR_seq (.head stepR_block (.head stepR_seq (.head stepR_region ?_))))))))
  ·rw [show a1.eval (.tmp 8) = a1.tmps.getD 8 undef from rfl,hc];simp
  rw [bk_range]
  refine Steps.trans s2 (.head hys (Steps.trans s3 (Steps.trans s4 (.head stepR_region_end (.head (stepR_cond (t:=false) ?_) (.head stepR_skip (.head stepR_inBlock (Steps.trans s5 (.head stepR_inLoop y4)))))))))
  rw [show a4.eval (.tmp 18) = a4.tmps.getD 18 undef from rfl,hc4]
theorem bk_iter (f:Bool) (X:List Int) (hX:X.length < 4611686018427387904):ZeE M1 55 (bkA f X) (bkX X):=by
 intro l J hJ1 hJ2 hr T cA h0 hcA cs
 have hlen:(bkX X).length = X.length:=by simp [bkX]
 rw [hlen]
 obtain ⟨hf,hb,hnt,hres⟩:(M1.P ()).funcs[55]? = some Try.f55 /\ Try.f55.body = some bkC /\ Try.f55.ntmps = 19 /\ Try.f55.results = #[]:=⟨by kernel_rfl,by kernel_rfl,by kernel_rfl,by kernel_rfl⟩
 let b:Frame:={ (default:Frame) with fn:=55,kind:=.normal,roundOf:=none }
 let a:Act:={ tmps:=(⟨[.func (.yield l) #[] #[],cA]⟩:Array Value) ++ Array.replicate (19 - 2) undef,defers:=[] }
 have henter:Frame.enter (M1.P ()) 55 #[.func (.yield l) #[] #[],cA] .normal = b.atR a [.code bkC]:=by
  simp [Frame.enter,Frame.atR,hf,hb,b,a,hnt]
 have hV:VRel T [(0,bkY l),(1,bkA f X)] a.tmps:=enter_rel (args:=[bkY l,bkA f X]) (19 - 2) (.cons (.data _ _ (.func _ [] [] [] [] rfl rfl (by simp) (by simp))) (.cons hcA (.nil T)))
 obtain ⟨T1,a1,s1,k1,k2,k3,k4,k5,k6⟩:=reg_run (id:=0) (bk_r0 l f X T.L) trivial trivial (hJ1 _ _ h0) rfl hV (by simp [a]) b (.inl rfl) [.code (.block 0 (.loop bkR))] cs
 rw [List.length_map,w64 _ (by omega)] at k4
 obtain ⟨T2,a2,m1,m2,m3,m4⟩:=bk_loop hX hJ1 hJ2 hr b rfl cs X.length 0 (by omega) T1 a1 (hJ2 _ _ _ h0 k1 k2 k3) k4 (by rw [k5];simp [a]) (by rw [k6])
 refine ⟨.tuple #[],{ b.atR a2 [] with mode:=.returning },T2,m1,fun a v h => m2 _ _ (h.mono k2),?_,rfl,m3,rfl,Try.f55,hf,?_⟩
 ·rw [henter,bk_code]
  exact .head stepR_seq (Steps.trans s1 (.head stepR_block (.head stepR_loop (Steps.trans m4 (.one (stepR_end rfl))))))
 ·simp [results,hres]
end Go.Av

namespace Go.Av
open Go.RowKit
def Zdz (x:Nat):List Nat -> List (List Nat)
 | [] => [[x]]
 | y :: l => (x :: y :: l) :: (Zdz x l).map (y :: ·)
def perms:List Nat -> List (List Nat)
 | [] => [[]]
 | x :: l => (perms l).flatMap (Zdz x)
theorem ZfM {x:Nat}:∀ (s t:List Nat),s ++ x :: t ∈ Zdz x (s ++ t)
 | [],[] => by simp [Zdz]
 | [],y :: t => by simp [Zdz]
 | y :: s,t => by
  simp only [List.cons_append,Zdz]
  exact List.mem_cons_of_mem _ (List.mem_map.2 ⟨_,ZfM s t,rfl⟩)
theorem perms_mem:∀ (l:List Nat) {σ:List Nat},σ.Perm l -> σ ∈ perms l
 | [],σ,h => by rw [List.Perm.eq_nil h];simp [perms]
 | x :: l,σ,h => by
  obtain ⟨s,t,rfl⟩:=List.append_of_mem (h.mem_iff.2 (List.mem_cons_self ..))
  have:(s ++ t).Perm l:=List.Perm.cons_inv ((List.perm_middle (a:=x) (l₁:=s) (l₂:=t)).symm.trans h)
  exact List.mem_flatMap.2 ⟨_,perms_mem l this,ZfM s t⟩
def Ahead (l:List Nat) (i j:Nat):Prop:=Zai l i<Zai l j
structure OrdOk (ops:Array Oper) (C σ:List Nat) (hot:Nat -> Nat) (l:List Nat):Prop where
 edge:∀ (j:Nat) (o:Oper),ops[j]? = some o -> ∀ e ∈ o.after,Region.binds .any e = true -> e.on < j /\ ¬Ahead l j e.on
 swap:∀ i j a b,Ahead l i j -> ops[i]? = some a -> ops[j]? = some b -> (i ∈ C /\ j ∈ C /\ Zai σ i < Zai σ j) \/ Zb7 hot ops i j a b = true \/ ZeS ops i ops.size j = true
section
variable {M:Mach} {call:Zas} {n:Nat} {ops:Array Oper} {ans:Nat->Option Ans} {Q:Exit->Act->World->Prop}
def Alts (M:Mach) (call:Zas) (n:Nat) (ops:Array Oper) (ans:Nat -> Option Ans) (Q:Exit -> Act -> World -> Prop) (C:List Nat) (hot:List Nat -> Nat -> Nat) (l:List Nat -> List Nat) (fuel:Nat) (listed:Array Bool) (s:RS) (S:St) (a:Act) (π:List Nat):Prop:=
 ∀ σ:List Nat,σ.Perm C -> π <+: σ -> ∃ rest f,Left M call n ops ans (hot σ) (Ahead (l σ)) listed rest s f /\ rest.length <= fuel /\
  (∀ b ∈ f.asm,b = true) /\ (∀ q ∈ f.eqs,q) /\ (∀ c ∈ f.calls,c.cond = true -> ZbF M c) /\
  (∀ S' a',HeapOk S' -> Ext S S' -> S'.L = f.L -> TRel S' f.env a'.tmps -> a'.tmps.size = a.tmps.size -> a'.defers = a.defers -> Q .normal a' S'.w)
theorem draw_any {C:List Nat} {hot:List Nat -> Nat -> Nat} {l:List Nat -> List Nat} (hnd:C.Nodup) (hok:∀ σ:List Nat,σ.Perm C -> OrdOk ops C σ (hot σ) (l σ)) :
  ∀ (fuel:Nat) (listed:Array Bool) (s:RS) (S:St) (a:Act) (π:List Nat),(∃ σ:List Nat,σ.Perm C /\ π <+: σ) -> (∀ c ∈ C,c ∈ π ↔ listed.getD c false = true) -> Alts M call n ops ans Q C hot l fuel listed s S a π ->
  HeapOk S -> S.L = s.L -> TRel S s.env a.tmps -> n <= a.tmps.size -> wpAny (M.P ()) .any ops Q fuel listed a S.w:=by
 intro fuel
 induction fuel with
 | zero =>
  intro listed s S a π ⟨σ,p1,p2⟩ hC hA hS hL hT hn
  obtain ⟨rest,f,hl,hlen,_,_,_,hK⟩:=hA σ p1 p2
  have:rest = []:=List.length_eq_zero_iff.1 (Nat.le_zero.1 hlen)
  subst this
  have h:=hl.run
  simp only [Zak,Option.some.injEq] at h;subst h
  refine ⟨?_,hK S a hS (Ext.refl S) hL hT rfl rfl⟩
  apply List.eq_nil_iff_forall_not_mem.2
  intro j hj
  obtain ⟨h1,o,h2,_⟩:=mem_ready.1 hj
  have:=(hl.mem j).2 ⟨(Array.getElem?_eq_some_iff.1 h2).1,h1⟩
  cases this
 | succ fuel ih =>
  intro listed s S a π ⟨σ0,p1,p2⟩ hC hA hS hL hT hn
  refine ⟨fun hnil => ?_,fun j hj => ?_⟩
  ·obtain ⟨rest,f,hl,hlen,_,_,_,hK⟩:=hA σ0 p1 p2
   have:=hl.none (hok σ0 p1).edge hnil
   subst this
   have h:=hl.run
   simp only [Zak,Option.some.injEq] at h;subst h
   exact hK S a hS (Ext.refl S) hL hT rfl rfl
  ·obtain ⟨j1,oj0,j2,_⟩:=mem_ready.1 hj
   have hjs:j < ops.size:=(Array.getElem?_eq_some_iff.1 j2).1
   have hsz:listed.size = ops.size:=by
    obtain ⟨rest,f,hl,_⟩:=hA σ0 p1 p2
    exact hl.size
   obtain ⟨π',hπ',hpre,hex,hCj⟩:∃ π':List Nat,(j ∈ C -> π' = π ++ [j]) /\ (∀ σ:List Nat,π' <+: σ -> π <+: σ) /\ (∃ σ:List Nat,σ.Perm C /\ π' <+: σ) /\ (∀ c ∈ C,c ∈ π' ↔ (listed.setIfInBounds j true).getD c false = true):=by
    by_cases hjC:j ∈ C
    ·refine ⟨π ++ [j],fun _ => rfl,fun σ h => (List.prefix_append π [j]).trans h,?_,fun c hc => ?_⟩
     ·obtain ⟨τ,rfl⟩:=p2
      have hjn:j ∉ π:=fun h => by
       have:=(hC j hjC).1 h
       rw [Zcw (by omega) false true] at this
       rw [j1] at this;cases this
      have hjt:j ∈ τ:=by
       rcases List.mem_append.1 (p1.mem_iff.2 hjC) with h | h
       ·exact absurd h hjn
       ·exact h
      refine ⟨π ++ [j] ++ τ.erase j,?_,List.prefix_append _ _⟩
      rw [List.append_assoc]
      exact ((List.perm_cons_erase hjt).symm.append_left π).trans p1
     ·by_cases e:j = c
      ·subst e
       simp [show j < listed.size by omega]
      ·rw [getD_set_ne false e,<- hC c hc]
       simp only [List.mem_append,List.mem_singleton]
       exact ⟨fun h => h.resolve_right fun h => e h.symm,.inl⟩
    ·refine ⟨π,fun h => absurd h hjC,fun σ h => h,⟨σ0,p1,p2⟩,fun c hc => ?_⟩
     rw [getD_set_ne false (fun e:j = c => hjC (by rw [e];exact hc)),<- hC c hc]
   have pick:∀ σ:List Nat,σ.Perm C -> π' <+: σ -> ∃ oj s1 f f' rest',ops[j]? = some oj /\ Za8 M.P M.inl call n ops (ans j) (hot σ j) oj s = some s1 /\ Left M call n ops ans (hot σ) (Ahead (l σ)) (listed.setIfInBounds j true) rest' s1 f' /\ RSEq f f' /\ rest'.length <= fuel /\
     (∀ b ∈ f.asm,b = true) /\ (∀ q ∈ f.eqs,q) /\ (∀ c ∈ f.calls,c.cond = true -> ZbF M c) /\
     (∀ S' a',HeapOk S' -> Ext S S' -> S'.L = f.L -> TRel S' f.env a'.tmps -> a'.tmps.size = a.tmps.size -> a'.defers = a.defers -> Q .normal a' S'.w):=by
    intro σ q1 q2
    obtain ⟨rest,f,hl,hlen,f1,f2,f3,f4⟩:=hA σ q1 (hpre σ q2)
    have hl2:Left M call n ops ans (hot σ) (fun i k => Ahead (l σ) i k /\ listed.getD i true = false) listed rest s f:=
     ⟨hl.size,hl.pw.imp_of_mem fun {x y} hx _ h => ⟨h,((hl.mem x).1 hx).2⟩,hl.mem,hl.closed,hl.run⟩
    obtain ⟨oj,s1,f',rest',g1,g2,g3,g4,g5⟩:=hl2.pick (fun i h => Nat.lt_irrefl _ h.1) hj fun i a b h hi hb => by
     rcases (hok σ q1).swap i j a b h.1 hi hb with ⟨c1,c2,c3⟩ | h
     ·exfalso
      rw [hπ' c2] at q2
      obtain ⟨τ,rfl⟩:=q2
      have hnd2:(π ++ [j] ++ τ).Nodup:=q1.nodup_iff.2 hnd
      have e1:Zai (π ++ [j] ++ τ) j = π.length:=ZbX hnd2 (by simp)
      rw [e1] at c3
      have e2:=Zbr (q1.mem_iff.2 c1)
      rw [List.append_assoc,List.getElem?_append_left (by rw [List.append_assoc] at c3;exact c3)] at e2
      have:=(hC i c1).1 (List.mem_of_getElem? e2)
      rw [Zcw (by rw [hsz];exact (Array.getElem?_eq_some_iff.1 hi).1) false true,h.2] at this
      cases this
     ·exact h
    exact ⟨oj,s1,f,f',rest',g1,g2,⟨g3.size,g3.pw.imp fun h => h.1,g3.mem,g3.closed,g3.run⟩,g4,by omega,f1,f2,f3,f4⟩
   obtain ⟨σ1,r1,r2⟩:=hex
   obtain ⟨oj,s1,f,f',rest',hoj,h2,hl',k2,_,f1,f2,f3,_⟩:=pick σ1 r1 r2
   obtain ⟨env,L,x,y,z,he,_⟩:=ZaM _ hl'.run
   have hA':∀ b ∈ f'.asm,b = true:=fun b hb => f1 b ((k2.a b).2 hb)
   have hQ':∀ b ∈ f'.eqs,b:=fun b hb => f2 b ((k2.q b).2 hb)
   have hC':∀ c ∈ f'.calls,c.cond = true -> ZbF M c:=fun b hb => f3 b ((k2.k b).2 hb)
   refine Zch hS hL hT hn hoj h2 (fun b hb => hA' b (by rw [he];simp [hb])) (fun b hb => hQ' b (by rw [he];simp [hb])) (fun b hb => hC' b (by rw [he];simp [hb])) fun S' a' m1 m2 m3 m4 m5 m6 => ?_
   refine ih _ s1 S' a' π' ⟨σ1,r1,r2⟩ hCj (fun σ q1 q2 => ?_) m1 m3 m4 (by rw [m5];exact hn)
   obtain ⟨oj2,s2,g,g',rest2,hoj2,h22,hl2',kk2,hlen2,g1,g2,g3,g4⟩:=pick σ q1 q2
   rw [hoj] at hoj2;cases hoj2
   have:=runOp_hot h2 h22
   subst this
   exact ⟨rest2,g',hl2',hlen2,fun b hb => g1 b ((kk2.a b).2 hb),fun b hb => g2 b ((kk2.q b).2 hb),fun b hb => g3 b ((kk2.k b).2 hb),
    fun S'' a'' q1 q2 q3 q4 q5 q6 => g4 S'' a'' q1 (m2.trans q2) (q3.trans kk2.L.symm) (q4.congr fun t => (kk2.get t).symm) (q5.trans m5) (q6.trans m6)⟩
end
def ordOk (ops:Array Oper) (C σ:List Nat) (hot:Nat -> Nat) (l:List Nat):Bool:=
 (ZfE l && (((List.range ops.size).all fun i => l.contains i) && l.all fun i => Nat.blt i ops.size)) &&
 ((List.range ops.size).all fun j => match ops[j]? with
  | some o => o.after.toList.all fun e => !Region.binds .any e || (Nat.blt e.on j && Nat.ble (Zai l e.on) (Zai l j))
  | none => true) &&
 ((List.range ops.size).all fun j => (List.range ops.size).all fun i => !Nat.blt (Zai l i) (Zai l j) || ((C.contains i && (C.contains j && Nat.blt (Zai σ i) (Zai σ j))) ||
  match ops[i]?,ops[j]? with
  | some a,some b => Zb7 hot ops i j a b || ZeS ops i ops.size j
  | _,_ => true))
theorem ZgA {ops:Array Oper} {C σ:List Nat} {hot:Nat -> Nat} {l:List Nat} (h:ordOk ops C σ hot l = true):OrdOk ops C σ hot l /\ l.Nodup /\ (∀ i,i ∈ l ↔ i < ops.size):=by
 unfold ordOk at h
 simp only [Bool.and_eq_true,List.all_eq_true,List.mem_range,List.contains_iff_mem,Nat.blt_eq] at h
 obtain ⟨⟨⟨h1,h2,h3⟩,h4⟩,h5⟩:=h
 have hnd:=(ZaU l).1 h1
 refine ⟨⟨fun j o ho e he hb => ?_,fun i j a b hij hi hj => ?_⟩,hnd,fun i => ⟨h3 i,fun hi => ?_⟩⟩
 ·have:=h4 j (Array.getElem?_eq_some_iff.1 ho).1
  rw [ho] at this
  have:=List.all_eq_true.1 this e (by simpa using he)
  rw [hb] at this
  simp only [Bool.not_true,Bool.false_or,Bool.and_eq_true,Nat.blt_eq,Nat.ble_eq] at this
  exact ⟨this.1,Nat.not_lt.2 this.2⟩
 ·have:=h5 j (Array.getElem?_eq_some_iff.1 hj).1 i (Array.getElem?_eq_some_iff.1 hi).1
  rw [hi,hj] at this
  simp only [Bool.or_eq_true,Bool.not_eq_true',Bool.and_eq_true,List.contains_iff_mem,Nat.blt_eq] at this
  rcases this with h | h | h
  ·have:=Nat.blt_eq.mpr hij
   rw [this] at h;cases h
  ·exact .inl ⟨h.1,h.2.1,h.2.2⟩
  ·exact .inr h
 ·exact h2 i hi
def ordRun (M:Mach) (call:Zas) (n:Nat) (ops:Array Oper) (ans:Nat -> Option Ans) (hot:Nat -> Nat) (keep C σ l rs:List Nat) (env:Vars) (L:Heap):Option (Vars × Heap × List Bool × List Prop × List CF):=
 match ordOk ops C σ hot l,Zak M.P M.inl call n ops ans hot l ⟨lift env,L,[],[],[]⟩ with
 | true,some s => match Za6 s.L rs (Zbe keep s.env),Nat.beq rs.length s.L.length && (List.range L.length).all fun i => (match rs[i]? with | some r => Nat.beq r i | none => false) with
  | some (e,K),true => some (e,K,s.asm,s.eqs,s.calls)
  | _,_ => none
 | _,_ => none
theorem any_sound {M:Mach} (hm:(M.P ()).follows .mixedOrders = true) {fi:Fi} {id:Nat} {ops:Array Oper} {env:Vars} {L:Heap} {call:Zas} {ans:Nat -> Option Ans} {keep C:List Nat} {hot:List Nat -> Nat -> Nat} {l rs:List Nat -> List Nat} {e1:Vars} {L1:Heap} (hnd:C.Nodup)
  (h:∀ σ ∈ perms C,∃ asl qs cl,ordRun M call fi.n ops ans (hot σ) keep C σ (l σ) (rs σ) env L = some (e1,L1,asl,qs,cl) /\ (∀ b ∈ asl,b = true) /\ (∀ q ∈ qs,q) /\ (∀ c ∈ cl,c.cond = true -> ZbF M c))
  {S:St} {a:Act} (h5:HeapOk S) (h6:S.L = L) (h7:VRel S env a.tmps) (h8:fi.n <= a.tmps.size) :
  RegR (M.P ()) id ops true (fun a' w' => ∃ S':St,S'.w = w' /\ HeapOk S' /\ Ext S S' /\ S'.L = L1 /\ VRel S' e1 a'.tmps /\ a'.tmps.size = a.tmps.size /\ a'.defers = a.defers) a S.w:=by
 refine regR_any hm ?_
 obtain ⟨n1,n2⟩:=Zb6 h5 (w':={ S.w with drawn:=S.w.drawn + 1 }) ⟨rfl,rfl,rfl,Nat.le_refl _,fun _ _ => rfl⟩ (fun _ _ => rfl)
 have key:∀ σ:List Nat,σ.Perm C -> ∃ s asl qs cl,ordOk ops C σ (hot σ) (l σ) = true /\ Zak M.P M.inl call fi.n ops ans (hot σ) (l σ) ⟨lift env,L,[],[],[]⟩ = some s /\ Za6 s.L (rs σ) (Zbe keep s.env) = some (e1,L1) /\
   (∀ r,r < L.length -> (rs σ)[r]? = some r) /\ (∀ b ∈ s.asm,b = true) /\ (∀ q ∈ s.eqs,q) /\ (∀ c ∈ s.calls,c.cond = true -> ZbF M c) /\ asl = s.asm /\ qs = s.eqs /\ cl = s.calls:=by
  intro σ hσ
  obtain ⟨asl,qs,cl,hr,h1,h2,h3⟩:=h σ (perms_mem C hσ)
  unfold ordRun at hr
  split at hr
  ·rename_i s ho hs
   split at hr
   ·rename_i e K hn hall
    simp only [Option.some.injEq,Prod.mk.injEq] at hr
    obtain ⟨rfl,rfl,rfl,rfl,rfl⟩:=hr
    simp only [Bool.and_eq_true,List.all_eq_true,List.mem_range] at hall
    refine ⟨s,_,_,_,ho,hs,hn,fun r hr => ?_,h1,h2,h3,rfl,rfl,rfl⟩
    have:=hall.2 r hr
    cases h:(rs σ)[r]? with
    | none => rw [h] at this;simp at this
    | some q => rw [h] at this;simp only [Nat.beq_eq] at this;rw [this]
   ·simp at hr
  ·simp at hr
 refine draw_any (call:=call) (ans:=ans) (C:=C) (hot:=hot) (l:=l) hnd (fun σ hσ => ?_) ops.size (Array.replicate ops.size false) ⟨lift env,L,[],[],[]⟩ ⟨S.base,S.acc,S.L,S.β,{ S.w with drawn:=S.w.drawn + 1 }⟩ a [] ⟨C,.refl _,List.nil_prefix⟩ (fun c hc => ?_) (fun σ hσ _ => ?_) n1 h6 ((ZbZ h7).mono n2) h8
 ·obtain ⟨s,_,_,_,ho,_⟩:=key σ hσ
  exact (ZgA ho).1
 ·constructor
  ·intro h;cases h
  ·intro h
   by_cases hlt:c < ops.size <;> simp [hlt] at h
 ·obtain ⟨s,_,_,_,ho,hs,hn,hid,a1,a2,a3,_⟩:=key σ hσ
  obtain ⟨_,hndl,hmem⟩:=ZgA ho
  refine ⟨l σ,s,⟨by simp,?_,fun i => ?_,fun j o _ hj => ?_,hs⟩,?_,a1,a2,a3,fun S' a' k1 k2 k3 k4 k5 k6 => ?_⟩
  ·refine List.pairwise_iff_getElem.2 fun i j hi hj hij => ?_
   show Zai _ _ < Zai _ _
   rw [ZbX hndl (List.getElem?_eq_getElem hi),ZbX hndl (List.getElem?_eq_getElem hj)]
   exact hij
  ·rw [hmem]
   constructor
   ·intro h;exact ⟨h,by simp [h]⟩
   ·intro h;exact h.1
  ·by_cases hlt:j < ops.size <;> simp [hlt] at hj
  ·have hp:(l σ).Perm (List.range ops.size):=(List.perm_ext_iff_of_nodup hndl List.nodup_range).2 fun i => by rw [hmem,List.mem_range]
   rw [hp.length_eq];simp
  ·unfold Za6 at hn
   split at hn
   ·rename_i rows hrows
    split at hn
    ·rename_i hc
     simp only [Option.some.injEq,Prod.mk.injEq] at hn
     obtain ⟨rfl,rfl⟩:=hn
     simp only [Bool.and_eq_true,List.all_eq_true,List.contains_iff_mem] at hc
     obtain ⟨hnd',ha,hcl⟩:=hc
     have hnd':=(ZaU (rs σ)).1 hnd'
     rw [<- k3] at hrows
     obtain ⟨p1,p2,p3⟩:=perm_ok k1 n1 k2 hrows hnd' hcl (fun r hr => hid r (by rw [<- h6];exact hr))
     refine ⟨⟨S'.base,S'.acc,rows.map (Zae (Zai (rs σ))),subβ S'.β (rs σ),S'.w⟩,rfl,p1,n2.trans p2,rfl,fun t => ?_,k5,k6⟩
     rw [get_renV]
     exact p3 _ _ (Za2 k4 keep t) fun r hr => ha r (rows_get hr)
    ·simp at hn
   ·simp at hn
end Go.Av

namespace Go.Av
open Go.RowKit
theorem ZfR:∀ (rs:List Nat) (L:Heap) (n:Nat),(∀ r ∈ rs,n <= r) -> (ZaO rs L).take n = L.take n
 | [],_,_,_ => rfl
 | r :: rs,L,n,h => by
  have e:ZaO (r :: rs) L = ZaO rs (match L[r]? with
   | some row => L.set r { row with frozen:=true }
   | none => L):=rfl
  rw [e,ZfR rs _ n fun q hq => h q (List.mem_cons_of_mem _ hq)]
  have hr:=h r (List.mem_cons_self ..)
  cases L[r]? with
  | none => rfl
  | some row => exact List.take_set_of_le hr
def FrzQ (d:AV) (K:Heap):AV->Heap->Prop:=fun v L=>pureA L v=some d/\(∀ b ∈ versA L v,b=true)/\(∀ r ∈ rowsA v,K.length<=r)/\L.take K.length=K
theorem freeze_sound {M:Mach} {f:FuncId} {args:List AV} {L:Heap} {d:AV} {K:Heap} (hKl:K.length = L.length) (hK:∀ row ∈ K,∀ r ∈ Zag row,r < L.length) (hdc:rowsA d = []) (ih:OwnQ M f args L (FrzQ d K)):OwnQ M f args L (isR d K):=by
 intro S cargs h1 h2 h3
 subst h2
 have hrows:=ZdA S.L
 have hnd:(List.range S.L.length).Nodup:=List.nodup_range
 have hin:=refs_in h1
 have hcl:∀ row ∈ S.L,∀ r ∈ Zag row,r ∈ List.range S.L.length:=fun row hr r hrr => by simpa using hin row hr r hrr
 obtain ⟨hSc,_,hrelc⟩:=Zgm h1 hrows hnd hcl
 have hself:S.L.map (Zae (Zai (List.range S.L.length))) = S.L:=by
  have:S.L.map (Zae (Zai (List.range S.L.length))) = S.L.map id:=List.map_congr_left fun row hr => by
   rw [ZcE fun r hrr => ZcH (hin row hr r hrr)];rfl
  rw [this,List.map_id]
 have hrel':RelL ⟨S.base,Za7 S (List.range S.L.length),S.L.map (Zae (Zai (List.range S.L.length))),subβ S.β (List.range S.L.length),S.w⟩ args cargs:=by
  refine ⟨h3.1,fun i c cv hc hcv => ?_⟩
  have hri:=rel_in (h3.2 i c cv hc hcv)
  have:=hrelc c cv (h3.2 i c cv hc hcv) fun r hr => by simpa using hri r hr
  rwa [ZdS fun r hr => ZcH (hri r hr)] at this
 obtain ⟨m1,m2⟩:=ih _ cargs hSc hself hrel'
 refine ⟨m1,Calls.mono m2 fun e w' he => ?_⟩
 cases e with
 | panicked c => exact he.elim
 | outgrown => exact he.elim
 | returned cv =>
  obtain ⟨v',L1,β1,⟨hd,hvs,hge,hq⟩,n1,n2,n3⟩:=he
  have fr:=Zcx (S:=⟨S.base,Za7 S (List.range S.L.length),L1,β1,w'⟩) (rowsA v') n1
  have n1':HeapOk ⟨S.base,Za7 S (List.range S.L.length),ZaO (rowsA v') L1,β1,w'⟩:=fr.1
  have n2':Ext ⟨S.base,Za7 S (List.range S.L.length),S.L.map (Zae (Zai (List.range S.L.length))),subβ S.β (List.range S.L.length),S.w⟩ ⟨S.base,Za7 S (List.range S.L.length),ZaO (rowsA v') L1,β1,w'⟩:=n2.trans fr.2
  have hD:DRel ⟨S.base,Za7 S (List.range S.L.length),ZaO (rowsA v') L1,β1,w'⟩ d cv:=pure_rel (S:=⟨S.base,Za7 S (List.range S.L.length),L1,β1,w'⟩) (S':=⟨S.base,Za7 S (List.range S.L.length),ZaO (rowsA v') L1,β1,w'⟩) n1 rfl (fun b off hi hb => (fr.2.imm b off hi hb).1) v' n3 hd hvs (Zc9 (S:=⟨S.base,Za7 S (List.range S.L.length),L1,β1,w'⟩) n1 _)
  have hq':(ZaO (rowsA v') L1).take K.length = K:=(ZfR _ _ _ hge).trans hq
  generalize ZaO (rowsA v') L1 = L2 at n1' n2' hD hq'
  rw [hKl] at hq'
  have hlen:(List.range S.L.length).length = S.L.length:=List.length_range
  have hle:S.L.length <= L2.length:=by
   have:=congrArg List.length hq'
   rw [List.length_take,hKl] at this
   omega
  have ho:Zav L2 (List.range (List.range S.L.length).length) = some K:=by
   rw [hlen,<- hq']
   have:=Zc8 L2 S.L.length hle
   rw [hq'] at this ⊢
   exact this
  obtain ⟨k1,k2,k3⟩:=Zgb (S1:=⟨S.base,Za7 S (List.range S.L.length),L2,β1,w'⟩) (ns:=[]) (new:=[]) h1 hrows hnd hcl n1' n2' List.nodup_nil (by simp) ho rfl
   (fun row hr r hrr => .inl (by rw [hlen];exact hK row (by simpa using hr) r hrr))
  have hb:∀ r,r < S.L.length -> ZaG S.L.length (List.range S.L.length) [] r = r:=by
   intro r hr
   rw [ZeB (by rw [hlen];exact hr)];simp
  have hKK:ZaY S.L (List.range S.L.length) [] K [] = K:=by
   unfold ZaY
   rw [List.map_nil,List.append_nil]
   have:K.map (Zae (ZaG S.L.length (List.range S.L.length) [])) = K.map id:=List.map_congr_left fun row hr => by
    rw [ZcE fun r hrr => hb r (hK row hr r hrr)];rfl
   rw [this,List.map_id,put_all _ _ hKl]
  have k3':=k3 d cv (.data _ _ hD) fun r hr => by rw [hdc] at hr;cases hr
  rw [ZdS fun r hr => by rw [hdc] at hr;cases hr] at k3'
  rw [hKK] at k1 k2 k3'
  exact ⟨d,K,_,⟨rfl,rfl⟩,k1,k2,k3'⟩
def frzOk (n:Nat) (K:Heap):Bool:=Nat.beq K.length n&&K.all fun row=>(Zag row).all fun r=>Nat.blt r n
theorem own_freeze {M:Mach} (hm:(M.P ()).follows .mixedOrders = true) {f:FuncId} {args:List AV} {L:Heap} {d:AV} {K:Heap} (hk:frzOk L.length K = true) (hdc:rowsA d = []) (h:Wp M (.own f args L) (FrzQ d K)):Ev M (.own f args L) d K:=by
 unfold frzOk at hk
 simp only [Bool.and_eq_true,List.all_eq_true,Nat.blt_eq,Nat.beq_eq] at hk
 exact .sem (freeze_sound hk.1 hk.2 hdc (Zbj hm (c:=.own f args L) h))
end Go.Av

namespace Go.Av
open Go.RowKit
def tryHot (P:Unit -> Program) (inl:FuncId -> Bool) (call:Zas) (n:Nat) (ops:Array Oper) (an:Option Ans) (i:Nat) (o:Oper) (s:RS):List (List Nat) -> Option (List Nat × RS)
 | [] => none
 | c :: cs => match Za8 P inl call n ops an (hotOf ops c i) o s with
  | some s' => some (c,s')
  | none => tryHot P inl call n ops an i o s cs
def hotCands (ρ:Operand -> AV) (L:Heap) (i:Nat) (o:Oper):List (List Nat):=
 (match Zfr ρ o with
  | some [r] => [[i + 1000 * (r + 2)]]
  | some [] => [[i + 502000]]
  | _ => []) ++ (match Zcj ρ L o with
  | some [r] => [[i + 1000 * (r + 2)],[i,i + 1000 * (r + 2)]]
  | _ => []) ++ [[],[i + 1000],[i]]
def autoHot (P:Unit -> Program) (inl:FuncId -> Bool) (call:Zas) (n:Nat) (ops:Array Oper) (ans:Nat -> Option Ans):List Nat -> RS -> List Nat
 | [],_ => []
 | i :: rest,s => match ops[i]? with
  | none => autoHot P inl call n ops ans rest s
  | some o => match tryHot P inl call n ops (ans i) i o s (hotCands (ev s.env []) s.L i o) with
   | some (c,s') => c ++ autoHot P inl call n ops ans rest s'
   | none => []
def layOps (P:Unit -> Program) (inl:FuncId -> Bool) (call:Zas) (n:Nat) (ops:Array Oper) (ans:Nat -> Option Ans):List Nat -> RS -> List Nat
 | [],_ => []
 | i :: rest,s => match ops[i]? with
  | none => layOps P inl call n ops ans rest s
  | some o => match Za8 P inl call n ops (ans i) 2 o s with
   | some s' => bif Nat.blt s.L.length s'.L.length then i :: layOps P inl call n ops ans rest s' else layOps P inl call n ops ans rest s'
   | none => []
def readyO (ops:Array Oper) (done:List Nat) (i:Nat):Bool:=match ops[i]? with
 | some o => o.after.toList.all fun e => !Region.binds .any e || done.contains e.on
 | none => true
def ordGo (ops:Array Oper) (C:List Nat):Nat -> List Nat -> List Nat -> List Nat -> List Nat
 | 0,_,_,_ => []
 | n + 1,σ,rest,done => match rest.find? (fun i => readyO ops done i && (!C.contains i || (match σ with
   | c :: _ => Nat.beq c i
   | [] => false))) with
  | some i => i :: ordGo ops C n (bif C.contains i then σ.tail else σ) (rest.erase i) (i :: done)
  | none => []
def hotX (M:Mach) (call:Zas) (n:Nat) (ops:Array Oper) (ans:Nat -> Option Ans) (C:List Nat) (env:Vars) (L:Heap) (σ:List Nat):Nat -> Nat:=
 hotOf ops (autoHot M.P M.inl call n ops ans (ordGo ops C ops.size σ (List.range ops.size) []) ⟨lift env,L,[],[],[]⟩)
def rsX (M:Mach) (call:Zas) (n:Nat) (ops:Array Oper) (ans:Nat -> Option Ans) (C:List Nat) (env:Vars) (L:Heap) (σ:List Nat):List Nat:=
 List.range L.length ++ (match C with
  | [] => (match Zak M.P M.inl call n ops ans (hotX M call n ops ans C env L σ) (ordGo ops C ops.size σ (List.range ops.size) []) ⟨lift env,L,[],[],[]⟩ with
   | some s => List.range' L.length (s.L.length - L.length)
   | none => [])
  | _ => C.map fun c => L.length + Zai σ c)
def ordX (M:Mach) (call:Zas) (n:Nat) (ops:Array Oper) (ans:Nat -> Option Ans) (keep C:List Nat) (env:Vars) (L:Heap) (σ:List Nat):Option (Vars × Heap × List Bool × List Prop × List CF):=
 ordRun M call n ops ans (hotX M call n ops ans C env L σ) keep C σ (ordGo ops C ops.size σ (List.range ops.size) []) (rsX M call n ops ans C env L σ) env L
mutual
def beqB:AV -> AV -> Bool
 | .any,.any => true
 | .bool a,.bool b => a == b
 | .int k n,.int j m => decide (k = j) && n == m
 | .str a,.str b => a == b
 | .flt a,.flt b => a == b
 | .agg a,.agg b => beqBL a b
 | .tup a,.tup b => beqBL a b
 | .vec f es a,.vec g fs b => f == g && (es == fs && beqBL a b)
 | .eptr es a i j,.eptr fs b k l => es == fs && (beqBL a b && (i == k && j == l))
 | .ptr r v i j,.ptr s u k l => r == s && (v == u && (i == k && j == l))
 | .row r v,.row s u => r == s && v == u
 | .ref r v i j,.ref s u k l => r == s && (v == u && (i == k && j == l))
 | .nilp,.nilp => true
 | .vnil,.vnil => true
 | .nilf,.nilf => true
 | .nilm,.nilm => true
 | .mapr r,.mapr s => r == s
 | _,_ => false
def beqBL:List AV -> List AV -> Bool
 | [],[] => true
 | a :: l,b :: m => beqB a b && beqBL l m
 | _,_ => false
end
mutual
theorem beqB_eq:∀ (a b:AV),beqB a b = true -> a = b
 | .any,b,h => by cases b <;> simp [beqB] at h;rfl
 | .bool a,b,h => by cases b <;> simp [beqB] at h;rw [h]
 | .int k n,b,h => by cases b <;> simp [beqB] at h;rw [h.1,h.2]
 | .str a,b,h => by cases b <;> simp [beqB] at h;rw [h]
 | .flt a,b,h => by cases b <;> simp [beqB] at h;rw [h]
 | .agg a,b,h => by cases b <;> simp [beqB] at h;rw [beqBL_eq a _ h]
 | .tup a,b,h => by cases b <;> simp [beqB] at h;rw [beqBL_eq a _ h]
 | .vec f es a,b,h => by cases b <;> simp [beqB] at h;rw [h.1,h.2.1,beqBL_eq a _ h.2.2]
 | .eptr es a i j,b,h => by cases b <;> simp [beqB] at h;rw [h.1,beqBL_eq a _ h.2.1,h.2.2.1,h.2.2.2]
 | .ptr r v i j,b,h => by cases b <;> simp [beqB] at h;rw [h.1,h.2.1,h.2.2.1,h.2.2.2]
 | .row r v,b,h => by cases b <;> simp [beqB] at h;rw [h.1,h.2]
 | .ref r v i j,b,h => by cases b <;> simp [beqB] at h;rw [h.1,h.2.1,h.2.2.1,h.2.2.2]
 | .nilp,b,h => by cases b <;> simp [beqB] at h;rfl
 | .vnil,b,h => by cases b <;> simp [beqB] at h;rfl
 | .nilf,b,h => by cases b <;> simp [beqB] at h;rfl
 | .nilm,b,h => by cases b <;> simp [beqB] at h;rfl
 | .mapr r,b,h => by cases b <;> simp [beqB] at h;rw [h]
 | .func ..,b,h => by cases b <;> simp [beqB] at h
theorem beqBL_eq:∀ (a b:List AV),beqBL a b = true -> a = b
 | [],b,h => by cases b <;> simp [beqBL] at h;rfl
 | a :: l,b,h => by
  cases b with
  | nil => simp [beqBL] at h
  | cons b m => simp [beqBL] at h;rw [beqB_eq a b h.1,beqBL_eq l m h.2]
end
def ZdG:Vars -> Vars -> Bool
 | [],[] => true
 | (t,a) :: l,(u,b) :: m => Nat.beq t u && (beqB a b && ZdG l m)
 | _,_ => false
def Zbu:Heap -> Heap -> Bool
 | [],[] => true
 | a :: l,b :: m => beqBL a.elems b.elems && (Nat.beq a.es b.es && (Nat.beq a.ver b.ver && (a.frozen == b.frozen && (a.clean == b.clean && Zbu l m))))
 | _,_ => false
theorem ZgO:∀ (a b:Vars),ZdG a b = true -> a = b
 | [],b,h => by cases b <;> simp [ZdG] at h;rfl
 | (t,a) :: l,b,h => by
  match b,h with
  | [],h => simp [ZdG] at h
  | (u,b) :: m,h =>
   simp only [ZdG,Bool.and_eq_true,Nat.beq_eq] at h
   rw [h.1,beqB_eq a b h.2.1,ZgO l m h.2.2]
theorem Zdo:∀ (a b:Heap),Zbu a b = true -> a = b
 | [],b,h => by cases b <;> simp [Zbu] at h;rfl
 | a :: l,b,h => by
  match b,h with
  | [],h => simp [Zbu] at h
  | b :: m,h =>
   simp only [Zbu,Bool.and_eq_true,Nat.beq_eq,beq_iff_eq] at h
   obtain ⟨h1,h2,h3,h4,h5,h6⟩:=h
   rw [Zdo l m h6]
   obtain ⟨ae,a2,a3,a4,a5⟩:=a
   obtain ⟨be,b2,b3,b4,b5⟩:=b
   simp only at h1 h2 h3 h4 h5
   rw [beqBL_eq _ _ h1,h2,h3,h4,h5]
def anyX (M:Mach) (call:Zas) (n:Nat) (ops:Array Oper) (ans:Nat -> Option Ans) (keep:List Nat) (env:Vars) (L:Heap) (C:List Nat):Option (Vars × Heap):=
 match ordX M call n ops ans keep C env L C with
 | some (e,K,_,_,_) => bif ZfE C && (perms C).all (fun σ => match ordX M call n ops ans keep C env L σ with
   | some (e',K',asm,[],_) => (asm.all fun b => b) && (ZdG e' e && Zbu K' K)
   | _ => false) then some (e,K) else none
 | none => none
theorem good_snd {M:Mach} (hm:(M.P ()).follows .mixedOrders = true) {call:Zas} (hc:AnsOk M call) {cs:List CF} (h:∀ c ∈ cs,Zgl M.inl call c):∀ c ∈ cs,c.cond = true -> ZbF M c:=by
 intro c hcm _
 unfold ZbF
 cases hown:c.own with
 | true =>
  refine OwnQ.snd (Zbj hm (c:=.own c.f c.args c.L) ?_)
  rcases h c hcm with ⟨_,h2,o,h3,h4⟩ | ⟨h2,L1,h3⟩ | ⟨h2,_⟩
  ·rw [h4];exact (hc _ _ _ _ _ h3).1 h2
  ·have:=((hc _ _ _ _ _ h3).2 h2).1;simp at this
  ·rw [hown] at h2;simp at h2
 | false =>
  refine PureR.snd (Zbj hm (c:=.pure c.f c.args) ?_)
  rcases h c hcm with ⟨h2,_⟩ | ⟨h2,L1,h3⟩ | ⟨_,h2,h3⟩
  ·rw [hown] at h2;simp at h2
  ·have:=((hc _ _ _ _ _ h3).2 h2).1;simp at this
  ·exact ((hc _ _ _ _ _ h3).2 h2).2
theorem ordRun_good {M:Mach} {call:Zas} {n:Nat} {ops:Array Oper} {ans:Nat -> Option Ans} (hans:∀ i,ans i = none \/ ans i = some .keep) {hot:Nat -> Nat} {keep C σ l rs:List Nat} {env:Vars} {L:Heap} {e:Vars} {K:Heap} {asm:List Bool} {qs:List Prop} {cs:List CF}
  (h:ordRun M call n ops ans hot keep C σ l rs env L = some (e,K,asm,qs,cs)):∀ c ∈ cs,Zgl M.inl call c:=by
 unfold ordRun at h
 split at h
 ·rename_i s _ hs
  split at h
  ·simp only [Option.some.injEq,Prod.mk.injEq] at h
   obtain ⟨_,_,_,_,rfl⟩:=h
   exact Zfm hans _ hs (by intro c hc;cases hc)
  ·simp at h
 ·simp at h
theorem ZgQ {M:Mach} (hm:(M.P ()).follows .mixedOrders = true) {call:Zas} (hc:AnsOk M call) {fi:Fi} {id:Nat} {ops:Array Oper} {ans:Nat -> Option Ans} (hans:∀ i,ans i = none \/ ans i = some .keep) {keep C:List Nat} {env e1:Vars} {L L1:Heap} {k:List Item} {Q:AV -> Heap -> Prop}
  (h:anyX M call fi.n ops ans keep env L C = some (e1,L1)) (hk:Wp M (.run fi k e1 L1) Q):Wp M (.run fi (.code (.region id ops true) :: k) env L) Q:=by
 unfold anyX at h
 split at h
 ·rename_i e K _ _ _ he
  cases hb:(ZfE C && (perms C).all (fun σ => match ordX M call fi.n ops ans keep C env L σ with
   | some (e',K',asm,[],_) => (asm.all fun b => b) && (ZdG e' e && Zbu K' K)
   | _ => false)) with
  | false => rw [hb] at h;simp at h
  | true =>
   rw [hb] at h
   simp only [cond_true,Option.some.injEq,Prod.mk.injEq] at h
   obtain ⟨rfl,rfl⟩:=h
   simp only [Bool.and_eq_true,List.all_eq_true] at hb
   obtain ⟨b1,b2⟩:=hb
   refine .sem (ZaH.after fun S a h5 h6 h7 h8 b k2 cs hbb => ?_)
   obtain ⟨a',w',⟨S',e0,n1,n2,n3,n4,n5,n6⟩,hs⟩:=any_sound hm (id:=id) (fi:=fi) (ops:=ops) (env:=env) (L:=L) (call:=call) (ans:=ans) (keep:=keep) (C:=C)
    (hot:=hotX M call fi.n ops ans C env L) (l:=fun σ => ordGo ops C ops.size σ (List.range ops.size) []) (rs:=rsX M call fi.n ops ans C env L) (e1:=e) (L1:=K) ((ZaU C).1 b1) (fun σ hσ => by
      have:=b2 σ hσ
      split at this
      ·rename_i e' K' asm cs' ho
       simp only [Bool.and_eq_true,List.all_eq_true] at this
       obtain ⟨t1,t2,t3⟩:=this
       have:=ZgO _ _ t2;subst this
       have:=Zdo _ _ t3;subst this
       exact ⟨asm,[],cs',ho,t1,by simp,good_snd hm hc (ordRun_good hans ho)⟩
      ·simp at this) h5 h6 h7 h8 b k2 cs hbb
   exact ⟨a',w',⟨S',e,e0,n1,n2,n3.symm ▸ Zbj hm hk,n4,n5,n6⟩,hs⟩
 ·simp at h
def anyXX (M:Mach) (call:Zas) (n:Nat) (ops:Array Oper) (ans:Nat -> Option Ans) (keep:List Nat) (env:Vars) (L:Heap):Option (Vars × Heap):=
 match anyX M call n ops ans keep env L [] with
 | some r => some r
 | none => anyX M call n ops ans keep env L (layOps M.P M.inl call n ops ans (List.range ops.size) ⟨lift env,L,[],[],[]⟩)
def toI:AV -> Int
 | .int _ n => n
 | _ => 0
def Zfn (M:Mach) (n:Nat) (p0 p1:Tmp) (opsA:Array Oper) (keepA:List Nat) (env:Vars) (run:Vars -> Heap -> Option (AV × Heap)):List (AV × AV) -> Heap -> Option Heap
 | [],L => some L
 | x :: xs,L => match Zak M.P M.inl (fun _ _ _ => none) n opsA (fun _ => none) (fun _ => 2) (List.range opsA.size) ⟨lift ((p1,x.2) :: (p0,x.1) :: env),L,[],[],[]⟩ with
  | some ⟨e,K,[],[],[]⟩ => bif Zbu K L then (match run (Zbe keepA e) L with
   | some (_,L1) => Zfn M n p0 p1 opsA keepA env run xs L1
   | none => none) else none
  | _ => none
def isIt:Option FuncId -> Nat -> Bool
 | some j,it => Nat.beq it j
 | none,_ => false
theorem isIt_eq {o:Option FuncId} {it:Nat} (h:isIt o it = true):o = some it:=by
 cases o with
 | none => simp [isIt] at h
 | some j => simp [isIt] at h;rw [h]
def runZ (M:Mach) (itf:Option FuncId) (fi:Fi) (kp kr:List (Nat × List Nat)) (call:Zas):Nat -> List Item -> Vars -> Heap -> Option (AV × Heap)
 | 0,_,_,_ => none
 | n + 1,todo,env,L =>
  match todo with
  | [] => match finish M.P fi env L with
   | some v => some (v,L)
   | none => none
  | .inBlock _ :: k => runZ M itf fi kp kr call n k env L
  | .inLoop b :: k => runZ M itf fi kp kr call n (.code b :: .inLoop b :: k) env L
  | .code c :: k =>
   match c with
   | .skip => runZ M itf fi kp kr call n k env L
   | .seq a b => runZ M itf fi kp kr call n (.code a :: .code b :: k) env L
   | .cond c a b => match evV env c with
    | .bool t => runZ M itf fi kp kr call n (.code (bif t then a else b) :: k) env L
    | _ => none
   | .block id b => runZ M itf fi kp kr call n (.code b :: .inBlock id :: k) env L
   | .loop b => runZ M itf fi kp kr call n (.code b :: .inLoop b :: k) env L
   | .exit id => match exitTo id k with
    | some k' => runZ M itf fi kp kr call n k' env L
    | none => none
   | .region id ops true => match anyXX M call fi.n ops (Zes (ZaD kr id)) (ZaD kp id) env L with
    | some (e,K) => runZ M itf fi kp kr call n k e K
    | none => none
   | .region id ops false =>
    match Zak M.P M.inl call fi.n ops (Zes (ZaD kr id)) (fun _ => 2) (List.range ops.size) ⟨lift env,L,[],[],[]⟩ with
    | some s => match s.asm.all (fun b => b),s.eqs with
     | true,[] => runZ M itf fi kp kr call n k (Zbe (ZaD kp id) s.env) s.L
     | _,_ => none
    | none => none
   | .rangeFunc g ps (.region ida opsA false) body =>
    match evV env g,ps with
    | .func (.func it) [] [.eptr 1 [.vec f 1 xs] 0 0],⟨[p0,p1]⟩ =>
     bif isIt itf it && (beqBL xs ((xs.map toI).map (.int .i64)) && (Nat.blt xs.length 4611686018427387904 && (Zck opsA && (Zb4 body && (Nat.blt p0 fi.n && Nat.blt p1 fi.n))))) then
      match Zfn M fi.n p0 p1 opsA (ZaD kp ida) env (fun e K => runZ M itf fi kp kr call n [.code body] e K) (bkX (xs.map toI)) L with
      | some L1 => runZ M itf fi kp kr call n k env L1
      | none => none
     else none
    | _,_ => none
   | .ret => match finish M.P fi env L with
    | some v => some (v,L)
    | none => none
   | _ => none
  | _ => none
theorem ZdR {M:Mach} (hm:(M.P ()).follows .mixedOrders = true) {fi:Fi} {p0 p1:Tmp} {opsA:Array Oper} {keepA:List Nat} {env:Vars} {body:Code} {run:Vars -> Heap -> Option (AV × Heap)} (hrun:∀ e K v K',run e K = some (v,K') -> Ev M (.run fi [.code body] e K) v K') :
  ∀ (xs:List (AV × AV)) (L L2:Heap),Zfn M fi.n p0 p1 opsA keepA env run xs L = some L2 -> Rounds M fi p0 p1 opsA body env keepA xs L L2
 | [],L,L2,h => by simp only [Zfn,Option.some.injEq] at h;subst h;exact .nil L
 | x :: xs,L,L2,h => by
  simp only [Zfn] at h
  split at h
  ·rename_i e K hr
   cases hb:Zbu K L with
   | false => rw [hb] at h;simp at h
   | true =>
    rw [hb] at h
    have:=Zdo _ _ hb;subst this
    simp only [cond_true] at h
    split at h
    ·rename_i v L1 hr2
     exact .cons e hr (Zbj hm (.mono (hrun _ _ _ _ hr2) fun _ _ h => h.2)) (ZdR hm hrun xs L1 L2 h)
    ·simp at h
  ·simp at h
theorem runZ_sound {M:Mach} (hm:(M.P ()).follows .mixedOrders = true) {itf:Option FuncId} (hI:∀ it,itf = some it -> (∀ args w,(callFunc it args).run (M.P ()) w = .ok (.enter it args) w) /\ ∀ (f:Bool) (X:List Int),X.length < 4611686018427387904 -> ZeE M it (.eptr 1 [.vec f 1 (X.map (.int .i64))] 0 0) (bkX X))
  {fi:Fi} {kp kr:List (Nat × List Nat)} {call:Zas} (hc:AnsOk M call):∀ (n:Nat) {todo:List Item} {env:Vars} {L L':Heap} {v:AV},runZ M itf fi kp kr call n todo env L = some (v,L') -> Ev M (.run fi todo env L) v L':=by
 intro n
 induction n with
 | zero => intro todo env L L' v h;simp [runZ] at h
 | succ n ih =>
  intro todo env L L' v h
  unfold runZ at h
  split at h
  ·split at h
   ·rename_i w hf
    simp only [Option.some.injEq,Prod.mk.injEq] at h
    obtain ⟨rfl,rfl⟩:=h
    exact .done hf ⟨rfl,rfl⟩
   ·simp at h
  ·exact .inBlock (ih h)
  ·exact .inLoop (ih h)
  ·split at h
   ·exact .skip (ih h)
   ·exact .seq (ih h)
   ·split at h
    ·rename_i t ht
     exact .cond t ht (ih h)
    ·simp at h
   ·exact .block (ih h)
   ·exact .loop (ih h)
   ·split at h
    ·rename_i k' hk
     exact .exit hk (ih h)
    ·simp at h
   ·rename_i id ops
    split at h
    ·rename_i e K ha
     unfold anyXX at ha
     split at ha
     ·rename_i r hr
      simp only [Option.some.injEq] at ha;subst ha
      exact ZgQ hm hc (Zer _) hr (ih h)
     ·exact ZgQ hm hc (Zer _) ha (ih h)
    ·simp at h
   ·split at h
    ·rename_i id ops _ s hr
     split at h
     ·rename_i ha he
      have hg:=Zfm (Zer _) _ hr (by intro c hc;cases hc)
      refine .region call (Zes (ZaD kr _)) _ _ s (fun h1 => by cases h1) hr (fun b hb => ?_) (fun p hp => ?_) (fun c hcm _ ho => ?_) (fun c hcm _ ho => ?_) (ih h)
      ·exact (List.all_eq_true.1 ha) b hb
      ·rw [he] at hp;cases hp
      ·rcases hg c hcm with ⟨_,h2,o,h3,h4⟩ | ⟨h2,L1,h3⟩ | ⟨h2,_⟩
       ·rw [h4];exact (hc _ _ _ _ _ h3).1 h2
       ·have:=((hc _ _ _ _ _ h3).2 h2).1;simp at this
       ·rw [ho] at h2;simp at h2
      ·rcases hg c hcm with ⟨h2,_⟩ | ⟨h2,L1,h3⟩ | ⟨_,h2,h3⟩
       ·rw [ho] at h2;simp at h2
       ·have:=((hc _ _ _ _ _ h3).2 h2).1;simp at this
       ·exact ((hc _ _ _ _ _ h3).2 h2).2
     ·simp at h
    ·simp at h
   ·rename_i g ps ida opsA body
    split at h
    ·rename_i it f xs p0 p1 hg
     cases hb:(isIt itf it && (beqBL xs ((xs.map toI).map (.int .i64)) && (Nat.blt xs.length 4611686018427387904 && (Zck opsA && (Zb4 body && (Nat.blt p0 fi.n && Nat.blt p1 fi.n)))))) with
     | false => rw [hb] at h;simp at h
     | true =>
      rw [hb] at h
      simp only [cond_true] at h
      simp only [Bool.and_eq_true,Nat.beq_eq,Nat.blt_eq] at hb
      obtain ⟨b1,b2,b3,b4,b5,b6,b7⟩:=hb
      obtain ⟨hit,hI⟩:=hI _ (isIt_eq b1)
      split at h
      ·rename_i L1 hr
       have h2:=hI f (xs.map toI) (by rw [List.length_map];exact b3)
       rw [<- beqBL_eq _ _ b2] at h2
       exact .sem (range_rounds hg hit h2 b4 b5 b6 b7 (ZdR hm (fun e K v K' hrun => ih hrun) _ _ _ hr) (Zbj hm (ih h)))
      ·simp at h
    ·simp at h
   ·split at h
    ·rename_i w hf
     simp only [Option.some.injEq,Prod.mk.injEq] at h
     obtain ⟨rfl,rfl⟩:=h
     exact .ret hf ⟨rfl,rfl⟩
    ·simp at h
   ·simp at h
  ·simp at h
def trimZ (L L':Heap) (v:AV):Heap:=bif ZgC L.length v (L'.take L.length) then L'.take L.length else L'
theorem trimZ_ok {M:Mach} {f:FuncId} {args:List AV} {L L':Heap} {v:AV} (h:Ev M (.own f args L) v L'):Ev M (.own f args L) v (trimZ L L' v):=by
 unfold trimZ
 cases hk:ZgC L.length v (L'.take L.length) with
 | false => exact h
 | true =>
  simp only [cond_true]
  refine .drop hk (.mono h fun x K ⟨e1,e2⟩ => ?_)
  subst e1;subst e2
  refine ⟨rfl,?_⟩
  unfold ZgC at hk
  simp only [Bool.and_eq_true,Nat.beq_eq] at hk
  rw [hk.1]
def frzZ (L:Heap) (v:AV) (L':Heap):Option (AV × Heap):=match pureA L' v with
 | some d => bif (versA L' v).all (fun b => b) && ((rowsA v).all (fun r => Nat.ble L.length r) && ((rowsA d).isEmpty && frzOk L.length (L'.take L.length))) then some (d,L'.take L.length) else none
 | none => none
theorem frzZ_ok {M:Mach} (hm:(M.P ()).follows .mixedOrders = true) {f:FuncId} {args:List AV} {L L' K:Heap} {v d:AV} (h:Ev M (.own f args L) v L') (hz:frzZ L v L' = some (d,K)):Ev M (.own f args L) d K:=by
 unfold frzZ at hz
 split at hz
 ·rename_i d0 hd
  cases hb:((versA L' v).all (fun b => b) && ((rowsA v).all (fun r => Nat.ble L.length r) && ((rowsA d0).isEmpty && frzOk L.length (L'.take L.length)))) with
  | false => rw [hb] at hz;simp at hz
  | true =>
   rw [hb] at hz
   simp only [cond_true,Option.some.injEq,Prod.mk.injEq] at hz
   obtain ⟨rfl,rfl⟩:=hz
   simp only [Bool.and_eq_true,List.all_eq_true,List.isEmpty_iff,Nat.ble_eq] at hb
   obtain ⟨b1,b2,b3,b4⟩:=hb
   have hl:(L'.take L.length).length = L.length:=by
    unfold frzOk at b4
    simp only [Bool.and_eq_true,Nat.beq_eq] at b4
    exact b4.1
   exact own_freeze hm b4 b3 (.mono h fun x K ⟨e1,e2⟩ => by
    subst e1;subst e2
    exact ⟨hd,b1,fun r hr => by rw [hl];exact b2 r hr,by rw [hl]⟩)
 ·simp at hz
def outZ (fz:Bool) (L:Heap) (v:AV) (L':Heap):AV × Option Heap:=
 match (bif fz then frzZ L v L' else none) with
 | some (d,K) => bif Zbu K L then (d,none) else (d,some K)
 | none => bif Zbu (trimZ L L' v) L then (v,none) else (v,some (trimZ L L' v))
def ansZ (M:Mach) (fz:Nat -> Bool) (K:List (Nat × List AV × AV)) (ex:FuncId -> List AV -> Heap -> Option (AV × Heap)):Zas:=fun g args L =>
 match M.inl g with
 | true => match ex g args L with
  | some (v,L') => some (outZ (fz g) L v L')
  | none => none
 | false => ansY M K ex g args L
theorem outZ_ok {M:Mach} (hm:(M.P ()).follows .mixedOrders = true) {fz:Bool} {f:FuncId} {args:List AV} {L L':Heap} {v:AV} (h:Ev M (.own f args L) v L'):Ev M (.own f args L) (outZ fz L v L').1 ((outZ fz L v L').2.getD L):=by
 have one:∀ {w:AV} {K:Heap},Ev M (.own f args L) w K -> Ev M (.own f args L) (bif Zbu K L then (w,none) else (w,some K):AV × Option Heap).1 ((bif Zbu K L then (w,none) else (w,some K):AV × Option Heap).2.getD L):=by
  intro w K h1
  cases hb:Zbu K L with
  | true => rw [Zdo _ _ hb] at h1;exact h1
  | false => exact h1
 unfold outZ
 split
 ·rename_i d K hz
  cases fz with
  | false => simp at hz
  | true => exact one (frzZ_ok hm h hz)
 ·exact one (trimZ_ok h)
theorem ansZ_ok {M:Mach} (hm:(M.P ()).follows .mixedOrders = true) {fz:Nat -> Bool} {G:EG} (hK:KnownOk M G) {ex:FuncId -> List AV -> Heap -> Option (AV × Heap)} (h:∀ f args L v L',ex f args L = some (v,L') -> Ev M (.own f args L) v L'):AnsOk M (ansZ M fz G.known ex):=by
 intro f args L v o hc
 unfold ansZ at hc
 split at hc
 ·rename_i hi
  refine ⟨fun _ => ?_,fun h2 => by rw [hi] at h2;simp at h2⟩
  split at hc
  ·rename_i w L' he
   have h1:=outZ_ok hm (fz:=fz f) (h _ _ _ _ _ he)
   simp only [Option.some.injEq] at hc
   rw [hc] at h1
   exact h1
  ·simp at hc
 ·exact ansY_ok hm hK h f args L v o hc
def fzOf (l:List (Nat × List (Nat × List Nat))) (f:Nat):Bool:=l.any fun e=>Nat.beq e.1 f
def execZ (M:Mach) (itf:Option FuncId) (G:EG):Nat -> FuncId -> List AV -> Heap -> Option (AV × Heap)
 | 0 => fun _ _ _ => none
 | n + 1 => fun f args L =>
  match (M.P ()).funcs[f]? with
  | some fn => match fn.body,fn.name == "runtime.NumGoroutine" with
   | some c,false => runZ M itf ⟨fn.ntmps,fn.results.toList⟩ (ofFn G.keep f) (ofFn G.rows f) (ansZ M (fzOf G.hot) G.known (execZ M itf G n)) 100000 [.code c] (Zbi 0 args) L
   | _,_ => none
  | none => none
theorem execZ_sound {M:Mach} (hm:(M.P ()).follows .mixedOrders = true) {itf:Option FuncId} (hI:∀ it,itf = some it -> (∀ args w,(callFunc it args).run (M.P ()) w = .ok (.enter it args) w) /\ ∀ (f:Bool) (X:List Int),X.length < 4611686018427387904 -> ZeE M it (.eptr 1 [.vec f 1 (X.map (.int .i64))] 0 0) (bkX X))
  {G:EG} (hK:KnownOk M G):∀ (n:Nat) (f:FuncId) (args:List AV) (L:Heap) (v:AV) (L':Heap),execZ M itf G n f args L = some (v,L') -> Ev M (.own f args L) v L':=by
 intro n
 induction n with
 | zero => intro f args L v L' h;simp [execZ] at h
 | succ n ih =>
  intro f args L v L' h
  unfold execZ at h
  split at h
  ·rename_i fn hf
   split at h
   ·rename_i c hb hn
    exact .own fn c hf hb hn (runZ_sound hm hI (ansZ_ok hm hK fun f args L v L' h => ih f args L v L' h) _ h)
   ·simp at h
  ·simp at h
def execP2 (M:Mach) (itf:Option FuncId) (G:EG) (n:Nat) (f:FuncId) (args:List AV):Option AV:=
 match execZ M itf G n f args [] with
 | some (v,L') => match deepA L' v with
  | some d => bif (deepV L' v).all (fun b => b) then some d else none
  | none => none
 | none => none
theorem exec_all {M:Mach} (hm:(M.P ()).follows .mixedOrders = true) {itf:Option FuncId} (hI:∀ it,itf = some it -> (∀ args w,(callFunc it args).run (M.P ()) w = .ok (.enter it args) w) /\ ∀ (f:Bool) (X:List Int),X.length < 4611686018427387904 -> ZeE M it (.eptr 1 [.vec f 1 (X.map (.int .i64))] 0 0) (bkX X))
  {G:EG} (hK:KnownOk M G) (n:Nat) {f:FuncId} {args:List AV} {d:AV} (h:execP2 M itf G n f args = some d):Ev M (.pure f args) d []:=by
 unfold execP2 at h
 split at h
 ·rename_i v L' he
  split at h
  ·rename_i d0 hd
   cases hb:(deepV L' v).all (fun b => b) with
   | false => rw [hb] at h;simp at h
   | true =>
    rw [hb] at h
    simp only [cond_true,Option.some.injEq] at h
    subst h
    exact Zf2 hm (.mono (execZ_sound hm hI hK n _ _ _ _ _ he) fun x K ⟨e1,e2⟩ => by subst e1;subst e2;exact deep_of hd ((Zbv _).2 fun b hbm => (List.all_eq_true.1 hb) b hbm))
  ·simp at h
 ·simp at h
end Go.Av

namespace Go.Av
open Go.Proofs
def awkT:List (Nat × List (Nat × List Nat)):=[(12,[(0,[]),(1,[1]),(2,[1,2,3]),(3,[1,2,3,4,5]),(4,[2,3,4,5,6,7,8]),(5,[2,3,4,5,6,7,8,9,10]),(6,[0])]),
 (14,[(0,[0,1]),(1,[0,1,13]),(2,[4]),(3,[0,1,15]),(4,[4]),(5,[0,16,17,18]),(6,[0,16,17,18,19]),(7,[0,6,16,17,18]),(8,[0,16,17,18,43]),(9,[4]),(10,[0,16,17,18]),(11,[4])]),
 (17,[(0,[0,1]),(1,[0,1,12]),(2,[4,5]),(3,[0,6]),(4,[6,22,23]),(5,[6,22,23,24]),(6,[6,7,22,23]),(7,[6,8,22,23]),(8,[6,8,22,23,29]),(9,[4,5]),(10,[6,22,23]),(11,[4,5])]),
 (19,[(0,[0,1]),(1,[0,1,5]),(2,[0,1,5,9]),(3,[0,1,5]),(4,[0,1,5,36]),(5,[4]),(6,[4])]),
 (20,[(0,[0,1]),(1,[0,1,6]),(2,[0,1,6,19]),(3,[4,5]),(4,[0,7]),(5,[0,7,8]),(6,[0,7,8,27,28,29]),(7,[0,7,8,27,28,29,30]),(8,[0,7,8,9,10,27,28,29]),(9,[0,7,8,27,28,29]),(10,[0,7,8,27,28,29]),(11,[0,7,8,11]),(12,[0,7,8,11,43]),(13,[0,7,8,11,12]),(14,[0,7,8,11,12,47]),(15,[4,5]),(16,[0,7,8,11,12]),(17,[0,7,8,11,12,55,56,57]),(18,[0,7,8,11,12,55,56,57,58]),(19,[0,7,8,11,12,14,55,56,57]),(20,[0,7,8,11,12,55,56,57]),(21,[0,7,8,11,12,55,56,57]),(22,[0,7,8,11]),(23,[4,5])]),
 (22,[(0,[0,1]),(1,[0,1,10]),(2,[4]),(3,[0,1,5]),(4,[0,1,5,14]),(5,[0,1,5]),(6,[0,1,5,25]),(7,[4]),(8,[4])]),
 (24,[(0,[0,1,2]),(1,[0,1,2,9]),(2,[0,1,2,9,28]),(3,[6,7,8]),(4,[0,1,2,33]),(5,[6,7,8]),(6,[0,1,2,35]),(7,[6,7,8]),(8,[0,1,2,11]),(9,[0,1,2,11,43]),(10,[6,7,8]),(11,[0,1,12]),(12,[0,1,12,56,57]),(13,[0,1,12,56,57,58]),(14,[0,1,12,13,56,57]),(15,[0,1,12,56,57]),(16,[0,1,12,56,57]),(17,[0,12,68,69,70]),(18,[0,12,68,69,70,71]),(19,[0,12,15,68,69,70]),(20,[0,12,68,69,70]),(21,[0,12,68,69,70]),(22,[0,12,16]),(23,[0,12,16,17]),(24,[0,12,16,17,18,19]),(25,[0,12,16,17,18,19,89]),(26,[0,12,16,17,18,19,20,21]),(27,[0,12,16,17,18,19,20,21,90,91]),(28,[0,12,16,17,18,19,20,21,90,91,92]),(29,[0,12,16,17,18,19,20,21,22,90,91]),(30,[0,12,16,17,18,19,20,21,22,90,91,97]),(31,[0,12,16,17,18,19,20,21,22,23,90,91]),(32,[0,12,16,17,18,19,20,21,22,23,90,91,108]),(33,[0,12,16,17,18,19,20,21,90,91]),(34,[0,12,16,17,18,19,20,21,90,91]),(35,[0,12,16,17,18,20,21,113]),(36,[0,12,16,17,18,20]),(37,[0,12,16,17,18,20]),(38,[0,12,16,17,18,19]),(39,[6,7,8])]),
 (28,[(0,[0,1]),(1,[0,6,7]),(2,[0,6,7,15]),(3,[4,5]),(4,[4,5])]),
 (32,[(0,[0,1]),(1,[0,1,10]),(2,[4]),(3,[0,1,5]),(4,[0,1,5,14]),(5,[0,1,5]),(6,[0,1,5,25]),(7,[4]),(8,[4])]),
 (34,[(0,[0,1,4]),(1,[1,4,5]),(2,[4,5,13,14,15]),(3,[4,5,13,14,15,16]),(4,[4,5,7,13,14,15]),(5,[4,5,7,13,14,15]),(6,[4,5,13,14,15]),(7,[4,5,13,14,15]),(8,[4])]),
 (35,[(0,[0,1]),(1,[0,1,15]),(2,[4]),(3,[0,1,36]),(4,[4]),(5,[0,1]),(6,[0,1]),(7,[0,1,64,65,66]),(8,[0,1,64,65,66,67]),(9,[0,1,6,64,65,66]),(10,[0,1,7,64,65,66]),(11,[0,1,7,64,65,66,74]),(12,[4]),(13,[0,1,64,65,66]),(14,[]),(15,[4])]),
 (37,[(0,[0,1]),(1,[0,1,5]),(2,[0,1,5,9]),(3,[0,1,5]),(4,[0,1,5,17]),(5,[4]),(6,[4])]),
 (38,[(0,[0,1,2]),(1,[0,1,2,7]),(2,[0,1,2,7,11]),(3,[0,1,2,7]),(4,[0,1,2,7,29]),(5,[6]),(6,[6])]),
 (39,[(0,[0,1]),(1,[0,1,7,8]),(2,[0,1,7,8,9]),(3,[0,1,5,7,8]),(4,[0,1,5,7,8,16]),(5,[4]),(6,[0,1,7,8]),(7,[4])]),
 (42,[(0,[0,1,2]),(1,[6])]),
 (43,[(0,[0,1,2,3]),(1,[0,2,3,9]),(2,[9,35]),(3,[9]),(4,[8])]),
 (45,[(0,[1,2]),(1,[1,2,6,7]),(2,[1,2,6,7,23]),(3,[4,5]),(4,[2,6,8]),(5,[2,6,8,9]),(6,[2,8,9,31]),(7,[2,8,9,11]),(8,[8,9,11]),(9,[9,11,43,44,45]),(10,[9,11,43,44,45,46]),(11,[9,11,13,43,44,45]),(12,[9,11,13,43,44,45]),(13,[9,11,43,44,45,58,59,60]),(14,[9,11,43,44,45,58,59,60,61]),(15,[9,11,14,15,43,44,45,58,59,60]),(16,[9,11,43,44,45,58,59,60]),(17,[9,11,43,44,45,58,59,60]),(18,[9,11,43,44,45]),(19,[4,5])]),
 (46,[(0,[0,1]),(1,[0,1,5]),(2,[0,1,5,8,9]),(3,[0,1,5,8,9,10]),(4,[0,1,5,6,8,9]),(5,[0,1,5,6,8,9,12,13]),(6,[0,1,5,6,8,9,12,13,14]),(7,[0,1,5,6,7,8,9,12,13]),(8,[0,1,5,6,7,8,9,12,13,19]),(9,[0,1,5,6,8,9,12,13]),(10,[0,1,5,6,8,9,12,13]),(11,[0,1,5,8,9]),(12,[4])]),
 (47,[(0,[0,1,2]),(1,[5])]),
 (51,[(0,[0]),(1,[0,4]),(2,[2]),(3,[2])]),
 (52,[(0,[0,1,2]),(1,[0,1,2,15]),(2,[6]),(3,[0,1,2,7]),(4,[0,1,2,7,27]),(5,[6]),(6,[0,1,2,8]),(7,[0,1,2,8,39,40]),(8,[0,1,2,8,39,40,41]),(9,[0,1,2,8,9,39,40]),(10,[0,1,2,8,9,39,40,46]),(11,[0,1,2,8,39,40]),(12,[0,1,2,8,39,40]),(13,[8]),(14,[6])]),
 (53,[(0,[1]),(1,[2])]),
 (55,[(0,[0,1,3]),(1,[0,1,3,8]),(2,[0,1,3]),(3,[0,1,3,18])])]
noncomputable def awkG:EG:=⟨awkT,[],[],[]⟩
end Go.Av

namespace Go.Av
open Go.Proofs
theorem bk_hit:∀ args w,(callFunc 55 args).run (M1.P ()) w = .ok (.enter 55 args) w:=
 fun args w => call_runs (fn:=Try.f55) (c:=bkC) (by kernel_rfl) (by kernel_rfl) (by kernel_rfl) w
set_option maxRecDepth 1000000 in
theorem ev12:Ev M1 (.pure 12 []) (.bool true) []:=exec_all hm1 (itf:=some 55) (fun _ h=>by injection h with h;subst h;exact ⟨bk_hit,fun f X h=>bk_iter f X h⟩) (G:=awkG) (fun _ h=>nomatch h) 30 (by kernel_rfl)
end Go.Av

namespace Go.Av
abbrev vi:Int->AV:=AV.int .i64
abbrev us (l:List Int):List AV:=List.map (AV.int .u32) l
abbrev wi (x:Int):Int:=IntKind.i64.wrap x
abbrev vf (l:List AV):AV:=.vec false 1 l
abbrev ag (l:List AV):AV:=.agg l
abbrev tu (l:List AV):AV:=.tup l
abbrev vb (b:Bool):AV:=.bool b
abbrev gi {α:Type} (l:List α) (i:Nat):Option α:=l.get?Internal i
theorem b0:allB []:=trivial
theorem bc {b:Bool} {l:List Bool} (h:b=true) (r:allB l):allB (b::l):=⟨h,r⟩
theorem q0:allP []:=trivial
theorem qc {p:Prop} {l:List Prop} (h:p) (r:allP l):allP (p::l):=⟨h,r⟩
theorem c0 {M:Mach}:allC M []:=trivial
theorem cc {M:Mach} {c:CF} {l:List CF} (h:c.cond=true->c.ok M) (r:allC M l):allC M (c::l):=⟨h,r⟩
theorem xq {P A B : Prop} (H : (P -> A) /\ (¬P -> B)) : (P /\ A) \/ (¬P /\ B) := (Classical.em P).elim (fun k => .inl ⟨k, H.1 k⟩) fun k => .inr ⟨k, H.2 k⟩
theorem xm (p:Prop):p\/¬p:=Classical.em p
abbrev pc (f:Nat) (args:List AV) (v:AV):CF:=⟨true,false,f,args,[],v,[]⟩
theorem ce {M:Mach} {f:Nat} {args:List AV} {v:AV} {l:List CF} (h:Ev M (.pure f args) v []) (r:allC M l):allC M (pc f args v::l):=⟨fun _=>h,r⟩
def retP (M:Mach) (fi:Fi) (G:Given) (n:Nat) (ds:List Bool) (todo:List Item) (env:Vars) (L:Heap):Option (AV × List Bool × List Prop × List CF):=
 match path M fi G n ds ⟨todo,env,L,[],[],[]⟩ with
 | some ⟨.code .ret :: _,env',L',asm,eqs,calls⟩ => match finish M.P fi env' L' with
  | some v => match pureA L' v with
   | some d => bif (versA L' v).all id && d.clean then some (d,asm,eqs,calls) else none
   | none => none
  | none => none
 | _ => none
theorem Za4 {M:Mach} {fi:Fi} {G:Given} (n:Nat) (ds:List Bool) {todo:List Item} {env:Vars} {L:Heap} {asm:List Bool} {eqs:List Prop} {calls:List CF} (d:AV) {dq:AV}
  (h:retP M fi G n ds todo env L = some (d,asm,eqs,calls)) (hA:allB asm) (hQ:allP eqs) (hC:allC M calls) (w:Weak d dq):Wp M (.run fi todo env L) (Zan dq):=by
 unfold retP at h
 split at h
 ·rename_i k env' L' asm' eqs' calls' hp
  split at h
  ·rename_i v hf
   split at h
   ·rename_i d' hd
    cases hb:((versA L' v).all id && d'.clean) with
    | false => rw [hb] at h;simp at h
    | true =>
     rw [hb] at h
     simp only [cond_true,Option.some.injEq,Prod.mk.injEq] at h
     obtain ⟨rfl,rfl,rfl,rfl⟩:=h
     rw [Bool.and_eq_true,List.all_eq_true] at hb
     exact Zab n ds _ hp hA hQ hC (.ret hf ⟨_,hd,(Zbv _).2 hb.1,hb.2,w⟩)
   ·simp at h
  ·simp at h
 ·simp at h
theorem ZaN {M:Mach} {fi:Fi} {G:Given} (n:Nat) (ds:List Bool) {todo:List Item} {env:Vars} {L:Heap} {asm:List Bool} {eqs:List Prop} {calls:List CF} (d:AV) {dq:AV}
  (h:retP M fi G n ds todo env L = some (d,asm,eqs,calls)) (hA:allB asm) (hQ:allP eqs) (hC:allC M calls) (w:d = dq):Wp M (.run fi todo env L) (Zan dq):=
 Za4 n ds d h hA hQ hC (by rw [w];exact .refl _)
theorem pcl {M:Mach} {f:FuncId} {args:List AV} {d:AV} (fn:Func) (fi:Fi) (h0:((M.P ()).funcs[f]?,fn.body,fn.name == "runtime.NumGoroutine",(⟨fn.ntmps,fn.results.toList⟩:Fi)) = (some fn,some (cd fn),false,fi)) (h:Wp M (.run fi [.code (cd fn)] (Zbi 0 args) []) (Zan d)):Ev M (.pure f args) d []:=
 pure_pq fn fi (congrArg (fun x => x.1) h0) (congrArg (fun x => x.2.1) h0) (congrArg (fun x => x.2.2.1) h0) (congrArg (fun x => x.2.2.2) h0) h
abbrev wc (M:Mach) (fi:Fi) (fn:Func) (args:List AV) (d:AV):Prop:=Wp M (.run fi [.code (cd fn)] (Zbi 0 args) []) (Zan d)
end Go.Av

namespace Go.Av
structure Pr where
 a:Int
 b:Int
 deriving Inhabited,DecidableEq
def Pr.v (p:Pr):AV:=.agg [.int .i64 p.a,.int .i64 p.b]
end Go.Av

namespace Go.Av
open Go.Proofs
set_option maxRecDepth 100000
def fi13:Fi:=⟨6,[.tmp 2]⟩
def kp13:List (Nat × List Nat):=[(0,[0]),(1,[2])]
def fi14:Fi:=⟨45,[.tmp 4]⟩
def kp14:List (Nat × List Nat):=[(0,[0,1]),(1,[0,1,13]),(2,[4]),(3,[0,1,15]),(4,[4]),(5,[0,16,17,18]),(6,[0,16,17,18,19]),(7,[0,6,16,17,18]),(8,[0,16,17,18,43]),(9,[4]),(10,[0,16,17,18]),(11,[4])]
def fi15:Fi:=⟨54,[.tmp 4]⟩
def kp15:List (Nat × List Nat):=[(0,[0,1]),(1,[0,1,14]),(2,[4]),(3,[0,1,16]),(4,[4]),(5,[0,1,5]),(6,[0,1,5,20]),(7,[0,1,5]),(8,[0,1,5,6,7]),(9,[0,1,5,53]),(10,[4]),(11,[4])]
def fi26:Fi:=⟨50,[.tmp 4]⟩
def kp26:List (Nat × List Nat):=[(0,[0,1]),(1,[0,1,5]),(2,[0,1,5,6]),(3,[0,1,5,6,10]),(4,[0,1,5,6]),(5,[0,1,5,6,26]),(6,[4]),(7,[0,1,5,6,46]),(8,[0,1,5,6]),(9,[4])]
def fi37:Fi:=⟨18,[.tmp 4]⟩
def kp37:List (Nat × List Nat):=[(0,[0,1]),(1,[0,1,5]),(2,[0,1,5,9]),(3,[0,1,5]),(4,[0,1,5,17]),(5,[4]),(6,[4])]
def pCpN_at (f:Bool) (Q:AV->Heap->Prop):Prop:=Wp M1 (.run fi13 (atC (cd Try.f13) []) [(0,.vec f 2 (([]:List Pr).map Pr.v))] []) Q
def pCpC_at (f:Bool) (p:Pr) (ps:List Pr) (Q:AV->Heap->Prop):Prop:=Wp M1 (.run fi13 (atC (cd Try.f13) []) [(0,.vec f 2 ((p::ps).map Pr.v))] []) Q
def pVa_at (n:Int) (f:Bool) (ps:List Pr) (Q:AV->Heap->Prop):Prop:=Wp M1 (.run fi14 (atC (cd Try.f14) []) [(0,.int .i64 n),(1,.vec f 2 (ps.map Pr.v))] []) Q
def Zfu (n:Int) (f:Bool) (ps:List Pr) (m i:Int) (Q:AV->Heap->Prop):Prop:=Wp M1 (.run fi14 (atC (cd Try.f14) [1,1,1,0,1,0,0]) [(0,.int .i64 n),(16,.vec f 2 (ps.map Pr.v)),(17,.int .i64 m),(18,.int .i64 i)] []) Q
def pRv_at (n:Int) (f:Bool) (ps:List Pr) (Q:AV->Heap->Prop):Prop:=Wp M1 (.run fi15 (atC (cd Try.f15) []) [(0,.int .i64 n),(1,.vec f 2 (ps.map Pr.v))] []) Q
def Zfv (n:Int) (f:Bool) (ps:List Pr) (i:Int) (Q:AV->Heap->Prop):Prop:=Wp M1 (.run fi15 (atC (cd Try.f15) [1,1,1,0,1,0,0]) [(0,.int .i64 n),(1,.vec f 2 (ps.map Pr.v)),(5,.int .i64 i)] []) Q
def pRc_at (f g:Bool) (l o:List Int) (Q:AV->Heap->Prop):Prop:=Wp M1 (.run fi26 (atC (cd Try.f26) []) [(0,.vec f 1 (l.map (.int .i64))),(1,.vec g 1 (o.map (.int .i64)))] []) Q
def Zeo (f g:Bool) (l o:List Int) (n i:Int) (Q:AV->Heap->Prop):Prop:=Wp M1 (.run fi26 (atC (cd Try.f26) [1,1,0,1,0,0]) [(0,.vec f 1 (l.map (.int .i64))),(1,.vec g 1 (o.map (.int .i64))),(5,.int .i64 n),(6,.int .i64 i)] []) Q
def pIn_at (g:Bool) (l:List Int) (n:Int) (Q:AV->Heap->Prop):Prop:=Wp M1 (.run fi37 (atC (cd Try.f37) []) [(0,.vec g 1 (l.map (.int .i64))),(1,.int .i64 n)] []) Q
def Zfz (g:Bool) (l:List Int) (n i:Int) (Q:AV->Heap->Prop):Prop:=Wp M1 (.run fi37 (atC (cd Try.f37) [1,0,1,0,0]) [(0,.vec g 1 (l.map (.int .i64))),(1,.int .i64 n),(5,.int .i64 i)] []) Q
theorem call13 {args:List AV} {d:AV} (h:wc M1 fi13 Try.f13 args d):Ev M1 (.pure 13 args) d []:=pcl _ _ (by kernel_rfl) h
theorem call14 {args:List AV} {d:AV} (h:wc M1 fi14 Try.f14 args d):Ev M1 (.pure 14 args) d []:=pcl _ _ (by kernel_rfl) h
theorem call15 {args:List AV} {d:AV} (h:wc M1 fi15 Try.f15 args d):Ev M1 (.pure 15 args) d []:=pcl _ _ (by kernel_rfl) h
theorem call26 {args:List AV} {d:AV} (h:wc M1 fi26 Try.f26 args d):Ev M1 (.pure 26 args) d []:=pcl _ _ (by kernel_rfl) h
theorem call37 {args:List AV} {d:AV} (h:wc M1 fi37 Try.f37 args d):Ev M1 (.pure 37 args) d []:=pcl _ _ (by kernel_rfl) h
theorem pCpN (f:Bool)  (dq:AV) (H :
  Weak (AV.vec true 2 []) dq) :
 pCpN_at f (Zan dq):=by
 unfold pCpN_at
 exact Za4 (G:=Zad kp13 [] []) 1000 [] (AV.vec true 2 []) (by kernel_rfl) b0 q0 c0 H
theorem pCpC (f:Bool) (p:Pr) (ps:List Pr)  (dq:AV) (H :
  ((0 + (ps.length + 1)) * 16 <= 1099511627776) /\
  Weak (AV.vec false 2 (ag [vi p.a,vi p.b] :: List.map Pr.v ps)) dq) :
 pCpC_at f p ps (Zan dq):=by
 unfold pCpC_at
 have w1:(List.map Pr.v ps).length = ps.length:=List.length_map ..
 have i2:(decide ((0 + ((List.map Pr.v ps).length + 1)) * 16 <= 1099511627776)) = true ↔ ((0 + (ps.length + 1)) * 16 <= 1099511627776):=(by (try rw [w1]);all_goals exact Zaa)
 obtain ⟨k3,H⟩:=H
 exact ZaC (G:=Zad kp13 [] []) 1000 [] (k:=((atC (cd Try.f13) [1,1])).tail) (env':=[(2,AV.row 0 0)]) (L':=[⟨ag [vi p.a,vi p.b] :: List.map Pr.v ps,2,0,false,true⟩]) (asm:=[decide ((0 + ((List.map Pr.v ps).length + 1)) * 16 <= 1099511627776)]) (eqs:=[]) (calls:=[]) (AV.row 0 0) (by kernel_rfl) (by kernel_rfl) (Zaf (i2.2 k3) Zah) Zam ZaE (pq_weak (d:=(AV.vec false 2 (ag [vi p.a,vi p.b] :: List.map Pr.v ps))) (bs:=[0 == 0]) (by kernel_rfl) (by kernel_rfl) (Zaf (beq_self_eq_true _) Zah) (by kernel_rfl) H)
theorem pVa (n:Int) (f:Bool) (ps:List Pr)  (dq:AV) (H :
  (((n > 200) \/ ((↑ps.length:Int) > 2000)) -> vi 3 = dq) /\
  (¬((n > 200) \/ ((↑ps.length:Int) > 2000)) -> ((n < 0) -> vi 1 = dq) /\
   (¬(n < 0) -> Zfu (n) (f) (ps) ((↑ps.length:Int)) (0) (Zan dq)))) :
 pVa_at n f ps (Zan dq):=by
 unfold pVa_at
 have w1:(List.map Pr.v ps).length = ps.length:=List.length_map ..
 have i2:(bif decide (n > 200) then true else decide ((↑(List.map Pr.v ps).length:Int) > 2000)) = true ↔ ((n > 200) \/ ((↑ps.length:Int) > 2000)):=(by (try rw [w1]);all_goals exact (Zb8 Zaa Zaa))
 rcases xq H with ⟨d3,H⟩|⟨d3,H⟩
 ·exact ZaN (G:=Zad kp14 [] []) 1000 [true] (vi 3) (by kernel_rfl) (bc (Zap (i2.2 d3)) b0) q0 c0 H
 ·rcases xq H with ⟨d5,H⟩|⟨d5,H⟩
  ·exact ZaN (G:=Zad kp14 [] []) 1000 [false,true] (vi 1) (by kernel_rfl) (bc (Zal (fun h => d3 (i2.1 h))) (bc (Zap (Zaa.2 d5)) b0)) q0 c0 H
  ·exact Zab (G:=Zad kp14 [] []) 1000 [false,false] ⟨(atC (cd Try.f14) [1,1,1,0,1,0,0]),[(0,vi n),(16,AV.vec f 2 (List.map Pr.v ps)),(17,vi (↑(List.map Pr.v ps).length:Int)),(18,vi 0)],[],_,[],_⟩ (by kernel_rfl) (bc (Zal (fun h => d3 (i2.1 h))) (bc (Zal (fun h => d5 (Zaa.1 h))) b0)) q0 c0 (by (try rw [w1]);all_goals exact H)
noncomputable abbrev zPxA1 (ps:List Pr) (i:Int):=bif (ps.getD i.toNat default).a==(ps.getD i.toNat default).b then true else decide ((if (ps.getD i.toNat default).b<(ps.getD i.toNat default).a then (ps.getD i.toNat default).b else (ps.getD i.toNat default).a)<0)
noncomputable abbrev zPxA2 (ps:List Pr) (i:Int):=ag [vi (ps.getD i.toNat default).a,vi (ps.getD i.toNat default).b]
theorem pVaL (n:Int) (f:Bool) (ps:List Pr) (m i:Int)  (dq:AV) (H :
  ((i < m) -> (0 <= i) /\
   (i.toNat < ps.length) /\
   (((((ps.getD i.toNat default).a = (ps.getD i.toNat default).b) \/ ((if (ps.getD i.toNat default).b < (ps.getD i.toNat default).a then (ps.getD i.toNat default).b else (ps.getD i.toNat default).a) < 0)) \/ ((if (ps.getD i.toNat default).b > (ps.getD i.toNat default).a then (ps.getD i.toNat default).b else (ps.getD i.toNat default).a) >= n)) -> vi 1 = dq) /\
   (¬((((ps.getD i.toNat default).a = (ps.getD i.toNat default).b) \/ ((if (ps.getD i.toNat default).b < (ps.getD i.toNat default).a then (ps.getD i.toNat default).b else (ps.getD i.toNat default).a) < 0)) \/ ((if (ps.getD i.toNat default).b > (ps.getD i.toNat default).a then (ps.getD i.toNat default).b else (ps.getD i.toNat default).a) >= n)) -> (-9223372036854775808 <= i + 1 /\ i + 1 <= 9223372036854775807) /\
    Zfu (n) (f) (ps) (m) (i + 1) (Zan dq))) /\
  (¬(i < m) -> vi 0 = dq)) :
 Zfu n f ps m i (Zan dq):=by
 unfold Zfu
 rcases xq H with ⟨d2,H⟩|⟨d2,H⟩
 ·obtain ⟨k4,H⟩:=H
  have w5:(List.map Pr.v ps).length = ps.length:=List.length_map ..
  have i6:(decide (i.toNat < (List.map Pr.v ps).length)) = true ↔ (i.toNat < ps.length):=(by (try rw [w5]);all_goals exact Zaa)
  obtain ⟨k7,H⟩:=H
  refine Zab (G:=Zad kp14 [(7,1,.elem ((zPxA2 ps i)))] []) 11 [true] ⟨(atC (cd Try.f14) [1,1,1,0,1,0,0,1,1,0,0,1,1]),[(0,vi n),(16,AV.vec f 2 (List.map Pr.v ps)),(17,vi m),(18,vi i),(43,vb (bif bif (ps.getD i.toNat default).a == (ps.getD i.toNat default).b then true else decide ((if (ps.getD i.toNat default).b < (ps.getD i.toNat default).a then (ps.getD i.toNat default).b else (ps.getD i.toNat default).a) < 0) then true else decide ((if (ps.getD i.toNat default).b > (ps.getD i.toNat default).a then (ps.getD i.toNat default).b else (ps.getD i.toNat default).a) >= n)))],[⟨[(zPxA2 ps i)],2,0,false,false⟩],[(decide (i < m)) == true,decide (0 <= i),decide (i.toNat < (List.map Pr.v ps).length),true,true,true,true,true,true,true,!(((ps.getD i.toNat default).a == (ps.getD i.toNat default).b) == false && true) || true,!(((ps.getD i.toNat default).a == (ps.getD i.toNat default).b) == false && true) || true,!(((ps.getD i.toNat default).a == (ps.getD i.toNat default).b) == false && true) || true,!(((ps.getD i.toNat default).a == (ps.getD i.toNat default).b) == false && true) || true,!(((ps.getD i.toNat default).a == (ps.getD i.toNat default).b) == false && true) || true,!(((ps.getD i.toNat default).a == (ps.getD i.toNat default).b) == false && true) || true,!((zPxA1 ps i) == false && true) || true,!((zPxA1 ps i) == false && true) || true,!((zPxA1 ps i) == false && true) || true,!((zPxA1 ps i) == false && true) || true,!((zPxA1 ps i) == false && true) || true,!((zPxA1 ps i) == false && true) || true],[((List.map Pr.v ps).get?Internal i.toNat = some ((zPxA2 ps i)))],_⟩ (by kernel_rfl) (bc (Zap (Zaa.2 d2)) (bc (Zaa.2 k4) (bc (i6.2 k7) (bc rfl (bc rfl (bc rfl (bc rfl (bc rfl (bc rfl (bc rfl (bc (Bool.or_true _) (bc (Bool.or_true _) (bc (Bool.or_true _) (bc (Bool.or_true _) (bc (Bool.or_true _) (bc (Bool.or_true _) (bc (Bool.or_true _) (bc (Bool.or_true _) (bc (Bool.or_true _) (bc (Bool.or_true _) (bc (Bool.or_true _) (bc (Bool.or_true _) b0)))))))))))))))))))))) (qc (Zat k7) q0) c0 ?_
  rcases xq H with ⟨d9,H⟩|⟨d9,H⟩
  ·exact ZaN (G:=Zad kp14 [] []) 1000 [true] (vi 1) (by kernel_rfl) (bc (Zap ((Zb8 (Zb8 i_eq Zaa) Zaa).2 d9)) b0) q0 c0 H
  ·obtain ⟨k10,H⟩:=H
   have w11:wi (i + 1) = i + 1:=wI64 k10
   exact Zab (G:=Zad kp14 [] []) 1000 [false] ⟨(atC (cd Try.f14) [1,1,1,0,1,0,0]),[(0,vi n),(16,AV.vec f 2 (List.map Pr.v ps)),(17,vi m),(18,vi (wi (i + 1)))],[⟨[(zPxA2 ps i)],2,0,false,false⟩],_,[],_⟩ (by kernel_rfl) (bc (Zal (fun h => d9 ((Zb8 (Zb8 i_eq Zaa) Zaa).1 h))) b0) q0 c0 (by (try rw [w11]);all_goals exact ZcP [] (by kernel_rfl) H)
 ·exact ZaN (G:=Zad kp14 [] []) 1000 [false] (vi 0) (by kernel_rfl) (bc (Zal (fun h => d2 (Zaa.1 h))) b0) q0 c0 H
theorem pRv (n:Int) (f:Bool) (ps:List Pr)  (dq:AV) (H :
  (((n > 200) \/ ((↑ps.length:Int) > 2000)) -> vi 3 = dq) /\
  (¬((n > 200) \/ ((↑ps.length:Int) > 2000)) -> ((n < 0) -> vi 1 = dq) /\
   (¬(n < 0) -> Zfv (n) (f) (ps) (0) (Zan dq)))) :
 pRv_at n f ps (Zan dq):=by
 unfold pRv_at
 have w1:(List.map Pr.v ps).length = ps.length:=List.length_map ..
 have i2:(bif decide (n > 200) then true else decide ((↑(List.map Pr.v ps).length:Int) > 2000)) = true ↔ ((n > 200) \/ ((↑ps.length:Int) > 2000)):=(by (try rw [w1]);all_goals exact (Zb8 Zaa Zaa))
 rcases xq H with ⟨d3,H⟩|⟨d3,H⟩
 ·exact ZaN (G:=Zad kp15 [] []) 1000 [true] (vi 3) (by kernel_rfl) (bc (Zap (i2.2 d3)) b0) q0 c0 H
 ·rcases xq H with ⟨d5,H⟩|⟨d5,H⟩
  ·exact ZaN (G:=Zad kp15 [] []) 1000 [false,true] (vi 1) (by kernel_rfl) (bc (Zal (fun h => d3 (i2.1 h))) (bc (Zap (Zaa.2 d5)) b0)) q0 c0 H
  ·exact Zab (G:=Zad kp15 [] []) 1000 [false,false] ⟨(atC (cd Try.f15) [1,1,1,0,1,0,0]),[(0,vi n),(1,AV.vec f 2 (List.map Pr.v ps)),(5,vi 0)],[],_,[],_⟩ (by kernel_rfl) (bc (Zal (fun h => d3 (i2.1 h))) (bc (Zal (fun h => d5 (Zaa.1 h))) b0)) q0 c0 (H)
noncomputable abbrev zPxA3 (ps:List Pr) (i:Int):=ag [vi (ps.getD i.toNat default).a,vi (ps.getD i.toNat default).b]
theorem pRvL (n:Int) (f:Bool) (ps:List Pr) (i:Int)  (dq:AV) (H :
  ((i < (↑ps.length:Int)) -> (0 <= i) /\
   (i.toNat < ps.length) /\
   (((((((ps.getD i.toNat default).a < 0) \/ ((ps.getD i.toNat default).a >= n)) \/ ((ps.getD i.toNat default).b < 0)) \/ ((ps.getD i.toNat default).b >= n)) \/ ((ps.getD i.toNat default).a = (ps.getD i.toNat default).b)) -> vi 1 = dq) /\
   (¬((((((ps.getD i.toNat default).a < 0) \/ ((ps.getD i.toNat default).a >= n)) \/ ((ps.getD i.toNat default).b < 0)) \/ ((ps.getD i.toNat default).b >= n)) \/ ((ps.getD i.toNat default).a = (ps.getD i.toNat default).b)) -> (-9223372036854775808 <= i + 1 /\ i + 1 <= 9223372036854775807) /\
    Zfv (n) (f) (ps) (i + 1) (Zan dq))) /\
  (¬(i < (↑ps.length:Int)) -> vi 0 = dq)) :
 Zfv n f ps i (Zan dq):=by
 unfold Zfv
 have w1:(List.map Pr.v ps).length = ps.length:=List.length_map ..
 have i2:(decide (i < (↑(List.map Pr.v ps).length:Int))) = true ↔ (i < (↑ps.length:Int)):=(by (try rw [w1]);all_goals exact Zaa)
 rcases xq H with ⟨d3,H⟩|⟨d3,H⟩
 ·obtain ⟨k5,H⟩:=H
  have i6:(decide (i.toNat < (List.map Pr.v ps).length)) = true ↔ (i.toNat < ps.length):=(by (try rw [w1]);all_goals exact Zaa)
  obtain ⟨k7,H⟩:=H
  have i9:(decide (i.toNat < (List.map Pr.v ps).length)) = true ↔ (i.toNat < ps.length):=(by (try rw [w1]);all_goals exact Zaa)
  refine Zab (G:=Zad kp15 [(8,4,.elem (zPxA3 ps i)),(8,9,.elem (zPxA3 ps i))] []) 11 [true] ⟨(atC (cd Try.f15) [1,1,1,0,1,0,0,1,0,0,1,1]),[(0,vi n),(1,AV.vec f 2 (List.map Pr.v ps)),(5,vi i),(53,vb (bif bif bif bif decide ((ps.getD i.toNat default).a < 0) then true else decide ((ps.getD i.toNat default).a >= n) then true else decide ((ps.getD i.toNat default).b < 0) then true else decide ((ps.getD i.toNat default).b >= n) then true else (ps.getD i.toNat default).a == (ps.getD i.toNat default).b))],[],_,[((List.map Pr.v ps).get?Internal i.toNat = some (zPxA3 ps i)),((List.map Pr.v ps).get?Internal i.toNat = some (zPxA3 ps i))],_⟩ (by kernel_rfl) (bc (Zap (i2.2 d3)) (bc (Zaa.2 k5) (bc (i6.2 k7) (bc rfl (bc rfl (bc (Zaa.2 k5) (bc (i9.2 k7) (bc rfl (bc rfl b0))))))))) (qc (Zat k7) (qc (Zat k7) q0)) c0 ?_
  rcases xq H with ⟨d11,H⟩|⟨d11,H⟩
  ·exact ZaN (G:=Zad kp15 [] []) 1000 [true] (vi 1) (by kernel_rfl) (bc (Zap ((Zb8 (Zb8 (Zb8 (Zb8 Zaa Zaa) Zaa) Zaa) i_eq).2 d11)) b0) q0 c0 H
  ·obtain ⟨k12,H⟩:=H
   have w13:wi (i + 1) = i + 1:=wI64 k12
   exact Zab (G:=Zad kp15 [] []) 1000 [false] ⟨(atC (cd Try.f15) [1,1,1,0,1,0,0]),[(0,vi n),(1,AV.vec f 2 (List.map Pr.v ps)),(5,vi (wi (i + 1)))],[],_,[],_⟩ (by kernel_rfl) (bc (Zal (fun h => d11 ((Zb8 (Zb8 (Zb8 (Zb8 Zaa Zaa) Zaa) Zaa) i_eq).1 h))) b0) q0 c0 (by (try rw [w13]);all_goals exact H)
 ·exact ZaN (G:=Zad kp15 [] []) 1000 [false] (vi 0) (by kernel_rfl) (bc (Zal (fun h => d3 (i2.1 h))) b0) q0 c0 H
theorem pRc (f g:Bool) (l o:List Int)  (dq:AV) (H :
  Zeo (f) (g) (l) (o) (0) (0) (Zan dq)) :
 pRc_at f g l o (Zan dq):=by
 unfold pRc_at
 exact Zab (G:=Zad kp26 [] []) 1000 [] ⟨(atC (cd Try.f26) [1,1,0,1,0,0]),[(0,AV.vec f 1 (List.map (vi) l)),(1,AV.vec g 1 (List.map (vi) o)),(5,vi 0),(6,vi 0)],[],_,[],_⟩ (by kernel_rfl) b0 q0 c0 (H)
theorem pRcL (f g:Bool) (l o:List Int) (n i:Int)  (dq:AV) (H :
  ((i < (↑l.length:Int)) -> (0 <= i) /\
   (i.toNat < l.length) /\
   (((l.getD i.toNat default < 0) \/ (l.getD i.toNat default >= (↑o.length:Int))) -> vi (-1) = dq) /\
   (¬((l.getD i.toNat default < 0) \/ (l.getD i.toNat default >= (↑o.length:Int))) -> (-9223372036854775808 <= i - 1 /\ i - 1 <= 9223372036854775807) /\
    ((i > 0) -> (0 <= l.getD i.toNat default)) /\
    ((i > 0) -> ((l.getD i.toNat default).toNat < o.length)) /\
    ((i > 0) -> (0 <= i - 1)) /\
    ((i > 0) -> ((i - 1).toNat < l.length)) /\
    ((i > 0) -> (0 <= l.getD (i - 1).toNat default)) /\
    ((i > 0) -> ((l.getD (i - 1).toNat default).toNat < o.length)) /\
    (((i > 0) /\ (¬o.getD (l.getD i.toNat default).toNat default = o.getD (l.getD (i - 1).toNat default).toNat default)) -> (-9223372036854775808 <= n + 1 /\ n + 1 <= 9223372036854775807) /\
     (-9223372036854775808 <= i + 1 /\ i + 1 <= 9223372036854775807) /\
     Zeo (f) (g) (l) (o) (n + 1) (i + 1) (Zan dq)) /\
    (¬((i > 0) /\ (¬o.getD (l.getD i.toNat default).toNat default = o.getD (l.getD (i - 1).toNat default).toNat default)) -> (-9223372036854775808 <= i + 1 /\ i + 1 <= 9223372036854775807) /\
     Zeo (f) (g) (l) (o) (n) (i + 1) (Zan dq)))) /\
  (¬(i < (↑l.length:Int)) -> vi n = dq)) :
 Zeo f g l o n i (Zan dq):=by
 unfold Zeo
 have w1:(List.map (vi) l).length = l.length:=List.length_map ..
 have i2:(decide (i < (↑(List.map (vi) l).length:Int))) = true ↔ (i < (↑l.length:Int)):=(by (try rw [w1]);all_goals exact Zaa)
 rcases xq H with ⟨d3,H⟩|⟨d3,H⟩
 ·obtain ⟨k5,H⟩:=H
  have i6:(decide (i.toNat < (List.map (vi) l).length)) = true ↔ (i.toNat < l.length):=(by (try rw [w1]);all_goals exact Zaa)
  obtain ⟨k7,H⟩:=H
  have i9:(!(decide (l.getD i.toNat default < 0) == false && true) || decide (i.toNat < (List.map (vi) l).length)) = true ↔ ((¬(l.getD i.toNat default < 0)) -> (i.toNat < l.length)):=(by (try rw [w1]);all_goals exact (ZaS (i_at (i_bf Zaa)) Zaa))
  have w11:(List.map (vi) o).length = o.length:=List.length_map ..
  have i12:(bif decide (l.getD i.toNat default < 0) then true else decide (l.getD i.toNat default >= (↑(List.map (vi) o).length:Int))) = true ↔ ((l.getD i.toNat default < 0) \/ (l.getD i.toNat default >= (↑o.length:Int))):=(by (try rw [w11]);all_goals exact (Zb8 Zaa Zaa))
  refine Zab (G:=Zad kp26 [(5,3,.elem (vi (l.getD i.toNat default))),(5,9,.elem (vi (l.getD i.toNat default)))] []) 10 [true] ⟨(atC (cd Try.f26) [1,1,0,1,0,0,1,0,0,0,1]),[(0,AV.vec f 1 (List.map (vi) l)),(1,AV.vec g 1 (List.map (vi) o)),(5,vi n),(6,vi i),(26,vb (bif decide (l.getD i.toNat default < 0) then true else decide (l.getD i.toNat default >= (↑(List.map (vi) o).length:Int))))],[],[(decide (i < (↑(List.map (vi) l).length:Int))) == true,decide (0 <= i),decide (i.toNat < (List.map (vi) l).length),!(decide (l.getD i.toNat default < 0) == false && true) || decide (0 <= i),!(decide (l.getD i.toNat default < 0) == false && true) || decide (i.toNat < (List.map (vi) l).length)],[((List.map (vi) l).get?Internal i.toNat = some (vi (l.getD i.toNat default))),((decide (l.getD i.toNat default < 0) == false && true) = true -> (List.map (vi) l).get?Internal i.toNat = some (vi (l.getD i.toNat default)))],_⟩ (by kernel_rfl) (bc (Zap (i2.2 d3)) (bc (Zaa.2 k5) (bc (i6.2 k7) (bc ((ZaS (i_at (i_bf Zaa)) Zaa).2 (fun _ => k5)) (bc (i9.2 (fun _ => k7)) b0))))) (qc (Zat k7) (qc (fun h => Zat k7) q0)) c0 ?_
  rcases xq H with ⟨d13,H⟩|⟨d13,H⟩
  ·exact ZaN (G:=Zad kp26 [] []) 1000 [true] (vi (-1)) (by kernel_rfl) (bc (Zap (i12.2 d13)) b0) q0 c0 H
  ·obtain ⟨k14,H⟩:=H
   have w15:wi (i - 1) = i - 1:=wI64 k14
   have i17:(!(decide (i > 0) == true && true) || decide (i.toNat < (List.map (vi) l).length)) = true ↔ ((i > 0) -> (i.toNat < l.length)):=(by (try rw [w1]);all_goals exact (ZaS (i_at (i_bt Zaa)) Zaa))
   obtain ⟨k19,H⟩:=H
   have i20:(!(decide (i > 0) == true && true) || decide ((l.getD i.toNat default).toNat < (List.map (vi) o).length)) = true ↔ ((i > 0) -> ((l.getD i.toNat default).toNat < o.length)):=(by (try rw [w11]);all_goals exact (ZaS (i_at (i_bt Zaa)) Zaa))
   obtain ⟨k21,H⟩:=H
   have i22:(!(decide (i > 0) == true && true) || decide (0 <= wi (i - 1))) = true ↔ ((i > 0) -> (0 <= i - 1)):=(by (try rw [w15]);all_goals exact (ZaS (i_at (i_bt Zaa)) Zaa))
   obtain ⟨k23,H⟩:=H
   have i24:(!(decide (i > 0) == true && true) || decide ((wi (i - 1)).toNat < (List.map (vi) l).length)) = true ↔ ((i > 0) -> ((i - 1).toNat < l.length)):=(by (try rw [w1]);(try rw [w15]);all_goals exact (ZaS (i_at (i_bt Zaa)) Zaa))
   obtain ⟨k25,k27,H⟩:=H
   have i28:(!(decide (i > 0) == true && true) || decide ((l.getD (i - 1).toNat default).toNat < (List.map (vi) o).length)) = true ↔ ((i > 0) -> ((l.getD (i - 1).toNat default).toNat < o.length)):=(by (try rw [w11]);all_goals exact (ZaS (i_at (i_bt Zaa)) Zaa))
   obtain ⟨k29,H⟩:=H
   refine Zab (G:=Zad kp26 [(7,7,.elem (vi (l.getD i.toNat default))),(7,9,.elem (vi (o.getD (l.getD i.toNat default).toNat default))),(7,15,.elem (vi (l.getD (i - 1).toNat default))),(7,17,.elem (vi (o.getD (l.getD (i - 1).toNat default).toNat default)))] []) 4 [false] ⟨(atC (cd Try.f26) [1,1,0,1,0,0,1,0,0,1,1]),[(0,AV.vec f 1 (List.map (vi) l)),(1,AV.vec g 1 (List.map (vi) o)),(5,vi n),(6,vi i),(46,vb (bif decide (i > 0) then o.getD (l.getD i.toNat default).toNat default != o.getD (l.getD (i - 1).toNat default).toNat default else false))],[],[(bif decide (l.getD i.toNat default < 0) then true else decide (l.getD i.toNat default >= (↑(List.map (vi) o).length:Int))) == false,!(decide (i > 0) == true && true) || decide (0 <= i),!(decide (i > 0) == true && true) || decide (i.toNat < (List.map (vi) l).length),!(decide (i > 0) == true && true) || decide (0 <= l.getD i.toNat default),!(decide (i > 0) == true && true) || decide ((l.getD i.toNat default).toNat < (List.map (vi) o).length),!(decide (i > 0) == true && true) || decide (0 <= wi (i - 1)),!(decide (i > 0) == true && true) || decide ((wi (i - 1)).toNat < (List.map (vi) l).length),!(decide (i > 0) == true && true) || decide (0 <= l.getD (i - 1).toNat default),!(decide (i > 0) == true && true) || decide ((l.getD (i - 1).toNat default).toNat < (List.map (vi) o).length)],[((decide (i > 0) == true && true) = true -> (List.map (vi) l).get?Internal i.toNat = some (vi (l.getD i.toNat default))),((decide (i > 0) == true && true) = true -> (List.map (vi) o).get?Internal (l.getD i.toNat default).toNat = some (vi (o.getD (l.getD i.toNat default).toNat default))),((decide (i > 0) == true && true) = true -> (List.map (vi) l).get?Internal (wi (i - 1)).toNat = some (vi (l.getD (i - 1).toNat default))),((decide (i > 0) == true && true) = true -> (List.map (vi) o).get?Internal (l.getD (i - 1).toNat default).toNat = some (vi (o.getD (l.getD (i - 1).toNat default).toNat default)))],_⟩ (by kernel_rfl) (bc (Zal (fun h => d13 (i12.1 h))) (bc ((ZaS (i_at (i_bt Zaa)) Zaa).2 (fun _ => k5)) (bc (i17.2 (fun _ => k7)) (bc ((ZaS (i_at (i_bt Zaa)) Zaa).2 k19) (bc (i20.2 k21) (bc (i22.2 k23) (bc (i24.2 k25) (bc ((ZaS (i_at (i_bt Zaa)) Zaa).2 k27) (bc (i28.2 k29) b0))))))))) (qc (fun h => Zat k7) (qc (fun h => Zat (k21 ((i_at (i_bt Zaa)).1 h))) (qc (by (try rw [w15]);all_goals exact (fun h => Zat (k25 ((i_at (i_bt Zaa)).1 h)))) (qc (fun h => Zat (k29 ((i_at (i_bt Zaa)).1 h))) q0)))) c0 ?_
   rcases xq H with ⟨d35,H⟩|⟨d35,H⟩
   ·obtain ⟨k36,H⟩:=H
    have w37:wi (n + 1) = n + 1:=wI64 k36
    obtain ⟨k38,H⟩:=H
    have w39:wi (i + 1) = i + 1:=wI64 k38
    exact Zab (G:=Zad kp26 [] []) 1000 [true] ⟨(atC (cd Try.f26) [1,1,0,1,0,0]),[(0,AV.vec f 1 (List.map (vi) l)),(1,AV.vec g 1 (List.map (vi) o)),(5,vi (wi (n + 1))),(6,vi (wi (i + 1)))],[],_,[],_⟩ (by kernel_rfl) (bc (Zap ((Zbx Zaa i_ne).2 d35)) b0) q0 c0 (by (try rw [w37]);(try rw [w39]);all_goals exact H)
   ·obtain ⟨k40,H⟩:=H
    have w41:wi (i + 1) = i + 1:=wI64 k40
    exact Zab (G:=Zad kp26 [] []) 1000 [false] ⟨(atC (cd Try.f26) [1,1,0,1,0,0]),[(0,AV.vec f 1 (List.map (vi) l)),(1,AV.vec g 1 (List.map (vi) o)),(5,vi n),(6,vi (wi (i + 1)))],[],_,[],_⟩ (by kernel_rfl) (bc (Zal (fun h => d35 ((Zbx Zaa i_ne).1 h))) b0) q0 c0 (by (try rw [w41]);all_goals exact H)
 ·exact ZaN (G:=Zad kp26 [] []) 1000 [false] (vi n) (by kernel_rfl) (bc (Zal (fun h => d3 (i2.1 h))) b0) q0 c0 H
theorem pIn (g:Bool) (l:List Int) (n:Int)  (dq:AV) (H :
  Zfz (g) (l) (n) (0) (Zan dq)) :
 pIn_at g l n (Zan dq):=by
 unfold pIn_at
 exact Zab (G:=Zad kp37 [] []) 1000 [] ⟨(atC (cd Try.f37) [1,0,1,0,0]),[(0,AV.vec g 1 (List.map (vi) l)),(1,vi n),(5,vi 0)],[],_,[],_⟩ (by kernel_rfl) b0 q0 c0 (H)
theorem pInL (g:Bool) (l:List Int) (n i:Int)  (dq:AV) (H :
  ((i < (↑l.length:Int)) -> (0 <= i) /\
   (i.toNat < l.length) /\
   ((l.getD i.toNat default = n) -> vb true = dq) /\
   (¬(l.getD i.toNat default = n) -> (-9223372036854775808 <= i + 1 /\ i + 1 <= 9223372036854775807) /\
    Zfz (g) (l) (n) (i + 1) (Zan dq))) /\
  (¬(i < (↑l.length:Int)) -> vb false = dq)) :
 Zfz g l n i (Zan dq):=by
 unfold Zfz
 have w1:(List.map (vi) l).length = l.length:=List.length_map ..
 have i2:(decide (i < (↑(List.map (vi) l).length:Int))) = true ↔ (i < (↑l.length:Int)):=(by (try rw [w1]);all_goals exact Zaa)
 rcases xq H with ⟨d3,H⟩|⟨d3,H⟩
 ·obtain ⟨k5,H⟩:=H
  have i6:(decide (i.toNat < (List.map (vi) l).length)) = true ↔ (i.toNat < l.length):=(by (try rw [w1]);all_goals exact Zaa)
  obtain ⟨k7,H⟩:=H
  refine Zab (G:=Zad kp37 [(4,3,.elem (vi (l.getD i.toNat default)))] []) 9 [true] ⟨(atC (cd Try.f37) [1,0,1,0,0,1,0,0,1]),[(0,AV.vec g 1 (List.map (vi) l)),(1,vi n),(5,vi i),(17,vb (l.getD i.toNat default == n))],[],_,[((List.map (vi) l).get?Internal i.toNat = some (vi (l.getD i.toNat default)))],_⟩ (by kernel_rfl) (bc (Zap (i2.2 d3)) (bc (Zaa.2 k5) (bc (i6.2 k7) b0))) (qc (Zat k7) q0) c0 ?_
  rcases xq H with ⟨d9,H⟩|⟨d9,H⟩
  ·exact ZaN (G:=Zad kp37 [] []) 1000 [true] (vb true) (by kernel_rfl) (bc (Zap (i_eq.2 d9)) b0) q0 c0 H
  ·obtain ⟨k10,H⟩:=H
   have w11:wi (i + 1) = i + 1:=wI64 k10
   exact Zab (G:=Zad kp37 [] []) 1000 [false] ⟨(atC (cd Try.f37) [1,0,1,0,0]),[(0,AV.vec g 1 (List.map (vi) l)),(1,vi n),(5,vi (wi (i + 1)))],[],_,[],_⟩ (by kernel_rfl) (bc (Zal (fun h => d9 (i_eq.1 h))) b0) q0 c0 (by (try rw [w11]);all_goals exact H)
 ·exact ZaN (G:=Zad kp37 [] []) 1000 [false] (vb false) (by kernel_rfl) (bc (Zal (fun h => d3 (i2.1 h))) b0) q0 c0 H
end Go.Av

namespace Go.Av
open Go.Proofs
namespace Sp
def okp (n:Int) (p:Pr):Prop:=0<=p.a/\p.a<n/\0<=p.b/\p.b<n/\p.a ≠ p.b
instance (n:Int) (p:Pr):Decidable (okp n p):=inferInstanceAs (Decidable (_/\_))
def vdl (n:Int):List Pr -> Int
 | [] => 0
 | p :: ps => if okp n p then vdl n ps else 1
def vd (n:Int) (ps:List Pr):Int:=if n>200\/(ps.length:Int)>2000 then 3 else if n<0 then 1 else vdl n ps
def chl (o:List Int) (p:Option Int) (n:Int):List Int -> Int
 | [] => n
 | x :: l => if x < 0 \/ x >= (o.length:Int) then -1 else match p with
  | some y => chl o (some x) (if o.getD y.toNat default = o.getD x.toNat default then n else n + 1) l
  | none => chl o (some x) n l
def ch (l o:List Int):Int:=chl o none 0 l
def mem (l:List Int) (n:Int):Bool:=l.any fun x=>x==n
def few (n:Nat) (m:Nat):Prop:=n<=m
end Sp
theorem ev13 (f:Bool) (ps:List Pr) (h:Sp.few ps.length 60000000000):Ev M1 (.pure 13 [.vec f 2 (ps.map Pr.v)]) (.vec false 2 (ps.map Pr.v)) []:=by
 cases ps with
 | nil => exact call13 (pCpN _ _ (.full 2 []))
 | cons p ps =>
  unfold Sp.few at h
  simp only [List.length_cons] at h
  exact call13 (pCpC _ _ _ _ ⟨by omega,.refl _⟩)
theorem pVaL_loop (n:Int) (f:Bool) (ps:List Pr) (hl:ps.length <= 2000):∀ (k i:Nat),i + k = ps.length -> Zfu n f ps (ps.length:Int) (i:Int) (Zan (.int .i64 (Sp.vdl n (ps.drop i)))):=by
 intro k
 induction k with
 | zero =>
  intro i hi
  refine pVaL _ _ _ _ _ _ ⟨fun h => absurd h (by omega),fun _ => ?_⟩
  rw [List.drop_of_length_le (by omega)];rfl
 | succ k ih =>
  intro i hi
  have hlt:i < ps.length:=by omega
  have e:((i:Int)).toNat = i:=Int.toNat_natCast i
  refine pVaL _ _ _ _ _ _ ⟨fun _ => ⟨by omega,by rw [e];exact hlt,fun h => ?_,fun h => ⟨by omega,?_⟩⟩,fun h => absurd h (by omega)⟩
  ·rw [e] at h
   rw [Zbt hlt]
   show AV.int .i64 1 = .int .i64 (if Sp.okp n (ps.getD i default) then _ else 1)
   rw [if_neg]
   intro ⟨h1,h2,h3,h4,h5⟩
   rcases h with (h | h) | h
   ·exact h5 h
   ·split at h <;> omega
   ·split at h <;> omega
  ·rw [e] at h
   rw [Zbt hlt]
   have:Sp.vdl n (ps.getD i default :: ps.drop (i + 1)) = Sp.vdl n (ps.drop (i + 1)):=by
    show (if Sp.okp n (ps.getD i default) then _ else 1) = _
    rw [if_pos]
    have h1:¬((ps.getD i default).a = (ps.getD i default).b):=fun h' => h (.inl (.inl h'))
    have h2:=fun h' => h (.inl (.inr h'))
    have h3:=fun h' => h (.inr h')
    refine ⟨?_,?_,?_,?_,h1⟩ <;> split at h2 <;> split at h3 <;> omega
   rw [this]
   exact ih (i + 1) (by omega)
theorem ev14 (n:Int) (f:Bool) (ps:List Pr):Ev M1 (.pure 14 [.int .i64 n,.vec f 2 (ps.map Pr.v)]) (.int .i64 (Sp.vd n ps)) []:=by
 refine call14 (pVa _ _ _ _ ⟨fun h => ?_,fun h => ⟨fun h2 => ?_,fun h2 => ?_⟩⟩)
 ·unfold Sp.vd;rw [if_pos h]
 ·unfold Sp.vd;rw [if_neg h,if_pos h2]
 ·unfold Sp.vd;rw [if_neg h,if_neg h2]
  exact pVaL_loop n f ps (by omega) ps.length 0 (by omega)
theorem pRvL_loop (n:Int) (f:Bool) (ps:List Pr) (hl:ps.length <= 2000):∀ (k i:Nat),i + k = ps.length -> Zfv n f ps (i:Int) (Zan (.int .i64 (Sp.vdl n (ps.drop i)))):=by
 intro k
 induction k with
 | zero =>
  intro i hi
  refine pRvL _ _ _ _ _ ⟨fun h => absurd h (by omega),fun _ => ?_⟩
  rw [List.drop_of_length_le (by omega)];rfl
 | succ k ih =>
  intro i hi
  have hlt:i < ps.length:=by omega
  have e:((i:Int)).toNat = i:=Int.toNat_natCast i
  refine pRvL _ _ _ _ _ ⟨fun _ => ⟨by omega,by rw [e];exact hlt,fun h => ?_,fun h => ⟨by omega,?_⟩⟩,fun h => absurd h (by omega)⟩
  ·rw [e] at h
   rw [Zbt hlt]
   show AV.int .i64 1 = .int .i64 (if Sp.okp n (ps.getD i default) then _ else 1)
   rw [if_neg]
   intro ⟨h1,h2,h3,h4,h5⟩
   omega
  ·rw [e] at h
   rw [Zbt hlt]
   have:Sp.vdl n (ps.getD i default :: ps.drop (i + 1)) = Sp.vdl n (ps.drop (i + 1)):=by
    show (if Sp.okp n (ps.getD i default) then _ else 1) = _
    rw [if_pos]
    exact ⟨by omega,by omega,by omega,by omega,by omega⟩
   rw [this]
   exact ih (i + 1) (by omega)
theorem ev15 (n:Int) (f:Bool) (ps:List Pr):Ev M1 (.pure 15 [.int .i64 n,.vec f 2 (ps.map Pr.v)]) (.int .i64 (Sp.vd n ps)) []:=by
 refine call15 (pRv _ _ _ _ ⟨fun h => ?_,fun h => ⟨fun h2 => ?_,fun h2 => ?_⟩⟩)
 ·unfold Sp.vd;rw [if_pos h]
 ·unfold Sp.vd;rw [if_neg h,if_pos h2]
 ·unfold Sp.vd;rw [if_neg h,if_neg h2]
  exact pRvL_loop n f ps (by omega) ps.length 0 (by omega)
def Sp.prev (l:List Int) (i:Nat):Option Int:=if i=0 then none else some (l.getD (i-1) default)
theorem chl_step {l o:List Int} {n:Int} {i:Nat} (hi:i < l.length) (h:¬(l.getD i default < 0 \/ l.getD i default >= (o.length:Int))) :
  Sp.chl o (Sp.prev l i) n (l.drop i) = Sp.chl o (Sp.prev l (i + 1)) (if 0 < i /\ ¬o.getD (l.getD i default).toNat default = o.getD (l.getD (i - 1) default).toNat default then n + 1 else n) (l.drop (i + 1)):=by
 rw [Zbt hi]
 show (if _ then _ else _) = _
 rw [if_neg h]
 have e:Sp.prev l (i + 1) = some (l.getD i default):=by simp [Sp.prev]
 rw [e]
 unfold Sp.prev
 by_cases h0:i = 0
 ·subst h0;simp
 ·rw [if_neg h0]
  have h1:0 < i:=by omega
  simp only [h1,true_and]
  by_cases h2:o.getD (l.getD i default).toNat default = o.getD (l.getD (i - 1) default).toNat default
  ·rw [if_pos h2.symm,if_neg (by simpa using h2)]
  ·rw [if_neg (fun h => h2 h.symm),if_pos h2]
theorem pRcL_loop (f g:Bool) (l o:List Int) (hl:l.length <= 1000000):∀ (k i:Nat) (n:Int),i + k = l.length -> 0 <= n -> n <= i -> (∀ j,j < i -> 0 <= l.getD j default /\ l.getD j default < (o.length:Int)) ->
  Zeo f g l o n (i:Int) (Zan (.int .i64 (Sp.chl o (Sp.prev l i) n (l.drop i)))):=by
 intro k
 induction k with
 | zero =>
  intro i n hi h1 h2 hin
  refine pRcL _ _ _ _ _ _ _ ⟨fun h => absurd h (by omega),fun _ => ?_⟩
  rw [List.drop_of_length_le (by omega)];rfl
 | succ k ih =>
  intro i n hi h1 h2 hin
  have hlt:i < l.length:=by omega
  have e:((i:Int)).toNat = i:=Int.toNat_natCast i
  have e2:((i:Int) - 1).toNat = i - 1:=by omega
  have e3:((i:Int) + 1) = ((i + 1:Nat):Int):=by omega
  refine pRcL _ _ _ _ _ _ _ ⟨fun _ => ⟨by omega,by rw [e];exact hlt,fun h => ?_,fun h => ?_⟩,fun h => absurd h (by omega)⟩
  ·rw [e] at h
   rw [Zbt hlt]
   show _ = AV.int .i64 (if _ then _ else _)
   rw [if_pos h]
  ·rw [e] at h ⊢
   rw [e2,chl_step hlt h]
   have hin':∀ j,j < i + 1 -> 0 <= l.getD j default /\ l.getD j default < (o.length:Int):=fun j hj => by
    rcases Nat.lt_succ_iff_lt_or_eq.1 hj with h' | rfl
    ·exact hin j h'
    ·omega
   refine ⟨by omega,fun _ => by omega,fun _ => by omega,fun _ => by omega,fun _ => by omega,fun hp => (hin (i - 1) (by omega)).1,fun hp => ?_,fun hp => ⟨by omega,by omega,?_⟩,fun hp => ⟨by omega,?_⟩⟩
   ·have:=hin (i - 1) (by omega);omega
   ·rw [if_pos ⟨by omega,hp.2⟩,e3]
    exact ih (i + 1) (n + 1) (by omega) (by omega) (by omega) hin'
   ·rw [if_neg (fun h' => hp ⟨by omega,h'.2⟩),e3]
    exact ih (i + 1) n (by omega) (by omega) (by omega) hin'
theorem ev26 (f g:Bool) (l o:List Int) (h:Sp.few l.length 1000000):Ev M1 (.pure 26 [.vec f 1 (l.map (.int .i64)),.vec g 1 (o.map (.int .i64))]) (.int .i64 (Sp.ch l o)) []:=
 call26 (pRc _ _ _ _ _ (pRcL_loop f g l o h l.length 0 0 (by omega) (by omega) (by omega) (fun j hj => absurd hj (by omega))))
theorem pInL_loop (g:Bool) (l:List Int) (n:Int) (hl:l.length <= 4000000000):∀ (k i:Nat),i + k = l.length -> Zfz g l n (i:Int) (Zan (.bool (Sp.mem (l.drop i) n))):=by
 intro k
 induction k with
 | zero =>
  intro i hi
  refine pInL _ _ _ _ _ ⟨fun h => absurd h (by omega),fun _ => ?_⟩
  rw [List.drop_of_length_le (by omega)];rfl
 | succ k ih =>
  intro i hi
  have hlt:i < l.length:=by omega
  have e:((i:Int)).toNat = i:=Int.toNat_natCast i
  refine pInL _ _ _ _ _ ⟨fun _ => ⟨by omega,by rw [e];exact hlt,fun h => ?_,fun h => ⟨by omega,?_⟩⟩,fun h => absurd h (by omega)⟩
  ·rw [e] at h
   rw [Zbt hlt]
   simp only [Sp.mem,List.any_cons,h,beq_self_eq_true,Bool.true_or]
  ·rw [e] at h
   have:Sp.mem (l.drop i) n = Sp.mem (l.drop (i + 1)) n:=by
    rw [Zbt hlt]
    simp only [Sp.mem,List.any_cons]
    rw [show (l.getD i default == n) = false by simpa using h,Bool.false_or]
   rw [this]
   exact ih (i + 1) (by omega)
theorem ev37 (g:Bool) (l:List Int) (n:Int) (h:Sp.few l.length 4000000000):Ev M1 (.pure 37 [.vec g 1 (l.map (.int .i64)),.int .i64 n]) (.bool (Sp.mem l n)) []:=
 call37 (pIn _ _ _ _ (pInL_loop g l n h l.length 0 (by omega)))
end Go.Av

namespace Go.Av
open Go.Proofs
theorem pack3 (x:AV):Zc0 Try.prog 3 [x]=x:=by simp [Zc0,aggT,Try.underlying3]
theorem pack30 (x:AV):Zc0 Try.prog 30 [x]=x:=by simp [Zc0,aggT,Try.underlying30]
theorem pack22 (x:AV):Zc0 Try.prog 22 [x]=x:=by simp [Zc0,aggT,Try.underlying22]
theorem pack47 (cs:List AV):Zc0 Try.prog 47 cs = .agg cs:=by simp [Zc0,aggT,Try.underlying47]
theorem cells3:Try.prog.cellsOf 3=1:=by kernel_rfl
theorem cells47:Try.prog.cellsOf 47=2:=by kernel_rfl
set_option maxRecDepth 100000 in
theorem ints_ty {n:Nat} {cs:List AV} (h:Ty Try.prog (n + 1 + 1) 30 cs):∃ o:List Int,cs = [.vec false 1 (o.map (.int .i64))]:=by
 obtain ⟨o,rfl,_⟩:=ty_list (τ:=Int) (enc:=.int .i64) Try.underlying30 (fun ys hy => by
  obtain ⟨x,rfl,_⟩:=ty_int Try.underlying3 hy
  exact ⟨x,by rw [pack3]⟩) h
 rw [cells3];exact ⟨o,rfl⟩
set_option maxRecDepth 100000 in
theorem pairs_ty {n:Nat} {cs:List AV} (h:Ty Try.prog (n + 1 + 1 + 1) 22 cs):∃ o:List Pr,cs = [.vec false 2 (o.map Pr.v)]:=by
 obtain ⟨o,rfl,_⟩:=ty_list (τ:=Pr) (enc:=Pr.v) Try.underlying22 (fun ys hy => by
  unfold Ty at hy
  rw [Try.underlying47] at hy
  obtain ⟨a0,b0,rfl,h0,a1,b1,rfl,h1,rfl⟩:=hy
  obtain ⟨x0,rfl,_⟩:=ty_int Try.underlying3 h0
  obtain ⟨x1,rfl,_⟩:=ty_int Try.underlying3 h1
  exact ⟨⟨x0,x1⟩,by rw [pack47];rfl⟩) h
 rw [cells47];exact ⟨o,rfl⟩
theorem laidOut:laidOutB Try.prog=true:=by kernel_rfl
theorem ownGo:ownKnob Try.prog.godebug=none:=by kernel_rfl
end Go.Av

namespace Go.Av
open Go.Proofs
set_option maxRecDepth 100000
def fi41:Fi:=⟨31,[.tmp 6]⟩
def kp41:List (Nat × List Nat):=[(0,[0,1,2]),(1,[0,1,2,7]),(2,[0,1,2,7,11]),(3,[0,1,2,7]),(4,[0,1,2,7,30]),(5,[6]),(6,[6])]
def pRd_at (f g:Bool) (ps:List Pr) (l:List Int) (n:Int) (Q:AV->Heap->Prop):Prop:=Wp M1 (.run fi41 (atC (cd Try.f41) []) [(0,.vec f 2 (ps.map Pr.v)),(1,.vec g 1 (l.map (.int .i64))),(2,.int .i64 n)] []) Q
def Zfw (f g:Bool) (ps:List Pr) (l:List Int) (n i:Int) (Q:AV->Heap->Prop):Prop:=Wp M1 (.run fi41 (atC (cd Try.f41) [1,0,1,0,0]) [(0,.vec f 2 (ps.map Pr.v)),(1,.vec g 1 (l.map (.int .i64))),(2,.int .i64 n),(7,.int .i64 i)] []) Q
theorem call41 {args:List AV} {d:AV} (h:wc M1 fi41 Try.f41 args d):Ev M1 (.pure 41 args) d []:=pcl _ _ (by kernel_rfl) h
theorem pRd (f g:Bool) (ps:List Pr) (l:List Int) (n:Int)  (dq:AV) (H :
  Zfw (f) (g) (ps) (l) (n) (0) (Zan dq)) :
 pRd_at f g ps l n (Zan dq):=by
 unfold pRd_at
 exact Zab (G:=Zad kp41 [] []) 1000 [] ⟨(atC (cd Try.f41) [1,0,1,0,0]),[(0,AV.vec f 2 (List.map Pr.v ps)),(1,AV.vec g 1 (List.map (vi) l)),(2,vi n),(7,vi 0)],[],_,[],_⟩ (by kernel_rfl) b0 q0 c0 (H)
noncomputable abbrev zPxC1 (ps:List Pr) (i:Int):=ag [vi (ps.getD i.toNat default).a,vi (ps.getD i.toNat default).b]
noncomputable abbrev zPxC2 (ps:List Pr) (i:Int) (n:Int) (l:List Int):=bif (ps.getD i.toNat default).b==n then !Sp.mem l (ps.getD i.toNat default).a else false
theorem pRdL (f g:Bool) (ps:List Pr) (l:List Int) (n i:Int)  (dq:AV) (H :
  ((i < (↑ps.length:Int)) -> (((ps.getD i.toNat default).b = n) -> (Sp.few l.length 4000000000)) /\
   (0 <= i) /\
   (i.toNat < ps.length) /\
   ((((ps.getD i.toNat default).b = n) /\ (¬(Sp.mem l (ps.getD i.toNat default).a = true))) -> vb false = dq) /\
   (¬(((ps.getD i.toNat default).b = n) /\ (¬(Sp.mem l (ps.getD i.toNat default).a = true))) -> (-9223372036854775808 <= i + 1 /\ i + 1 <= 9223372036854775807) /\
    Zfw (f) (g) (ps) (l) (n) (i + 1) (Zan dq))) /\
  (¬(i < (↑ps.length:Int)) -> vb true = dq)) :
 Zfw f g ps l n i (Zan dq):=by
 unfold Zfw
 have w1:(List.map Pr.v ps).length = ps.length:=List.length_map ..
 have i2:(decide (i < (↑(List.map Pr.v ps).length:Int))) = true ↔ (i < (↑ps.length:Int)):=(by (try rw [w1]);all_goals exact Zaa)
 rcases xq H with ⟨d3,H⟩|⟨d3,H⟩
 ·obtain ⟨k5,k7,H⟩:=H
  have i8:(decide (i.toNat < (List.map Pr.v ps).length)) = true ↔ (i.toNat < ps.length):=(by (try rw [w1]);all_goals exact Zaa)
  obtain ⟨k9,H⟩:=H
  have i11:(!(((ps.getD i.toNat default).b == n) == true && true) || decide (i.toNat < (List.map Pr.v ps).length)) = true ↔ (((ps.getD i.toNat default).b = n) -> (i.toNat < ps.length)):=(by (try rw [w1]);all_goals exact (ZaS (i_at (i_bt i_eq)) Zaa))
  refine Zab (G:=Zad kp41 [(4,4,.elem (zPxC1 ps i)),(4,13,.elem (zPxC1 ps i)),(4,14,.call (vb (Sp.mem l (ps.getD i.toNat default).a)) none)] []) 9 [true] ⟨(atC (cd Try.f41) [1,0,1,0,0,1,0,0,1]),[(0,AV.vec f 2 (List.map Pr.v ps)),(1,AV.vec g 1 (List.map (vi) l)),(2,vi n),(7,vi i),(30,vb (zPxC2 ps i n l))],[],[(decide (i < (↑(List.map Pr.v ps).length:Int))) == true,decide (0 <= i),decide (i.toNat < (List.map Pr.v ps).length),true,true,!(((ps.getD i.toNat default).b == n) == true && true) || decide (0 <= i),!(((ps.getD i.toNat default).b == n) == true && true) || decide (i.toNat < (List.map Pr.v ps).length),!(((ps.getD i.toNat default).b == n) == true && true) || true,!(((ps.getD i.toNat default).b == n) == true && true) || true],[((List.map Pr.v ps).get?Internal i.toNat = some (zPxC1 ps i)),((((ps.getD i.toNat default).b == n) == true && true) = true -> (List.map Pr.v ps).get?Internal i.toNat = some (zPxC1 ps i))],[⟨((ps.getD i.toNat default).b == n) == true && true && true,false,37,[AV.vec g 1 (List.map (vi) l),vi (ps.getD i.toNat default).a],[],vb (Sp.mem l (ps.getD i.toNat default).a),[]⟩]⟩ (by kernel_rfl) (bc (Zap (i2.2 d3)) (bc (Zaa.2 k7) (bc (i8.2 k9) (bc rfl (bc rfl (bc ((ZaS (i_at (i_bt i_eq)) Zaa).2 (fun _ => k7)) (bc (i11.2 (fun _ => k9)) (bc (Bool.or_true _) (bc (Bool.or_true _) b0))))))))) (qc (Zat k9) (qc (fun h => Zat k9) q0)) (cc (fun hc => ((@ev37 (g) (l) ((ps.getD i.toNat default).a) (k5 ((i_at (i_at (i_bt i_eq))).1 hc))):Ev M1 (Conf.pure 37 [AV.vec g 1 (List.map (vi) l),vi (ps.getD i.toNat default).a]) (vb (Sp.mem l (ps.getD i.toNat default).a)) [])) c0) ?_
  rcases xq H with ⟨d14,H⟩|⟨d14,H⟩
  ·exact ZaN (G:=Zad kp41 [] []) 1000 [true] (asm:=[(zPxC2 ps i n l) == true]) (vb false) (by kernel_rfl) (bc (Zap ((Zbx i_eq (Zd7 (Zar _))).2 d14)) b0) q0 c0 H
  ·obtain ⟨k15,H⟩:=H
   have w16:wi (i + 1) = i + 1:=wI64 k15
   exact Zab (G:=Zad kp41 [] []) 1000 [false] ⟨(atC (cd Try.f41) [1,0,1,0,0]),[(0,AV.vec f 2 (List.map Pr.v ps)),(1,AV.vec g 1 (List.map (vi) l)),(2,vi n),(7,vi (wi (i + 1)))],[],[(zPxC2 ps i n l) == false],[],_⟩ (by kernel_rfl) (bc (Zal (fun h => d14 ((Zbx i_eq (Zd7 (Zar _))).1 h))) b0) q0 c0 (by (try rw [w16]);all_goals exact H)
 ·exact ZaN (G:=Zad kp41 [] []) 1000 [false] (vb true) (by kernel_rfl) (bc (Zal (fun h => d3 (i2.1 h))) b0) q0 c0 H
end Go.Av

namespace Go.Av
open Go.Proofs
namespace Sp
def gt (A:List Int) (a b:Int):Bool:=decide (A.getD a.toNat default>A.getD b.toNat default)
def rdy (ps:List Pr) (l:List Int) (n:Int):Bool:=ps.all fun p => !(p.b==n)||mem l p.a
end Sp
theorem pRdL_loop (f g:Bool) (ps:List Pr) (l:List Int) (n:Int) (hl:Sp.few l.length 4000000000) (hp:ps.length <= 4000000000):∀ (k i:Nat),i + k = ps.length -> Zfw f g ps l n (i:Int) (Zan (.bool (Sp.rdy (ps.drop i) l n))):=by
 intro k
 induction k with
 | zero =>
  intro i hi
  refine pRdL _ _ _ _ _ _ _ ⟨fun h => absurd h (by omega),fun _ => ?_⟩
  rw [List.drop_of_length_le (by omega)];rfl
 | succ k ih =>
  intro i hi
  have hlt:i < ps.length:=by omega
  have e:((i:Int)).toNat = i:=Int.toNat_natCast i
  have e3:((i:Int) + 1) = ((i + 1:Nat):Int):=by omega
  have hd:Sp.rdy (ps.drop i) l n = ((!((ps.getD i default).b == n) || Sp.mem l (ps.getD i default).a) && Sp.rdy (ps.drop (i + 1)) l n):=by
   rw [Zbt hlt];rfl
  refine pRdL _ _ _ _ _ _ _ ⟨fun _ => ⟨fun _ => hl,by omega,by rw [e];exact hlt,fun h => ?_,fun h => ⟨by omega,?_⟩⟩,fun h => absurd h (by omega)⟩
  ·rw [e] at h
   rw [hd,h.1,(by simpa using h.2:Sp.mem l (ps.getD i default).a = false)];simp
  ·rw [e] at h
   have:(!((ps.getD i default).b == n) || Sp.mem l (ps.getD i default).a) = true:=by
    by_cases hb:(ps.getD i default).b = n
    ·have:Sp.mem l (ps.getD i default).a = true:=by
      cases hm:Sp.mem l (ps.getD i default).a with
      | true => rfl
      | false => exact absurd ⟨hb,by rw [hm];simp⟩ h
     rw [this];simp
    ·rw [show ((ps.getD i default).b == n) = false by simpa using hb];rfl
   rw [hd,this,Bool.true_and,e3]
   exact ih (i + 1) (by omega)
theorem ev41 (f g:Bool) (ps:List Pr) (l:List Int) (n:Int) (hl:Sp.few l.length 4000000000) (hp:Sp.few ps.length 4000000000):Ev M1 (.pure 41 [.vec f 2 (ps.map Pr.v),.vec g 1 (l.map (.int .i64)),.int .i64 n]) (.bool (Sp.rdy ps l n)) []:=
 call41 (pRd _ _ _ _ _ _ (pRdL_loop f g ps l n hl hp ps.length 0 (by omega)))
end Go.Av

namespace Go.Av
open Go.Proofs
set_option maxRecDepth 100000
end Go.Av

namespace Go.Av
open Go.Proofs
namespace Sp
def fi (A:List Int) (i:Int):List Pr -> Int
 | [] => -1
 | p :: ps => if gt A p.a p.b = true then i else fi A (i + 1) ps
end Sp
end Go.Av

namespace Go.Av
open Go.Proofs
set_option maxRecDepth 100000
end Go.Av

namespace Go.Av
open Go.Proofs
end Go.Av

namespace Go.Av
open Go.Proofs
set_option maxRecDepth 100000
end Go.Av

namespace Go.Av
open Go.Proofs
namespace Sp
end Sp
theorem vd_zero {n:Int} {ps:List Pr} (h:Sp.vd n ps = 0):0 <= n /\ n <= 200 /\ ps.length <= 2000 /\ ∀ p ∈ ps,Sp.okp n p:=by
 unfold Sp.vd at h
 split at h
 ·simp at h
 ·split at h
  ·simp at h
  ·refine ⟨by omega,by omega,by omega,?_⟩
   have:∀ l:List Pr,Sp.vdl n l = 0 -> ∀ p ∈ l,Sp.okp n p:=by
    intro l
    induction l with
    | nil => intro _ p hp;cases hp
    | cons x l ih =>
     intro hl p hp
     unfold Sp.vdl at hl
     split at hl
     ·rename_i hx
      rcases List.mem_cons.1 hp with rfl | hp
      ·exact hx
      ·exact ih hl p hp
     ·simp at hl
   exact this ps h
theorem mem_iff {l:List Int} {n:Int}:Sp.mem l n = true ↔ n ∈ l:=by
 unfold Sp.mem;simp
structure Tells (n:Nat) (A pre:List Int):Prop where
 len:A.length = n
 pos:∀ k:Nat,k < n -> (A.getD k default > 0 ↔ (k:Int) ∈ pre)
 at':∀ (j:Nat) x,pre[j]? = some x -> A.getD x.toNat default = (j:Int) + 1
theorem pigeon:∀ (n:Nat) (l:List Int),l.Nodup -> (∀ x ∈ l,0 <= x /\ x < n) -> l.length <= n
 | 0,l,_,h => by
  cases l with
  | nil => simp
  | cons x l => have:=h x (List.mem_cons_self ..);omega
 | n + 1,l,hn,h => by
  have h1:=pigeon n (l.erase (n:Int)) (hn.erase _) (fun x hx => by
   have h2:=h x (List.mem_of_mem_erase hx)
   have:x ≠ (n:Int):=fun e => by subst e;exact (List.Nodup.not_mem_erase hn) hx
   omega)
  have:=List.length_erase (a:=(n:Int)) (l:=l)
  split at this <;> omega
end Go.Av

namespace Go.Av
open Go.Proofs
set_option maxRecDepth 100000
end Go.Av

namespace Go.Av
open Go.Proofs
end Go.Av

namespace Go.Av
open Go.Proofs
namespace Sp
def edge (ps:List Pr) (a b:Int):Prop:=∃ p ∈ ps,p.a=a/\p.b=b
inductive dep (ps:List Pr):Int -> Int -> Prop
 | one {a b}:edge ps a b -> dep ps a b
 | cons {a m b}:edge ps a m -> dep ps m b -> dep ps a b
inductive pk (ps:List Pr) (k:Int):Int -> Int -> Prop
 | one {a b}:edge ps a b -> pk ps k a b
 | cons {a m b}:edge ps a m -> m < k -> pk ps k m b -> pk ps k a b
end Sp
theorem dep_trans {ps:List Pr} {a m b:Int} (h:Sp.dep ps a m) (h':Sp.dep ps m b):Sp.dep ps a b:=by
 induction h with
 | one e => exact .cons e h'
 | cons e _ ih => exact .cons e (ih h')
theorem dep_pk {ps:List Pr} {n a b:Int} (hv:∀ p ∈ ps,p.b < n) (h:Sp.dep ps a b):Sp.pk ps n a b:=by
 induction h with
 | one e => exact .one e
 | cons e _ ih =>
  obtain ⟨p,hp,_,e2⟩:=e
  exact .cons ⟨p,hp,by assumption,e2⟩ (by rw [<- e2];exact hv p hp) ih
theorem pk_succ {ps:List Pr} {k a b:Int} (h:Sp.pk ps (k + 1) a b):Sp.pk ps k a b \/ (Sp.pk ps k a k /\ Sp.pk ps k k b):=by
 induction h with
 | one e => exact .inl (.one e)
 | @cons a m b e hm _ ih =>
  by_cases hk:m = k
  ·subst hk
   rcases ih with ih | ⟨_,ih⟩
   ·exact .inr ⟨.one e,ih⟩
   ·exact .inr ⟨.one e,ih⟩
  ·rcases ih with ih | ⟨i1,i2⟩
   ·exact .inl (.cons e (by omega) ih)
   ·exact .inr ⟨.cons e (by omega) i1,i2⟩
theorem min_of {R:Int -> Int -> Prop} (ht:∀ a b c,R a b -> R b c -> R a c):∀ (l:List Int),l ≠ [] -> (∀ x ∈ l,¬R x x) -> ∃ m ∈ l,∀ x ∈ l,¬R x m
 | [],h,_ => (h rfl).elim
 | [x],_,hi => ⟨x,by simp,fun y hy => by rw [List.mem_singleton] at hy;subst hy;exact hi y (by simp)⟩
 | x :: y :: l,_,hi => by
  obtain ⟨m,m1,m2⟩:=min_of ht (y :: l) (by simp) fun z hz => hi z (List.mem_cons_of_mem _ hz)
  by_cases hx:R x m
  ·refine ⟨x,by simp,fun z hz hzx => ?_⟩
   rcases List.mem_cons.1 hz with rfl | hz
   ·exact hi z (by simp) hzx
   ·exact m2 z hz (ht _ _ _ hzx hx)
  ·refine ⟨m,List.mem_cons_of_mem _ m1,fun z hz => ?_⟩
   rcases List.mem_cons.1 hz with rfl | hz
   ·exact hx
   ·exact m2 z hz
namespace Sp
def nx (ps:List Pr) (out:List Int):Nat -> Int -> Option Int
 | 0,_ => none
 | c + 1,k => if (!mem out k && rdy ps out k) = true then some k else nx ps out c (k + 1)
def kahn (n:Nat) (ps:List Pr):Nat -> List Int -> Option (List Int)
 | 0,out => some out
 | c + 1,out => match nx ps out n 0 with
  | some k => kahn n ps c (out ++ [k])
  | none => none
def ord (n:Nat) (ps:List Pr):Option (List Int):=kahn n ps n []
def cyc (n:Nat) (ps:List Pr):Prop:=∃ i:Int,(0<=i/\i<n)/\dep ps i i
def ZaR (n:Nat) (ps:List Pr) (out:List Int):Prop:=∀ j,j<out.length->(0<=out.getD j default/\out.getD j default<n)/\mem (out.take j) (out.getD j default)=false/\rdy ps (out.take j) (out.getD j default)=true
end Sp
theorem Zbl {l:List Int} {n:Int}:Sp.mem l n = true ↔ n ∈ l:=by
 unfold Sp.mem
 rw [List.any_eq_true]
 constructor
 ·rintro ⟨x,hx,e⟩;have:x = n:=by simpa using e
  rw [<- this];exact hx
 ·intro h;exact ⟨n,h,by simp⟩
theorem ZcG {ps:List Pr} {l:List Int} {n:Int}:Sp.rdy ps l n = true ↔ ∀ a,Sp.edge ps a n -> a ∈ l:=by
 unfold Sp.rdy
 rw [List.all_eq_true]
 constructor
 ·rintro h a ⟨p,hp,rfl,rfl⟩
  have:=h p hp
  rw [show (p.b == p.b) = true by simp,Bool.not_true,Bool.false_or] at this
  exact Zbl.1 this
 ·intro h p hp
  by_cases e:p.b = n
  ·have:=Zbl.2 (h p.a ⟨p,hp,rfl,e⟩)
   rw [this,Bool.or_true]
  ·rw [show (p.b == n) = false by simpa using e];rfl
theorem Zdv {ps:List Pr} {out:List Int}:∀ {c:Nat} {k j:Int},Sp.nx ps out c k = some j -> (k <= j /\ j < k + c) /\ Sp.mem out j = false /\ Sp.rdy ps out j = true /\ ∀ i,k <= i -> i < j -> ¬(!Sp.mem out i && Sp.rdy ps out i) = true
 | 0,_,_,h => by cases h
 | c + 1,k,j,h => by
  rw [Sp.nx] at h
  split at h
  ·rename_i hk
   have e:=Option.some.inj h
   subst e
   simp only [Bool.and_eq_true,Bool.not_eq_true'] at hk
   exact ⟨by omega,hk.1,hk.2,fun i h1 h2 => by omega⟩
  ·rename_i hk
   obtain ⟨a,b,c',d⟩:=Zdv h
   refine ⟨by omega,b,c',fun i h1 h2 => ?_⟩
   by_cases e:i = k
   ·rw [e];exact hk
   ·exact d i (by omega) h2
theorem nx_none {ps:List Pr} {out:List Int}:∀ {c:Nat} {k:Int},Sp.nx ps out c k = none -> ∀ i,k <= i -> i < k + c -> ¬(!Sp.mem out i && Sp.rdy ps out i) = true
 | 0,k,_,i,h1,h2 => by omega
 | c + 1,k,h,i,h1,h2 => by
  rw [Sp.nx] at h
  split at h
  ·cases h
  ·rename_i hk
   by_cases e:i = k
   ·rw [e];exact hk
   ·exact nx_none h i (by omega) (by omega)
theorem Zfh:∀ {l out:List Int},l.Nodup -> l ⊆ out -> l.length <= out.length
 | [],_,_,_ => Nat.zero_le _
 | x :: l,out,hnd,hs => by
  rw [List.nodup_cons] at hnd
  have hx:x ∈ out:=hs (by simp)
  have:=Zfh (l:=l) (out:=out.erase x) hnd.2 fun y hy => (List.mem_erase_of_ne fun e => hnd.1 (by rw [<- e];exact hy)).2 (hs (List.mem_cons_of_mem _ hy))
  rw [List.length_erase_of_mem hx] at this
  have:=List.length_pos_of_mem hx
  rw [List.length_cons];omega
def Sp.okV (n:Nat) (ps:List Pr):Prop:=∀ p ∈ ps,0<=p.a/\p.a<n/\0<=p.b/\p.b<n
theorem len_lt {n:Nat} {out:List Int} (hl:out.length < n):∃ i:Int,(0 <= i /\ i < n) /\ i ∉ out:=by
 refine Classical.byContradiction fun h => ?_
 have hall:∀ i:Int,0 <= i -> i < n -> i ∈ out:=fun i h1 h2 => Classical.byContradiction fun y => h ⟨i,⟨h1,h2⟩,y⟩
 have hsub:((List.range n).map fun (j:Nat) => (j:Int)) ⊆ out:=fun x hx => by
  obtain ⟨j,hj,rfl⟩:=List.mem_map.1 hx
  rw [List.mem_range] at hj
  exact hall j (by omega) (by omega)
 have hnd:((List.range n).map fun (j:Nat) => (j:Int)).Nodup:=by
  refine List.pairwise_map.2 (List.nodup_range.imp fun hab e => hab (by omega))
 have:=Zfh hnd hsub
 rw [List.length_map,List.length_range] at this
 omega
theorem stuck {n:Nat} {ps:List Pr} {out:List Int} (hv:Sp.okV n ps) (hl:out.length < n) (h:Sp.nx ps out n 0 = none):Sp.cyc n ps:=by
 refine Classical.byContradiction fun hc => ?_
 obtain ⟨i0,hi0,hi1⟩:=len_lt hl
 have hU:∀ x,x ∈ ((List.range n).map fun (j:Nat) => (j:Int)).filter (fun i => decide (i ∉ out)) ↔ (0 <= x /\ x < n) /\ x ∉ out:=fun x => by
  rw [List.mem_filter,List.mem_map,decide_eq_true_eq]
  constructor
  ·rintro ⟨⟨j,hj,rfl⟩,h2⟩
   rw [List.mem_range] at hj
   exact ⟨by omega,h2⟩
  ·rintro ⟨h1,h2⟩
   exact ⟨⟨x.toNat,by rw [List.mem_range];omega,by omega⟩,h2⟩
 obtain ⟨m,m1,m2⟩:=min_of (R:=Sp.dep ps) (fun _ _ _ => dep_trans) _ (List.ne_nil_of_mem ((hU i0).2 ⟨hi0,hi1⟩)) fun x hx hxx => hc ⟨x,((hU x).1 hx).1,hxx⟩
 obtain ⟨n1,n2⟩:=(hU m).1 m1
 refine nx_none h m n1.1 (by omega) ?_
 have e1:Sp.mem out m = false:=Bool.eq_false_iff.2 fun y => n2 (Zbl.1 y)
 have e2:Sp.rdy ps out m = true:=ZcG.2 fun a ha => by
  refine Classical.byContradiction fun y => ?_
  obtain ⟨p,hp,rfl,rfl⟩:=ha
  have hb:=hv p hp
  exact m2 p.a ((hU _).2 ⟨by omega,y⟩) (.one ⟨p,hp,rfl,rfl⟩)
 rw [e1,e2];rfl
theorem Zga {n:Nat} {ps:List Pr} {out:List Int} {k:Int} (h:Sp.ZaR n ps out) (h1:0 <= k /\ k < n) (h2:Sp.mem out k = false) (h3:Sp.rdy ps out k = true):Sp.ZaR n ps (out ++ [k]):=by
 intro j hj
 rw [List.length_append,List.length_singleton] at hj
 by_cases e:j = out.length
 ·subst e
  have g:(out ++ [k]).getD out.length default = k:=by rw [List.getD_eq_getElem?_getD,List.getElem?_append_right (by omega),Nat.sub_self];rfl
  rw [g,List.take_left' rfl]
  exact ⟨h1,h2,h3⟩
 ·have hl:j < out.length:=by omega
  have g:(out ++ [k]).getD j default = out.getD j default:=by rw [List.getD_eq_getElem?_getD,List.getElem?_append_left hl,<- List.getD_eq_getElem?_getD]
  rw [g,List.take_append_of_le_length (by omega)]
  exact h j hl
theorem kahn_some {n:Nat} {ps:List Pr}:∀ {c:Nat} {out l:List Int},Sp.ZaR n ps out -> Sp.kahn n ps c out = some l -> Sp.ZaR n ps l /\ l.length = out.length + c
 | 0,out,l,hb,h => by rw [Sp.kahn] at h;rw [<- Option.some.inj h];exact ⟨hb,rfl⟩
 | c + 1,out,l,hb,h => by
  rw [Sp.kahn] at h
  split at h
  ·rename_i k hk
   obtain ⟨a,b,c',_⟩:=Zdv hk
   obtain ⟨q1,q2⟩:=kahn_some (Zga hb (by omega) b c') h
   exact ⟨q1,by rw [q2,List.length_append,List.length_singleton];omega⟩
  ·cases h
theorem begins_dep {n:Nat} {ps:List Pr} {l:List Int} (hb:Sp.ZaR n ps l) {a b:Int} (h:Sp.dep ps a b):∀ j,j < l.length -> l.getD j default = b -> a ∈ l.take j:=by
 induction h with
 | one e =>
  intro j hj hg
  have:=(hb j hj).2.2
  rw [hg] at this
  exact ZcG.1 this _ e
 | cons e _ ih =>
  intro j hj hg
  have:=ih j hj hg
  obtain ⟨i,hi⟩:=List.getElem?_of_mem this
  have hil:=(List.getElem?_eq_some_iff.1 hi).1
  rw [List.length_take] at hil
  rw [List.getElem?_take_of_lt (by omega)] at hi
  have hr:=(hb i (by omega)).2.2
  rw [List.getD_eq_getElem?_getD,hi] at hr
  have hm:=ZcG.1 hr _ e
  exact List.mem_of_mem_take (i:=i) (by rw [List.take_take,Nat.min_eq_left (by omega)];exact hm)
theorem ord_cyc {n:Nat} {ps:List Pr} (hv:Sp.okV n ps):Sp.ord n ps = none ↔ Sp.cyc n ps:=by
 have hnone:∀ (c:Nat) (out:List Int),out.length + c = n -> Sp.kahn n ps c out = none -> Sp.cyc n ps:=by
  intro c
  induction c with
  | zero => intro out _ h;cases h
  | succ c ih =>
   intro out hl h
   rw [Sp.kahn] at h
   split at h
   ·exact ih _ (by rw [List.length_append,List.length_singleton];omega) h
   ·rename_i hk
    exact stuck hv (by omega) hk
 constructor
 ·exact hnone n [] (by simp)
 ·rintro ⟨i,hi,hd⟩
  cases hk:Sp.ord n ps with
  | none => rfl
  | some l =>
   obtain ⟨hb,hlen⟩:=kahn_some (fun j hj => by simp at hj) hk
   rw [List.length_nil,Nat.zero_add] at hlen
   have hmem:i ∈ l:=by
    refine Classical.byContradiction fun y => ?_
    have hsub:l ⊆ ((List.range n).map fun (j:Nat) => (j:Int)).erase i:=fun x hx => by
     obtain ⟨j,hj⟩:=List.getElem?_of_mem hx
     have hjl:=(List.getElem?_eq_some_iff.1 hj).1
     have:=(hb j hjl).1
     rw [List.getD_eq_getElem?_getD,hj,Option.getD_some] at this
     have hne:x ≠ i:=fun e => y (by rw [<- e];exact hx)
     rw [List.mem_erase_of_ne hne]
     exact List.mem_map.2 ⟨x.toNat,by rw [List.mem_range];omega,by omega⟩
    have hnd:l.Nodup:=by
     rw [List.nodup_iff_pairwise_ne,List.pairwise_iff_getElem]
     intro u v hu hv' huv e
     have:=(hb v hv').2.1
     refine Bool.eq_false_iff.1 this (Zbl.2 ?_)
     rw [List.getD_eq_getElem?_getD,List.getElem?_eq_getElem hv',Option.getD_some,<- e,List.mem_take_iff_getElem]
     exact ⟨u,by omega,rfl⟩
    have hle:=Zfh hnd hsub
    have him:i ∈ ((List.range n).map fun (j:Nat) => (j:Int)):=List.mem_map.2 ⟨i.toNat,by rw [List.mem_range];omega,by omega⟩
    rw [List.length_erase_of_mem him,List.length_map,List.length_range] at hle
    omega
   obtain ⟨j,hj⟩:=List.getElem?_of_mem hmem
   have hjl:=(List.getElem?_eq_some_iff.1 hj).1
   have hg:l.getD j default = i:=by rw [List.getD_eq_getElem?_getD,hj];rfl
   have:=begins_dep hb hd j hjl hg
   have hn:=(hb j hjl).2.1
   rw [hg] at hn
   rw [Zbl.2 this] at hn;cases hn
end Go.Av

namespace Go.Av
open Go.Proofs
namespace Sp
def ZbY (M:List (List Bool)) (a b:Nat):Bool:=(M.getD a []).getD b false
def mSet (M:List (List Bool)) (a b:Nat) (v:Bool):List (List Bool):=M.set a ((M.getD a []).set b v)
def mDim (n:Nat) (M:List (List Bool)):Prop:=M.length=n /\ ∀ a,a<n->(M.getD a []).length=n
end Sp
theorem Ze3 {n:Nat} {M:List (List Bool)} {a b:Nat} {v:Bool} (h:Sp.mDim n M) (ha:a < n) (hb:b < n) (i j:Nat):Sp.ZbY (Sp.mSet M a b v) i j = if i = a /\ j = b then v else Sp.ZbY M i j:=by
 unfold Sp.ZbY Sp.mSet
 rw [List.getD_eq_getElem?_getD (l:=M.set a _),List.getElem?_set]
 by_cases e:a = i
 ·subst e
  rw [if_pos rfl,if_pos (by rw [h.1];exact ha),Option.getD_some,List.getD_eq_getElem?_getD (l:=(M.getD a []).set b v),List.getElem?_set]
  by_cases e2:b = j
  ·subst e2
   rw [if_pos rfl,if_pos (by rw [h.2 a ha];exact hb),if_pos ⟨rfl,rfl⟩];rfl
  ·rw [if_neg e2,if_neg (fun x => e2 x.2.symm),List.getD_eq_getElem?_getD (l:=M.getD a [])]
 ·rw [if_neg e,if_neg (fun x => e x.1.symm),List.getD_eq_getElem?_getD (l:=M)]
theorem mDim_set {n:Nat} {M:List (List Bool)} {a b:Nat} {v:Bool} (h:Sp.mDim n M) (ha:a < n):Sp.mDim n (Sp.mSet M a b v):=by
 unfold Sp.mSet
 refine ⟨by rw [List.length_set];exact h.1,fun i hi => ?_⟩
 rw [List.getD_eq_getElem?_getD,List.getElem?_set]
 by_cases e:a = i
 ·subst e
  rw [if_pos rfl,if_pos (by rw [h.1];exact ha),Option.getD_some,List.length_set];exact h.2 a ha
 ·rw [if_neg e,<- List.getD_eq_getElem?_getD];exact h.2 i hi
namespace Sp
def mSnd (ps:List Pr) (n:Nat) (M:List (List Bool)):Prop:=∀ a b:Nat,a<n->b<n->ZbY M a b=true->dep ps a b
def mCpl (ps:List Pr) (n k:Nat) (M:List (List Bool)):Prop:=∀ a b:Nat,a<n->b<n->pk ps k a b->ZbY M a b=true
def mStg (n k:Nat) (M0 M:List (List Bool)) (p:Nat->Nat->Prop):Prop:=(∀ i j:Nat,i<n->j<n->ZbY M0 i j=true->ZbY M i j=true) /\ ∀ i j:Nat,i<n->j<n->p i j->ZbY M0 i k=true->ZbY M0 k j=true->ZbY M i j=true
end Sp
theorem stg_step {ps:List Pr} {n k a b:Nat} {M0 M:List (List Bool)} {p:Nat -> Nat -> Prop} (hd:Sp.mDim n M) (ha:a < n) (hb:b < n) (hk:k < n) (hs:Sp.mSnd ps n M) (h:Sp.mStg n k M0 M p) :
  Sp.mDim n (Sp.mSet M a b (Sp.ZbY M a b || (Sp.ZbY M a k && Sp.ZbY M k b))) /\ Sp.mSnd ps n (Sp.mSet M a b (Sp.ZbY M a b || (Sp.ZbY M a k && Sp.ZbY M k b))) /\
   Sp.mStg n k M0 (Sp.mSet M a b (Sp.ZbY M a b || (Sp.ZbY M a k && Sp.ZbY M k b))) (fun i j => p i j \/ (i = a /\ j = b)):=by
 have hm:∀ i j,Sp.ZbY M i j = true -> Sp.ZbY (Sp.mSet M a b (Sp.ZbY M a b || (Sp.ZbY M a k && Sp.ZbY M k b))) i j = true:=fun i j hij => by
  rw [Ze3 hd ha hb]
  split
  ·rename_i e;rw [<- e.1,<- e.2,hij,Bool.true_or]
  ·exact hij
 refine ⟨mDim_set hd ha,fun i j hi hj hij => ?_,fun i j hi hj hij => hm i j (h.1 i j hi hj hij),fun i j hi hj hp h1 h2 => ?_⟩
 ·rw [Ze3 hd ha hb] at hij
  split at hij
  ·rename_i e
   rw [Bool.or_eq_true,Bool.and_eq_true] at hij
   rw [e.1,e.2]
   rcases hij with x | ⟨x,y⟩
   ·exact hs a b ha hb x
   ·exact dep_trans (hs a k ha hk x) (hs k b hk hb y)
  ·exact hs i j hi hj hij
 ·rcases hp with hp | ⟨rfl,rfl⟩
  ·exact hm i j (h.2 i j hi hj hp h1 h2)
  ·rw [Ze3 hd ha hb,if_pos ⟨rfl,rfl⟩,h.1 i k hi hk h1,h.1 k j hk hj h2];simp
theorem stg_end {ps:List Pr} {n k:Nat} {M0 M:List (List Bool)} (hk:k < n) (hc:Sp.mCpl ps n k M0) (h:Sp.mStg n k M0 M (fun _ _ => True)):Sp.mCpl ps n (k + 1) M:=by
 intro a b ha hb hp
 rw [Int.natCast_succ] at hp
 rcases pk_succ hp with hp | ⟨h1,h2⟩
 ·exact h.1 a b ha hb (hc a b ha hb hp)
 ·exact h.2 a b ha hb trivial (hc a k ha hk h1) (hc k b hk hb h2)
theorem tab_end {ps:List Pr} {n:Nat} {M:List (List Bool)} (hv:Sp.okV n ps) (hs:Sp.mSnd ps n M) (hc:Sp.mCpl ps n n M) {a b:Nat} (ha:a < n) (hb:b < n):Sp.ZbY M a b = true ↔ Sp.dep ps a b:=
 ⟨hs a b ha hb,fun h => hc a b ha hb (dep_pk (fun p hp => (hv p hp).2.2.2) h)⟩
end Go.Av

namespace Go.Av
mutual
theorem deepA_ren {L K:Heap} {f:Nat -> Nat} (hb:∀ (r:Nat) row,L[r]? = some row -> K[f r]? = some (Zae f row)):∀ (a:AV) {d:AV},deepA L a = some d -> deepA K (renA f a) = some d /\ deepV K (renA f a) = deepV L a
 | .any,_,h => by simp [deepA,pureA] at h
 | .bool b,_,h => ⟨h,rfl⟩
 | .int k n,_,h => ⟨h,rfl⟩
 | .str s,_,h => ⟨h,rfl⟩
 | .flt s,_,h => ⟨h,rfl⟩
 | .nilp,_,h => ⟨h,rfl⟩
 | .nilf,_,h => ⟨h,rfl⟩
 | .nilm,_,h => ⟨h,rfl⟩
 | .vnil,_,h => ⟨h,rfl⟩
 | .eptr ..,_,h => ⟨h,rfl⟩
 | .vec ..,_,h => ⟨h,rfl⟩
 | .mapr r,_,h => pureA_ren hb (.mapr r) h
 | .ref r v lo len,_,h => pureA_ren hb (.ref r v lo len) h
 | .ptr r v i j,_,h => pureA_ren hb (.ptr r v i j) h
 | .func fn a b,_,h => pureA_ren hb (.func fn a b) h
 | .row r v,_,h => by
  cases hr:L[r]? with
  | none => simp [deepA,hr] at h
  | some row =>
   have h2:=hb r row hr
   obtain ⟨s1,s2,_,s4,_⟩:=Zay f row
   cases hc:row.clean with
   | true =>
    have e:Zae f row = row:=by simp [Zae,hc]
    simp only [deepA,hr,hc,cond_true] at h
    exact ⟨by simp only [renA,deepA,h2,e,hc,cond_true];exact h,by simp only [renA,deepV,Zbf,h2,hr,e,hc,cond_true]⟩
   | false =>
    have e:Zae f row = { row with elems:=renL f row.elems }:=by simp [Zae,hc]
    simp only [deepA,hr,hc,cond_false] at h
    cases hp:pureL L row.elems with
    | none => simp [hp] at h
    | some ys =>
     obtain ⟨p1,p2⟩:=pureL_ren hb row.elems hp
     rw [hp] at h
     exact ⟨by simp only [renA,deepA,h2,e,hc,cond_false,p1];exact h,by simp only [renA,deepV,Zbf,h2,hr,e,hc,cond_false,p2]⟩
 | .agg cs,_,h => by
  cases hr:deepL L cs with
  | none => simp [deepA,hr] at h
  | some ds =>
   obtain ⟨h1,h2⟩:=deepL_ren hb cs hr
   exact ⟨by simpa only [renA,deepA,h1,hr] using h,by simp only [renA,deepV,h2]⟩
 | .tup cs,_,h => by
  cases hr:deepL L cs with
  | none => simp [deepA,hr] at h
  | some ds =>
   obtain ⟨h1,h2⟩:=deepL_ren hb cs hr
   exact ⟨by simpa only [renA,deepA,h1,hr] using h,by simp only [renA,deepV,h2]⟩
theorem deepL_ren {L K:Heap} {f:Nat -> Nat} (hb:∀ (r:Nat) row,L[r]? = some row -> K[f r]? = some (Zae f row)):∀ (l:List AV) {ds:List AV},deepL L l = some ds -> deepL K (renL f l) = some ds /\ deepVL K (renL f l) = deepVL L l
 | [],_,h => ⟨h,rfl⟩
 | c :: l,_,h => by
  cases hr:deepA L c with
  | none => simp [deepL,hr] at h
  | some d =>
   cases hr2:deepL L l with
   | none => simp [deepL,hr,hr2] at h
   | some ds2 =>
    obtain ⟨h1,h2⟩:=deepA_ren hb c hr
    obtain ⟨h3,h4⟩:=deepL_ren hb l hr2
    exact ⟨by simpa only [renL,deepL,h1,h3,hr,hr2] using h,by simp only [renL,deepVL,h2,h4]⟩
end
theorem wp_narrowD {M:Mach} {fi:Fi} {k:List Item} {env env':Vars} {L Lc:Heap} {d:AV} (rs:List Nat) (hn:Za6 L rs env = some (env',Lc)) (h:Wp M (.run fi k env' Lc) (ZaJ d)):Wp M (.run fi k env L) (ZaJ d):=by
 refine .narrow rs env' Lc hn (.mono h fun v L1 ⟨d0,hq1,hq2,hq3⟩ => ?_)
 unfold Za6 at hn
 split at hn
 ·rename_i rows hrows
  split at hn
  ·rename_i hc
   simp only [Bool.and_eq_true] at hc
   obtain ⟨p1,p2⟩:=deepA_ren (back_at (L1:=L1) hrows ((ZaU rs).1 hc.1)) v hq1
   exact ⟨d0,p1,by rw [p2];exact hq2,hq3⟩
  ·simp at hn
 ·simp at hn
def swp (p q r:Nat):Nat:=if r=p then q else if r=q then p else r
theorem ZbL (p q r:Nat):swp p q (swp p q r)=r:=by unfold swp;split <;> (try split) <;> (try split) <;> omega
theorem ZcM {p q n r:Nat} (hp:p<n) (hq:q<n) (h:r<n):swp p q r<n:=by unfold swp;split <;> (try split) <;> omega
theorem Zb5 {p q r:Nat} (h1:r ≠ p) (h2:r ≠ q):swp p q r=r:=by unfold swp;rw [if_neg h1,if_neg h2]
theorem swp_q (p q:Nat):swp p q q=p:=by unfold swp;split <;> simp_all
theorem Zek {p q a b:Nat} (h:swp p q a=swp p q b):a=b:=by have:=congrArg (swp p q) h;rwa [ZbL,ZbL] at this
def swH (p q:Nat) (L:Heap):Heap:=(List.range L.length).map fun j=>Zae (swp p q) (L.getD (swp p q j) ⟨[],0,0,false,true⟩)
theorem ZcS (p q:Nat) (L:Heap):(swH p q L).length=L.length:=by simp [swH]
theorem ZcT {p q:Nat} {L:Heap} (hp:p < L.length) (hq:q < L.length) {r:Nat} {row:Row} (h:L[r]? = some row):(swH p q L)[swp p q r]? = some (Zae (swp p q) row):=by
 have hr:=(List.getElem?_eq_some_iff.1 h).1
 have:=ZcM hp hq hr
 unfold swH
 rw [List.getElem?_map,List.getElem?_range this]
 simp only [Option.map_some,ZbL]
 rw [List.getD_eq_getElem?_getD,h];rfl
theorem Zdl {L:Heap}:∀ (rs:List Nat),(∀ r ∈ rs,r < L.length) -> Zav L rs = some (rs.map fun r => L.getD r ⟨[],0,0,false,true⟩)
 | [],_ => rfl
 | r :: rs,h => by
  have h1:=h r (List.mem_cons_self ..)
  simp only [Zav,List.getElem?_eq_getElem h1,Zdl rs fun q hq => h q (List.mem_cons_of_mem _ hq),List.map_cons,List.getD_eq_getElem?_getD,Option.getD_some]
theorem Zdf {f g:Nat -> Nat} {row:Row} (h:∀ r ∈ Zag row,f r = g r):Zae f row = Zae g row:=by
 unfold Zae
 cases hc:row.clean with
 | true => rfl
 | false =>
  simp only [cond_false]
  rw [renL_ext row.elems fun r hr => h r (by unfold Zag;rw [hc];exact hr)]
theorem wp_swap {M:Mach} {fi:Fi} {k:List Item} {env:Vars} {L:Heap} {d:AV} {p q:Nat} (hp:p < L.length) (hq:q < L.length) (henv:∀ r ∈ rowsL (env.map (·.2)),r < L.length) (href:∀ row ∈ L,∀ r ∈ Zag row,r < L.length)
  (h:Wp M (.run fi k (renV (swp p q) env) (swH p q L)) (ZaJ d)):Wp M (.run fi k env L) (ZaJ d):=by
 have hmem:∀ r,r ∈ (List.range L.length).map (swp p q) ↔ r < L.length:=by
  intro r
  rw [List.mem_map]
  constructor
  ·rintro ⟨a,ha,rfl⟩;exact ZcM hp hq (List.mem_range.1 ha)
  ·intro hr;exact ⟨swp p q r,List.mem_range.2 (ZcM hp hq hr),ZbL p q r⟩
 have hnd:((List.range L.length).map (swp p q)).Nodup:=by
  refine List.pairwise_map.2 (List.Pairwise.imp_of_mem ?_ List.nodup_range)
  intro a b _ _ hab e;exact hab (Zek e)
 refine wp_narrowD ((List.range L.length).map (swp p q)) (env':=renV (swp p q) env) (Lc:=swH p q L) ?_ h
 unfold Za6
 rw [Zdl _ fun r hr => (hmem r).1 hr]
 have hpos:∀ r,r < L.length -> Zai ((List.range L.length).map (swp p q)) r = swp p q r:=fun r hr =>
  ZbX hnd (by rw [List.getElem?_map,List.getElem?_range (ZcM hp hq hr)];simp [ZbL])
 have hrow:∀ r,r < L.length -> ∀ s ∈ Zag (L.getD r ⟨[],0,0,false,true⟩),s < L.length:=fun r hr s hs =>
  href _ (by rw [List.getD_eq_getElem?_getD,List.getElem?_eq_getElem hr];exact List.getElem_mem hr) s hs
 simp only
 rw [if_pos]
 ·congr 1
  refine Prod.ext ?_ ?_
  ·show renV _ env = renV _ env
   unfold renV
   refine List.map_congr_left fun e he => ?_
   have:∀ r ∈ rowsA e.2,Zai ((List.range L.length).map (swp p q)) r = swp p q r:=fun r hr => hpos r (henv r (by
    have:e.2 ∈ env.map (·.2):=List.mem_map.2 ⟨e,he,rfl⟩
    have gen:∀ (l:List AV) (x:AV),x ∈ l -> r ∈ rowsA x -> r ∈ rowsL l:=by
     intro l
     induction l with
     | nil => intro x hx;cases hx
     | cons y l ih =>
      intro x hx hr
      simp only [rowsL,List.mem_append]
      rcases List.mem_cons.1 hx with rfl | hx
      ·exact .inl hr
      ·exact .inr (ih x hx hr)
    exact gen _ _ this hr))
   rw [renA_ext e.2 this]
  ·show List.map _ _ = swH p q L
   unfold swH
   rw [List.map_map,List.map_map]
   refine List.map_congr_left fun j hj => ?_
   have hj:=List.mem_range.1 hj
   exact Zdf fun s hs => hpos s (hrow _ (ZcM hp hq hj) s hs)
 ·simp only [Bool.and_eq_true,List.all_eq_true,List.contains_iff_mem]
  refine ⟨(ZaU _).2 hnd,fun r hr => (hmem r).2 (henv r hr),fun row hr s hs => ?_⟩
  obtain ⟨r,hr1,rfl⟩:=List.mem_map.1 hr
  exact (hmem s).2 (hrow r ((hmem r).1 hr1) s hs)
end Go.Av
