/- PART 3 of the texts of a claim, joined by a program: what each part shows stands at its head. -/
import Derived.Test.YtojapcnhajomcaaPartfbdf916817
import Derived.ProofKit
import Derived.OpenShut
import Derived.Test.YtojapcnhajomcaaRows
import Derived.Test.YtojapcnhajomcaaProg

namespace Go.Av
open Go.RowKit
theorem lift_get (env:Vars) (t:Nat):Env.get (lift env) t = ([],env.get t):=by
 induction env with
 | nil => rfl
 | cons e env ih =>
  obtain ⟨k,v⟩:=e
  simp only [lift,List.map_cons,Env.get,Vars.get]
  cases k == t with
  | true => rfl
  | false => exact ih
theorem Zc0 {S:St} {env:Vars} {tm:Array Value} (h:VRel S env tm):TRel S (lift env) tm:=by
 refine ⟨fun t => ?_,fun t _ => ?_,fun t ht => ?_⟩
 ·rw [lift_get];exact .nil
 ·rw [lift_get];exact h t
 ·rw [lift_get] at ht;simp [Zai] at ht
theorem Zbw {S:St} {env:Env} {tm:Array Value} (h:TRel S env tm) (keep:List Nat):VRel S (Zbg keep env) tm:=by
 intro t
 induction keep with
 | nil => exact .any _
 | cons k keep ih =>
  simp only [Zbg,List.map_cons,Vars.get]
  cases hk:k == t with
  | false => exact ih
  | true =>
   have hk:k = t:=by simpa using hk
   subst hk
   simp only [cond_true]
   split
   ·rename_i v hv
    have:=h.yes k (by rw [hv];rfl)
    rw [hv] at this;exact this
   ·exact .any _
theorem vget_rel {S:St} {env:Vars} {a:Act} (h:VRel S env a.tmps) (x:Operand):Rel S (evV env x) (a.eval x):=by
 cases x with
 | tmp t => exact h t
 | const v => exact ZeG S v
 | global g => exact .any _
 | func f => exact .data _ _ (.func _ [] [] [] [] rfl rfl (by simp) (by simp))
theorem args_rel {S:St}:∀ (i:Nat) (args:List AV) (vs:List Value) (t:Nat),RelL S args vs -> Rel S ((ZbO i args).get t) (if i <= t then vs.getD (t - i) undef else undef)
 | i,[],vs,t,_ => .any _
 | i,c :: args,[],t,h => by have:=h.1;simp at this
 | i,c :: args,u :: vs,t,h => by
  simp only [ZbO,Vars.get]
  cases hk:i == t with
  | true =>
   have hk:i = t:=by simpa using hk
   subst hk
   simp only [cond_true,Nat.le_refl,if_true,Nat.sub_self,List.getD_cons_zero]
   exact h.2 0 c u rfl rfl
  | false =>
   have hk:i ≠ t:=by simpa using hk
   have:=args_rel (S:=S) (i + 1) args vs t ⟨by simpa using h.1,fun j c v hc hv => h.2 (j + 1) c v (by simpa using hc) (by simpa using hv)⟩
   simp only [cond_false]
   by_cases hlt:i + 1 <= t
   ·rw [if_pos hlt] at this
    rw [if_pos (by omega)]
    obtain ⟨m,rfl⟩:∃ m,t = i + 1 + m:=⟨t - (i + 1),by omega⟩
    have e1:i + 1 + m - (i + 1) = m:=by omega
    have e2:i + 1 + m - i = m + 1:=by omega
    rw [e1] at this
    rw [e2];simpa using this
   ·rw [if_neg hlt] at this
    rw [if_neg (by omega)];exact this
theorem enter_rel {S:St} {args:List AV} {vs:List Value} (n:Nat) (h:RelL S args vs):VRel S (ZbO 0 args) ((⟨vs⟩:Array Value) ++ Array.replicate n undef):=by
 intro t
 have:=args_rel (S:=S) 0 args vs t h
 simp only [Nat.zero_le,if_true,Nat.sub_zero] at this
 have e:((⟨vs⟩:Array Value) ++ Array.replicate n undef).getD t undef = vs.getD t undef:=by
  simp only [Array.getD_eq_getD_getElem?,List.getD_eq_getElem?_getD,Array.getElem?_append,List.size_toArray,List.getElem?_toArray]
  by_cases ht:t < vs.length
  ·rw [if_pos ht]
  ·rw [if_neg ht,List.getElem?_eq_none (by omega:vs.length <= t)]
   simp only [Array.getElem?_replicate,Option.getD_none]
   split <;> rfl
 rw [e];exact this
def resF (tm:Array Value):ResultVar -> Sem Value
 | .tmp t => pure (tm.getD t undef)
 | .cell a t => do loadVar t (<- asAddr (tm.getD a undef))
theorem ZbE {P:Unit -> Program} {S:St} (hS:HeapOk S) {env:Vars} {tm:Array Value} (hV:VRel S env tm):∀ (l:List ResultVar) {vs:List AV},Zcq P env S.L l = some vs ->
  ∃ cvs:List Value,RelL S vs cvs /\ (l.mapM (resF tm)).run (P ()) S.w = .ok cvs S.w
 | [],vs,h => by
  simp only [Zcq,Option.some.injEq] at h;subst h
  exact ⟨[],.nil S,by simp⟩
 | .tmp t :: r,vs,h => by
  simp only [Zcq] at h
  split at h
  ·rename_i vs' h'
   simp only [Option.some.injEq] at h;subst h
   obtain ⟨cvs,h1,h2⟩:=ZbE hS hV r h'
   have h3:(resF tm (.tmp t)).run (P ()) S.w = .ok (tm.getD t undef) S.w:=rfl
   exact ⟨tm.getD t undef :: cvs,.cons (hV t) h1,by simp only [List.mapM_cons,Sem.run_bind,h3,Result.andThen_ok,h2,Sem.run_pure]⟩
  ·simp at h
 | .cell a T :: r,vs,h => by
  simp only [Zcq] at h
  split at h
  ·rename_i x vs' hx h'
   cases hall:x.asm.all fun b => b with
   | false => simp [hall] at h
   | true =>
    simp only [hall,cond_true,Option.some.injEq] at h;subst h
    obtain ⟨cvs,h1,h2⟩:=ZbE hS hV r h'
    have hel:∀ {xs:List AV} {i:Nat} {x:AV} {q:List Prop},elemA none xs i = some (x,q) -> q = []:=by
     intro xs i x q he
     unfold elemA at he
     simp only at he
     split at he
     ·simp only [Option.some.injEq,Prod.mk.injEq] at he;exact he.2.symm
     ·simp at he
    have hva:=hV a
    have key:x.eqs = [] /\ ∃ ad,tm.getD a undef = .pointer (some ad):=by
     unfold loadA at hx
     split at hx
     ·rename_i q ver i j hv
      rw [hv] at hva
      obtain ⟨hp,_⟩:=Zej hva
      split at hx
      ·split at hx
       ·rename_i he
        split at hx
        ·simp only [Option.some.injEq] at hx;subst hx
         exact ⟨hel he,hp⟩
        ·simp at hx
       ·simp at hx
      ·simp at hx
     ·rename_i es xs i j hv
      rw [hv] at hva
      have hp:∃ ad,tm.getD a undef = .pointer (some ad):=by
       have hd:=ZcX hva
       generalize tm.getD a undef = pv at *
       cases hd with
       | eptr _ _ _ _ b off h1 h2 h3 => exact ⟨_,rfl⟩
      split at hx
      ·rename_i he
       split at hx
       ·simp only [Option.some.injEq] at hx;subst hx
        exact ⟨hel he,hp⟩
       ·simp at hx
      ·simp at hx
     ·simp at hx
    obtain ⟨heq,ad,had⟩:=key
    obtain ⟨_,_,cv,k1,k2⟩:=Zfz (P:=P) hS (hV a) hx (by simpa using hall) (by rw [heq];simp)
    have h3:(resF tm (.cell a T)).run (P ()) S.w = .ok cv S.w:=by
     rw [<- k1,had]
     simp [resF,asAddr,Instr.loadAt,Instr.sureAddr,had]
    exact ⟨cv :: cvs,.cons k2 h1,by simp only [List.mapM_cons,Sem.run_bind,h3,Result.andThen_ok,h2,Sem.run_pure]⟩
  ·simp at h
theorem Zec {P:Unit -> Program} {S:St} (hS:HeapOk S) {env:Vars} {tm:Array Value} (hV:VRel S env tm) {fi:Fi} {fn:Func} (hfi:fn.results.toList = fi.res) {v:AV} (h:finish P fi env S.L = some v) :
  ∃ cv,(results fn tm).run (P ()) S.w = .ok cv S.w /\ Rel S v cv:=by
 have hrun:∀ {cvs:List Value},(fi.res.mapM (resF tm)).run (P ()) S.w = .ok cvs S.w -> (results fn tm).run (P ()) S.w = .ok (if h:cvs.length = 1 then cvs[0] else .tuple ⟨cvs⟩) S.w:=by
  intro cvs h
  have hm:results fn tm = (do let vs <- fn.results.mapM (resF tm);pure (if h:vs.size = 1 then vs[0] else .tuple vs)):=by
   unfold results
   congr 1
  rw [hm,Array.mapM_eq_mapM_toList,hfi]
  rw [map_eq_pure_bind]
  simp only [Sem.run_bind,h,Result.andThen_ok,Sem.run_pure]
  rfl
 unfold finish at h
 split at h
 ·rename_i u hr
  simp only [Option.some.injEq] at h;subst h
  obtain ⟨cvs,h1,h2⟩:=ZbE hS hV _ hr
  have:=h1.1
  match cvs,this,h1,h2 with
  | [cv],_,h1,h2 => exact ⟨cv,by simpa using hrun h2,h1.head⟩
 ·rename_i vs hne hr
  simp only [Option.some.injEq] at h;subst h
  obtain ⟨cvs,h1,h2⟩:=ZbE hS hV _ hr
  have hl:cvs.length ≠ 1:=by
   rw [<- h1.1]
   intro e
   obtain ⟨x,rfl⟩:=List.length_eq_one_iff.1 e
   exact hne x rfl
  exact ⟨.tuple ⟨cvs⟩,by simpa [hl] using hrun h2,.tup vs cvs h1.1 h1.2⟩
 ·simp at h
theorem call_runs {P:Program} {f:FuncId} {fn:Func} {c:Code} {args:Array Value} (hf:P.funcs[f]? = some fn) (hb:fn.body = some c) (hn:(fn.name == "runtime.NumGoroutine") = false) (w:World) :
  (callFunc f args).run P w = .ok (.enter f args) w:=by
 have hn':fn.name ≠ "runtime.NumGoroutine":=by simpa using hn
 simp [callFunc,hf,hb,hn']
theorem weak_rel {S:St} {a d:AV} (h:Weak a d):∀ {v:Value},DRel S a v -> DRel S d v:=by
 induction h with
 | refl a => exact fun h => h
 | vnil es => intro v h;cases h;exact .vecE false es none 0 (by simp)
 | full es xs =>
  intro v h
  cases h with
  | vecE f es a cap hf => exact .vecE false es a cap (by simp)
  | vec f es xs b off cap ho hf hl hc hr => exact .vec false es xs b off cap ho (by simp) hl hc hr
 | tup xs ys hl _ ih =>
  intro v h
  cases h with
  | tup _ vs h1 h2 =>
   refine .tup ys vs (hl.symm.trans h1) fun i c v hc hv => ?_
   have hi:i < xs.length:=by rw [hl];exact (List.getElem?_eq_some_iff.1 hc).1
   exact ih i xs[i] c (List.getElem?_eq_getElem hi) hc (h2 i xs[i] v (List.getElem?_eq_getElem hi) hv)
 | agg xs ys hl _ ih =>
  intro v h
  cases h with
  | agg _ vs h1 h2 =>
   refine .agg ys vs (hl.symm.trans h1) fun i c v hc hv => ?_
   have hi:i < xs.length:=by rw [hl];exact (List.getElem?_eq_some_iff.1 hc).1
   exact ih i xs[i] c (List.getElem?_eq_getElem hi) hc (h2 i xs[i] v (List.getElem?_eq_getElem hi) hv)
 | cells f es xs ys hl _ hy hx ih =>
  intro v h
  have one:∀ {y:AV} {k:Nat} {c:AV},y.cells = [y] -> y.cells[k]? = some c -> k = 0 /\ c = y:=by
   intro y k c e hk
   rw [e] at hk
   cases k with
   | zero => simp at hk;exact ⟨rfl,hk.symm⟩
   | succ k => simp at hk
  have lk:∀ (i:Nat) y,ys[i]? = some y -> ∃ x,xs[i]? = some x:=fun i y h => by
   have hi:i < xs.length:=by rw [hl];exact (List.getElem?_eq_some_iff.1 h).1
   exact ⟨xs[i],List.getElem?_eq_getElem hi⟩
  have lk':∀ (i:Nat) x,xs[i]? = some x -> ∃ y,ys[i]? = some y:=fun i y h => by
   have hi:i < ys.length:=by rw [<- hl];exact (List.getElem?_eq_some_iff.1 h).1
   exact ⟨ys[i],List.getElem?_eq_getElem hi⟩
  cases h with
  | vecE f es a cap hf =>
   have:ys = []:=List.length_eq_zero_iff.1 (by simpa using hl.symm)
   subst this
   exact .vecE f es a cap hf
  | vec f es xs b off cap ho hf hlc hc hr =>
   have:=DRel.vec (S:=S) f es ys b off cap (fun i y h => by
     obtain ⟨x,hxi⟩:=lk i y h
     obtain ⟨q1,q2⟩:=ho i x hxi
     rw [hx x (List.mem_of_getElem? hxi)] at q1
     obtain ⟨p1,p2⟩:=hy y (List.mem_of_getElem? h)
     rw [p1];exact ⟨q1,by simp [p2]⟩)
    (fun e => by rw [<- hl];exact hf e) (by rw [<- hl];exact hlc)
    (fun i y k c h hk => by
     obtain ⟨x,hxi⟩:=lk i y h
     obtain ⟨rfl,rfl⟩:=one (hy y (List.mem_of_getElem? h)).1 hk
     exact hc i x 0 x hxi (by rw [hx x (List.mem_of_getElem? hxi)];rfl))
    (fun i y k c cv h hk hcv => by
     obtain ⟨x,hxi⟩:=lk i y h
     obtain ⟨rfl,rfl⟩:=one (hy y (List.mem_of_getElem? h)).1 hk
     exact ih i x c hxi h (hr i x 0 x cv hxi (by rw [hx x (List.mem_of_getElem? hxi)];rfl) hcv))
   rw [<- hl] at this
   exact this
theorem OwnQ.snd {M:Mach} {f:FuncId} {args:List AV} {L L':Heap} {v:AV} (h:OwnQ M f args L (isR v L')):OwnSnd M f args L v L':=by
 intro S cargs h1 h2 h3
 obtain ⟨k1,k2⟩:=h S cargs h1 h2 h3
 refine ⟨k1,Calls.mono k2 fun e w' he => ?_⟩
 cases e with
 | returned cv =>
  obtain ⟨v',K,β',⟨rfl,rfl⟩,m1,m2,m3⟩:=he
  exact ⟨β',m1,m2,m3⟩
 | panicked c => exact he.elim
 | outgrown => exact he.elim
theorem PureR.snd {M:Mach} {f:FuncId} {args:List AV} {v:AV} (h:PureR M f args (isR v [])):Zff M f args v:=by
 intro base acc w cargs h1 h2 h3
 obtain ⟨k1,k2⟩:=h base acc w cargs h1 h2 h3
 refine ⟨k1,Calls.mono k2 fun e w' he => ?_⟩
 cases e with
 | returned cv =>
  obtain ⟨d,⟨rfl,_⟩,m1,m2⟩:=he
  exact ⟨m1,m2⟩
 | panicked c => exact he.elim
 | outgrown => exact he.elim
theorem ZaH.step {M:Mach} {fi:Fi} {k k':List Item} {env:Vars} {L:Heap} {Q:AV -> Heap -> Prop} (h:ZaH M fi k' env L Q) (ht:Zcd k = true -> Zcd k' = true)
  (hs:∀ (b:Frame) (a:Act) (cs:List Frame) (S:St),VRel S env a.tmps -> step (M.P ()) (lone (b.atR a k) cs S.w) = .next (lone (b.atR a k') cs S.w)):ZaH M fi k env L Q:=by
 intro S b a cs fn h1 h2 h3 h4 h5 h6 h7 h8
 obtain ⟨a',todo',Ds,w',β',v,L',hq,g1,g2,k1,k2⟩:=h S b a cs fn h1 h2 h3 (h4.imp id ht) h5 h6 h7 h8
 exact ⟨a',todo',Ds,w',β',v,L',hq,g1,g2,.head (hs b a cs S h7) k1,k2⟩
theorem Zet {id:Nat}:∀ {k k':List Item},exitTo id k = some k' -> Zcd k = true -> Zcd k' = true
 | [],k',h,_ => by simp [exitTo] at h
 | x :: k,k',h,ht => by
  have ht':Zdr x = true /\ Zcd k = true:=by simpa [Zcd] using ht
  cases x with
  | inBlock id' =>
   simp only [exitTo] at h
   split at h
   ·simp only [Option.some.injEq] at h;subst h;exact ht'.2
   ·exact Zet h ht'.2
  | _ => exact Zet (by simpa [exitTo] using h) ht'.2
def onlyN (K:Act -> World -> Prop):Exit -> Act -> World -> Prop:=fun e a w => match e with
 | .normal => K a w
 | _ => False
theorem opsR {P:Program} {ops:Array Oper} {K:Act -> World -> Prop} {b:Frame} {k:List Item} {cs:List Frame} {rest:List Nat} (hb:b.roundOf = none \/ ZcL ops = true):∀ (l:List Nat) (a:Act) (w:World),wpOps P ops (onlyN K) l a w ->
  ∃ a' w',K a' w' /\ Steps P (lone (b.atR a (.inRegion ops (l ++ rest) :: k)) cs w) (lone (b.atR a' (.inRegion ops rest :: k)) cs w'):=by
 intro l
 induction l with
 | nil => exact fun a w h => ⟨a,w,h,Steps.refl _ _⟩
 | cons i l ih =>
  intro a w h
  simp only [wpOps] at h
  simp only [List.cons_append]
  cases ho:ops[i]? with
  | none =>
   simp only [ho] at h
   obtain ⟨a',w',hq,harr⟩:=ih a w h
   have hs:=stepR_op_skip (P:=P) (b:=b) (a:=a) (k:=k) (cs:=cs) (w:=w) (ops:=ops) (i:=i) (rest:=l ++ rest) (by simp [ho])
   simp only [ho,Option.bind_none,Act.put] at hs
   exact ⟨a',w',hq,.head hs harr⟩
  | some o =>
   simp only [ho] at h
   by_cases hw:Region.wanted o (yielded ops a.tmps) = true
   ·simp only [hw,if_true] at h
    have hsem:o.semAt b.roundOf a.eval = execOp a.eval o:=by
     rcases hb with hb | hb
     ·rw [hb];rfl
     ·refine Oper.semAt_eq _ _ _ fun c hc => ?_
      have:=List.all_eq_true.1 hb o (by
       have:=Array.mem_of_getElem? ho
       exact Array.mem_toList_iff.2 this)
      rw [hc] at this;simp at this
    rcases h with h | ⟨_,a0,w0,h⟩
    ·unfold Oper.wp at h
     have hg:=stepGR_op (P:=P) (b:=b) (k:=k) (cs:=cs) (w:=w) (rest:=l ++ rest) ho hw
     rw [hsem] at hg
     have hfin:∀ v,(b.atR a (.inRegion ops (i :: (l ++ rest)) :: k)).finish v = b.atR (a.put o.dst v) (.inRegion ops (l ++ rest) :: k):=by
      intro v;rw [Frame.finish_atR,ho];rfl
     simp only [Oper.upon] at h
     split at h
     ·rename_i v w' hr'
      obtain ⟨a',w'',hq,harr⟩:=ih _ _ h
      refine ⟨a',w'',hq,.head (step_lone_go ?_) harr⟩
      rw [hg,<- hfin];simp [stepG.apply,hr']
     ·rename_i w' hr'
      obtain ⟨a',w'',hq,harr⟩:=ih _ _ h
      refine ⟨a',w'',hq,.head (step_lone_go ?_) harr⟩
      rw [hg,<- hfin];simp [stepG.apply,hr']
     ·rename_i d w' hr'
      obtain ⟨a',w'',hq,harr⟩:=ih _ _ h
      refine ⟨a',w'',hq,.head (step_lone_go ?_) harr⟩
      have:({ b.atR a (.inRegion ops (i :: (l ++ rest)) :: k) with defers:=d :: a.defers }:Frame).finish undef =
        b.atR ({ a with defers:=d :: a.defers }.put o.dst undef) (.inRegion ops (l ++ rest) :: k):=by
       have:=Frame.finish_atR b { a with defers:=d :: a.defers } ops i (l ++ rest) k undef
       rw [ho] at this;exact this
      rw [hg];simp only [stepG.apply,Sem.runT_eq,hr',GStep.bare_after]
      exact congrArg (fun fr => GStep.go { frame:=fr,callers:=cs,status:=.running,dying:=none } w') this
     ·rename_i f args w' hr'
      obtain ⟨e,w'',fr,hR,hsteps,hfn,hleave⟩:=h (b.atR a (.inRegion ops (i :: (l ++ rest)) :: k) :: cs)
      have henter:step P (lone (b.atR a (.inRegion ops (i :: (l ++ rest)) :: k)) cs w) =
        .next (lone (Frame.enter P f args .normal) (b.atR a (.inRegion ops (i :: (l ++ rest)) :: k) :: cs) w'):=
       step_lone_go (by rw [hg];simp [stepG.apply,hr',Frame.atR])
      cases e with
      | returned v =>
       obtain ⟨a',w₃,hq,harr⟩:=ih _ _ hR
       refine ⟨a',w₃,hq,.head henter (Steps.trans hsteps (.head ?_ harr))⟩
       rw [<- hfin];exact step_leave_returned hleave
      | panicked chain => exact hR.elim
      | outgrown => obtain ⟨a₀,w₀,hq⟩:=hR;exact hq.elim
     ·rename_i row args w' hr'
      obtain ⟨v,w'',hR,hsteps⟩:=h (b.atR a (.inRegion ops (i :: (l ++ rest)) :: k)) cs
      have henter:step P (lone (b.atR a (.inRegion ops (i :: (l ++ rest)) :: k)) cs w) =
        .next (lone (Frame.ofRow P row args .normal) (b.atR a (.inRegion ops (i :: (l ++ rest)) :: k) :: cs) w'):=
       step_lone_go (by rw [hg];simp [stepG.apply,hr',Frame.atR])
      obtain ⟨a',w₃,hq,harr⟩:=ih _ _ hR
      refine ⟨a',w₃,hq,.head henter (Steps.trans hsteps ?_)⟩
      rw [hfin];exact harr
     ·exact h.elim
     ·exact h.elim
    ·exact h.elim
   ·simp only [hw,if_false,Bool.false_eq_true] at h
    obtain ⟨a',w',hq,harr⟩:=ih _ _ h
    have hs:=stepR_op_skip (P:=P) (b:=b) (a:=a) (k:=k) (cs:=cs) (w:=w) (ops:=ops) (i:=i) (rest:=l ++ rest)
     (by simp [ho];simpa using hw)
    simp only [ho,Option.bind_some] at hs
    exact ⟨a',w',hq,.head hs harr⟩
def RegR (P:Program) (id:Nat) (ops:Array Oper) (draw:Bool) (K:Act -> World -> Prop) (a:Act) (w:World):Prop:=
 ∀ (b:Frame) (k:List Item) (cs:List Frame),(b.roundOf = none \/ ZcL ops = true) ->
  ∃ a' w',K a' w' /\ Steps P (lone (b.atR a (.code (.region id ops draw) :: k)) cs w) (lone (b.atR a' k) cs w')
theorem ZeH {P:Program} {id:Nat} {ops:Array Oper} {K:Act -> World -> Prop} {a:Act} {w:World} (h:wpOps P ops (onlyN K) (List.range ops.size) a w):RegR P id ops false K a w:=by
 intro b k cs hb
 obtain ⟨a',w',h1,h2⟩:=opsR (k:=k) (cs:=cs) (rest:=[]) hb _ a w h
 rw [List.append_nil] at h2
 exact ⟨a',w',h1,.head stepR_region (Steps.trans h2 (.one stepR_region_end))⟩
theorem regR_any {P:Program} {id:Nat} {ops:Array Oper} {K:Act -> World -> Prop} {a:Act} {w:World} (hm:P.follows .mixedOrders = true)
  (h:wpAny P .any ops (onlyN K) ops.size (Array.replicate ops.size false) a { w with drawn:=w.drawn + 1 }):RegR P id ops true K a w:=by
 intro b k cs hb
 have h':wpOps P ops (onlyN K) (Region.schedule (P.follows .mixedOrders) ops (w.tape w.drawn (.order b.fn id))) a { w with drawn:=w.drawn + 1 }:=by
  simp only [Region.schedule,hm,Bool.true_or,if_true]
  exact wpAny_sound ops.size _ _ a _ h
 obtain ⟨a',w',h1,h2⟩:=opsR (k:=k) (cs:=cs) (rest:=[]) hb _ a _ h'
 rw [List.append_nil] at h2
 exact ⟨a',w',h1,.head stepR_region_draw (Steps.trans h2 (.one stepR_region_end))⟩
theorem ZaH.after {M:Mach} {fi:Fi} {id:Nat} {ops:Array Oper} {draw:Bool} {k:List Item} {env:Vars} {L:Heap} {Q:AV -> Heap -> Prop}
  (h:∀ (S:St) (a:Act),HeapOk S -> S.L = L -> VRel S env a.tmps -> fi.n <= a.tmps.size -> RegR (M.P ()) id ops draw (fun a' w' => ∃ (S':St) (env':Vars),S'.w = w' /\ HeapOk S' /\ Ext S S' /\ ZaH M fi k env' S'.L Q /\ VRel S' env' a'.tmps /\ a'.tmps.size = a.tmps.size /\ a'.defers = a.defers) a S.w) :
  ZaH M fi (.code (.region id ops draw) :: k) env L Q:=by
 intro S b a cs fn h1 h2 h3 h4 h5 h6 h7 h8
 have ht:b.roundOf = none \/ (ZcL ops = true /\ Zcd k = true):=h4.imp (fun h => h) fun h => by simpa [Zcd,Zdr,Zb0] using h
 obtain ⟨a',w',⟨S',env',rfl,k1,k2,k3,k4,k5,k6⟩,hs⟩:=h S a h5 h6 h7 h8 b k cs (ht.imp (fun h => h) And.left)
 obtain ⟨a2,todo',Ds,w2,β',v,L',hq,g1,g2,m1,m2,m3,m4,m5,m6⟩:=k3 S' b a' cs fn h1 h2 h3 (ht.imp (fun h => h) And.right) k1 rfl k4 (by rw [k5];exact h8)
 rw [k2.base,k2.acc] at m5 m6
 exact ⟨a2,todo',Ds,w2,β',v,L',hq,g1,g2,Steps.trans hs m1,by rw [m2,k6],⟨m3.1,fun D hD => ⟨Nat.le_trans k2.below.size (m3.2 D hD).1,(m3.2 D hD).2⟩⟩,fun w'' hn => by obtain ⟨cv,z1,z2⟩:=m4 w'' hn;rw [k2.base,k2.acc] at z2;exact ⟨cv,z1,z2⟩,m5,k2.trans m6⟩
theorem run_eq_nil {P:Unit -> Program} {d:Nat} {T e:TypeId} (hu:(P ()).underlying T = some (.slice e)) (a:Option Addr) (c:Nat) (w:World) :
  (Op.equalIn (d + 1) T (.slice a 0 c) (.slice none 0 0)).run (P ()) w = .ok a.isNone w /\ (Op.equalIn (d + 1) T (.slice none 0 0) (.slice a 0 c)).run (P ()) w = .ok a.isNone w:=by
 constructor <;> cases a <;> simp [Op.equalIn,run_underlying hu]
theorem nilTest_runs {P:Unit -> Program} {env:Env} {o:Oper} {d:Nat} (h:nilTest P env o = some d) {S:St} {ρ:Operand -> Value} (hρ:∀ x,Rel S (ev env [] x) (ρ x)) :
  o.guard = none /\ o.dst = some d /\ ∃ b,(execOp ρ o).run (P ()) S.w = .ok (.value (.bool b)) S.w:=by
 unfold nilTest at h
 split at h
 ·rename_i d' op T x y yT hg hd ho
  have hx:=hρ x
  have hy:=hρ y
  have emp:∀ {f:Bool} {es:Nat} {v:Value},Rel S (.vec f es []) v -> ∃ a c,v = .slice a 0 c:=by
   intro f es v hv
   have:=ZbL hv
   cases this with
   | vecE f es a cap _ => exact ⟨a,cap,rfl⟩
   | vec f es xs b off cap => exact ⟨_,_,rfl⟩
  refine ⟨hg,?_⟩
  have eqn':∀ {e:TypeId},(P ()).underlying T = some (.slice e) -> ∀ (a:Option Addr) (c:Nat),(Op.equalIn Op.maxDepth T (.slice a 0 c) (.slice none 0 0)).run (P ()) S.w = .ok a.isNone S.w /\ (Op.equalIn Op.maxDepth T (.slice none 0 0) (.slice a 0 c)).run (P ()) S.w = .ok a.isNone S.w:=
   fun hu a c => run_eq_nil (d:=Op.maxDepth - 1) hu a c S.w
  split at h
  ·rename_i e f es hu hvx hvy
   have eqn:=eqn' hu
   simp only [Option.some.injEq] at h;subst h
   rw [hvx] at hx;rw [hvy] at hy
   obtain ⟨a,c,ex⟩:=emp hx
   exact ⟨hd,a.isNone,by simp [execOp,ho,ex,ZaB hy,eqGuard,binOp,Op.equal,(eqn a c).1]⟩
  ·rename_i e f es hu hvx hvy
   have eqn:=eqn' hu
   simp only [Option.some.injEq] at h;subst h
   rw [hvx] at hx;rw [hvy] at hy
   obtain ⟨a,c,ey⟩:=emp hy
   exact ⟨hd,a.isNone,by simp [execOp,ho,ey,ZaB hx,eqGuard,binOp,Op.equal,(eqn a c).2]⟩
  ·rename_i e f es hu hvx hvy
   have eqn:=eqn' hu
   simp only [Option.some.injEq] at h;subst h
   rw [hvx] at hx;rw [hvy] at hy
   obtain ⟨a,c,ex⟩:=emp hx
   exact ⟨hd,!a.isNone,by simp [execOp,ho,ex,ZaB hy,eqGuard,binOp,Op.equal,(eqn a c).1]⟩
  ·rename_i e f es hu hvx hvy
   have eqn:=eqn' hu
   simp only [Option.some.injEq] at h;subst h
   rw [hvx] at hx;rw [hvy] at hy
   obtain ⟨a,c,ey⟩:=emp hy
   exact ⟨hd,!a.isNone,by simp [execOp,ho,ey,ZaB hx,eqGuard,binOp,Op.equal,(eqn a c).2]⟩
  ·simp at h
 ·simp at h
theorem rel_in {S:St} {a:AV} {v:Value} (h:Rel S a v):∀ r ∈ rowsA a,r < S.L.length:=by
 have lt:∀ {r:Nat} {row:Row},S.L[r]? = some row -> r < S.L.length:=fun h => (List.getElem?_eq_some_iff.1 h).1
 have all:∀ {cs:List AV} {vs:List Value},cs.length = vs.length -> (∀ (i:Nat) c v,cs[i]? = some c -> vs[i]? = some v -> ∀ r ∈ rowsA c,r < S.L.length) -> ∀ r ∈ rowsL cs,r < S.L.length:=by
  intro cs
  induction cs with
  | nil => intro vs _ _ r hr;simp [rowsL] at hr
  | cons c cs ih =>
   intro vs hl h r hr
   cases vs with
   | nil => simp at hl
   | cons u vs =>
    simp only [rowsL,List.mem_append] at hr
    rcases hr with hr | hr
    ·exact h 0 c u rfl rfl r hr
    ·exact ih (vs:=vs) (by simpa using hl) (fun i c v hc hv => h (i + 1) c v (by simpa using hc) (by simpa using hv)) r hr
 induction h with
 | any v => intro r hr;simp [rowsA] at hr
 | data a v h =>
  intro r hr
  have h1:=rowsA_ren (fun _ => S.L.length) a
  have h2:=dren h (fun _ => S.L.length)
  have h3:=dren h (fun _ => S.L.length + 1)
  have h4:=rowsA_ren (fun _ => S.L.length + 1) a
  rw [h2] at h1
  rw [h3,h1] at h4
  cases hra:rowsA a with
  | nil => rw [hra] at hr;simp at hr
  | cons q l => rw [hra] at h4;simp at h4
 | agg cs vs hl _ ih => exact all hl ih
 | tup cs vs hl _ ih => exact all hl ih
 | func fn a b va vb ha hb _ _ ih1 ih2 =>
  intro r hr
  simp only [rowsA,List.mem_append] at hr
  rcases hr with hr | hr
  ·exact all ha ih1 r hr
  ·exact all hb ih2 r hr
 | mapr r0 row info v _ _ h1 => intro r hr;simp only [rowsA,List.mem_singleton] at hr;subst hr;exact lt h1
 | ptr r0 ver i j row info v _ h1 => intro r hr;simp only [rowsA,List.mem_singleton] at hr;subst hr;exact lt h1
 | row r0 ver row info v _ h1 => intro r hr;simp only [rowsA,List.mem_singleton] at hr;subst hr;exact lt h1
 | ref r0 ver lo len row info v _ h1 => intro r hr;simp only [rowsA,List.mem_singleton] at hr;subst hr;exact lt h1
theorem refs_in {S:St} (hS:HeapOk S):∀ row ∈ S.L,∀ r ∈ ZaA row,r < S.L.length:=by
 intro row hm r hr
 obtain ⟨q,hq⟩:=List.getElem?_of_mem hm
 have hlt:q < S.β.length:=by rw [<- hS.len];exact (List.getElem?_eq_some_iff.1 hq).1
 obtain ⟨info,hi⟩:∃ info,S.β[q]? = some info:=⟨_,List.getElem?_eq_getElem hlt⟩
 unfold ZaA at hr
 cases hc:row.clean with
 | true => rw [hc] at hr;simp at hr
 | false =>
  rw [hc] at hr
  simp only [cond_false] at hr
  obtain ⟨i,x,h1,h2⟩:=Zdu hr
  have hcell:∃ (k:Nat) (c:AV),x.cells[k]? = some c /\ r ∈ rowsA c:=by
   cases x with
   | agg cs => exact Zdu h2
   | _ => exact ⟨0,_,rfl,h2⟩
  obtain ⟨k,c,h3,h4⟩:=hcell
  cases hmp:info.mp with
  | false =>
   obtain ⟨cv,_,hcr⟩:=Zdv hS hq hi hmp h1 k c h3
   exact rel_in hcr r h4
  | true =>
   obtain ⟨es,b1,b2,b3,b4⟩:=hS.maps q row info hq hi hmp
   have hil:i < es.size:=by have:=(List.getElem?_eq_some_iff.1 h1).1;omega
   obtain ⟨_,kk,n,v,rfl,_,_,g5,_⟩:=b4 i es[i] x (Array.getElem?_eq_getElem hil) h1
   match k with
   | 0 => simp [AV.cells] at h3;subst h3;simp [rowsA] at h4
   | 1 => simp [AV.cells] at h3;subst h3;exact rel_in g5 r h4
   | k + 2 => simp [AV.cells] at h3
theorem get_renV (f:Nat -> Nat) (env:Vars) (t:Nat):(renV f env).get t = renA f (env.get t):=by
 induction env with
 | nil => rfl
 | cons e env ih =>
  obtain ⟨k,v⟩:=e
  simp only [renV,List.map_cons,Vars.get]
  cases k == t with
  | true => rfl
  | false => exact ih
theorem rows_get {env:Vars} {t r:Nat} (h:r ∈ rowsA (env.get t)):r ∈ rowsL (env.map (·.2)):=by
 induction env with
 | nil => simp [Vars.get,rowsA] at h
 | cons e env ih =>
  obtain ⟨k,v⟩:=e
  simp only [Vars.get] at h
  simp only [List.map_cons,rowsL,List.mem_append]
  cases hk:k == t with
  | true => rw [hk] at h;exact .inl h
  | false => rw [hk] at h;exact .inr (ih h)
theorem Zea (l:List Row):∀ n,n <= l.length -> Zax l (List.range n) = some (l.take n):=by
 intro n hn
 have gen:∀ (k m:Nat),k + m <= l.length -> Zax l (List.range' k m) = some ((l.drop k).take m):=by
  intro k m
  induction m generalizing k with
  | zero => intro _;rfl
  | succ m ih =>
   intro h
   have hk:k < l.length:=by omega
   simp only [List.range'_succ,Zax,List.getElem?_eq_getElem hk,ih (k + 1) (by omega)]
   rw [List.drop_eq_getElem_cons hk];rfl
 have:=gen 0 n (by omega)
 rw [List.range_eq_range'];simpa using this
theorem getRows_drop (l:List Row) (n:Nat) (hn:n <= l.length):Zax l (List.range' n (l.length - n)) = some (l.drop n):=by
 have gen:∀ (k m:Nat),k + m <= l.length -> Zax l (List.range' k m) = some ((l.drop k).take m):=by
  intro k m
  induction m generalizing k with
  | zero => intro _;rfl
  | succ m ih =>
   intro h
   have hk:k < l.length:=by omega
   simp only [List.range'_succ,Zax,List.getElem?_eq_getElem hk,ih (k + 1) (by omega)]
   rw [List.drop_eq_getElem_cons hk];rfl
 rw [gen n _ (by omega),List.take_of_length_le (by simp)]
theorem ZcJ:∀ (m k i:Nat),k <= i -> i < k + m -> Zal (List.range' k m) i = i - k
 | 0,k,i,h1,h2 => by omega
 | m + 1,k,i,h1,h2 => by
  simp only [List.range'_succ,Zal]
  by_cases he:k = i
  ·subst he;simp
  ·have:(k == i) = false:=by simpa using he
   rw [this,ZcJ m (k + 1) i (by omega) (by omega)]
   simp only [cond_false];omega
theorem DRel.recell {S S':St} (hL:S'.L = S.L) (hβ:S'.β = S.β) (ha:S'.acc = S.acc) (hc:∀ b off,S'.w.cell? ⟨b,off,none⟩ = S.w.cell? ⟨b,off,none⟩) {a:AV} {v:Value} (h:DRel S a v):DRel S' a v:=by
 have hi:∀ b off,Imm S b off -> Imm S' b off:=fun b off ⟨h1,h2⟩ => ⟨by rw [ha];exact h1,fun r info hr hb => by rw [hβ] at hr;rw [hL];exact h2 r info hr hb⟩
 induction h with
 | bool b => exact .bool b
 | int k n => exact .int k n
 | str s => exact .str s
 | flt s => exact .flt s
 | nilp => exact .nilp
 | nilf => exact .nilf
 | nilm => exact .nilm
 | agg cs vs hl _ ih => exact .agg cs vs hl ih
 | tup cs vs hl _ ih => exact .tup cs vs hl ih
 | func fn a b va vb ha hb _ _ ih1 ih2 => exact .func fn a b va vb ha hb ih1 ih2
 | eptr es xs i j b off ho hk _ ih => exact .eptr es xs i j b off ho (fun i x k c hx hk' => by obtain ⟨⟨cv,q1⟩,q2⟩:=hk i x k c hx hk';exact ⟨⟨cv,by rw [hc];exact q1⟩,hi _ _ q2⟩) (fun i x k c cv hx hk' hcv => ih i x k c cv hx hk' (by rw [<- hc];exact hcv))
 | vnil => exact .vnil
 | vecE f es a cap hf => exact .vecE f es a cap hf
 | vec f es xs b off cap ho hf hl hk _ ih => exact .vec f es xs b off cap ho hf hl (fun i x k c hx hk' => by obtain ⟨⟨cv,q1⟩,q2⟩:=hk i x k c hx hk';exact ⟨⟨cv,by rw [hc];exact q1⟩,hi _ _ q2⟩) (fun i x k c cv hx hk' hcv => ih i x k c cv hx hk' (by rw [<- hc];exact hcv))
theorem Rel.recell {S S':St} (hL:S'.L = S.L) (hβ:S'.β = S.β) (ha:S'.acc = S.acc) (hc:∀ b off,S'.w.cell? ⟨b,off,none⟩ = S.w.cell? ⟨b,off,none⟩) {a:AV} {v:Value} (h:Rel S a v):Rel S' a v:=by
 induction h with
 | any v => exact .any v
 | data a v h => exact .data a v (h.recell hL hβ ha hc)
 | agg cs vs hl _ ih => exact .agg cs vs hl ih
 | tup cs vs hl _ ih => exact .tup cs vs hl ih
 | func fn a b va vb ha hb _ _ ih1 ih2 => exact .func fn a b va vb ha hb ih1 ih2
 | mapr r row info v h0 h3 h1 h2 => exact .mapr r row info v h0 h3 (hL ▸ h1) (hβ ▸ h2)
 | ptr r ver i j row info v h0 h1 h2 h3 h4 => exact .ptr r ver i j row info v h0 (hL ▸ h1) (hβ ▸ h2) h3 h4
 | row r ver row info v h0 h1 h2 h3 h4 => exact .row r ver row info v h0 (hL ▸ h1) (hβ ▸ h2) h3 h4
 | ref r ver lo len row info v h0 h1 h2 h3 h4 => exact .ref r ver lo len row info v h0 (hL ▸ h1) (hβ ▸ h2) h3 h4
theorem other_blk {S:St} (hS:HeapOk S) {D:Nat} {o:Obj} (ho:S.w.heap[D]? = some o) (hk:Zbq o = true):∀ (r:Nat) info,S.β[r]? = some info -> info.blk ≠ D:=by
 intro r info hi e
 have hlt:r < S.L.length:=by rw [hS.len];exact (List.getElem?_eq_some_iff.1 hi).1
 obtain ⟨row,hr⟩:∃ row,S.L[r]? = some row:=⟨_,List.getElem?_eq_getElem hlt⟩
 cases hmp:info.mp with
 | true =>
  obtain ⟨es,h1,_⟩:=hS.maps r row info hr hi hmp
  rw [e,ho] at h1;simp only [Option.some.injEq] at h1;subst h1;simp [Zbq] at hk
 | false =>
  obtain ⟨_,_,cs,T,h1,_⟩:=hS.cells r row info hr hi hmp
  rw [e,ho] at h1;simp only [Option.some.injEq] at h1;subst h1;simp [Zbq] at hk
theorem Rel.at {base:Nat} {acc:Nat -> Nat -> Prop} {L:Heap} {β:List BI} {w w':World} (hc:∀ b off,w'.cell? ⟨b,off,none⟩ = w.cell? ⟨b,off,none⟩) {a:AV} {v:Value} (h:Rel ⟨base,acc,L,β,w⟩ a v):Rel ⟨base,acc,L,β,w'⟩ a v:=
 Rel.recell (S:=⟨base,acc,L,β,w⟩) (S':=⟨base,acc,L,β,w'⟩) rfl rfl rfl hc h
theorem ZfI {w:World} {D:Nat} {o:Obj} (ho:w.heap[D]? = some o) (hk:Zbq o = true) (off:Nat):w.cell? ⟨D,off,none⟩ = none:=by
 unfold World.cell?
 simp only [ho]
 cases o <;> first | rfl | (simp [Zbq] at hk;done)
theorem cell_put {w:World} {D:Nat} {o o':Obj} (ho:w.heap[D]? = some o) (hk:Zbq o = true) (hk':Zbq o' = true) (b off:Nat):(w.putObj D o').cell? ⟨b,off,none⟩ = w.cell? ⟨b,off,none⟩:=by
 by_cases e:b = D
 ·subst e
  rw [ZfI ho hk,ZfI (World.putObj_heap_same (w:=w) (o:=o') (Array.getElem?_eq_some_iff.1 ho).1) hk']
 ·exact Zap (World.putObj_heap_other e)
theorem Zdy {S:St} (hS:HeapOk S) {D:Nat} {o o':Obj} (ho:S.w.heap[D]? = some o) (hk:Zbq o = true) (hk':Zbq o' = true) :
  HeapOk ⟨S.base,S.acc,S.L,S.β,S.w.putObj D o'⟩ /\ ∀ a v,Rel S a v -> Rel ⟨S.base,S.acc,S.L,S.β,S.w.putObj D o'⟩ a v:=by
 have hne:=other_blk hS ho hk
 have hcell:=cell_put ho hk hk'
 have hh:∀ b,b ≠ D -> (S.w.putObj D o').heap[b]? = S.w.heap[b]?:=fun b h => World.putObj_heap_other h
 have hrel:∀ a v,Rel S a v -> Rel ⟨S.base,S.acc,S.L,S.β,S.w.putObj D o'⟩ a v:=fun a v h => Rel.recell (S:=S) (S':=⟨S.base,S.acc,S.L,S.β,S.w.putObj D o'⟩) rfl rfl rfl hcell h
 have hdrel:∀ a v,DRel S a v -> DRel ⟨S.base,S.acc,S.L,S.β,S.w.putObj D o'⟩ a v:=fun a v h => DRel.recell (S:=S) (S':=⟨S.base,S.acc,S.L,S.β,S.w.putObj D o'⟩) rfl rfl rfl hcell h
 refine ⟨⟨by simpa using hS.base,hS.len,fun r info h => by simpa using hS.blk r info h,hS.inj,fun r row info h1 h2 h3 => ?_,fun r row info h1 h2 h3 => ?_,hS.elems,fun r row info i x k c cv h1 h2 h3 h4 h5 => ?_,fun r row info i x k c cv h1 h2 h0 h3 h4 h5 => ?_,hS.acq,fun b off h => hS.anew b off (by simpa using h)⟩,hrel⟩
 ·obtain ⟨es,q1,q2,q3,q4⟩:=hS.maps r row info h1 h2 h3
  refine ⟨es,(hh _ (hne r info h2)).trans q1,q2,q3,fun i e x he hx => ?_⟩
  obtain ⟨z1,kk,n,v,z2,z3,z4,z5,z6⟩:=q4 i e x he hx
  exact ⟨z1,kk,n,v,z2,z3,z4,hrel _ _ z5,fun hc => hdrel _ _ (z6 hc)⟩
 ·obtain ⟨q1,q2,cs,T,q3,q4⟩:=hS.cells r row info h1 h2 h3
  exact ⟨q1,q2,cs,T,(hh _ (hne r info h2)).trans q3,q4⟩
 ·exact hrel _ _ (hS.rel r row info i x k c cv h1 h2 h3 h4 (by rw [<- hcell];exact h5))
 ·exact hdrel _ _ (hS.clean r row info i x k c cv h1 h2 h0 h3 h4 (by rw [<- hcell];exact h5))
theorem put_ext {S0 S:St} {D:Nat} {o o':Obj} (ho:S.w.heap[D]? = some o) (hk:Zbq o = true) (hk':Zbq o' = true) (hD:S0.base <= S0.w.heap.size) (hD0:S0.w.heap.size <= D) (he:Ext S0 S):Ext S0 ⟨S.base,S.acc,S.L,S.β,S.w.putObj D o'⟩:=by
 have hcell:=cell_put ho hk hk'
 have hh:∀ b,b ≠ D -> (S.w.putObj D o').heap[b]? = S.w.heap[b]?:=fun b h => World.putObj_heap_other h
 refine ⟨he.base,he.acc,fun b off hi hlt => ?_,he.rows,?_,he.fresh,fun b h1 h2 h3 => (hh b (by omega)).trans (he.other b h1 h2 h3)⟩
 ·obtain ⟨q1,q2⟩:=he.imm b off hi hlt
  exact ⟨q1,(hcell b off).trans q2⟩
 ·have hb:=he.below
  exact ⟨hb.os,hb.tape,hb.output,by simpa using hb.size,fun k hk => (hh k (by omega)).trans (hb.block k hk)⟩
theorem ZeM {w w':World} (h:Near w w'):∀ b off,w'.cell? ⟨b,off,none⟩ = w.cell? ⟨b,off,none⟩:=by
 induction h with
 | refl => exact fun _ _ => rfl
 | put o' _ h1 h2 h3 ih => exact fun b off => (cell_put h1 h2 h3 b off).trans (ih b off)
theorem near_ok {base:Nat} {acc:Nat -> Nat -> Prop} {L:Heap} {β:List BI} {w w':World} (hn:Near w w'):HeapOk ⟨base,acc,L,β,w⟩ -> HeapOk ⟨base,acc,L,β,w'⟩:=by
 induction hn with
 | refl => exact fun h => h
 | put o' _ h1 h2 h3 ih => exact fun h => (Zdy (ih h) h1 h2 h3).1
theorem narrow_sound {M:Mach} {fi:Fi} {k:List Item} {env env':Vars} {L Lc:Heap} {Q:AV -> Heap -> Prop} {rs:List Nat} (hn:ZbG L rs env = some (env',Lc))
  (ih:ZaH M fi k env' Lc fun v L1 => Q (renA (Zcm L.length rs) v) (Zd0 L rs L1)):ZaH M fi k env L Q:=by
 unfold ZbG at hn
 split at hn
 ·rename_i rows hrows
  split at hn
  ·rename_i hc
   simp only [Option.some.injEq,Prod.mk.injEq] at hn
   obtain ⟨rfl,rfl⟩:=hn
   simp only [Bool.and_eq_true,List.all_eq_true,List.contains_iff_mem] at hc
   obtain ⟨hnd,ha,hcl⟩:=hc
   have hnd:=(Zbp rs).1 hnd
   intro S b a cs fn h1 h2 h3 h4 h5 h6 h7 h8
   subst h6
   obtain ⟨hSc,_,hrelc⟩:=sub_ok h5 hrows hnd hcl
   obtain ⟨gl,_⟩:=Zau hrows
   have hV:VRel ⟨S.base,ZbJ S rs,rows.map (Zaf (Zal rs)),subβ S.β rs,S.w⟩ (renV (Zal rs) env) a.tmps:=by
    intro t
    rw [get_renV]
    exact hrelc _ _ (h7 t) fun r hr => ha r (rows_get hr)
   obtain ⟨a',todo',Ds,w',β',v,L1,hq,g1,g2,k1,k2,k3,k3',k4,k5⟩:=ih _ b a cs fn h1 h2 h3 h4 hSc rfl hV h8
   have hle:rs.length <= L1.length:=by
    by_cases hz:rs.length = 0
    ·omega
    ·have hlt:rs.length - 1 < (rows.map (Zaf (Zal rs))).length:=by simp;omega
     have hβ:rs.length - 1 < (subβ S.β rs).length:=by simp [subβ];omega
     obtain ⟨row',info',q1,_⟩:=k5.rows (rs.length - 1) _ _ (List.getElem?_eq_getElem hlt) (List.getElem?_eq_getElem hβ)
     have:=(List.getElem?_eq_some_iff.1 q1).1
     simp only at this;omega
   let ns:=List.range' rs.length (L1.length - rs.length)
   have hmem:∀ i,i ∈ ns ↔ rs.length <= i /\ i < L1.length:=by
    intro i;simp only [ns,List.mem_range'_1];omega
   have hrefs:=refs_in k4
   obtain ⟨m1,m2,m3⟩:=back_ok (S1:=⟨S.base,ZbJ S rs,L1,β',w'⟩) (ns:=ns) (old:=L1.take rs.length) (new:=L1.drop rs.length) h5 hrows hnd hcl k4 k5 List.nodup_range' (fun i hi => ((hmem i).1 hi).1)
    (Zea L1 _ hle) (getRows_drop L1 _ hle) (fun row hr r hrr => by
     have hm:row ∈ L1:=by
      rcases List.mem_append.1 hr with h | h
      ·exact List.mem_of_mem_take h
      ·exact List.mem_of_mem_drop h
     have:=hrefs row hm r hrr
     by_cases hlt:r < rs.length
     ·exact .inl hlt
     ·exact .inr ((hmem r).2 ⟨by omega,this⟩))
   have heq:∀ r,r < L1.length -> ZaF S.L.length rs ns r = Zcm S.L.length rs r:=by
    intro r hr
    unfold ZaF Zcm
    cases hb:Nat.blt r rs.length with
    | true => rfl
    | false =>
     have hge:rs.length <= r:=by
      rcases Nat.lt_or_ge r rs.length with h | h
      ·rw [Nat.blt_eq.mpr h] at hb;simp at hb
      ·exact h
     simp only [cond_false,ns]
     rw [ZcJ _ _ _ hge (by omega)]
   have hrow:∀ row ∈ L1,Zaf (ZaF S.L.length rs ns) row = Zaf (Zcm S.L.length rs) row:=by
    intro row hm
    unfold Zaf
    cases hcr:row.clean with
    | true => rfl
    | false =>
     simp only [cond_false]
     rw [renL_ext _ fun r hr => heq r (hrefs row hm r (by unfold ZaA;rw [hcr];exact hr))]
   have hLL:Za3 S.L rs ns (L1.take rs.length) (L1.drop rs.length) = Zd0 S.L rs L1:=by
    unfold Za3 Zd0
    rw [List.map_congr_left fun row hm => hrow row (List.mem_of_mem_take hm),List.map_congr_left fun row hm => hrow row (List.mem_of_mem_drop hm)]
   rw [hLL] at m1 m2 m3
   refine ⟨a',todo',Ds,w',_,_,_,hq,g1,g2,k1,k2,k3,fun w'' hne => ?_,m1,m2⟩
   obtain ⟨cv,z1,z2⟩:=k3' w'' hne
   have hcell:=ZeM hne
   have k6:Rel ⟨S.base,ZbJ S rs,L1,β',w'⟩ v cv:=Rel.at (fun b off => (hcell b off).symm) z2
   have hin:=rel_in k6
   have m3':=m3 v cv k6 fun r hr => by
    have:=hin r hr
    by_cases hlt:r < rs.length
    ·exact .inl hlt
    ·exact .inr ((hmem r).2 ⟨by omega,this⟩)
   rw [renA_ext v fun r hr => heq r (hin r hr)] at m3'
   exact ⟨cv,z1,Rel.at hcell m3'⟩
  ·simp at hn
 ·simp at hn
theorem ZeK {n i:Nat} (h:i < n):Zal (List.range n) i = i:=by
 rw [List.range_eq_range',ZcJ n 0 i (Nat.zero_le _) (by omega)];rfl
theorem ZeF {f:Nat -> Nat} {row:Row} (h:∀ r ∈ ZaA row,f r = r):Zaf f row = row:=by
 unfold Zaf
 cases hc:row.clean with
 | true => rfl
 | false =>
  simp only [cond_false]
  rw [renL_ext (g:=fun r => r) row.elems (fun r hr => h r (by unfold ZaA;rw [hc];exact hr)),renL_id,<- hc]
theorem renA_self {f:Nat -> Nat} {a:AV} (h:∀ r ∈ rowsA a,f r = r):renA f a = a:=by
 rw [renA_ext (g:=fun r => r) a h,renA_id]
theorem put_all {α:Type} (l xs:List α) (h:xs.length = l.length):Zc6 l (List.range l.length) xs = xs:=by
 apply List.ext_getElem?
 intro i
 by_cases hi:i < l.length
 ·rw [Zdz (List.range l.length) l xs List.nodup_range i i xs[i] (by simp [hi]) (List.getElem?_eq_getElem (by omega)) hi,List.getElem?_eq_getElem (by omega)]
 ·rw [List.getElem?_eq_none (by rw [Zav];omega),List.getElem?_eq_none (by omega)]
theorem keepV_rel {S:St} {env:Vars} {tm:Array Value} (h:VRel S env tm) (ks:List Nat):VRel S (keepV ks env) tm:=by
 intro t
 have key:∀ ks:List Nat,Vars.get (keepV ks env) t = env.get t \/ Vars.get (keepV ks env) t = .any:=by
  intro ks
  induction ks with
  | nil => exact .inr rfl
  | cons x ks ih =>
   show (bif x == t then env.get x else Vars.get (keepV ks env) t) = _ \/ (bif x == t then env.get x else Vars.get (keepV ks env) t) = _
   cases hx:x == t with
   | true =>
    have:x = t:=by simpa using hx
    subst this;exact .inl rfl
   | false => exact ih
 rcases key ks with e | e
 ·rw [e];exact h t
 ·rw [e];exact .any _
theorem drop_sound {M:Mach} {f:FuncId} {args:List AV} {L:Heap} {v:AV} {K:Heap} (hk:ZfA L.length v K = true) (ih:OwnQ M f args L (KeepQ v K)):OwnQ M f args L (isR v K):=by
 unfold ZfA at hk
 simp only [Bool.and_eq_true,List.all_eq_true,Nat.blt_eq,Nat.beq_eq] at hk
 obtain ⟨hKl,hv,hK⟩:=hk
 intro S cargs h1 h2 h3
 subst h2
 have hrows:=ZeZ S.L
 have hnd:(List.range S.L.length).Nodup:=List.nodup_range
 have hin:=refs_in h1
 have hcl:∀ row ∈ S.L,∀ r ∈ ZaA row,r ∈ List.range S.L.length:=fun row hr r hrr => by simpa using hin row hr r hrr
 obtain ⟨hSc,_,hrelc⟩:=sub_ok h1 hrows hnd hcl
 have hself:S.L.map (Zaf (Zal (List.range S.L.length))) = S.L:=by
  have:S.L.map (Zaf (Zal (List.range S.L.length))) = S.L.map id:=List.map_congr_left fun row hr => by
   rw [ZeF fun r hrr => ZeK (hin row hr r hrr)];rfl
  rw [this,List.map_id]
 have hrel':RelL ⟨S.base,ZbJ S (List.range S.L.length),S.L.map (Zaf (Zal (List.range S.L.length))),subβ S.β (List.range S.L.length),S.w⟩ args cargs:=by
  refine ⟨h3.1,fun i c cv hc hcv => ?_⟩
  have hri:=rel_in (h3.2 i c cv hc hcv)
  have:=hrelc c cv (h3.2 i c cv hc hcv) fun r hr => by simpa using hri r hr
  rwa [renA_self fun r hr => ZeK (hri r hr)] at this
 obtain ⟨m1,m2⟩:=ih _ cargs hSc hself hrel'
 refine ⟨m1,Calls.mono m2 fun e w' he => ?_⟩
 cases e with
 | panicked c => exact he.elim
 | outgrown => exact he.elim
 | returned cv =>
  obtain ⟨v',L1,β1,⟨rfl,hq⟩,n1,n2,n3⟩:=he
  rw [hKl] at hq
  have hlen:(List.range S.L.length).length = S.L.length:=List.length_range
  have hle:S.L.length <= L1.length:=by
   have:=congrArg List.length hq
   rw [List.length_take,hKl] at this
   omega
  have ho:Zax L1 (List.range (List.range S.L.length).length) = some K:=by
   rw [hlen,<- hq]
   have:=Zea L1 S.L.length hle
   rw [hq] at this ⊢
   exact this
  obtain ⟨k1,k2,k3⟩:=back_ok (S1:=⟨S.base,ZbJ S (List.range S.L.length),L1,β1,w'⟩) (ns:=[]) (new:=[]) h1 hrows hnd hcl n1 n2 List.nodup_nil (by simp) ho rfl
   (fun row hr r hrr => .inl (by rw [hlen];exact hK row (by simpa using hr) r hrr))
  have hb:∀ r,r < S.L.length -> ZaF S.L.length (List.range S.L.length) [] r = r:=by
   intro r hr
   rw [Zfd (by rw [hlen];exact hr)];simp
  have hKK:Za3 S.L (List.range S.L.length) [] K [] = K:=by
   unfold Za3
   rw [List.map_nil,List.append_nil]
   have:K.map (Zaf (ZaF S.L.length (List.range S.L.length) [])) = K.map id:=List.map_congr_left fun row hr => by
    rw [ZeF fun r hrr => hb r (hK row hr r hrr)];rfl
   rw [this,List.map_id,put_all _ _ hKl]
  have k3':=k3 v' cv n3 fun r hr => .inl (by rw [hlen];exact hv r hr)
  rw [renA_self fun r hr => hb r (hv r hr)] at k3'
  rw [hKK] at k1 k2 k3'
  exact ⟨v',K,_,⟨rfl,rfl⟩,k1,k2,k3'⟩
theorem text_app {M:Mach} {call:Zaq} {n:Nat} {ops:Array Oper} {ans:Nat -> Option Ans} {hot:Nat -> Nat} {Q:Exit -> Act -> World -> Prop} (l2:List Nat):∀ (l:List Nat) {s sf:RS} {S:St} {a:Act},Zao M.P M.inl call n ops ans hot l s = some sf ->
  (∀ b ∈ sf.asm,b = true) -> (∀ q ∈ sf.eqs,q) -> (∀ c ∈ sf.calls,c.cond = true -> ZbK M c) ->
  HeapOk S -> S.L = s.L -> TRel S s.env a.tmps -> n <= a.tmps.size ->
  (∀ S' a',HeapOk S' -> Ext S S' -> S'.L = sf.L -> TRel S' sf.env a'.tmps -> a'.tmps.size = a.tmps.size -> a'.defers = a.defers -> wpOps (M.P ()) ops Q l2 a' S'.w) ->
  wpOps (M.P ()) ops Q (l ++ l2) a S.w
 | [],s,sf,S,a,h,_,_,_,hS,hL,hT,_,hK => by
  simp only [Zao,Option.some.injEq] at h;subst h
  exact hK S a hS (Ext.refl S) hL hT rfl rfl
 | i :: rest,s,sf,S,a,h,hA,hQ,hC,hS,hL,hT,hn,hK => by
  rw [List.cons_append,wpOps_cons]
  simp only [Zao] at h
  cases ho:ops[i]? with
  | none =>
   rw [ho] at h
   unfold wpOp
   simp only [ho]
   exact text_app l2 rest h hA hQ hC hS hL hT hn hK
  | some o =>
   rw [ho] at h
   simp only at h
   cases h1:Zbb M.P M.inl call n ops (ans i) (hot i) o s with
   | none => rw [h1] at h;simp at h
   | some s1 =>
    rw [h1] at h
    simp only at h
    obtain ⟨env,L,x,y,z,rfl,_⟩:=ZaP _ h
    refine Zcu hS hL hT hn ho h1 (fun b hb => hA b (by simp [hb])) (fun b hb => hQ b (by simp [hb])) (fun b hb => hC b (by simp [hb])) fun S' a' k1 k2 k3 k4 k5 k6 => ?_
    exact text_app l2 rest h hA hQ hC k1 k3 k4 (by rw [k5];exact hn) fun S'' a'' m1 m2 m3 m4 m5 m6 => hK S'' a'' m1 (k2.trans m2) m3 m4 (m5.trans k5) (m6.trans k6)
theorem range_split {n i:Nat} (h:i < n):List.range n = List.range i ++ i :: (List.range n).drop (i + 1):=by
 have h1:List.range i = (List.range n).take i:=by rw [List.take_range,Nat.min_eq_left (by omega)]
 have h2:(List.range n).drop i = i :: (List.range n).drop (i + 1):=by
  have h3:i < (List.range n).length:=by simpa using h
  rw [List.drop_eq_getElem_cons h3];simp
 rw [h1,<- h2,List.take_append_drop]
theorem nil_sound {M:Mach} {fi:Fi} {id i:Nat} {ops:Array Oper} {k:List Item} {env:Vars} {L:Heap} {Q:AV -> Heap -> Prop} {keep:List Nat} {s:Bool -> RS}
  (hr:∀ b,nilRun M.P M.inl fi.n ops i env L b = some (s b)) (hA:∀ b,(∀ x ∈ (s b).asm,x = true) /\ (s b).eqs = [] /\ (s b).calls = [])
  (ih:∀ b,ZaH M fi k (Zbg keep (s b).env) (s b).L Q):ZaH M fi (.code (.region id ops false) :: k) env L Q:=by
 refine ZaH.after fun S a h5 h6 h7 h8 => ?_
 refine ZeH ?_
 show wpOps (M.P ()) ops _ _ a S.w
 ·have h0:=hr true
  unfold nilRun at h0
  cases ho:ops[i]? with
  | none => simp [ho] at h0
  | some o =>
  cases hs1:Zao M.P M.inl (fun _ _ _ => none) fi.n ops (fun _ => none) (fun _ => 2) (List.range i) ⟨lift env,L,[],[],[]⟩ with
  | none => simp [hs1] at h0
  | some s1 =>
  simp only [ho,hs1] at h0
  cases hd:nilTest M.P s1.env o with
  | none => simp [hd] at h0
  | some d =>
  have hb:∀ t,∃ env1,putE fi.n (some d) [] (.bool t) s1.env = some env1 /\ Zao M.P M.inl (fun _ _ _ => none) fi.n ops (fun _ => none) (fun _ => 2) ((List.range ops.size).drop (i + 1)) ⟨env1,s1.L,s1.asm,s1.eqs,s1.calls⟩ = some (s t):=by
   intro t
   have ht:=hr t
   unfold nilRun at ht
   simp only [ho,hs1,hd] at ht
   split at ht
   ·rename_i env1 he;exact ⟨env1,he,ht⟩
   ·simp at ht
  have hin:(∀ x ∈ s1.asm,x = true) /\ s1.eqs = [] /\ s1.calls = []:=by
   obtain ⟨env1,_,ht⟩:=hb true
   obtain ⟨e2,L2,x,y,z,he,_⟩:=ZaP _ ht
   have:=hA true
   rw [he] at this
   simp only [List.append_eq_nil_iff] at this
   exact ⟨fun w hw => this.1 w (by simp [hw]),this.2.1.1,this.2.2.1⟩
  have hlt:i < ops.size:=(Array.getElem?_eq_some_iff.1 ho).1
  rw [range_split hlt]
  refine text_app _ (List.range i) hs1 hin.1 (by rw [hin.2.1];simp) (by rw [hin.2.2];simp) h5 h6 (Zc0 h7) h8 fun S' a' k1 k2 k3 k4 k5 k6 => ?_
  rw [wpOps_cons]
  have hρ:∀ x,Rel S' (ev s1.env [] x) (a'.eval x):=ev_rel k4 (by intro x hx;simp at hx)
  obtain ⟨n1,n2,t,n3⟩:=nilTest_runs hd (S:=S') hρ
  obtain ⟨env1,he,ht⟩:=hb t
  have hc:ZaW ops s1.env o = some (some []):=by unfold ZaW;rw [n1]
  obtain ⟨hco,hw⟩:=Ze7 k4 hc
  unfold wpOp
  simp only [ho]
  rw [hw]
  simp only [Zai,if_true]
  left
  unfold Oper.wp
  rw [n3,Oper.upon_value,n2]
  have hput:=ZeJ (cv:=.bool t) k4 (by rw [k5];exact h8) hco he (fun _ => .data _ _ (.bool t)) (fun h => by simp [Zai] at h)
  obtain ⟨p1,p2,p3⟩:=hA t
  refine Zcc _ ht p1 (by rw [p2];simp) (by rw [p3];simp) k1 k3 hput (by rw [ZcW,k5];exact h8) fun S'' a'' m1 m2 m3 m4 m5 m6 => ?_
  exact ⟨S'',Zbg keep (s t).env,rfl,m1,k2.trans m2,m3.symm ▸ ih t,Zbw m4 keep,by rw [m5,ZcW,k5],by rw [m6];simpa [Act.put] using k6⟩
theorem both_sound {M:Mach} (hm:(M.P ()).follows .mixedOrders = true) {fi:Fi} {id:Nat} {ops:Array Oper} {env:Vars} {L:Heap} {call:Zaq} {ans:Nat -> Option Ans} {hot:Bool -> Nat -> Nat} {keep rs:List Nat} {p:Nat} {e1:Vars} {L1:Heap} {asl:List Bool} {qs:List Prop} {cl:List CF}
  (hd:∀ t,ZdV (hot t) ops p = true) (hr:∀ t,bothRun M.P M.inl call fi.n ops ans (hot t) keep rs p env L t = some (e1,L1,asl,qs,cl)) (hA:∀ b ∈ asl,b = true) (hQ:∀ q ∈ qs,q) (hC:∀ c ∈ cl,c.cond = true -> ZbK M c)
  {S:St} {a:Act} (h5:HeapOk S) (h6:S.L = L) (h7:VRel S env a.tmps) (h8:fi.n <= a.tmps.size) :
  RegR (M.P ()) id ops true (fun a' w' => ∃ S':St,S'.w = w' /\ HeapOk S' /\ Ext S S' /\ S'.L = L1 /\ VRel S' e1 a'.tmps /\ a'.tmps.size = a.tmps.size /\ a'.defers = a.defers) a S.w:=by
 refine regR_any hm ?_
 obtain ⟨n1,n2⟩:=Zb1 h5 (w':={ S.w with drawn:=S.w.drawn + 1 }) ⟨rfl,rfl,rfl,Nat.le_refl _,fun _ _ => rfl⟩ (fun _ _ => rfl)
 have hf:=hr false
 have ht:=hr true
 unfold bothRun at hf ht
 simp only at hf ht
 have hp1:p + 1 < ops.size:=by
  have hd:=hd false
  unfold ZdV at hd
  simp only [Bool.and_eq_true] at hd
  have:=hd.2.1
  cases h:ops[p + 1]? with
  | none => rw [h] at this;simp at this
  | some o => exact (Array.getElem?_eq_some_iff.1 h).1
 split at hf
 ·rename_i s1 hs1
  simp only [Option.some.injEq,Prod.mk.injEq] at hf
  obtain ⟨f1,f2,f3,f4,f5⟩:=hf
  split at ht
  ·rename_i s2 hs2
   split at ht
   ·rename_i e2 K hn hall
    simp only [Option.some.injEq,Prod.mk.injEq] at ht
    obtain ⟨g1,g2,g3,g4,g5⟩:=ht
    subst g1 g2
    have hclosed:∀ (j:Nat) (o:Oper),ops[j]? = some o -> (Array.replicate ops.size false).getD j false = true -> ∀ e ∈ o.after,Region.binds .any e = true -> (Array.replicate ops.size false).getD e.on false = true:=by
     intro j o _ hj
     by_cases hlt:j < ops.size <;> simp [hlt] at hj
    refine draw_two (hd false) (hd true) ops.size (Array.replicate ops.size false) (List.range ops.size) ((List.range ops.size).map (sw p)) (S:=⟨S.base,S.acc,S.L,S.β,{ S.w with drawn:=S.w.drawn + 1 }⟩)
     ⟨by simp,List.pairwise_lt_range,fun i => ?_,hclosed,hs1⟩ ⟨by simp,?_,fun i => ?_,hclosed,hs2⟩ (by simp) (by simp)
     (by rw [f3];exact hA) (by rw [f4];exact hQ) (by rw [f5];exact hC) (by rw [g3];exact hA) (by rw [g4];exact hQ) (by rw [g5];exact hC) n1 h6 ((Zc0 h7).mono n2) h8
     (fun S' a' k1 k2 k3 k4 k5 k6 => ⟨S',rfl,k1,n2.trans k2,k3.trans f2,f1 ▸ Zbw k4 keep,k5,k6⟩)
     (fun S' a' k1 k2 k3 k4 k5 k6 => ?_)
    ·simp only [List.mem_range]
     constructor
     ·intro h;exact ⟨h,by simp [h]⟩
     ·intro h;exact h.1
    ·rw [List.pairwise_map]
     exact List.pairwise_lt_range.imp fun h => by rw [sw_sw,sw_sw];exact h
    ·simp only [List.mem_map,List.mem_range]
     constructor
     ·rintro ⟨j,h,rfl⟩
      have:=(sw_lt (i:=j) hp1).2 h
      exact ⟨this,by simp [this]⟩
     ·intro h;exact ⟨sw p i,(sw_lt hp1).2 h.1,sw_sw p i⟩
    ·unfold ZbG at hn
     split at hn
     ·rename_i rows hrows
      split at hn
      ·rename_i hc
       simp only [Option.some.injEq,Prod.mk.injEq] at hn
       obtain ⟨rfl,rfl⟩:=hn
       simp only [Bool.and_eq_true,List.all_eq_true,List.contains_iff_mem] at hc
       obtain ⟨hnd,ha,hcl⟩:=hc
       have hnd:=(Zbp rs).1 hnd
       simp only [Bool.and_eq_true,List.all_eq_true,List.mem_range] at hall
       rw [<- k3] at hrows
       obtain ⟨p1,p2,p3⟩:=perm_ok k1 n1 k2 hrows hnd hcl (fun r hr => by
        have:=hall.2 r (by rw [<- h6];exact hr)
        cases h:rs[r]? with
        | none => rw [h] at this;simp at this
        | some q => rw [h] at this;simp only [Nat.beq_eq] at this;rw [this])
       refine ⟨⟨S'.base,S'.acc,rows.map (Zaf (Zal rs)),subβ S'.β rs,S'.w⟩,rfl,p1,n2.trans p2,rfl,fun t => ?_,k5,k6⟩
       rw [get_renV]
       exact p3 _ _ (Zbw k4 keep t) fun r hr => ha r (rows_get hr)
      ·simp at hn
     ·simp at hn
   ·simp at ht
  ·simp at ht
 ·simp at hf
theorem marks_out {P:Program} {S0:St}:∀ (Ds:List Nat) {S:St} {fr:Frame} {cs:List Frame},HeapOk S -> Ext S0 S -> S0.base <= S0.w.heap.size -> MarksOk S0.w.heap.size S.w Ds ->
  fr.mode = .returning -> fr.defers = Ds.map Zd8 ->
  ∃ w',Steps P (lone fr cs S.w) (lone { fr with defers:=[] } cs w') /\ Near S.w w' /\ HeapOk ⟨S.base,S.acc,S.L,S.β,w'⟩ /\ Ext S0 ⟨S.base,S.acc,S.L,S.β,w'⟩
 | [],S,fr,cs,hS,he,_,_,h1,h2 => by
  have:({ fr with defers:=[] }:Frame) = fr:=by cases fr;simp at h2;subst h2;rfl
  rw [this]
  exact ⟨S.w,Steps.refl _ _,.refl _,hS,he⟩
 | D :: Ds,S,fr,cs,hS,he,hb,hm,h1,h2 => by
  obtain ⟨hnd,hD⟩:=hm
  obtain ⟨d1,d2⟩:=hD D (List.mem_cons_self ..)
  obtain ⟨p1,p3⟩:=Zdy (o':=.deferred none) hS d2 rfl rfl
  have p2:=put_ext (o':=.deferred none) d2 rfl rfl hb d1 he
  have hstep:=step_collected (P:=P) (fr:=fr) (cs:=cs) (w:=S.w) (d:=Zd8 D) (r:=D) (ds:=Ds.map Zd8) (by rw [h1];simp) (by rw [h2];rfl) rfl (run_takeDeferred d2)
  obtain ⟨w',s1,s2,s3,s4⟩:=marks_out Ds (S:=⟨S.base,S.acc,S.L,S.β,S.w.putObj D (.deferred none)⟩) (fr:={ fr with defers:=[] ++ Ds.map Zd8 }) (cs:=cs) p1 p2 hb
   ⟨(List.nodup_cons.1 hnd).2,fun D' h' => by
    obtain ⟨e1,e2⟩:=hD D' (List.mem_cons_of_mem _ h')
    have hne:D' ≠ D:=fun e => (List.nodup_cons.1 hnd).1 (e ▸ h')
    exact ⟨e1,(World.putObj_heap_other hne).trans e2⟩⟩ h1 rfl
  have near:∀ {w1 w2:World},Near w1 w2 -> ∀ {w0:World},Near w0 w1 -> Near w0 w2:=by
   intro w1 w2 h
   induction h with
   | refl => exact fun h => h
   | put o' _ q1 q2 q3 ih => exact fun h => .put o' (ih h) q1 q2 q3
  exact ⟨w',.head hstep s1,near s2 (.put _ (.refl _) d2 rfl rfl),s3,s4⟩
theorem own_of_run {M:Mach} {f:FuncId} {args:List AV} {L:Heap} {Q:AV -> Heap -> Prop} {fn:Func} {c:Code} (hf:(M.P ()).funcs[f]? = some fn) (hb:fn.body = some c) (hn:(fn.name == "runtime.NumGoroutine") = false)
  (ih:ZaH M ⟨fn.ntmps,fn.results.toList⟩ [.code c] (ZbO 0 args) L Q):OwnQ M f args L Q:=by
 intro S cargs hS hL hr
 refine ⟨call_runs hf hb hn,fun cs => ?_⟩
 let b:Frame:={ (default:Frame) with fn:=f,kind:=.normal,roundOf:=none }
 let a:Act:={ tmps:=⟨cargs⟩ ++ Array.replicate (fn.ntmps - (⟨cargs⟩:Array Value).size) undef,defers:=[] }
 have henter:Frame.enter (M.P ()) f ⟨cargs⟩ .normal = b.atR a [.code c]:=by
  simp [Frame.enter,Frame.atR,hf,hb,b,a]
 obtain ⟨a',todo',Ds,w',β',v,L',hq,g1,g2,k1,k2,k3,k4,k5,k6⟩:=ih S b a cs fn hf rfl rfl (.inl rfl) hS hL (enter_rel _ hr) (by simp [a];omega)
 have hout:step (M.P ()) (lone (b.atR a' todo') cs w') = .next (lone { b.atR a' todo' with mode:=.returning } cs w'):=by
  rcases g1 with rfl | ⟨k,rfl⟩
  ·exact stepR_end rfl
  ·exact stepR_ret rfl
 have hd:a'.defers = Ds.map Zd8:=by rw [k2];simp [a]
 obtain ⟨w2,s1,s2,s3,s4⟩:=marks_out (P:=M.P ()) (S0:=S) Ds (S:=⟨S.base,S.acc,L',β',w'⟩) (fr:={ b.atR a' todo' with mode:=.returning }) (cs:=cs) k5 k6 hS.base k3 rfl hd
 obtain ⟨cv,z1,z2⟩:=k4 w2 s2
 rw [<- henter] at k1
 exact ⟨.returned cv,w2,_,⟨v,L',β',hq,s3,s4,z2⟩,Steps.trans k1 (.head hout s1),rfl,rfl,rfl,rfl,fn,hf,z1⟩
theorem Zco {M:Mach} (hm:(M.P ()).follows .mixedOrders = true) {c:Conf} {Q:AV -> Heap -> Prop} (h:Wp M c Q):Means M c Q:=by
 induction h with
 | skip _ ih => exact ZaH.step ih (fun h => by simpa [Zcd,Zdr,Zb0] using h) fun b a cs S _ => stepR_skip
 | seq _ ih => exact ZaH.step ih (fun h => by simp only [Zcd,List.all_cons,Zdr,Zb0,Bool.and_eq_true] at h ⊢;exact ⟨h.1.1,h.1.2,h.2⟩) fun b a cs S _ => stepR_seq
 | @cond fi c x y k env L Q t ht _ ih =>
  refine ZaH.step ih (fun h => ?_) fun b a cs S hV => ?_
  ·simp only [Zcd,List.all_cons,Zdr,Zb0,Bool.and_eq_true] at h ⊢
   cases t with
   | true => exact ⟨h.1.1,h.2⟩
   | false => exact ⟨h.1.2,h.2⟩
  have:=vget_rel (a:=a) hV c
  rw [ht] at this
  have hc:=ZbF this
  cases t with
  | true => exact stepR_cond (t:=true) hc
  | false => exact stepR_cond (t:=false) hc
 | block _ ih => exact ZaH.step ih (fun h => by simpa [Zcd,Zdr,Zb0] using h) fun b a cs S _ => stepR_block
 | inBlock _ ih => exact ZaH.step ih (fun h => by simpa [Zcd,Zdr,Zb0] using h) fun b a cs S _ => stepR_inBlock
 | loop _ ih => exact ZaH.step ih (fun h => by simp only [Zcd,List.all_cons,Zdr,Zb0,Bool.and_eq_true] at h ⊢;exact ⟨h.1,h.1,h.2⟩) fun b a cs S _ => stepR_loop
 | inLoop _ ih => exact ZaH.step ih (fun h => by simp only [Zcd,List.all_cons,Zdr,Zb0,Bool.and_eq_true] at h ⊢;exact ⟨h.1,h.1,h.2⟩) fun b a cs S _ => stepR_inLoop
 | exit he _ ih => exact ZaH.step ih (fun h => Zet he (by simpa [Zcd,Zdr,Zb0] using h)) fun b a cs S _ => stepR_exit he
 | @region fi id ops draw k env L Q0 call ans hot keep s hd hr hA hQ ho hp _ iho ihp ih =>
  have hC:∀ c ∈ s.calls,c.cond = true -> ZbK M c:=by
   intro c hc hcc
   unfold ZbK
   cases hown:c.own with
   | true => exact OwnQ.snd (iho c hc hcc hown)
   | false => exact PureR.snd (ihp c hc hcc hown)
  refine ZaH.after fun S a h5 h6 h7 h8 => ?_
  cases draw with
  | false =>
   exact ZeH (Zcc _ hr hA hQ hC h5 h6 (Zc0 h7) h8 fun S' a' k1 k2 k3 k4 k5 k6 => ⟨S',_,rfl,k1,k2,k3.symm ▸ ih,Zbw k4 keep,k5,k6⟩)
  | true =>
   refine regR_any hm ?_
   obtain ⟨n1,n2⟩:=Zb1 h5 (w':={ S.w with drawn:=S.w.drawn + 1 }) ⟨rfl,rfl,rfl,Nat.le_refl _,fun _ _ => rfl⟩ (fun _ _ => rfl)
   refine draw_sound (hd rfl) ops.size (Array.replicate ops.size false) (List.range ops.size) (S:=⟨S.base,S.acc,S.L,S.β,{ S.w with drawn:=S.w.drawn + 1 }⟩) (by simp) List.pairwise_lt_range (fun i => ?_) (fun j o _ hj => ?_) (by simp) hr hA hQ hC n1 h6 ((Zc0 h7).mono n2) h8 fun S' a' k1 k2 k3 k4 k5 k6 => ⟨S',_,rfl,k1,n2.trans k2,k3.symm ▸ ih,Zbw k4 keep,k5,k6⟩
   ·simp only [List.mem_range]
    constructor
    ·intro h;exact ⟨h,by simp [h]⟩
    ·intro h;exact h.1
   ·by_cases hlt:j < ops.size <;> simp [hlt] at hj
 | @both fi id ops k env L Q0 call ans hot keep rs p e1 L1 asl qs cl hd hr hA hQ ho hp _ iho ihp ih =>
  have hC:∀ c ∈ cl,c.cond = true -> ZbK M c:=by
   intro c hc hcc
   unfold ZbK
   cases hown:c.own with
   | true => exact OwnQ.snd (iho c hc hcc hown)
   | false => exact PureR.snd (ihp c hc hcc hown)
  refine ZaH.after fun S a h5 h6 h7 h8 b k2 cs hb => ?_
  obtain ⟨a',w',⟨S',e0,n1,n2,n3,n4,n5,n6⟩,hs⟩:=both_sound hm hd hr hA hQ hC h5 h6 h7 h8 b k2 cs hb
  exact ⟨a',w',⟨S',e1,e0,n1,n2,n3.symm ▸ ih,n4,n5,n6⟩,hs⟩
 | @ret fi k env L v Q hf hq =>
  intro S b a cs fn h1 h2 h3 h4 h5 h6 h7 h8
  subst h6
  have hn:b.roundOf = none:=by
   rcases h4 with h | h
   ·exact h
   ·simp [Zcd,Zdr,Zb0] at h
  exact ⟨a,_,[],S.w,S.β,v,_,hq,.inr ⟨k,rfl⟩,.inl hn,Steps.refl _ _,rfl,⟨.nil,by simp⟩,fun w'' hne => Zec (S:=⟨S.base,S.acc,S.L,S.β,w''⟩) (near_ok hne h5) (fun t => Rel.at (ZeM hne) (h7 t)) h2 hf,h5,Ext.refl S⟩
 | @done fi env L v Q hf hq =>
  intro S b a cs fn h1 h2 h3 h4 h5 h6 h7 h8
  subst h6
  exact ⟨a,_,[],S.w,S.β,v,_,hq,.inl rfl,.inr ⟨rfl,rfl⟩,Steps.refl _ _,rfl,⟨.nil,by simp⟩,fun w'' hne => Zec (S:=⟨S.base,S.acc,S.L,S.β,w''⟩) (near_ok hne h5) (fun t => Rel.at (ZeM hne) (h7 t)) h2 hf,h5,Ext.refl S⟩
 | @own f args L Q fn c hf hb hn _ ih => exact own_of_run hf hb hn ih
 | @pure f args Q _ ih =>
  intro base acc w cargs hb hac hr
  have hS:HeapOk ⟨base,acc,[],[],w⟩:=⟨hb,rfl,by simp,by simp,by simp,by simp,by simp,by simp,by simp,by simp,fun b off h => hac b off (Nat.le_trans hb h)⟩
  obtain ⟨k1,k2⟩:=ih ⟨base,acc,[],[],w⟩ cargs hS rfl hr
  refine ⟨k1,Calls.mono k2 fun e w' he => ?_⟩
  cases e with
  | returned cv =>
   obtain ⟨v,L',β',⟨d,d',hd,hv,hcl,hw,hq⟩,m1,m2,m3⟩:=he
   refine ⟨d',hq,m2.below,weak_rel hw (pure_rel (S:=⟨base,acc,L',β',w'⟩) (S':=⟨base,acc,[],[],w'⟩) m1 rfl (fun b off hi _ => ?_) v m3 hd hv fun r hr row info q1 q2 off _ _ => ?_)⟩
   ·exact ⟨hi.1,by simp⟩
   ·exact ⟨m1.acq r info off q2,by simp⟩
  | panicked c => exact he.elim
  | outgrown => exact he.elim
 | @narrow fi k env L Q rs env' Lc hn _ ih => exact narrow_sound hn ih
 | @drop f args L v K hk _ ih => exact drop_sound hk ih
 | @less fi k env L Q ks _ ih => exact fun S b a cs fn h1 h2 h3 h4 h5 h6 h7 h8 => ih S b a cs fn h1 h2 h3 h4 h5 h6 (keepV_rel h7 ks) h8
 | @nilq fi id ops k env L Q i keep s hr hA _ ih => exact nil_sound hr hA ih
 | sem h => exact h
 | @mono c Q Q' _ hq ih =>
  cases c with
  | run fi todo env L =>
   intro S b a cs fn h1 h2 h3 h4 h5 h6 h7 h8
   obtain ⟨a',todo',Ds,w',β',v,L',hqq,k⟩:=ih S b a cs fn h1 h2 h3 h4 h5 h6 h7 h8
   exact ⟨a',todo',Ds,w',β',v,L',hq v L' hqq,k⟩
  | own f args L =>
   intro S cargs h1 h2 h3
   obtain ⟨k1,k2⟩:=ih S cargs h1 h2 h3
   refine ⟨k1,Calls.mono k2 fun e w' he => ?_⟩
   cases e with
   | returned cv =>
    obtain ⟨v,L',β',hqq,m⟩:=he
    exact ⟨v,L',β',hq v L' hqq,m⟩
   | panicked c => exact he.elim
   | outgrown => exact he.elim
  | pure f args =>
   intro base acc w cargs h1 h2 h3
   obtain ⟨k1,k2⟩:=ih base acc w cargs h1 h2 h3
   refine ⟨k1,Calls.mono k2 fun e w' he => ?_⟩
   cases e with
   | returned cv =>
    obtain ⟨d,hqq,m⟩:=he
    exact ⟨d,hq d [] hqq,m⟩
   | panicked c => exact he.elim
   | outgrown => exact he.elim
 | @weak f args v d _ hw ih =>
  intro base acc w cargs hb hac hr
  obtain ⟨k1,k2⟩:=ih base acc w cargs hb hac hr
  refine ⟨k1,Calls.mono k2 fun e w' he => ?_⟩
  cases e with
  | returned cv =>
   obtain ⟨d0,⟨rfl,_⟩,m1,m2⟩:=he
   exact ⟨d,⟨rfl,rfl⟩,m1,weak_rel hw m2⟩
  | panicked c => exact he.elim
  | outgrown => exact he.elim
theorem ev_sound {M:Mach} (hm:(M.P ()).follows .mixedOrders = true) {f:FuncId} {args:List AV} {v:AV} (h:Ev M (.pure f args) v []):Zff M f args v:=
 PureR.snd (Zco hm h)
end Go.Av

namespace Go.Av
open Go.RowKit Go.WideShapes Go.ChangeShapes
def TyL (R:TypeId -> List AV -> Prop):List TypeId -> List AV -> Prop
 | [],cs => cs = []
 | t :: ts,cs => ∃ a b,cs = a ++ b /\ R t a /\ TyL R ts b
def aggT (P:Program) (t:TypeId):Bool:=
 match P.underlying t with
 | some (.struct _) | some (.array _ _) => true
 | _ => false
def ZcK (P:Program) (t:TypeId) (cs:List AV):AV:=if aggT P t=true then .agg cs else cs.headD .any
def Ty (P:Program):Nat -> TypeId -> List AV -> Prop
 | 0,_,_ => False
 | n + 1,t,cs =>
  match P.underlying t with
  | some .bool => ∃ b,cs = [.bool b]
  | some (.int k) => ∃ m,cs = [.int k m] /\ k.min <= m /\ m <= k.max
  | some .string => ∃ s,cs = [.str s] /\ s.length <= maxLen
  | some (.slice e) => ∃ xs,cs = [.vec false (P.cellsOf e) xs] /\ xs.length <= maxLen /\ ∀ x ∈ xs,∃ ys,Ty P n e ys /\ x = ZcK P e ys
  | some (.struct fs) => TyL (Ty P n) (fs.toList.map (·.type)) cs
  | some (.array m e) => TyL (Ty P n) (List.replicate m e) cs
  | _ => False
def ZdF (P:Program):Nat -> List Field -> Nat -> Bool
 | off,[],n => off == n
 | off,f :: fs,n => f.offset == off && ZdF P (off + P.cellsOf f.type) fs n
def ZcF (P:Program):Nat -> TypeId -> Bool
 | 0,_ => false
 | n + 1,t =>
  match P.underlying t with
  | some .bool | some (.int _) | some .string => P.cellsOf t == 1
  | some (.slice e) => P.cellsOf t == 1 && ZcF P n e && Nat.blt 0 (P.cellsOf e)
  | some (.struct fs) => (fs.toList.all fun f => ZcF P n f.type) && ZdF P 0 fs.toList (P.cellsOf t)
  | some (.array m e) => ZcF P n e && P.cellsOf t == m * P.cellsOf e
  | _ => false
def S0 (w:World):St:=⟨w.heap.size,fun _ _=>True,[],[],w⟩
structure RelD (w:World) (axs:List AV) (cs:List Value):Prop where
 len:axs.length = cs.length
 plain:axs.all AV.plain = true
 rel:∀ (i:Nat) a c,axs[i]? = some a -> cs[i]? = some c -> DRel (S0 w) a c
theorem RelD.append {w:World} {axs bs:List AV} {cs ds:List Value} (h:RelD w axs cs) (k:RelD w bs ds):RelD w (axs ++ bs) (cs ++ ds):=by
 refine ⟨by simp [h.len,k.len],by simp [List.all_append,h.plain,k.plain],fun i a c ha hc => ?_⟩
 by_cases hi:i < axs.length
 ·rw [List.getElem?_append_left hi] at ha
  rw [List.getElem?_append_left (by rw [<- h.len];exact hi)] at hc
  exact h.rel i a c ha hc
 ·rw [List.getElem?_append_right (by omega)] at ha
  rw [List.getElem?_append_right (by have:=h.len;omega),<- h.len] at hc
  exact k.rel _ a c ha hc
theorem RelD.one {w:World} {a:AV} {c:Value} (hp:a.plain = true) (h:DRel (S0 w) a c):RelD w [a] [c]:=
 ⟨rfl,by simp [hp],fun i x y hx hy => by cases i with
  | zero => simp at hx hy;subst hx;subst hy;exact h
  | succ i => simp at hx⟩
theorem list_of {α:Type} {R:Nat -> α -> Prop}:∀ (n:Nat),(∀ i,i < n -> ∃ x,R i x) -> ∃ xs:List α,xs.length = n /\ ∀ (i:Nat) x,xs[i]? = some x -> R i x
 | 0,_ => ⟨[],rfl,by simp⟩
 | n + 1,h => by
  obtain ⟨xs,h1,h2⟩:=list_of n (fun i hi => h i (by omega))
  obtain ⟨x,hx⟩:=h n (by omega)
  refine ⟨xs ++ [x],by simp [h1],fun i y hy => ?_⟩
  by_cases hi:i < xs.length
  ·rw [List.getElem?_append_left hi] at hy;exact h2 i y hy
  ·rw [List.getElem?_append_right (by omega)] at hy
   have:i = n:=by
    have:=(List.getElem?_eq_some_iff.1 hy).1
    simp at this;omega
   subst this
   rw [h1] at hy
   simp at hy;subst hy;exact hx
section
variable {H:Type} {enc:TypeId × Value->H} {P:Program} {w:World} {sp:Nat->Bool} {held:Bool}
theorem Zfu {R:TypeId -> List AV -> Prop}:∀ (fs:List Field) (off:Nat) (cs:List Value),ZdF P off fs cs.length = true ->
  (∀ f ∈ fs,∃ axs,R f.type axs /\ RelD w axs ((cs.drop f.offset).take (P.cellsOf f.type)) /\ ((cs.drop f.offset).take (P.cellsOf f.type)).length = P.cellsOf f.type) ->
  ∃ axs,TyL R (fs.map (·.type)) axs /\ RelD w axs (cs.drop off)
 | [],off,cs,hl,_ => by
  simp only [ZdF,beq_iff_eq] at hl
  refine ⟨[],rfl,?_⟩
  rw [List.drop_eq_nil_of_le (by omega)]
  exact ⟨rfl,rfl,by simp⟩
 | f :: fs,off,cs,hl,h => by
  simp only [ZdF,Bool.and_eq_true,beq_iff_eq] at hl
  obtain ⟨rfl,hl⟩:=hl
  obtain ⟨axs,h1,h2,h3⟩:=h f (List.mem_cons_self ..)
  obtain ⟨bs,k1,k2⟩:=Zfu fs _ cs hl (fun g hg => h g (List.mem_cons_of_mem _ hg))
  refine ⟨axs ++ bs,⟨axs,bs,rfl,h1,k1⟩,?_⟩
  have:=h2.append k2
  rwa [<- List.drop_drop,List.take_append_drop] at this
theorem read_same {R:TypeId -> List AV -> Prop} {e:TypeId} {z:Nat}:∀ (m:Nat) (cs:List Value),cs.length = m * z ->
  (∀ i,i < m -> ∃ axs,R e axs /\ RelD w axs ((cs.drop (i * z)).take z)) -> ∃ axs,TyL R (List.replicate m e) axs /\ RelD w axs cs
 | 0,cs,hl,_ => by
  have:cs = []:=List.length_eq_zero_iff.1 (by simpa using hl)
  subst this
  exact ⟨[],rfl,rfl,rfl,by simp⟩
 | m + 1,cs,hl,h => by
  obtain ⟨axs,h1,h2⟩:=h 0 (by omega)
  simp only [Nat.zero_mul,List.drop_zero] at h2
  obtain ⟨bs,k1,k2⟩:=read_same (R:=R) (e:=e) (z:=z) m (cs.drop z) (by simp [hl,Nat.add_mul]) fun i hi => by
   obtain ⟨axs,q1,q2⟩:=h (i + 1) (by omega)
   refine ⟨axs,q1,?_⟩
   rw [List.drop_drop]
   have:z + i * z = (i + 1) * z:=by rw [Nat.add_mul];omega
   rw [this];exact q2
  refine ⟨axs ++ bs,⟨axs,bs,rfl,h1,k1⟩,?_⟩
  have:=h2.append k2
  rwa [List.take_append_drop] at this
theorem ZcY:∀ (n:Nat) (t:TypeId) (cs:List Value) (x:DataW H × List MemPlace) (fuel:Nat),ZcF P n t = true -> DataW.trod enc P w 0 sp held fuel t cs = some x ->
  ∃ axs,Ty P n t axs /\ RelD w axs cs /\ cs.length = P.cellsOf t
 | 0,t,cs,x,fuel,hs,_ => by simp [ZcF] at hs
 | n + 1,t,cs,x,fuel,hs,hx => by
  unfold ZcF at hs
  unfold Ty
  split at hs
  ·rename_i hu
   try simp only [hu]
   obtain ⟨b,rfl,_⟩:=DataW.trod_bool hu hx
   exact ⟨[.bool b],⟨b,rfl⟩,.one rfl (.bool b),by simp only [beq_iff_eq] at hs;exact hs.symm⟩
  ·rename_i k hu
   try simp only [hu]
   obtain ⟨m,rfl,_,hw⟩:=DataW.trod_int hu hx
   simp only [Lit.wf,Bool.and_eq_true,decide_eq_true_eq] at hw
   exact ⟨[.int k m],⟨m,rfl,hw.1,hw.2⟩,.one rfl (.int k m),by simp only [beq_iff_eq] at hs;exact hs.symm⟩
  ·rename_i hu
   try simp only [hu]
   obtain ⟨s,rfl,_,hw⟩:=DataW.trod_string hu hx
   obtain ⟨⟨l⟩⟩:=s
   exact ⟨[.str l],⟨l,rfl,hw⟩,.one rfl (.str l),by simp only [beq_iff_eq] at hs;exact hs.symm⟩
  ·rename_i e hu
   try simp only [hu]
   simp only [Bool.and_eq_true,beq_iff_eq,Nat.blt_eq] at hs
   obtain ⟨⟨hs1,hs2⟩,hs3⟩:=hs
   rcases DataW.trod_slice hu hx with ⟨rfl,_⟩ | ⟨a,len,cap,elems,rest,m,_,rfl,_,_,hlc,hcm,hel,hall,_,_⟩
   ·exact ⟨[.vec false (P.cellsOf e) []],⟨[],rfl,by simp,by simp⟩,.one rfl (.vecE _ _ _ _ (by simp)),hs1.symm⟩
   ·have hget:∀ i,i < len -> ∃ x:AV,∃ ys cs',Ty P n e ys /\ x = ZcK P e ys /\ RelD w ys cs' /\ cs'.length = P.cellsOf e /\ w.cells? 0 (a.add (i * P.cellsOf e)) (P.cellsOf e) = some cs':=by
     intro i hi
     have h1:=hall i hi
     rw [List.getElem?_eq_getElem (by omega)] at h1
     obtain ⟨cs',h2,h3⟩:=Option.bind_eq_some_iff.1 h1
     obtain ⟨ys,k1,k2,k3⟩:=ZcY n e cs' _ m hs2 h3
     exact ⟨_,ys,cs',k1,rfl,k2,k3,h2⟩
    obtain ⟨xs,hxl,hxs⟩:=list_of len hget
    have hpack:∀ {ys:List AV} {cs':List Value},Ty P n e ys -> RelD w ys cs' -> cs'.length = P.cellsOf e -> (ZcK P e ys).cells = ys:=by
     intro ys cs' hty hrd hl
     unfold ZcK
     split
     ·rfl
     ·rename_i hagg
      have h1:∃ y,ys = [y]:=by
       cases n with
       | zero => simp [ZcF] at hs2
       | succ n =>
        unfold Ty at hty
        unfold aggT at hagg
        split at hty
        ·obtain ⟨b,rfl⟩:=hty;exact ⟨_,rfl⟩
        ·obtain ⟨b,rfl,_⟩:=hty;exact ⟨_,rfl⟩
        ·obtain ⟨b,rfl,_⟩:=hty;exact ⟨_,rfl⟩
        ·obtain ⟨b,rfl,_⟩:=hty;exact ⟨_,rfl⟩
        ·rename_i hu';simp [hu'] at hagg
        ·rename_i hu';simp [hu'] at hagg
        ·exact hty.elim
      obtain ⟨y,rfl⟩:=h1
      have:=hrd.plain
      simp only [List.all_cons,List.all_nil,Bool.and_true] at this
      simp only [List.headD_cons]
      cases y <;> first | rfl | simp [AV.plain] at this
    have hok:ZaY (P.cellsOf e) xs:=by
     intro i x hix
     obtain ⟨ys,cs',k1,rfl,k3,k4,_⟩:=hxs i x hix
     rw [hpack k1 k3 k4]
     exact ⟨k3.len.trans k4,k3.plain⟩
    refine ⟨[.vec false (P.cellsOf e) xs],⟨xs,rfl,by omega,fun x hx => ?_⟩,.one rfl ?_,hs1.symm⟩
    ·obtain ⟨i,hi⟩:=List.getElem?_of_mem hx
     obtain ⟨ys,cs',k1,k2,_⟩:=hxs i x hi
     exact ⟨ys,k1,k2⟩
    ·subst hxl
     cases hxe:xs with
     | nil => exact .vecE _ _ _ _ (by simp)
     | cons x0 xs0 =>
      obtain ⟨b,off,spot⟩:=a
      have hlen0:0 < xs.length:=by rw [hxe];simp
      obtain ⟨ys0,cs0,_,_,_,z4,z5⟩:=hxs 0 xs[0] (List.getElem?_eq_getElem hlen0)
      obtain ⟨_,_,z6⟩:=World.cells?_some z5
      have z7:=z6 0 hs3
      rw [List.getElem?_eq_getElem (by omega)] at z7
      have hspot:spot = none:=by simpa [Addr.add] using World.cell?_spot z7
      subst hspot
      have hcell:∀ (i:Nat) x (k:Nat) c,xs[i]? = some x -> x.cells[k]? = some c -> ∃ cv,w.cell? ⟨b,off + i * P.cellsOf e + k,none⟩ = some cv /\ DRel (S0 w) c cv:=by
       intro i x k c hix hk
       obtain ⟨ys,cs',k1,rfl,k3,k4,k5⟩:=hxs i x hix
       rw [hpack k1 k3 k4] at hk
       obtain ⟨_,_,k6⟩:=World.cells?_some k5
       have hkl:k < ys.length:=(List.getElem?_eq_some_iff.1 hk).1
       have hkc:k < cs'.length:=by rw [<- k3.len];exact hkl
       have h1:=k6 k (by omega)
       rw [List.getElem?_eq_getElem hkc] at h1
       rw [ZaZ,ZaZ] at h1
       exact ⟨_,h1,k3.rel k c _ hk (List.getElem?_eq_getElem hkc)⟩
      rw [<- hxe]
      refine .vec false (P.cellsOf e) xs b off cap hok (by simp) hlc (fun i x k c hix hk => ?_) (fun i x k c cv hix hk hcv => ?_)
      ·obtain ⟨cv,h1,_⟩:=hcell i x k c hix hk
       exact ⟨⟨cv,h1⟩,⟨trivial,by simp [S0]⟩⟩
      ·obtain ⟨cv',h1,h2⟩:=hcell i x k c hix hk
       have:cv' = cv:=by
        have h3:w.cell? ⟨b,off + i * P.cellsOf e + k,none⟩ = some cv:=hcv
        rw [h1] at h3;exact Option.some.inj h3
       subst this;exact h2
  ·rename_i fs hu
   try simp only [hu]
   simp only [Bool.and_eq_true,List.all_eq_true] at hs
   obtain ⟨hs1,hs2⟩:=hs
   obtain ⟨xs,m,_,_,hl,hxl,hf⟩:=DataW.trod_struct hu hx
   obtain ⟨axs,k1,k2⟩:=Zfu (P:=P) (w:=w) (R:=Ty P n) fs.toList 0 cs (by rw [hl];exact hs2) fun f hfm => by
    obtain ⟨i,hi⟩:=List.getElem?_of_mem hfm
    have hi':fs[i]? = some f:=by simpa using hi
    have h1:=hf i f hi'
    have hilt:i < xs.length:=by rw [hxl];exact (Array.getElem?_eq_some_iff.1 hi').1
    rw [List.getElem?_eq_getElem hilt] at h1
    obtain ⟨axs,q1,q2,q3⟩:=ZcY n f.type _ _ m (hs1 f hfm) h1
    exact ⟨axs,q1,q2,q3⟩
   exact ⟨axs,k1,by simpa using k2,hl⟩
  ·rename_i m e hu
   try simp only [hu]
   simp only [Bool.and_eq_true,beq_iff_eq] at hs
   obtain ⟨hs1,hs2⟩:=hs
   obtain ⟨xs,q,_,_,hl,hxl,hf⟩:=DataW.trod_array hu hx
   obtain ⟨axs,k1,k2⟩:=read_same (w:=w) (R:=Ty P n) (e:=e) (z:=P.cellsOf e) m cs (by rw [hl,hs2]) fun i hi => by
    have h1:=hf i hi
    rw [List.getElem?_eq_getElem (by omega)] at h1
    obtain ⟨axs,q1,q2,_⟩:=ZcY n e _ _ q hs1 h1
    exact ⟨axs,q1,q2⟩
   exact ⟨axs,k1,k2,hl⟩
  ·simp at hs
theorem read_arg {n:Nat} {t:TypeId} {v:Value} {d:DataW H} {ps:List MemPlace} {r:Reach} {b0:Nat} (hs:ZcF P n t = true) (hval:Value.okWide P w r b0 t v) (hd:DataW.Trod enc P w 0 sp held t v d ps) :
  ∃ axs,Ty P n t axs /\ DRel (S0 w) (ZcK P t axs) v:=by
 obtain ⟨fuel,hf⟩:=hd
 obtain ⟨axs,h1,h2,h3⟩:=ZcY n t _ _ fuel hs hf
 refine ⟨axs,h1,?_⟩
 unfold ZcK
 cases n with
 | zero => simp [ZcF] at hs
 | succ n =>
  have one:v.cells = #[v] -> (∃ a,axs = [a]) -> DRel (S0 w) (axs.headD .any) v:=by
   rintro hc ⟨a,rfl⟩
   exact h2.rel 0 a v rfl (by rw [hc];rfl)
  unfold Ty at h1
  unfold aggT
  split at h1
  ·rename_i hu
   obtain ⟨b,rfl⟩:=h1
   obtain ⟨b',rfl⟩:=okWide_bool hu hval
   simp only [hu,Bool.false_eq_true,if_false]
   exact one rfl ⟨_,rfl⟩
  ·rename_i hu
   obtain ⟨b,rfl,_⟩:=h1
   obtain ⟨b',rfl⟩:=okWide_int hu hval
   simp only [hu,Bool.false_eq_true,if_false]
   exact one rfl ⟨_,rfl⟩
  ·rename_i hu
   obtain ⟨b,rfl,_⟩:=h1
   obtain ⟨b',rfl⟩:=okWide_string hu hval
   simp only [hu,Bool.false_eq_true,if_false]
   exact one rfl ⟨_,rfl⟩
  ·rename_i hu
   obtain ⟨b,rfl,_⟩:=h1
   obtain ⟨b1,b2,b3,rfl⟩:=okWide_slice hu hval
   simp only [hu,Bool.false_eq_true,if_false]
   exact one rfl ⟨_,rfl⟩
  ·rename_i fs hu
   obtain ⟨cs,rfl,_⟩:=okWide_struct hu hval
   simp only [hu,if_true]
   obtain ⟨cs⟩:=cs
   exact .agg axs cs h2.len h2.rel
  ·rename_i m e hu
   have:∃ cs,v = .agg cs:=by
    unfold Value.okWide at hval
    rw [hu] at hval
    obtain ⟨cs,rfl,_⟩:=hval
    exact ⟨cs,rfl⟩
   obtain ⟨⟨cs⟩,rfl⟩:=this
   simp only [hu,if_true]
   exact .agg axs cs h2.len h2.rel
  ·exact h1.elim
end
theorem Zdq {P:Program} {n:Nat} {t:TypeId} {fs:Array Field} {cs:List AV} (hu:P.underlying t = some (.struct fs)) (h:Ty P (n + 1) t cs):TyL (Ty P n) (fs.toList.map (·.type)) cs:=by
 unfold Ty at h;rw [hu] at h;exact h
theorem Zdd {P:Program} {n:Nat} {t:TypeId} {k:IntKind} {cs:List AV} (hu:P.underlying t = some (.int k)) (h:Ty P (n + 1) t cs):∃ m,cs = [.int k m] /\ k.min <= m /\ m <= k.max:=by
 unfold Ty at h;rw [hu] at h;exact h
theorem list_form {τ:Type} {enc:τ -> AV}:∀ (xs:List AV),(∀ x ∈ xs,∃ a,x = enc a) -> ∃ X:List τ,xs = X.map enc
 | [],_ => ⟨[],rfl⟩
 | x :: xs,h => by
  obtain ⟨a,rfl⟩:=h x (List.mem_cons_self ..)
  obtain ⟨X,rfl⟩:=list_form xs fun y hy => h y (List.mem_cons_of_mem _ hy)
  exact ⟨a :: X,rfl⟩
theorem ty_list {P:Program} {τ:Type} {enc:τ -> AV} {n:Nat} {t e:TypeId} {cs:List AV} (hu:P.underlying t = some (.slice e)) (he:∀ ys,Ty P n e ys -> ∃ a,ZcK P e ys = enc a) (h:Ty P (n + 1) t cs) :
  ∃ X:List τ,cs = [.vec false (P.cellsOf e) (X.map enc)] /\ X.length <= maxLen:=by
 simp only [Ty,hu] at h
 obtain ⟨xs,rfl,hl,hx⟩:=h
 obtain ⟨X,rfl⟩:=list_form (enc:=enc) xs fun x hxm => by
  obtain ⟨ys,h1,rfl⟩:=hx x hxm
  obtain ⟨a,ha⟩:=he ys h1
  exact ⟨a,ha⟩
 exact ⟨X,rfl,by simpa using hl⟩
end Go.Av

namespace Go.Av
open Go.RowKit Go.WideShapes Go.ChangeShapes
section
variable {H:Type} {enc:TypeId × Value->H} {P:Program}
theorem all_stays (hl:laidOutB P = true) {W W':World} {sp:Nat -> Bool} (hb:Below W.heap.size W W'):∀ (ts:List TypeId) (vs:List Value) (ds:List (DataW H)) (ps:List MemPlace),
  (∀ t ∈ ts,P.readableRec t = true /\ t < P.types.size) -> (∀ x ∈ ps,x.block < W.heap.size) -> (∀ x ∈ ps,sp x.block = true) -> DataW.TrodAll enc P W 0 (fun _ => true) true ts vs ds ps -> DataW.TrodAll enc P W' 0 sp true ts vs ds ps
 | [],vs,ds,ps,_,_,_,h => by
  obtain ⟨rfl,rfl,rfl⟩:=trodAll_nil h
  rfl
 | t :: ts,vs,ds,ps,ht,hlt,hsp,h => by
  obtain ⟨v,vs,d,ds,p,q,rfl,rfl,rfl,h1,h2⟩:=trodAll_cons h
  obtain ⟨r1,r2⟩:=ht t (List.mem_cons_self ..)
  exact ⟨p,q,WideElems.Trod_stays hl r1 r2 h1 (fun x hx => hb.same (hlt x (by simp [hx]))) (fun x hx => hsp x (by simp [hx])),
   all_stays hl hb ts vs ds q (fun t ht' => ht t (List.mem_cons_of_mem _ ht')) (fun x hx => hlt x (by simp [hx])) (fun x hx => hsp x (by simp [hx])) h2,rfl⟩
theorem args_read {W:World} {n base:Nat}:∀ (ts:List TypeId) (vs:List Value) (ds:List (DataW H)) (ps:List MemPlace),(∀ t ∈ ts,ZcF P n t = true) ->
  (∀ (j:Nat) t v,ts[j]? = some t -> vs[j]? = some v -> Value.okWide P W .any base t v) -> DataW.TrodAll enc P W 0 (fun _ => true) true ts vs ds ps ->
  ∃ ass:List (List AV),ass.length = ts.length /\ (∀ (j:Nat) t bs,ts[j]? = some t -> ass[j]? = some bs -> Ty P n t bs) /\ RelL (S0 W) ((ts.zip ass).map fun x => ZcK P x.1 x.2) vs /\ ds.length = ts.length
 | [],vs,ds,ps,_,_,h => by
  obtain ⟨rfl,rfl,rfl⟩:=trodAll_nil h
  exact ⟨[],rfl,by simp,.nil _,rfl⟩
 | t :: ts,vs,ds,ps,hs,hv,h => by
  obtain ⟨v,vs,d,ds,p,q,rfl,rfl,rfl,h1,h2⟩:=trodAll_cons h
  obtain ⟨bs,k1,k2⟩:=read_arg (hs t (List.mem_cons_self ..)) (hv 0 t v rfl rfl) h1
  obtain ⟨ass,m1,m2,m3,m4⟩:=args_read ts vs ds q (fun t ht => hs t (List.mem_cons_of_mem _ ht)) (fun j t v hj hv' => hv (j + 1) t v (by simpa using hj) (by simpa using hv')) h2
  refine ⟨bs :: ass,by simp [m1],fun j t' bs' hj ha => ?_,.cons (.data _ _ k2) m3,by simp [m4]⟩
  cases j with
  | zero => simp at hj ha;subst hj;subst ha;exact k1
  | succ j => exact m2 j t' bs' (by simpa using hj) (by simpa using ha)
theorem law_post {M:Mach} (hP:M.P () = P) (hm:P.follows .mixedOrders = true) (hl:laidOutB P = true) {f:FuncId} {F:Func} {s:ChangeSpec} {n:Nat} {tb:TypeId} (hvars:s.vars = []) (hrt:F.resultTypes = #[tb]) (htb:P.underlying tb = some .bool)
  (hserved:∀ t ∈ F.params.toList,ZcF P n t = true /\ P.readableRec t = true /\ t < P.types.size)
  (hs:∀ (ds:List (DataW H)),ds.length = F.params.toList.length -> s.fn H ds = { results:=[.lit (.bool true)],args:=ds })
  (hev:∀ ass:List (List AV),ass.length = F.params.toList.length -> (∀ (j:Nat) t bs,F.params.toList[j]? = some t -> ass[j]? = some bs -> Ty P n t bs) ->
   Ev M (.pure f ((F.params.toList.zip ass).map fun x => ZcK P x.1 x.2)) (.bool true) [])
  {apart handsOn:Bool} {W:World} {base:Nat} {args:Array Value} {ds gs:List (DataW H)} {before:List MemPlace}
  (hval:∀ (j:Nat) t v,F.params[j]? = some t -> args[j]? = some v -> Value.okWide P W .any base t v) (hW:DataW.Whole enc P F.params.toList s.vars apart W args.toList ds gs before) :
  Calls P f args W fun e W' => ∃ v,e = .returned v /\ s.post enc P F apart true handsOn false W args v W':=by
 have hW':=hW
 obtain ⟨p,q,hA,hV,rfl,hfz,hnd⟩:=hW
 rw [hvars] at hV
 obtain ⟨rfl,rfl⟩:=trodVars_none hV
 obtain ⟨ass,k1,k2,k3,k4⟩:=args_read F.params.toList args.toList ds p (fun t ht => (hserved t ht).1) (fun j t v hj hv => hval j t v (by simpa using hj) (by simpa using hv)) hA
 have hlt:∀ x ∈ p,x.block < W.heap.size:=fun x hx => by simpa using hW'.lt x (by simpa using hx)
 obtain ⟨_,h2⟩:=(ev_sound (M:=M) (by rw [hP];exact hm) (hev ass k1 k2):Zff M f _ _) W.heap.size (fun _ _ => True) W args.toList (Nat.le_refl _) (fun _ _ _ => trivial) k3
 rw [hP] at h2
 refine Calls.mono h2 fun e W' he => ?_
 cases e with
 | returned cv =>
  obtain ⟨hb,hd⟩:=he
  cases hd
  have hpl:∀ x ∈ p,decide (x.block < W.heap.size) = true:=fun x hx => by simpa using hlt x hx
  refine ⟨_,rfl,ds,[],p ++ [],[],p,[],hW',?_,?_,?_,hb.frame _,fun h => by simp at h⟩
  ·rw [List.append_nil,hs ds k4,hrt]
   exact trodAll_mk1 (shut_bool htb true)
  ·rw [List.append_nil,hs ds k4]
   exact all_stays hl hb _ _ _ _ (fun t ht => (hserved t ht).2) hlt hpl hA
  ·rw [List.append_nil,hs ds k4,hvars];rfl
 | panicked c => exact he.elim
 | outgrown => exact he.elim
end
end Go.Av

namespace Go.Av
def Zak (d:AV):AV->Heap->Prop:=fun v L => ∃ d0,pureA L v=some d0/\allB (versA L v)/\d0.clean=true/\Weak d0 d
theorem pq_weak {L:Heap} {v d dq:AV} {bs:List Bool} (h1:pureA L v=some d) (h2:versA L v=bs) (h3:allB bs) (h4:d.clean=true) (h:Weak d dq):Zak dq v L:=⟨d,h1,by rw [h2];exact h3,h4,h⟩
theorem pure_pq {M:Mach} {f:FuncId} {args:List AV} {d:AV} (fn:Func) (fi:Fi) (hf:(M.P ()).funcs[f]? = some fn) (hb:fn.body = some (cd fn)) (hn:(fn.name == "runtime.NumGoroutine") = false)
  (hi:(⟨fn.ntmps,fn.results.toList⟩:Fi) = fi) (h:Wp M (.run fi [.code (cd fn)] (ZbO 0 args) []) (Zak d)):Ev M (.pure f args) d []:=
 .pure (.mono (own_wp fn fi hf hb hn hi h) fun _ _ ⟨d0,h1,h2,h3,h4⟩ => ⟨d0,d,h1,(Zb9 _).1 h2,h3,h4,rfl,rfl⟩)
mutual
theorem clean_ren (f:Nat -> Nat):∀ (a:AV),a.clean = true -> renA f a = a
 | .any,h => by simp [AV.clean] at h
 | .bool _,_ => rfl
 | .int _ _,_ => rfl
 | .str _,_ => rfl
 | .flt _,_ => rfl
 | .nilp,_ => rfl
 | .nilf,_ => rfl
 | .nilm,_ => rfl
 | .mapr _,h => by simp [AV.clean] at h
 | .vnil,_ => rfl
 | .eptr ..,_ => rfl
 | .vec ..,_ => rfl
 | .ptr ..,h => by simp [AV.clean] at h
 | .row ..,h => by simp [AV.clean] at h
 | .ref ..,h => by simp [AV.clean] at h
 | .agg cs,h => by simp only [renA,cleanL_ren f cs (by simpa [AV.clean] using h)]
 | .tup cs,h => by simp only [renA,cleanL_ren f cs (by simpa [AV.clean] using h)]
 | .func fn a b,h => by
  simp only [AV.clean,Bool.and_eq_true] at h
  simp only [renA,cleanL_ren f a h.1,cleanL_ren f b h.2]
theorem cleanL_ren (f:Nat -> Nat):∀ (l:List AV),cleanL l = true -> renL f l = l
 | [],_ => rfl
 | c :: l,h => by
  simp only [cleanL,Bool.and_eq_true] at h
  simp only [renL,clean_ren f c h.1,cleanL_ren f l h.2]
end
mutual
theorem pureA_ren {L K:Heap} {f:Nat -> Nat} (hb:∀ (r:Nat) row,L[r]? = some row -> K[f r]? = some (Zaf f row)):∀ (a:AV) {d:AV},pureA L a = some d -> pureA K (renA f a) = some d /\ versA K (renA f a) = versA L a
 | .any,_,h => by simp [pureA] at h
 | .bool b,_,h => ⟨h,rfl⟩
 | .int k n,_,h => ⟨h,rfl⟩
 | .str s,_,h => ⟨h,rfl⟩
 | .flt s,_,h => ⟨h,rfl⟩
 | .nilp,_,h => ⟨h,rfl⟩
 | .nilf,_,h => ⟨h,rfl⟩
 | .nilm,_,h => ⟨h,rfl⟩
 | .mapr _,_,h => by simp [pureA] at h
 | .vnil,_,h => ⟨h,rfl⟩
 | .eptr ..,_,h => ⟨h,rfl⟩
 | .vec ..,_,h => ⟨h,rfl⟩
 | .row r v,_,h => by
  cases hr:L[r]? with
  | none => simp [pureA,hr] at h
  | some row =>
   have h2:=hb r row hr
   obtain ⟨_,s2,_,_,_⟩:=Zay f row
   simp only [pureA,hr] at h
   split at h
   ·rename_i hc
    have e:Zaf f row = row:=by simp [Zaf,hc]
    exact ⟨by simp only [renA,pureA,h2,e,hc,if_true];exact h,by simp only [renA,versA,ZbS,h2,hr,s2]⟩
   ·simp at h
 | .ref r v lo len,_,h => by
  cases hr:L[r]? with
  | none => simp [pureA,hr] at h
  | some row =>
   have h2:=hb r row hr
   obtain ⟨_,s2,_,_,_⟩:=Zay f row
   simp only [pureA,hr] at h
   split at h
   ·rename_i hc
    have e:Zaf f row = row:=by simp [Zaf,hc]
    exact ⟨by simp only [renA,pureA,h2,e,hc,if_true];exact h,by simp only [renA,versA,ZbS,h2,hr,s2]⟩
   ·simp at h
 | .ptr r v i j,_,h => by
  cases hr:L[r]? with
  | none => simp [pureA,hr] at h
  | some row =>
   have h2:=hb r row hr
   obtain ⟨s1,s2,_,_,_⟩:=Zay f row
   simp only [pureA,hr] at h
   split at h
   ·rename_i x hx
    split at h
    ·rename_i hcx
     have e:(Zaf f row).elems = [x]:=by
      unfold Zaf
      cases hc:row.clean with
      | true => simpa using hx
      | false => simp only [cond_false,hx,renL,clean_ren f x hcx]
     exact ⟨by simp only [renA,pureA,h2,e,hcx,s1,if_true];exact h,by simp only [renA,versA,ZbS,h2,hr,s2]⟩
    ·simp at h
   ·simp at h
 | .agg cs,_,h => by
  cases hr:pureL L cs with
  | none => simp [pureA,hr] at h
  | some ds =>
   obtain ⟨h1,h2⟩:=pureL_ren hb cs hr
   exact ⟨by simpa only [renA,pureA,h1,hr] using h,by simp only [renA,versA,h2]⟩
 | .tup cs,_,h => by
  cases hr:pureL L cs with
  | none => simp [pureA,hr] at h
  | some ds =>
   obtain ⟨h1,h2⟩:=pureL_ren hb cs hr
   exact ⟨by simpa only [renA,pureA,h1,hr] using h,by simp only [renA,versA,h2]⟩
 | .func fn a b,_,h => by
  cases hr:pureL L a with
  | none => simp [pureA,hr] at h
  | some ds =>
   cases hr2:pureL L b with
   | none => simp [pureA,hr,hr2] at h
   | some ds2 =>
    obtain ⟨h1,h2⟩:=pureL_ren hb a hr
    obtain ⟨h3,h4⟩:=pureL_ren hb b hr2
    exact ⟨by simpa only [renA,pureA,h1,h3,hr,hr2] using h,by simp only [renA,versA,h2,h4]⟩
theorem pureL_ren {L K:Heap} {f:Nat -> Nat} (hb:∀ (r:Nat) row,L[r]? = some row -> K[f r]? = some (Zaf f row)):∀ (l:List AV) {ds:List AV},pureL L l = some ds -> pureL K (renL f l) = some ds /\ versL K (renL f l) = versL L l
 | [],_,h => ⟨h,rfl⟩
 | c :: l,_,h => by
  cases hr:pureA L c with
  | none => simp [pureL,hr] at h
  | some d =>
   cases hr2:pureL L l with
   | none => simp [pureL,hr,hr2] at h
   | some ds2 =>
    obtain ⟨h1,h2⟩:=pureA_ren hb c hr
    obtain ⟨h3,h4⟩:=pureL_ren hb l hr2
    exact ⟨by simpa only [renL,pureL,h1,h3,hr,hr2] using h,by simp only [renL,versL,h2,h4]⟩
end
theorem back_at {L L1:Heap} {rs:List Nat} {rows:List Row} (hrows:Zax L rs = some rows) (hnd:rs.Nodup) (r:Nat) (row:Row) (h:L1[r]? = some row) :
  (Zd0 L rs L1)[Zcm L.length rs r]? = some (Zaf (Zcm L.length rs) row):=by
 obtain ⟨g1,g2⟩:=Zau hrows
 unfold Zd0
 by_cases hlt:r < rs.length
 ·have hb:Nat.blt r rs.length = true:=Nat.blt_eq.mpr hlt
  have e:Zcm L.length rs r = rs[r]:=by simp [Zcm,hb,hlt]
  obtain ⟨row0,k1,_⟩:=g2 r _ (List.getElem?_eq_getElem hlt)
  have hin:rs[r] < L.length:=(List.getElem?_eq_some_iff.1 k1).1
  rw [e,List.getElem?_append_left (by rw [Zav];exact hin)]
  exact Zdz rs _ _ hnd r _ _ (List.getElem?_eq_getElem hlt) (by rw [List.getElem?_map,List.getElem?_take_of_lt hlt,h];rfl) hin
 ·have hb:Nat.blt r rs.length = false:=by
   cases hb:Nat.blt r rs.length with
   | false => rfl
   | true => have:=Nat.blt_eq.mp hb;omega
  have e:Zcm L.length rs r = L.length + (r - rs.length):=by simp [Zcm,hb]
  rw [e,List.getElem?_append_right (by rw [Zav];omega),Zav,List.getElem?_map,List.getElem?_drop]
  have e2:rs.length + (L.length + (r - rs.length) - L.length) = r:=by omega
  rw [e2,h];rfl
theorem ZcC {M:Mach} {fi:Fi} {k:List Item} {env env':Vars} {L Lc:Heap} {d:AV} (rs:List Nat) (hn:ZbG L rs env = some (env',Lc)) (h:Wp M (.run fi k env' Lc) (Zak d)):Wp M (.run fi k env L) (Zak d):=by
 refine .narrow rs env' Lc hn (.mono h fun v L1 ⟨d0,hq1,hq2,hq3,hq4⟩ => ?_)
 unfold ZbG at hn
 split at hn
 ·rename_i rows hrows
  split at hn
  ·rename_i hc
   simp only [Bool.and_eq_true] at hc
   obtain ⟨p1,p2⟩:=pureA_ren (back_at (L1:=L1) hrows ((Zbp rs).1 hc.1)) v hq1
   exact ⟨d0,p1,by rw [p2];exact hq2,hq3,hq4⟩
  ·simp at hn
 ·simp at hn
end Go.Av

namespace Go.Av
open Go.Proofs
noncomputable def M1:Mach:=⟨fun _=>Try.prog,fun f=>[9,10,11,12,13,14,15,19,22,42,43,45,47,52,16,66].contains f⟩
end Go.Av

namespace Go.Av
abbrev vi:Int->AV:=AV.int .i64
abbrev us (l:List Int):List AV:=List.map (AV.int .u32) l
abbrev wi (x:Int):Int:=IntKind.i64.wrap x
abbrev ag (l:List AV):AV:=.agg l
abbrev tu (l:List AV):AV:=.tup l
abbrev vb (b:Bool):AV:=.bool b
abbrev gi {α:Type} (l:List α) (i:Nat):Option α:=l.get?Internal i
theorem b0:allB []:=trivial
theorem bc {b:Bool} {l:List Bool} (h:b=true) (r:allB l):allB (b::l):=⟨h,r⟩
theorem q0:allP []:=trivial
theorem qc {p:Prop} {l:List Prop} (h:p) (r:allP l):allP (p::l):=⟨h,r⟩
theorem c0 {M:Mach}:allC M []:=trivial
theorem cc {M:Mach} {c:CF} {l:List CF} (h:c.cond=true->c.ok M) (r:allC M l):allC M (c::l):=⟨h,r⟩
theorem xq {P A B : Prop} (H : (P -> A) /\ (¬P -> B)) : (P /\ A) \/ (¬P /\ B) := (Classical.em P).elim (fun k => .inl ⟨k, H.1 k⟩) fun k => .inr ⟨k, H.2 k⟩
theorem xm (p:Prop):p\/¬p:=Classical.em p
abbrev pc (f:Nat) (args:List AV) (v:AV):CF:=⟨true,false,f,args,[],v,[]⟩
theorem ce {M:Mach} {f:Nat} {args:List AV} {v:AV} {l:List CF} (h:Ev M (.pure f args) v []) (r:allC M l):allC M (pc f args v::l):=⟨fun _=>h,r⟩
def retP (M:Mach) (fi:Fi) (G:Given) (n:Nat) (ds:List Bool) (todo:List Item) (env:Vars) (L:Heap):Option (AV × List Bool × List Prop × List CF):=
 match path M fi G n ds ⟨todo,env,L,[],[],[]⟩ with
 | some ⟨.code .ret :: _,env',L',asm,eqs,calls⟩ => match finish M.P fi env' L' with
  | some v => match pureA L' v with
   | some d => bif (versA L' v).all id && d.clean then some (d,asm,eqs,calls) else none
   | none => none
  | none => none
 | _ => none
theorem Zam {M:Mach} {fi:Fi} {G:Given} (n:Nat) (ds:List Bool) {todo:List Item} {env:Vars} {L:Heap} {asm:List Bool} {eqs:List Prop} {calls:List CF} (d:AV) {dq:AV}
  (h:retP M fi G n ds todo env L = some (d,asm,eqs,calls)) (hA:allB asm) (hQ:allP eqs) (hC:allC M calls) (w:Weak d dq):Wp M (.run fi todo env L) (Zak dq):=by
 unfold retP at h
 split at h
 ·rename_i k env' L' asm' eqs' calls' hp
  split at h
  ·rename_i v hf
   split at h
   ·rename_i d' hd
    cases hb:((versA L' v).all id && d'.clean) with
    | false => rw [hb] at h;simp at h
    | true =>
     rw [hb] at h
     simp only [cond_true,Option.some.injEq,Prod.mk.injEq] at h
     obtain ⟨rfl,rfl,rfl,rfl⟩:=h
     rw [Bool.and_eq_true,List.all_eq_true] at hb
     exact Zah n ds _ hp hA hQ hC (.ret hf ⟨_,hd,(Zb9 _).2 hb.1,hb.2,w⟩)
   ·simp at h
  ·simp at h
 ·simp at h
theorem Zae {M:Mach} {fi:Fi} {G:Given} (n:Nat) (ds:List Bool) {todo:List Item} {env:Vars} {L:Heap} {asm:List Bool} {eqs:List Prop} {calls:List CF} (d:AV) {dq:AV}
  (h:retP M fi G n ds todo env L = some (d,asm,eqs,calls)) (hA:allB asm) (hQ:allP eqs) (hC:allC M calls) (w:d = dq):Wp M (.run fi todo env L) (Zak dq):=
 Zam n ds d h hA hQ hC (by rw [w];exact .refl _)
theorem pcl {M:Mach} {f:FuncId} {args:List AV} {d:AV} (fn:Func) (fi:Fi) (h0:((M.P ()).funcs[f]?,fn.body,fn.name == "runtime.NumGoroutine",(⟨fn.ntmps,fn.results.toList⟩:Fi)) = (some fn,some (cd fn),false,fi)) (h:Wp M (.run fi [.code (cd fn)] (ZbO 0 args) []) (Zak d)):Ev M (.pure f args) d []:=
 pure_pq fn fi (congrArg (fun x => x.1) h0) (congrArg (fun x => x.2.1) h0) (congrArg (fun x => x.2.2.1) h0) (congrArg (fun x => x.2.2.2) h0) h
abbrev wc (M:Mach) (fi:Fi) (fn:Func) (args:List AV) (d:AV):Prop:=Wp M (.run fi [.code (cd fn)] (ZbO 0 args) []) (Zak d)
end Go.Av

namespace Go.Av
open Go.Proofs
set_option maxRecDepth 100000
def fi56:Fi:=⟨9,[.tmp 2]⟩
def kp56:List (Nat × List Nat):=[(0,[0]),(1,[2])]
def pIn_at (n:Int) (Q:AV->Heap->Prop):Prop:=Wp M1 (.run fi56 (atC (cd Try.f56) []) [(0,.int .i64 n)] []) Q
theorem call56 {args:List AV} {d:AV} (h:wc M1 fi56 Try.f56 args d):Ev M1 (.pure 56 args) d []:=pcl _ _ (by kernel_rfl) h
theorem pIn (n:Int)  (dq:AV) (H :
  vb (bif decide (n >= -10000000) then decide (n <= 10000000) else false) = dq) :
 pIn_at n (Zak dq):=by
 unfold pIn_at
 exact Zae (G:=Zad kp56 [] []) 1000 [] (vb (bif decide (n >= -10000000) then decide (n <= 10000000) else false)) (by kernel_rfl) b0 q0 c0 H
end Go.Av

namespace Go.Av
open Go.Proofs
namespace Sp
def pM (n:Int):Prop:=-10000000<=n/\n<=10000000
def pP (x y z:Int):Prop:=pM x/\pM y/\pM z
end Sp
instance (n:Int):Decidable (Sp.pM n):=by unfold Sp.pM;infer_instance
instance (x y z:Int):Decidable (Sp.pP x y z):=by unfold Sp.pP;infer_instance
theorem Zdn {p q:Prop} [Decidable p] [Decidable q]:(bif decide p then decide q else false) = decide (p /\ q):=by
 by_cases h:p
 ·by_cases k:q
  ·rw [decide_eq_true h,decide_eq_true k,decide_eq_true ⟨h,k⟩];rfl
  ·rw [decide_eq_true h,decide_eq_false k,decide_eq_false (show ¬(p /\ q) from fun x => k x.2)];rfl
 ·rw [decide_eq_false h,decide_eq_false (show ¬(p /\ q) from fun x => h x.1)];rfl
theorem ZcR {p q:Prop} [Decidable p] [Decidable q] (h:p ↔ q):decide p = decide q:=by
 by_cases k:q
 ·rw [decide_eq_true k,decide_eq_true (h.2 k)]
 ·rw [decide_eq_false k,decide_eq_false fun x => k (h.1 x)]
theorem ev56 (n:Int):Ev M1 (.pure 56 [.int .i64 n]) (.bool (decide (Sp.pM n))) []:=
 call56 (pIn _ _ (by rw [Zdn];exact congrArg AV.bool (ZcR Iff.rfl)))
end Go.Av

namespace Go.Av
open Go.Proofs
structure Ln where
 n:Int
 l:Int
 deriving Inhabited,DecidableEq
def Ln.a (p:Ln):AV:=.agg [.int .i64 p.n,.int .i64 p.l]
structure Pp where
 x:Int
 y:Int
 z:Int
 deriving Inhabited,DecidableEq
def Pp.a (p:Pp):AV:=.agg [.int .i64 p.x,.int .i64 p.y,.int .i64 p.z]
end Go.Av

namespace Go.Av
open Go.Proofs
def Sp.t16 (x:Int):Prop:=-32768<=x/\x<=32767
theorem pack114 (cs:List AV):ZcK Try.prog 114 cs = .agg cs:=by
 simp [ZcK,aggT,Try.underlying114]
theorem pack62 (cs:List AV):ZcK Try.prog 62 cs = .agg cs:=by
 simp [ZcK,aggT,Try.underlying62]
theorem pack66 (cs:List AV):ZcK Try.prog 66 cs = .agg cs:=by
 simp [ZcK,aggT,Try.underlying66]
theorem pack5 (x:AV):ZcK Try.prog 5 [x] = x:=by
 simp [ZcK,aggT,Try.underlying5]
theorem cells114:Try.prog.cellsOf 114=2:=by kernel_rfl
theorem cells23:Try.prog.cellsOf 23=3:=by kernel_rfl
set_option maxRecDepth 100000 in
theorem ZcV {n:Nat} {cs:List AV} (h:Ty Try.prog (n + 1 + 1) 42 cs):∃ x0 x1 x2:Int,cs = [.int .i64 x0,.int .i64 x1,.int .i64 x2]:=by
 have h:=Zdq Try.underlying42 h
 obtain ⟨a0,b0,rfl,h0,a1,b1,rfl,h1,a2,b2,rfl,h2,rfl⟩:=h
 obtain ⟨x0,rfl,_⟩:=Zdd Try.underlying2 h0
 obtain ⟨x1,rfl,_⟩:=Zdd Try.underlying2 h1
 obtain ⟨x2,rfl,_⟩:=Zdd Try.underlying2 h2
 exact ⟨x0,x1,x2,rfl⟩
set_option maxRecDepth 100000 in
theorem tolens_ty {n:Nat} {cs:List AV} (h:Ty Try.prog (n + 1 + 1 + 1) 60 cs):∃ o:List Ln,cs = [.vec false 2 (o.map Ln.a)]:=by
 obtain ⟨o,rfl,_⟩:=ty_list (τ:=Ln) (enc:=Ln.a) Try.underlying60 (fun ys hy => by
  have hy:=Zdq Try.underlying114 hy
  obtain ⟨a0,b0,rfl,h0,a1,b1,rfl,h1,rfl⟩:=hy
  obtain ⟨x0,rfl,_⟩:=Zdd Try.underlying2 h0
  obtain ⟨x1,rfl,_⟩:=Zdd Try.underlying2 h1
  exact ⟨⟨x0,x1⟩,by rw [pack114];rfl⟩) h
 rw [cells114];exact ⟨o,rfl⟩
set_option maxRecDepth 100000 in
theorem tosix_ty {n:Nat} {cs:List AV} (h:Ty Try.prog (n + 1 + 1 + 1) 59 cs):∃ A B C D E F G I J K N O R T U V Y Z:Int,cs = [.int .i64 A,.int .i64 B,.int .i64 C,.int .i64 D,.int .i64 E,.int .i64 F,.int .i64 G,.int .i64 I,.int .i64 J,.int .i64 K,.int .i64 N,.int .i64 O,.int .i64 R,.int .i64 T,.int .i64 U,.int .i64 V,.int .i64 Y,.int .i64 Z]:=by
 unfold Ty at h
 rw [Try.underlying59] at h
 obtain ⟨a0,b0,rfl,h0,a1,b1,rfl,h1,a2,b2,rfl,h2,a3,b3,rfl,h3,a4,b4,rfl,h4,a5,b5,rfl,h5,rfl⟩:=h
 obtain ⟨A,B,C,rfl⟩:=ZcV h0
 obtain ⟨D,E,F,rfl⟩:=ZcV h1
 obtain ⟨G,I,J,rfl⟩:=ZcV h2
 obtain ⟨K,N,O,rfl⟩:=ZcV h3
 obtain ⟨R,T,U,rfl⟩:=ZcV h4
 obtain ⟨V,Y,Z,rfl⟩:=ZcV h5
 exact ⟨A,B,C,D,E,F,G,I,J,K,N,O,R,T,U,V,Y,Z,rfl⟩
set_option maxRecDepth 100000 in
theorem totab_ty {n:Nat} {cs:List AV} (h:Ty Try.prog (n + 1 + 1 + 1 + 1) 62 cs):∃ (A B C D E F G I J K N O R T U V Y Z:Int) (l:List Ln),cs = [.int .i64 A,.int .i64 B,.int .i64 C,.int .i64 D,.int .i64 E,.int .i64 F,.int .i64 G,.int .i64 I,.int .i64 J,.int .i64 K,.int .i64 N,.int .i64 O,.int .i64 R,.int .i64 T,.int .i64 U,.int .i64 V,.int .i64 Y,.int .i64 Z,.vec false 2 (l.map Ln.a)]:=by
 have h:=Zdq Try.underlying62 h
 obtain ⟨a0,b0,rfl,h0,a1,b1,rfl,h1,rfl⟩:=h
 obtain ⟨A,B,C,D,E,F,G,I,J,K,N,O,R,T,U,V,Y,Z,rfl⟩:=tosix_ty h0
 obtain ⟨l,rfl⟩:=tolens_ty h1
 exact ⟨A,B,C,D,E,F,G,I,J,K,N,O,R,T,U,V,Y,Z,l,rfl⟩
set_option maxRecDepth 100000 in
theorem totwo_ty {n:Nat} {cs:List AV} (h:Ty Try.prog (n + 1 + 1) 63 cs):∃ x y:Int,cs = [.int .i16 x,.int .i16 y] /\ Sp.t16 x /\ Sp.t16 y:=by
 unfold Ty at h
 rw [Try.underlying63] at h
 obtain ⟨a0,b0,rfl,h0,a1,b1,rfl,h1,rfl⟩:=h
 obtain ⟨x,rfl,p⟩:=Zdd Try.underlying22 h0
 obtain ⟨y,rfl,q⟩:=Zdd Try.underlying22 h1
 exact ⟨x,y,rfl,p,q⟩
set_option maxRecDepth 100000 in
theorem toways_ty {n:Nat} {cs:List AV} (h:Ty Try.prog (n + 1 + 1 + 1) 64 cs):∃ o:List AV,cs = [.vec false 3 o]:=by
 obtain ⟨o,rfl,_⟩:=ty_list (τ:=AV) (enc:=id) Try.underlying64 (fun ys hy => ⟨_,rfl⟩) h
 rw [cells23];exact ⟨_,rfl⟩
set_option maxRecDepth 100000 in
theorem toshift_ty {n:Nat} {cs:List AV} (h:Ty Try.prog (n + 1 + 1 + 1 + 1) 66 cs):∃ (x y u v s r:Int) (o:List AV),cs = [.int .i16 x,.int .i16 y,.int .i16 u,.int .i16 v,.int .i16 s,.int .u8 r,.vec false 3 o] /\ Sp.t16 x /\ Sp.t16 y /\ Sp.t16 u /\ Sp.t16 v:=by
 have h:=Zdq Try.underlying66 h
 obtain ⟨a0,b0,rfl,h0,a1,b1,rfl,h1,a2,b2,rfl,h2,a3,b3,rfl,h3,a4,b4,rfl,h4,rfl⟩:=h
 obtain ⟨x,y,rfl,p,q⟩:=totwo_ty h0
 obtain ⟨u,v,rfl,p2,q2⟩:=totwo_ty h1
 obtain ⟨s,rfl,_⟩:=Zdd Try.underlying22 h2
 obtain ⟨r,rfl,_⟩:=Zdd Try.underlying5 h3
 obtain ⟨o,rfl⟩:=toways_ty h4
 exact ⟨x,y,u,v,s,r,o,rfl,p,q,p2,q2⟩
theorem laidOut:laidOutB Try.prog=true:=by kernel_rfl
theorem ownGo:ownKnob Try.prog.godebug=none:=by kernel_rfl
end Go.Av

namespace Go.Av
open Go.Proofs
set_option maxRecDepth 100000
def fi28:Fi:=⟨28,[.cell 2 72]⟩
def kp28:List (Nat × List Nat):=[(0,[1,2]),(1,[1,2,3]),(2,[2,3,10,11,12]),(3,[2,3,10,11,12,13]),(4,[2,3,5,10,11,12]),(5,[2,3,10,11,12]),(6,[2,3,10,11,12]),(7,[2])]
def fi54:Fi:=⟨21,[.tmp 2]⟩
def kp54:List (Nat × List Nat):=[(0,[1]),(1,[2])]
def fi85:Fi:=⟨9,[.tmp 2]⟩
def kp85:List (Nat × List Nat):=[(0,[0]),(1,[2])]
def fi87:Fi:=⟨25,[.tmp 2]⟩
def kp87:List (Nat × List Nat):=[(0,[1]),(1,[1,3]),(2,[3,4]),(3,[2])]
def fi88:Fi:=⟨21,[.tmp 2]⟩
def kp88:List (Nat × List Nat):=[(0,[1]),(1,[2])]
def fi89:Fi:=⟨18,[.tmp 2,.tmp 3]⟩
def kp89:List (Nat × List Nat):=[(0,[0]),(1,[0,14]),(2,[2,3]),(3,[2,3])]
def fi102:Fi:=⟨8,[.tmp 2]⟩
def kp102:List (Nat × List Nat):=[(0,[0]),(1,[0,4]),(2,[2]),(3,[2])]
def tFar_at (x y z:Int) (Q:AV->Heap->Prop):Prop:=Wp M1 (.run fi87 (atC (cd Try.f87) []) [(0,.agg [.int .i64 x,.int .i64 y,.int .i64 z])] []) Q
def tFarR_at (n:Int) (Q:AV->Heap->Prop):Prop:=Wp M1 (.run fi85 (atC (cd Try.f85) []) [(0,.int .i64 n)] []) Q
def tEntry_at (n k:Int) (Q:AV->Heap->Prop):Prop:=Wp M1 (.run fi88 (atC (cd Try.f88) []) [(0,.agg [.int .i64 n,.int .i64 k])] []) Q
def Zfo (n k:Int) (Q:AV->Heap->Prop):Prop:=Wp M1 (.run fi54 (atC (cd Try.f54) []) [(0,.agg [.int .i64 n,.int .i64 k])] []) Q
def tSlot0_at  (Q:AV->Heap->Prop):Prop:=Wp M1 (.run fi89 (atC (cd Try.f89) []) [(0,.int .i64 54000)] []) Q
def tSlot1_at  (Q:AV->Heap->Prop):Prop:=Wp M1 (.run fi89 (atC (cd Try.f89) []) [(0,.int .i64 55000)] []) Q
def tSlot2_at  (Q:AV->Heap->Prop):Prop:=Wp M1 (.run fi89 (atC (cd Try.f89) []) [(0,.int .i64 56000)] []) Q
def tSlot3_at  (Q:AV->Heap->Prop):Prop:=Wp M1 (.run fi89 (atC (cd Try.f89) []) [(0,.int .i64 57000)] []) Q
def tSlot4_at  (Q:AV->Heap->Prop):Prop:=Wp M1 (.run fi89 (atC (cd Try.f89) []) [(0,.int .i64 58000)] []) Q
def tSlot5_at  (Q:AV->Heap->Prop):Prop:=Wp M1 (.run fi89 (atC (cd Try.f89) []) [(0,.int .i64 59000)] []) Q
def tClE_at (f:Bool) (Q:AV->Heap->Prop):Prop:=Wp M1 (.run fi102 (atC (cd Try.f102) []) [(0,.vec f 2 [])] []) Q
def tClC_at (f:Bool) (y:Ln) (l:List Ln) (Q:AV->Heap->Prop):Prop:=Wp M1 (.run fi102 (atC (cd Try.f102) []) [(0,.vec f 2 ((y::l).map Ln.a))] []) Q
def tOwn_at (f:Bool) (l:List Ln) (A B C D E F G I J K N O R T U V Y Z:Int) (Q:AV->Heap->Prop):Prop:=Wp M1 (.run fi28 (atC (cd Try.f28) []) [(0,.agg [.int .i64 A,.int .i64 B,.int .i64 C,.int .i64 D,.int .i64 E,.int .i64 F,.int .i64 G,.int .i64 I,.int .i64 J,.int .i64 K,.int .i64 N,.int .i64 O,.int .i64 R,.int .i64 T,.int .i64 U,.int .i64 V,.int .i64 Y,.int .i64 Z,.vec f 2 (l.map Ln.a)])] []) Q
def Zev (f:Bool) (l:List Ln) (A B C D E F G I J K N O R T U V Y Z:Int) (n i:Int) (Q:AV->Heap->Prop):Prop:=Wp M1 (.run fi28 (atC (cd Try.f28) [1,1,0,1,0,0]) [(2,.ptr 0 0 0 0),(3,.ptr 1 0 0 0),(10,.vec f 2 (l.map Ln.a)),(11,.int .i64 n),(12,.int .i64 i)] [⟨[.agg [.int .i64 0,.int .i64 0,.int .i64 0,.int .i64 0,.int .i64 0,.int .i64 0,.int .i64 0,.int .i64 0,.int .i64 0,.int .i64 0,.int .i64 0,.int .i64 0,.int .i64 0,.int .i64 0,.int .i64 0,.int .i64 0,.int .i64 0,.int .i64 0,.vnil]],19,0,false,false⟩,⟨[.agg [.int .i64 A,.int .i64 B,.int .i64 C,.int .i64 D,.int .i64 E,.int .i64 F,.int .i64 G,.int .i64 I,.int .i64 J,.int .i64 K,.int .i64 N,.int .i64 O,.int .i64 R,.int .i64 T,.int .i64 U,.int .i64 V,.int .i64 Y,.int .i64 Z,.vnil]],19,0,false,false⟩]) Q
def ZcE (f:Bool) (l:List Ln) (A B C D E F G I J K N O R T U V Y Z:Int) (n i:Int) (X:List Ln) (v:Nat) (Q:AV->Heap->Prop):Prop:=Wp M1 (.run fi28 (atC (cd Try.f28) [1,1,0,1,0,0]) [(2,.ptr 0 0 0 0),(3,.ptr 1 0 0 0),(10,.vec f 2 (l.map Ln.a)),(11,.int .i64 n),(12,.int .i64 i)] [⟨[.agg [.int .i64 0,.int .i64 0,.int .i64 0,.int .i64 0,.int .i64 0,.int .i64 0,.int .i64 0,.int .i64 0,.int .i64 0,.int .i64 0,.int .i64 0,.int .i64 0,.int .i64 0,.int .i64 0,.int .i64 0,.int .i64 0,.int .i64 0,.int .i64 0,.vnil]],19,0,false,false⟩,⟨[.agg [.int .i64 A,.int .i64 B,.int .i64 C,.int .i64 D,.int .i64 E,.int .i64 F,.int .i64 G,.int .i64 I,.int .i64 J,.int .i64 K,.int .i64 N,.int .i64 O,.int .i64 R,.int .i64 T,.int .i64 U,.int .i64 V,.int .i64 Y,.int .i64 Z,.row 2 v]],19,0,false,false⟩,⟨X.map Ln.a,2,v,false,true⟩]) Q
theorem call28 {args:List AV} {d:AV} (h:wc M1 fi28 Try.f28 args d):Ev M1 (.pure 28 args) d []:=pcl _ _ (by kernel_rfl) h
theorem call54 {args:List AV} {d:AV} (h:wc M1 fi54 Try.f54 args d):Ev M1 (.pure 54 args) d []:=pcl _ _ (by kernel_rfl) h
theorem call85 {args:List AV} {d:AV} (h:wc M1 fi85 Try.f85 args d):Ev M1 (.pure 85 args) d []:=pcl _ _ (by kernel_rfl) h
theorem call87 {args:List AV} {d:AV} (h:wc M1 fi87 Try.f87 args d):Ev M1 (.pure 87 args) d []:=pcl _ _ (by kernel_rfl) h
theorem call88 {args:List AV} {d:AV} (h:wc M1 fi88 Try.f88 args d):Ev M1 (.pure 88 args) d []:=pcl _ _ (by kernel_rfl) h
theorem ZfJ {args:List AV} {d:AV} (h:wc M1 fi89 Try.f89 args d):Ev M1 (.pure 89 args) d []:=pcl _ _ (by kernel_rfl) h
theorem call102 {args:List AV} {d:AV} (h:wc M1 fi102 Try.f102 args d):Ev M1 (.pure 102 args) d []:=pcl _ _ (by kernel_rfl) h
theorem tFar (x y z:Int)  (dq:AV) (H :
  vb (bif decide ((if z > if y > x then y else x then z else if y > x then y else x) > 10000000) then true else decide ((if z < if y < x then y else x then z else if y < x then y else x) < -10000000)) = dq) :
 tFar_at x y z (Zak dq):=by
 unfold tFar_at
 exact Zae (G:=Zad kp87 [] []) 1000 [] (vb (bif decide ((if z > if y > x then y else x then z else if y > x then y else x) > 10000000) then true else decide ((if z < if y < x then y else x then z else if y < x then y else x) < -10000000))) (by kernel_rfl) (bc rfl (bc rfl (bc rfl (bc rfl (bc rfl (bc rfl b0)))))) q0 c0 H
theorem tFarR (n:Int)  (dq:AV) (H :
  vb (bif decide (n > 10000000) then true else decide (n < -10000000)) = dq) :
 tFarR_at n (Zak dq):=by
 unfold tFarR_at
 exact Zae (G:=Zad kp85 [] []) 1000 [] (vb (bif decide (n > 10000000) then true else decide (n < -10000000))) (by kernel_rfl) b0 q0 c0 H
theorem tEntry (n k:Int)  (dq:AV) (H :
  vb (bif bif bif decide (n >= 1) then decide (n <= 999) else false then decide (k >= 0) else false then decide (k <= 10000000) else false) = dq) :
 tEntry_at n k (Zak dq):=by
 unfold tEntry_at
 exact Zae (G:=Zad kp88 [] []) 1000 [] (asm:=[true,!(decide (n >= 1) == true && true) || true,!((bif decide (n >= 1) then decide (n <= 999) else false) == true && true) || true,!((bif bif decide (n >= 1) then decide (n <= 999) else false then decide (k >= 0) else false) == true && true) || true]) (vb (bif bif bif decide (n >= 1) then decide (n <= 999) else false then decide (k >= 0) else false then decide (k <= 10000000) else false)) (by kernel_rfl) (bc rfl (bc (Bool.or_true _) (bc (Bool.or_true _) (bc (Bool.or_true _) b0)))) q0 c0 H
theorem tEntryR (n k:Int)  (dq:AV) (H :
  vb (bif bif bif decide (n >= 1) then decide (n <= 999) else false then decide (k >= 0) else false then decide (k <= 10000000) else false) = dq) :
 Zfo n k (Zak dq):=by
 unfold Zfo
 exact Zae (G:=Zad kp54 [] []) 1000 [] (asm:=[true,!(decide (n >= 1) == true && true) || true,!((bif decide (n >= 1) then decide (n <= 999) else false) == true && true) || true,!((bif bif decide (n >= 1) then decide (n <= 999) else false then decide (k >= 0) else false) == true && true) || true]) (vb (bif bif bif decide (n >= 1) then decide (n <= 999) else false then decide (k >= 0) else false then decide (k <= 10000000) else false)) (by kernel_rfl) (bc rfl (bc (Bool.or_true _) (bc (Bool.or_true _) (bc (Bool.or_true _) b0)))) q0 c0 H
theorem tSlot0   (dq:AV) (H :
  tu [vi 0,vi 0] = dq) :
 tSlot0_at  (Zak dq):=by
 unfold tSlot0_at
 exact Zae (G:=Zad kp89 [] []) 1000 [false] (tu [vi 0,vi 0]) (by kernel_rfl) (bc rfl (bc rfl (bc rfl b0))) q0 c0 H
theorem tSlot1   (dq:AV) (H :
  tu [vi 1,vi 0] = dq) :
 tSlot1_at  (Zak dq):=by
 unfold tSlot1_at
 exact Zae (G:=Zad kp89 [] []) 1000 [false] (tu [vi 1,vi 0]) (by kernel_rfl) (bc rfl (bc rfl (bc rfl b0))) q0 c0 H
theorem tSlot2   (dq:AV) (H :
  tu [vi 2,vi 0] = dq) :
 tSlot2_at  (Zak dq):=by
 unfold tSlot2_at
 exact Zae (G:=Zad kp89 [] []) 1000 [false] (tu [vi 2,vi 0]) (by kernel_rfl) (bc rfl (bc rfl (bc rfl b0))) q0 c0 H
theorem tSlot3   (dq:AV) (H :
  tu [vi 3,vi 0] = dq) :
 tSlot3_at  (Zak dq):=by
 unfold tSlot3_at
 exact Zae (G:=Zad kp89 [] []) 1000 [false] (tu [vi 3,vi 0]) (by kernel_rfl) (bc rfl (bc rfl (bc rfl b0))) q0 c0 H
theorem tSlot4   (dq:AV) (H :
  tu [vi 4,vi 0] = dq) :
 tSlot4_at  (Zak dq):=by
 unfold tSlot4_at
 exact Zae (G:=Zad kp89 [] []) 1000 [false] (tu [vi 4,vi 0]) (by kernel_rfl) (bc rfl (bc rfl (bc rfl b0))) q0 c0 H
theorem tSlot5   (dq:AV) (H :
  tu [vi 5,vi 0] = dq) :
 tSlot5_at  (Zak dq):=by
 unfold tSlot5_at
 exact Zae (G:=Zad kp89 [] []) 1000 [false] (tu [vi 5,vi 0]) (by kernel_rfl) (bc rfl (bc rfl (bc rfl b0))) q0 c0 H
theorem tClE (f:Bool)  (dq:AV) (H :
  (Weak (AV.vnil) dq) /\
  (Weak (AV.vec true 2 []) dq)) :
 tClE_at f (Zak dq):=by
 unfold tClE_at
 refine Zah (G:=Zad kp102 [] []) 4 [] ⟨(atC (cd Try.f102) [1,0,0]),[(0,AV.vec f 2 [])],[],_,[],_⟩ (by kernel_rfl) b0 q0 c0 (wp_nil 1 [0,4] (e1:=[(0,AV.vec f 2 []),(4,vb true)]) (e2:=[(0,AV.vec f 2 []),(4,vb false)]) (L1:=[]) (L2:=[]) (a1:=[]) (a2:=[]) (v1:=[(4,[],vb true),(3,[],AV.vec f 2 []),(0,[],AV.vec f 2 [])]) (v2:=[(4,[],vb false),(3,[],AV.vec f 2 []),(0,[],AV.vec f 2 [])]) (by kernel_rfl) (by kernel_rfl) Zc5 Zc5 (by kernel_rfl) (by kernel_rfl) ?_ ?_)
 ·have H:=H.1
  exact Zam (G:=Zad kp102 [] []) 1000 [true] (AV.vnil) (by kernel_rfl) (bc rfl b0) q0 c0 H
 ·have H:=H.2
  exact Zam (G:=Zad kp102 [] []) 1000 [false] (AV.vec true 2 []) (by kernel_rfl) (bc rfl b0) q0 c0 H
theorem tClC (f:Bool) (y:Ln) (l:List Ln)  (dq:AV) (H :
  ((0 + (l.length + 1)) * 16 <= 1099511627776) /\
  Weak (AV.vec false 2 (ag [vi y.n,vi y.l] :: List.map Ln.a l)) dq) :
 tClC_at f y l (Zak dq):=by
 unfold tClC_at
 have w1:(List.map Ln.a l).length = l.length:=List.length_map ..
 have i2:(decide ((0 + ((List.map Ln.a l).length + 1)) * 16 <= 1099511627776)) = true ↔ ((0 + (l.length + 1)) * 16 <= 1099511627776):=(by (try rw [w1]);all_goals exact Zaa)
 obtain ⟨k3,H⟩:=H
 exact path_ret (G:=Zad kp102 [] []) 1000 [false] (k:=((atC (cd Try.f102) [1,1,1])).tail) (env':=[(2,AV.row 0 0)]) (L':=[⟨ag [vi y.n,vi y.l] :: List.map Ln.a l,2,0,false,true⟩]) (asm:=[false == false,decide ((0 + ((List.map Ln.a l).length + 1)) * 16 <= 1099511627776)]) (eqs:=[]) (calls:=[]) (AV.row 0 0) (by kernel_rfl) (by kernel_rfl) (Zb6 rfl (Zb6 (i2.2 k3) Zc5)) allP_nil allC_nil (pq_weak (d:=(AV.vec false 2 (ag [vi y.n,vi y.l] :: List.map Ln.a l))) (bs:=[0 == 0]) (by kernel_rfl) (by kernel_rfl) (Zb6 (beq_self_eq_true _) Zc5) (by kernel_rfl) H)
theorem tOwn (f:Bool) (l:List Ln) (A B C D E F G I J K N O R T U V Y Z:Int)  (dq:AV) (H :
  Zev (f) (l) (A) (B) (C) (D) (E) (F) (G) (I) (J) (K) (N) (O) (R) (T) (U) (V) (Y) (Z) ((↑l.length:Int)) (0) (Zak dq)) :
 tOwn_at f l A B C D E F G I J K N O R T U V Y Z (Zak dq):=by
 unfold tOwn_at
 have w1:(List.map Ln.a l).length = l.length:=List.length_map ..
 exact Zah (G:=Zad kp28 [] []) 1000 [] ⟨(atC (cd Try.f28) [1,1,0,1,0,0]),[(2,AV.ptr 1 0 0 0),(3,AV.ptr 2 0 0 0),(10,AV.vec f 2 (List.map Ln.a l)),(11,vi (↑(List.map Ln.a l).length:Int)),(12,vi 0)],[⟨[ag [vi A,vi B,vi C,vi D,vi E,vi F,vi G,vi I,vi J,vi K,vi N,vi O,vi R,vi T,vi U,vi V,vi Y,vi Z,AV.vec f 2 (List.map Ln.a l)]],19,0,false,false⟩,⟨[ag [vi 0,vi 0,vi 0,vi 0,vi 0,vi 0,vi 0,vi 0,vi 0,vi 0,vi 0,vi 0,vi 0,vi 0,vi 0,vi 0,vi 0,vi 0,AV.vnil]],19,0,false,false⟩,⟨[ag [vi A,vi B,vi C,vi D,vi E,vi F,vi G,vi I,vi J,vi K,vi N,vi O,vi R,vi T,vi U,vi V,vi Y,vi Z,AV.vnil]],19,0,false,false⟩],_,[],_⟩ (by kernel_rfl) (bc rfl (bc rfl (bc rfl b0))) q0 c0 (by (try rw [w1]);all_goals exact ZcC [1,2] (by kernel_rfl) H)
theorem tOwnL0 (f:Bool) (l:List Ln) (A B C D E F G I J K N O R T U V Y Z:Int) (n i:Int)  (dq:AV) (H :
  ((i < n) -> (0 <= i) /\
   (i.toNat < l.length) /\
   (-9223372036854775808 <= i + 1 /\ i + 1 <= 9223372036854775807) /\
   ZcE (f) (l) (A) (B) (C) (D) (E) (F) (G) (I) (J) (K) (N) (O) (R) (T) (U) (V) (Y) (Z) (n) (i + 1) ([l.getD i.toNat default]) (0) (Zak dq)) /\
  (¬(i < n) -> Weak (ag [vi A,vi B,vi C,vi D,vi E,vi F,vi G,vi I,vi J,vi K,vi N,vi O,vi R,vi T,vi U,vi V,vi Y,vi Z,AV.vnil]) dq)) :
 Zev f l A B C D E F G I J K N O R T U V Y Z n i (Zak dq):=by
 unfold Zev
 rcases xq H with ⟨d2,H⟩|⟨d2,H⟩
 ·obtain ⟨k4,H⟩:=H
  have w5:(List.map Ln.a l).length = l.length:=List.length_map ..
  have i6:(decide (i.toNat < (List.map Ln.a l).length)) = true ↔ (i.toNat < l.length):=(by (try rw [w5]);all_goals exact Zaa)
  obtain ⟨k7,k8,H⟩:=H
  have w9:wi (i + 1) = i + 1:=wI64 k8
  have w10:[ag [vi (l.getD i.toNat default).n,vi (l.getD i.toNat default).l]] = List.map Ln.a [l.getD i.toNat default]:=rfl
  exact Zah (G:=Zad kp28 [(4,1,.elem (ag [vi (l.getD i.toNat default).n,vi (l.getD i.toNat default).l]))] []) 1000 [true] ⟨(atC (cd Try.f28) [1,1,0,1,0,0]),[(2,AV.ptr 0 0 0 0),(3,AV.ptr 1 0 0 0),(10,AV.vec f 2 (List.map Ln.a l)),(11,vi n),(12,vi (wi (i + 1)))],[⟨[ag [vi 0,vi 0,vi 0,vi 0,vi 0,vi 0,vi 0,vi 0,vi 0,vi 0,vi 0,vi 0,vi 0,vi 0,vi 0,vi 0,vi 0,vi 0,AV.vnil]],19,0,false,false⟩,⟨[ag [vi A,vi B,vi C,vi D,vi E,vi F,vi G,vi I,vi J,vi K,vi N,vi O,vi R,vi T,vi U,vi V,vi Y,vi Z,AV.row 3 0]],19,0,false,false⟩,⟨[ag [vi (l.getD i.toNat default).n,vi (l.getD i.toNat default).l]],2,0,false,false⟩,⟨[ag [vi (l.getD i.toNat default).n,vi (l.getD i.toNat default).l]],2,0,false,true⟩],_,[((List.map Ln.a l).get?Internal i.toNat = some (ag [vi (l.getD i.toNat default).n,vi (l.getD i.toNat default).l]))],_⟩ (by kernel_rfl) (bc (ZaG (Zaa.2 d2)) (bc (Zaa.2 k4) (bc (i6.2 k7) (bc rfl (bc rfl (bc rfl (bc rfl (bc rfl (bc rfl b0))))))))) (qc (Zed k7) q0) c0 (by (try rw [w9]);(try rw [w10]);all_goals exact ZcC [0,1,3] (by kernel_rfl) H)
 ·exact Zam (G:=Zad kp28 [] []) 1000 [false] (ag [vi A,vi B,vi C,vi D,vi E,vi F,vi G,vi I,vi J,vi K,vi N,vi O,vi R,vi T,vi U,vi V,vi Y,vi Z,AV.vnil]) (by kernel_rfl) (bc (Zaj (fun h => d2 (Zaa.1 h))) (bc rfl (bc rfl b0))) q0 c0 H
noncomputable abbrev zNpJ1 (A:Int) (B:Int) (C:Int) (D:Int) (E:Int) (F:Int) (G:Int) (I:Int) (J:Int) (K:Int) (N:Int) (O:Int) (R:Int) (T:Int) (U:Int) (V:Int) (Y:Int) (Z:Int) (v:Nat):=ag [vi A,vi B,vi C,vi D,vi E,vi F,vi G,vi I,vi J,vi K,vi N,vi O,vi R,vi T,vi U,vi V,vi Y,vi Z,AV.row 2 v]
theorem tOwnL1 (f:Bool) (l:List Ln) (A B C D E F G I J K N O R T U V Y Z:Int) (n i:Int) (X:List Ln) (v:Nat)  (dq:AV) (H :
  ((i < n) -> (0 <= i) /\
   (i.toNat < l.length) /\
   ((X.length + 1) * 16 <= 1099511627776) /\
   (-9223372036854775808 <= i + 1 /\ i + 1 <= 9223372036854775807) /\
   ZcE (f) (l) (A) (B) (C) (D) (E) (F) (G) (I) (J) (K) (N) (O) (R) (T) (U) (V) (Y) (Z) (n) (i + 1) (X ++ [l.getD i.toNat default]) (v + 1) (Zak dq)) /\
  (¬(i < n) -> Weak (ag [vi A,vi B,vi C,vi D,vi E,vi F,vi G,vi I,vi J,vi K,vi N,vi O,vi R,vi T,vi U,vi V,vi Y,vi Z,AV.vec false 2 (List.map Ln.a X)]) dq)) :
 ZcE f l A B C D E F G I J K N O R T U V Y Z n i X v (Zak dq):=by
 unfold ZcE
 rcases xq H with ⟨d2,H⟩|⟨d2,H⟩
 ·obtain ⟨k4,H⟩:=H
  have w5:(List.map Ln.a l).length = l.length:=List.length_map ..
  have i6:(decide (i.toNat < (List.map Ln.a l).length)) = true ↔ (i.toNat < l.length):=(by (try rw [w5]);all_goals exact Zaa)
  obtain ⟨k7,H⟩:=H
  have w8:(List.map Ln.a X).length = X.length:=List.length_map ..
  have i9:(decide (((List.map Ln.a X).length + 1) * 16 <= 1099511627776)) = true ↔ ((X.length + 1) * 16 <= 1099511627776):=(by (try rw [w8]);all_goals exact Zaa)
  obtain ⟨k10,H⟩:=H
  have w11:List.map Ln.a X ++ [ag [vi (l.getD i.toNat default).n,vi (l.getD i.toNat default).l]] = List.map Ln.a (X ++ [l.getD i.toNat default]):=(lm_app rfl rfl)
  obtain ⟨k12,H⟩:=H
  have w13:wi (i + 1) = i + 1:=wI64 k12
  exact Zah (G:=Zad kp28 [(4,1,.elem (ag [vi (l.getD i.toNat default).n,vi (l.getD i.toNat default).l]))] []) 1000 [true] ⟨(atC (cd Try.f28) [1,1,0,1,0,0]),[(2,AV.ptr 0 0 0 0),(3,AV.ptr 1 0 0 0),(10,AV.vec f 2 (List.map Ln.a l)),(11,vi n),(12,vi (wi (i + 1)))],[⟨[ag [vi 0,vi 0,vi 0,vi 0,vi 0,vi 0,vi 0,vi 0,vi 0,vi 0,vi 0,vi 0,vi 0,vi 0,vi 0,vi 0,vi 0,vi 0,AV.vnil]],19,0,false,false⟩,⟨[ag [vi A,vi B,vi C,vi D,vi E,vi F,vi G,vi I,vi J,vi K,vi N,vi O,vi R,vi T,vi U,vi V,vi Y,vi Z,AV.row 2 (v + 1)]],19,0,false,false⟩,⟨List.map Ln.a X ++ [ag [vi (l.getD i.toNat default).n,vi (l.getD i.toNat default).l]],2,v + 1,false,true⟩,⟨[ag [vi (l.getD i.toNat default).n,vi (l.getD i.toNat default).l]],2,0,false,false⟩],[(decide (i < n)) == true,decide (0 <= i),decide (i.toNat < (List.map Ln.a l).length),true,true,true,true,v == v,decide (((List.map Ln.a X).length + 1) * 16 <= 1099511627776),true],[((List.map Ln.a l).get?Internal i.toNat = some (ag [vi (l.getD i.toNat default).n,vi (l.getD i.toNat default).l]))],_⟩ (by kernel_rfl) (bc (ZaG (Zaa.2 d2)) (bc (Zaa.2 k4) (bc (i6.2 k7) (bc rfl (bc rfl (bc rfl (bc rfl (bc (beq_self_eq_true _) (bc (i9.2 k10) (bc rfl b0)))))))))) (qc (Zed k7) q0) c0 (by (try rw [w11]);(try rw [w13]);all_goals exact ZcC [0,1,2] (by kernel_rfl) H)
 ·exact path_ret (G:=Zad kp28 [] []) 1000 [false] (k:=((atC (cd Try.f28) [1,1,1,1])).tail) (env':=[(2,AV.ptr 0 0 0 0)]) (L':=[⟨[(zNpJ1 A B C D E F G I J K N O R T U V Y Z v)],19,0,false,false⟩,⟨[(zNpJ1 A B C D E F G I J K N O R T U V Y Z v)],19,0,false,false⟩,⟨List.map Ln.a X,2,v,false,true⟩]) (asm:=[(decide (i < n)) == false,true,true]) (eqs:=[]) (calls:=[]) ((zNpJ1 A B C D E F G I J K N O R T U V Y Z v)) (by kernel_rfl) (by kernel_rfl) (Zb6 (Zaj (fun h => d2 (Zaa.1 h))) (Zb6 rfl (Zb6 rfl Zc5))) allP_nil allC_nil (pq_weak (d:=(ag [vi A,vi B,vi C,vi D,vi E,vi F,vi G,vi I,vi J,vi K,vi N,vi O,vi R,vi T,vi U,vi V,vi Y,vi Z,AV.vec false 2 (List.map Ln.a X)])) (bs:=[v == v]) (by kernel_rfl) (by kernel_rfl) (Zb6 (beq_self_eq_true _) Zc5) (by kernel_rfl) H)
end Go.Av

namespace Go.Av
open Go.Proofs
namespace Sp
def enP (p:Ln):Prop:=(1<=p.n/\p.n<=999)/\0<=p.l/\p.l<=10000000
instance (p:Ln):Decidable (enP p):=inferInstanceAs (Decidable (_/\_))
def few (n m:Nat):Prop:=n<=m
end Sp
theorem bif_dor {p q:Prop} [Decidable p] [Decidable q]:(bif decide p then true else decide q) = decide (p \/ q):=by
 by_cases h:p
 ·rw [decide_eq_true h,decide_eq_true (show p \/ q from .inl h)];rfl
 ·by_cases k:q
  ·rw [decide_eq_false h,decide_eq_true k,decide_eq_true (show p \/ q from .inr k)];rfl
  ·rw [decide_eq_false h,decide_eq_false k,decide_eq_false (show ¬(p \/ q) from fun x => x.elim h k)];rfl
theorem ev87 (x y z:Int):Ev M1 (.pure 87 [.agg [.int .i64 x,.int .i64 y,.int .i64 z]]) (.bool (decide (¬Sp.pP x y z))) []:=by
 refine call87 (tFar _ _ _ _ ?_)
 rw [bif_dor]
 refine congrArg AV.bool (ZcR ?_)
 unfold Sp.pP Sp.pM
 repeat' split
 all_goals omega
theorem ev85 (n:Int):Ev M1 (.pure 85 [.int .i64 n]) (.bool (decide (¬Sp.pM n))) []:=by
 refine call85 (tFarR _ _ ?_)
 rw [bif_dor]
 exact congrArg AV.bool (ZcR (by unfold Sp.pM;omega))
theorem ev88 (n k:Int):Ev M1 (.pure 88 [.agg [.int .i64 n,.int .i64 k]]) (.bool (decide (Sp.enP ⟨n,k⟩))) []:=by
 refine call88 (tEntry _ _ _ ?_)
 rw [Zdn,Zdn,Zdn]
 exact congrArg AV.bool (ZcR (by unfold Sp.enP;simp only [];omega))
theorem ev54 (n k:Int):Ev M1 (.pure 54 [.agg [.int .i64 n,.int .i64 k]]) (.bool (decide (Sp.enP ⟨n,k⟩))) []:=by
 refine call54 (tEntryR _ _ _ ?_)
 rw [Zdn,Zdn,Zdn]
 exact congrArg AV.bool (ZcR (by unfold Sp.enP;simp only [];omega))
theorem ev89_a:Ev M1 (.pure 89 [.int .i64 54000]) (.tup [.int .i64 0,.int .i64 0]) []:=ZfJ (tSlot0 _ rfl)
theorem ev89_b:Ev M1 (.pure 89 [.int .i64 55000]) (.tup [.int .i64 1,.int .i64 0]) []:=ZfJ (tSlot1 _ rfl)
theorem ev89_c:Ev M1 (.pure 89 [.int .i64 56000]) (.tup [.int .i64 2,.int .i64 0]) []:=ZfJ (tSlot2 _ rfl)
theorem ev89_d:Ev M1 (.pure 89 [.int .i64 57000]) (.tup [.int .i64 3,.int .i64 0]) []:=ZfJ (tSlot3 _ rfl)
theorem ev89_e:Ev M1 (.pure 89 [.int .i64 58000]) (.tup [.int .i64 4,.int .i64 0]) []:=ZfJ (tSlot4 _ rfl)
theorem ev89_o:Ev M1 (.pure 89 [.int .i64 59000]) (.tup [.int .i64 5,.int .i64 0]) []:=ZfJ (tSlot5 _ rfl)
theorem ev102 (f:Bool) (l:List Ln) (h:Sp.few l.length 1000000):Ev M1 (.pure 102 [.vec f 2 (l.map Ln.a)]) (.vec false 2 (l.map Ln.a)) []:=by
 unfold Sp.few at h
 cases l with
 | nil => exact call102 (tClE f _ ⟨.vnil 2,.full 2 []⟩)
 | cons y l => exact call102 (tClC f y l _ ⟨by simp at h;omega,.refl _⟩)
theorem weak_last (xs:List AV) {a b:AV} (h:Weak a b):Weak (.agg (xs ++ [a])) (.agg (xs ++ [b])):=by
 refine .agg _ _ (by simp) fun i x y hx hy => ?_
 by_cases k:i < xs.length
 ·rw [List.getElem?_append_left k] at hx hy
  rw [hx] at hy;cases hy;exact .refl _
 ·rw [List.getElem?_append_right (by omega)] at hx hy
  rcases hj:i - xs.length with _ | j
  ·rw [hj] at hx hy;cases hx;cases hy;exact h
  ·rw [hj] at hx;exact absurd hx (by simp)
theorem weak_tabn (A B C D E F G I J K N O R T U V Y Z:Int):Weak (.agg [.int .i64 A,.int .i64 B,.int .i64 C,.int .i64 D,.int .i64 E,.int .i64 F,.int .i64 G,.int .i64 I,.int .i64 J,.int .i64 K,.int .i64 N,.int .i64 O,.int .i64 R,.int .i64 T,.int .i64 U,.int .i64 V,.int .i64 Y,.int .i64 Z,.vnil]) (.agg [.int .i64 A,.int .i64 B,.int .i64 C,.int .i64 D,.int .i64 E,.int .i64 F,.int .i64 G,.int .i64 I,.int .i64 J,.int .i64 K,.int .i64 N,.int .i64 O,.int .i64 R,.int .i64 T,.int .i64 U,.int .i64 V,.int .i64 Y,.int .i64 Z,.vec false 2 []]):=weak_last [.int .i64 A,.int .i64 B,.int .i64 C,.int .i64 D,.int .i64 E,.int .i64 F,.int .i64 G,.int .i64 I,.int .i64 J,.int .i64 K,.int .i64 N,.int .i64 O,.int .i64 R,.int .i64 T,.int .i64 U,.int .i64 V,.int .i64 Y,.int .i64 Z] (.vnil 2)
theorem tOwnL1_loop (f:Bool) (l:List Ln) (A B C D E F G I J K N O R T U V Y Z:Int) (hs:l.length <= 1000000):∀ (k i v:Nat),i + k = l.length -> ZcE f l A B C D E F G I J K N O R T U V Y Z (l.length:Int) (i:Int) (l.take i) v (Zak (.agg [.int .i64 A,.int .i64 B,.int .i64 C,.int .i64 D,.int .i64 E,.int .i64 F,.int .i64 G,.int .i64 I,.int .i64 J,.int .i64 K,.int .i64 N,.int .i64 O,.int .i64 R,.int .i64 T,.int .i64 U,.int .i64 V,.int .i64 Y,.int .i64 Z,.vec false 2 (l.map Ln.a)])):=by
 intro k
 induction k with
 | zero =>
  intro i v hi
  refine tOwnL1 _ _ _ _ _ _ _ _ _ _ _ _ _ _ _ _ _ _ _ _ _ _ _ _ _ ⟨fun h => absurd h (by omega),fun _ => ?_⟩
  rw [List.take_of_length_le (by omega)];exact .refl _
 | succ k ih =>
  intro i v hi
  have e:((i:Int)).toNat = i:=Int.toNat_natCast i
  have e3:((i:Int) + 1) = ((i + 1:Nat):Int):=by omega
  have h1:i < l.length:=by omega
  refine tOwnL1 _ _ _ _ _ _ _ _ _ _ _ _ _ _ _ _ _ _ _ _ _ _ _ _ _ ⟨fun _ => ⟨by omega,by rw [e];exact h1,by rw [List.length_take];omega,by omega,?_⟩,fun h => absurd h (by omega)⟩
  rw [e,e3]
  have ht:l.take i ++ [l.getD i default] = l.take (i + 1):=by rw [List.take_add_one];simp [h1]
  rw [ht]
  exact ih (i + 1) (v + 1) (by omega)
theorem ev28 (f:Bool) (l:List Ln) (A B C D E F G I J K N O R T U V Y Z:Int) (h:Sp.few l.length 1000000):Ev M1 (.pure 28 [.agg [.int .i64 A,.int .i64 B,.int .i64 C,.int .i64 D,.int .i64 E,.int .i64 F,.int .i64 G,.int .i64 I,.int .i64 J,.int .i64 K,.int .i64 N,.int .i64 O,.int .i64 R,.int .i64 T,.int .i64 U,.int .i64 V,.int .i64 Y,.int .i64 Z,.vec f 2 (l.map Ln.a)]]) (.agg [.int .i64 A,.int .i64 B,.int .i64 C,.int .i64 D,.int .i64 E,.int .i64 F,.int .i64 G,.int .i64 I,.int .i64 J,.int .i64 K,.int .i64 N,.int .i64 O,.int .i64 R,.int .i64 T,.int .i64 U,.int .i64 V,.int .i64 Y,.int .i64 Z,.vec false 2 (l.map Ln.a)]) []:=by
 refine call28 (tOwn f l _ _ _ _ _ _ _ _ _ _ _ _ _ _ _ _ _ _ _ ?_)
 refine tOwnL0 _ _ _ _ _ _ _ _ _ _ _ _ _ _ _ _ _ _ _ _ _ _ _ ⟨fun k => ⟨by omega,by simp;omega,by omega,?_⟩,fun k => ?_⟩
 ·have r:=tOwnL1_loop f l A B C D E F G I J K N O R T U V Y Z h (l.length - 1) 1 0 (by omega)
  have ht:l.take 1 = [l.getD 0 default]:=by cases l with | nil => simp at k | cons y l => rfl
  rw [ht] at r;exact r
 ·have:l = []:=List.eq_nil_of_length_eq_zero (by omega)
  subst this;exact weak_tabn A B C D E F G I J K N O R T U V Y Z
end Go.Av

namespace Go.Av
open Go.Proofs
set_option maxRecDepth 100000
def fi53:Fi:=⟨16,[.tmp 2]⟩
def kp53:List (Nat × List Nat):=[(0,[1]),(1,[2])]
def fi57:Fi:=⟨26,[.cell 4 42,.tmp 5]⟩
def kp57:List (Nat × List Nat):=[(0,[1,2,4]),(1,[1,2,4,6]),(2,[2,4,6,20]),(3,[4,5]),(4,[4,5])]
def fi90:Fi:=⟨8,[.cell 2 72]⟩
def kp90:List (Nat × List Nat):=[(0,[1,2]),(1,[1,2]),(2,[2])]
def fi101:Fi:=⟨19,[.tmp 4]⟩
def kp101:List (Nat × List Nat):=[(0,[0,1]),(1,[0,1,7,8]),(2,[0,1,7,8,9]),(3,[0,1,5,7,8]),(4,[0,1,5,7,8,16]),(5,[4]),(6,[0,1,7,8]),(7,[4])]
def tIx_at (f:Bool) (l:List Pp) (Q:AV->Heap->Prop):Prop:=Wp M1 (.run fi101 (atC (cd Try.f101) []) [(0,.vec f 3 (l.map Pp.a)),(1,.func (.func 87) [] [])] []) Q
def Zey (f:Bool) (l:List Pp) (m i:Int) (Q:AV->Heap->Prop):Prop:=Wp M1 (.run fi101 (atC (cd Try.f101) [1,0,1,0,0]) [(0,.vec f 3 (l.map Pp.a)),(1,.func (.func 87) [] []),(7,.int .i64 m),(8,.int .i64 i)] []) Q
def tOutR_at (x y z:Int) (Q:AV->Heap->Prop):Prop:=Wp M1 (.run fi53 (atC (cd Try.f53) []) [(0,.agg [.int .i64 x,.int .i64 y,.int .i64 z])] []) Q
def tClone_at (f:Bool) (l:List Ln) (A B C D E F G I J K N O R T U V Y Z:Int) (Q:AV->Heap->Prop):Prop:=Wp M1 (.run fi90 (atC (cd Try.f90) []) [(0,.agg [.int .i64 A,.int .i64 B,.int .i64 C,.int .i64 D,.int .i64 E,.int .i64 F,.int .i64 G,.int .i64 I,.int .i64 J,.int .i64 K,.int .i64 N,.int .i64 O,.int .i64 R,.int .i64 T,.int .i64 U,.int .i64 V,.int .i64 Y,.int .i64 Z,.vec f 2 (l.map Ln.a)])] []) Q
def tOff0_at (f:Bool) (l:List Ln) (A B C D E F G I J K N O R T U V Y Z:Int) (Q:AV->Heap->Prop):Prop:=Wp M1 (.run fi57 (atC (cd Try.f57) []) [(0,.agg [.int .i64 A,.int .i64 B,.int .i64 C,.int .i64 D,.int .i64 E,.int .i64 F,.int .i64 G,.int .i64 I,.int .i64 J,.int .i64 K,.int .i64 N,.int .i64 O,.int .i64 R,.int .i64 T,.int .i64 U,.int .i64 V,.int .i64 Y,.int .i64 Z,.vec f 2 (l.map Ln.a)]),(1,.int .i64 54000)] []) Q
def tOff1_at (f:Bool) (l:List Ln) (A B C D E F G I J K N O R T U V Y Z:Int) (Q:AV->Heap->Prop):Prop:=Wp M1 (.run fi57 (atC (cd Try.f57) []) [(0,.agg [.int .i64 A,.int .i64 B,.int .i64 C,.int .i64 D,.int .i64 E,.int .i64 F,.int .i64 G,.int .i64 I,.int .i64 J,.int .i64 K,.int .i64 N,.int .i64 O,.int .i64 R,.int .i64 T,.int .i64 U,.int .i64 V,.int .i64 Y,.int .i64 Z,.vec f 2 (l.map Ln.a)]),(1,.int .i64 55000)] []) Q
def tOff2_at (f:Bool) (l:List Ln) (A B C D E F G I J K N O R T U V Y Z:Int) (Q:AV->Heap->Prop):Prop:=Wp M1 (.run fi57 (atC (cd Try.f57) []) [(0,.agg [.int .i64 A,.int .i64 B,.int .i64 C,.int .i64 D,.int .i64 E,.int .i64 F,.int .i64 G,.int .i64 I,.int .i64 J,.int .i64 K,.int .i64 N,.int .i64 O,.int .i64 R,.int .i64 T,.int .i64 U,.int .i64 V,.int .i64 Y,.int .i64 Z,.vec f 2 (l.map Ln.a)]),(1,.int .i64 56000)] []) Q
def tOff3_at (f:Bool) (l:List Ln) (A B C D E F G I J K N O R T U V Y Z:Int) (Q:AV->Heap->Prop):Prop:=Wp M1 (.run fi57 (atC (cd Try.f57) []) [(0,.agg [.int .i64 A,.int .i64 B,.int .i64 C,.int .i64 D,.int .i64 E,.int .i64 F,.int .i64 G,.int .i64 I,.int .i64 J,.int .i64 K,.int .i64 N,.int .i64 O,.int .i64 R,.int .i64 T,.int .i64 U,.int .i64 V,.int .i64 Y,.int .i64 Z,.vec f 2 (l.map Ln.a)]),(1,.int .i64 57000)] []) Q
def tOff4_at (f:Bool) (l:List Ln) (A B C D E F G I J K N O R T U V Y Z:Int) (Q:AV->Heap->Prop):Prop:=Wp M1 (.run fi57 (atC (cd Try.f57) []) [(0,.agg [.int .i64 A,.int .i64 B,.int .i64 C,.int .i64 D,.int .i64 E,.int .i64 F,.int .i64 G,.int .i64 I,.int .i64 J,.int .i64 K,.int .i64 N,.int .i64 O,.int .i64 R,.int .i64 T,.int .i64 U,.int .i64 V,.int .i64 Y,.int .i64 Z,.vec f 2 (l.map Ln.a)]),(1,.int .i64 58000)] []) Q
def tOff5_at (f:Bool) (l:List Ln) (A B C D E F G I J K N O R T U V Y Z:Int) (Q:AV->Heap->Prop):Prop:=Wp M1 (.run fi57 (atC (cd Try.f57) []) [(0,.agg [.int .i64 A,.int .i64 B,.int .i64 C,.int .i64 D,.int .i64 E,.int .i64 F,.int .i64 G,.int .i64 I,.int .i64 J,.int .i64 K,.int .i64 N,.int .i64 O,.int .i64 R,.int .i64 T,.int .i64 U,.int .i64 V,.int .i64 Y,.int .i64 Z,.vec f 2 (l.map Ln.a)]),(1,.int .i64 59000)] []) Q
theorem call53 {args:List AV} {d:AV} (h:wc M1 fi53 Try.f53 args d):Ev M1 (.pure 53 args) d []:=pcl _ _ (by kernel_rfl) h
theorem ZfK {args:List AV} {d:AV} (h:wc M1 fi57 Try.f57 args d):Ev M1 (.pure 57 args) d []:=pcl _ _ (by kernel_rfl) h
theorem call90 {args:List AV} {d:AV} (h:wc M1 fi90 Try.f90 args d):Ev M1 (.pure 90 args) d []:=pcl _ _ (by kernel_rfl) h
theorem call101 {args:List AV} {d:AV} (h:wc M1 fi101 Try.f101 args d):Ev M1 (.pure 101 args) d []:=pcl _ _ (by kernel_rfl) h
theorem tIx (f:Bool) (l:List Pp)  (dq:AV) (H :
  Zey (f) (l) ((↑l.length:Int)) (0) (Zak dq)) :
 tIx_at f l (Zak dq):=by
 unfold tIx_at
 have w1:(List.map Pp.a l).length = l.length:=List.length_map ..
 exact Zah (G:=Zad kp101 [] []) 1000 [] ⟨(atC (cd Try.f101) [1,0,1,0,0]),[(0,AV.vec f 3 (List.map Pp.a l)),(1,AV.func (Fn.func 87) [] []),(7,vi (↑(List.map Pp.a l).length:Int)),(8,vi 0)],[],_,[],_⟩ (by kernel_rfl) b0 q0 c0 (by (try rw [w1]);all_goals exact H)
noncomputable abbrev zNpK1 (l:List Pp) (i:Int):=ag [vi (l.getD i.toNat default).x,vi (l.getD i.toNat default).y,vi (l.getD i.toNat default).z]
theorem tIxL (f:Bool) (l:List Pp) (m i:Int)  (dq:AV) (H :
  ((i < m) -> (0 <= i) /\
   (i.toNat < l.length) /\
   ((¬Sp.pP (l.getD i.toNat default).x (l.getD i.toNat default).y (l.getD i.toNat default).z) -> vi i = dq) /\
   (¬(¬Sp.pP (l.getD i.toNat default).x (l.getD i.toNat default).y (l.getD i.toNat default).z) -> (-9223372036854775808 <= i + 1 /\ i + 1 <= 9223372036854775807) /\
    Zey (f) (l) (m) (i + 1) (Zak dq))) /\
  (¬(i < m) -> vi (-1) = dq)) :
 Zey f l m i (Zak dq):=by
 unfold Zey
 rcases xq H with ⟨d2,H⟩|⟨d2,H⟩
 ·obtain ⟨k4,H⟩:=H
  have w5:(List.map Pp.a l).length = l.length:=List.length_map ..
  have i6:(decide (i.toNat < (List.map Pp.a l).length)) = true ↔ (i.toNat < l.length):=(by (try rw [w5]);all_goals exact Zaa)
  obtain ⟨k7,H⟩:=H
  refine Zah (G:=Zad kp101 [(4,4,.elem (zNpK1 l i)),(4,5,.call (vb (decide ¬Sp.pP (l.getD i.toNat default).x (l.getD i.toNat default).y (l.getD i.toNat default).z)) none)] []) 11 [true] ⟨(atC (cd Try.f101) [1,0,1,0,0,1,1,0,0,1,1]),[(0,AV.vec f 3 (List.map Pp.a l)),(1,AV.func (Fn.func 87) [] []),(5,vi i),(7,vi m),(8,vi i),(16,vb (decide ¬Sp.pP (l.getD i.toNat default).x (l.getD i.toNat default).y (l.getD i.toNat default).z))],[],_,[((List.map Pp.a l).get?Internal i.toNat = some (zNpK1 l i))],_⟩ (by kernel_rfl) (bc (ZaG (Zaa.2 d2)) (bc (Zaa.2 k4) (bc (i6.2 k7) b0))) (qc (Zed k7) q0) (ce (@ev87 ((l.getD i.toNat default).x) ((l.getD i.toNat default).y) ((l.getD i.toNat default).z)) c0) ?_
  rcases xq H with ⟨d9,H⟩|⟨d9,H⟩
  ·exact Zae (G:=Zad kp101 [] []) 1000 [true] (vi i) (by kernel_rfl) (bc (ZaG (Zaa.2 d9)) b0) q0 c0 H
  ·obtain ⟨k10,H⟩:=H
   have w11:wi (i + 1) = i + 1:=wI64 k10
   exact Zah (G:=Zad kp101 [] []) 1000 [false] ⟨(atC (cd Try.f101) [1,0,1,0,0]),[(0,AV.vec f 3 (List.map Pp.a l)),(1,AV.func (Fn.func 87) [] []),(7,vi m),(8,vi (wi (i + 1)))],[],_,[],_⟩ (by kernel_rfl) (bc (Zaj (fun h => d9 (Zaa.1 h))) b0) q0 c0 (by (try rw [w11]);all_goals exact H)
 ·exact Zae (G:=Zad kp101 [] []) 1000 [false] (vi (-1)) (by kernel_rfl) (bc (Zaj (fun h => d2 (Zaa.1 h))) b0) q0 c0 H
theorem tOutR (x y z:Int)  (dq:AV) (H :
  vb (bif bif decide ¬Sp.pM x then true else decide ¬Sp.pM y then true else decide ¬Sp.pM z) = dq) :
 tOutR_at x y z (Zak dq):=by
 unfold tOutR_at
 exact Zae (G:=Zad kp53 [(1,2,.call (vb (decide ¬Sp.pM x)) none),(1,6,.call (vb (decide ¬Sp.pM y)) none),(1,11,.call (vb (decide ¬Sp.pM z)) none)] []) 1000 [] (asm:=[true,!((decide ¬Sp.pM x) == false && true) || true,!((bif decide ¬Sp.pM x then true else decide ¬Sp.pM y) == false && true) || true]) (calls:=[⟨true,false,85,[vi x],[],vb (decide ¬Sp.pM x),[]⟩,⟨(decide ¬Sp.pM x) == false && true && true,false,85,[vi y],[],vb (decide ¬Sp.pM y),[]⟩,⟨(bif decide ¬Sp.pM x then true else decide ¬Sp.pM y) == false && true && true,false,85,[vi z],[],vb (decide ¬Sp.pM z),[]⟩]) (vb (bif bif decide ¬Sp.pM x then true else decide ¬Sp.pM y then true else decide ¬Sp.pM z)) (by kernel_rfl) (bc rfl (bc (Bool.or_true _) (bc (Bool.or_true _) b0))) q0 (cc (fun _ => (@ev85 (x))) (cc (fun hc => ((@ev85 (y)):Ev M1 (Conf.pure 85 [vi y]) (vb (decide ¬Sp.pM y)) [])) (cc (fun hc => ((@ev85 (z)):Ev M1 (Conf.pure 85 [vi z]) (vb (decide ¬Sp.pM z)) [])) c0))) H
theorem tClone (f:Bool) (l:List Ln) (A B C D E F G I J K N O R T U V Y Z:Int)  (dq:AV) (H :
  (Sp.few l.length 1000000) /\
  Weak (ag [vi A,vi B,vi C,vi D,vi E,vi F,vi G,vi I,vi J,vi K,vi N,vi O,vi R,vi T,vi U,vi V,vi Y,vi Z,AV.vec false 2 (List.map Ln.a l)]) dq) :
 tClone_at f l A B C D E F G I J K N O R T U V Y Z (Zak dq):=by
 unfold tClone_at
 obtain ⟨k1,H⟩:=H
 exact Zam (G:=Zad kp90 [(1,2,.call (AV.vec false 2 (List.map Ln.a l)) none)] []) 1000 [] (ag [vi A,vi B,vi C,vi D,vi E,vi F,vi G,vi I,vi J,vi K,vi N,vi O,vi R,vi T,vi U,vi V,vi Y,vi Z,AV.vec false 2 (List.map Ln.a l)]) (by kernel_rfl) (bc rfl (bc rfl (bc rfl (bc rfl b0)))) q0 (ce (@ev102 (f) (l) k1) c0) H
theorem tOff0 (f:Bool) (l:List Ln) (A B C D E F G I J K N O R T U V Y Z:Int)  (dq:AV) (H :
  tu [ag [vi A,vi B,vi C],vi 0] = dq) :
 tOff0_at f l A B C D E F G I J K N O R T U V Y Z (Zak dq):=by
 unfold tOff0_at
 exact Zae (G:=Zad kp57 [] []) 1000 [false] (tu [ag [vi A,vi B,vi C],vi 0]) (by kernel_rfl) (bc rfl (bc rfl (bc rfl (bc rfl (bc rfl (bc rfl (bc rfl b0))))))) q0 c0 H
theorem tOff1 (f:Bool) (l:List Ln) (A B C D E F G I J K N O R T U V Y Z:Int)  (dq:AV) (H :
  tu [ag [vi D,vi E,vi F],vi 0] = dq) :
 tOff1_at f l A B C D E F G I J K N O R T U V Y Z (Zak dq):=by
 unfold tOff1_at
 exact Zae (G:=Zad kp57 [] []) 1000 [false] (tu [ag [vi D,vi E,vi F],vi 0]) (by kernel_rfl) (bc rfl (bc rfl (bc rfl (bc rfl (bc rfl (bc rfl (bc rfl b0))))))) q0 c0 H
theorem tOff2 (f:Bool) (l:List Ln) (A B C D E F G I J K N O R T U V Y Z:Int)  (dq:AV) (H :
  tu [ag [vi G,vi I,vi J],vi 0] = dq) :
 tOff2_at f l A B C D E F G I J K N O R T U V Y Z (Zak dq):=by
 unfold tOff2_at
 exact Zae (G:=Zad kp57 [] []) 1000 [false] (tu [ag [vi G,vi I,vi J],vi 0]) (by kernel_rfl) (bc rfl (bc rfl (bc rfl (bc rfl (bc rfl (bc rfl (bc rfl b0))))))) q0 c0 H
theorem tOff3 (f:Bool) (l:List Ln) (A B C D E F G I J K N O R T U V Y Z:Int)  (dq:AV) (H :
  tu [ag [vi K,vi N,vi O],vi 0] = dq) :
 tOff3_at f l A B C D E F G I J K N O R T U V Y Z (Zak dq):=by
 unfold tOff3_at
 exact Zae (G:=Zad kp57 [] []) 1000 [false] (tu [ag [vi K,vi N,vi O],vi 0]) (by kernel_rfl) (bc rfl (bc rfl (bc rfl (bc rfl (bc rfl (bc rfl (bc rfl b0))))))) q0 c0 H
theorem tOff4 (f:Bool) (l:List Ln) (A B C D E F G I J K N O R T U V Y Z:Int)  (dq:AV) (H :
  tu [ag [vi R,vi T,vi U],vi 0] = dq) :
 tOff4_at f l A B C D E F G I J K N O R T U V Y Z (Zak dq):=by
 unfold tOff4_at
 exact Zae (G:=Zad kp57 [] []) 1000 [false] (tu [ag [vi R,vi T,vi U],vi 0]) (by kernel_rfl) (bc rfl (bc rfl (bc rfl (bc rfl (bc rfl (bc rfl (bc rfl b0))))))) q0 c0 H
theorem tOff5 (f:Bool) (l:List Ln) (A B C D E F G I J K N O R T U V Y Z:Int)  (dq:AV) (H :
  tu [ag [vi V,vi Y,vi Z],vi 0] = dq) :
 tOff5_at f l A B C D E F G I J K N O R T U V Y Z (Zak dq):=by
 unfold tOff5_at
 exact Zae (G:=Zad kp57 [] []) 1000 [false] (tu [ag [vi V,vi Y,vi Z],vi 0]) (by kernel_rfl) (bc rfl (bc rfl (bc rfl (bc rfl (bc rfl (bc rfl (bc rfl b0))))))) q0 c0 H
end Go.Av

namespace Go.Av
open Go.Proofs
namespace Sp
def okQ (p:Pp):Prop:=pP p.x p.y p.z
instance (p:Pp):Decidable (okQ p):=inferInstanceAs (Decidable (pP _ _ _))
def ffi (i:Int):List Pp -> Int
 | [] => -1
 | p :: l => if okQ p then ffi (i + 1) l else i
end Sp
theorem ffi_ge (l:List Pp):∀ (i:Int),0 <= i -> (Sp.ffi i l >= 0 ↔ ¬∀ p ∈ l,Sp.okQ p):=by
 induction l with
 | nil => intro i hi;exact ⟨fun h => absurd h (by show ¬(-1:Int) >= 0;decide),fun h => absurd (by simp) h⟩
 | cons p l ih =>
  intro i hi
  show (if Sp.okQ p then Sp.ffi (i + 1) l else i) >= 0 ↔ _
  by_cases k:Sp.okQ p
  ·rw [if_pos k,ih (i + 1) (by omega)]
   simp [k]
  ·rw [if_neg k]
   exact ⟨fun _ h => k (h p (by simp)),fun _ => hi⟩
theorem tIxL_loop (f:Bool) (l:List Pp) (hl:l.length <= 1000000):∀ (k i:Nat),i + k = l.length -> Zey f l (l.length:Int) (i:Int) (Zak (.int .i64 (Sp.ffi (i:Int) (l.drop i)))):=by
 intro k
 induction k with
 | zero =>
  intro i hi
  refine tIxL _ _ _ _ _ ⟨fun h => absurd h (by omega),fun _ => ?_⟩
  rw [List.drop_of_length_le (by omega)];rfl
 | succ k ih =>
  intro i hi
  have hlt:i < l.length:=by omega
  have e:((i:Int)).toNat = i:=Int.toNat_natCast i
  have e3:((i:Int) + 1) = ((i + 1:Nat):Int):=by omega
  have hd:Sp.ffi (i:Int) (l.drop i) = if Sp.okQ (l.getD i default) then Sp.ffi ((i:Int) + 1) (l.drop (i + 1)) else (i:Int):=by
   rw [drop_getD hlt];rfl
  refine tIxL _ _ _ _ _ ⟨fun _ => ⟨by omega,by rw [e];exact hlt,fun h => ?_,fun h => ⟨by omega,?_⟩⟩,fun h => absurd h (by omega)⟩
  ·rw [e] at h
   rw [hd,if_neg (show ¬Sp.okQ _ from h)]
  ·rw [e] at h
   rw [hd,if_pos (show Sp.okQ _ from Classical.not_not.1 h),e3]
   exact ih (i + 1) (by omega)
theorem ev101 (f:Bool) (l:List Pp) (h:Sp.few l.length 1000000):Ev M1 (.pure 101 [.vec f 3 (l.map Pp.a),.func (.func 87) [] []]) (.int .i64 (Sp.ffi 0 l)) []:=
 call101 (tIx _ _ _ (tIxL_loop f l h l.length 0 (by omega)))
theorem ev53 (x y z:Int):Ev M1 (.pure 53 [.agg [.int .i64 x,.int .i64 y,.int .i64 z]]) (.bool (decide (¬Sp.pP x y z))) []:=by
 refine call53 (tOutR _ _ _ _ ?_)
 rw [bif_dor,bif_dor]
 exact congrArg AV.bool (ZcR (by unfold Sp.pP Sp.pM;omega))
theorem ev90 (f:Bool) (l:List Ln) (A B C D E F G I J K N O R T U V Y Z:Int) (h:Sp.few l.length 1000000):Ev M1 (.pure 90 [.agg [.int .i64 A,.int .i64 B,.int .i64 C,.int .i64 D,.int .i64 E,.int .i64 F,.int .i64 G,.int .i64 I,.int .i64 J,.int .i64 K,.int .i64 N,.int .i64 O,.int .i64 R,.int .i64 T,.int .i64 U,.int .i64 V,.int .i64 Y,.int .i64 Z,.vec f 2 (l.map Ln.a)]]) (.agg [.int .i64 A,.int .i64 B,.int .i64 C,.int .i64 D,.int .i64 E,.int .i64 F,.int .i64 G,.int .i64 I,.int .i64 J,.int .i64 K,.int .i64 N,.int .i64 O,.int .i64 R,.int .i64 T,.int .i64 U,.int .i64 V,.int .i64 Y,.int .i64 Z,.vec false 2 (l.map Ln.a)]) []:=
 call90 (tClone f l A B C D E F G I J K N O R T U V Y Z _ ⟨h,.refl _⟩)
theorem ev57_a (f:Bool) (l:List Ln) (A B C D E F G I J K N O R T U V Y Z:Int):Ev M1 (.pure 57 [.agg [.int .i64 A,.int .i64 B,.int .i64 C,.int .i64 D,.int .i64 E,.int .i64 F,.int .i64 G,.int .i64 I,.int .i64 J,.int .i64 K,.int .i64 N,.int .i64 O,.int .i64 R,.int .i64 T,.int .i64 U,.int .i64 V,.int .i64 Y,.int .i64 Z,.vec f 2 (l.map Ln.a)],.int .i64 54000]) (.tup [.agg [.int .i64 A,.int .i64 B,.int .i64 C],.int .i64 0]) []:=ZfK (tOff0 f l A B C D E F G I J K N O R T U V Y Z _ rfl)
theorem ev57_b (f:Bool) (l:List Ln) (A B C D E F G I J K N O R T U V Y Z:Int):Ev M1 (.pure 57 [.agg [.int .i64 A,.int .i64 B,.int .i64 C,.int .i64 D,.int .i64 E,.int .i64 F,.int .i64 G,.int .i64 I,.int .i64 J,.int .i64 K,.int .i64 N,.int .i64 O,.int .i64 R,.int .i64 T,.int .i64 U,.int .i64 V,.int .i64 Y,.int .i64 Z,.vec f 2 (l.map Ln.a)],.int .i64 55000]) (.tup [.agg [.int .i64 D,.int .i64 E,.int .i64 F],.int .i64 0]) []:=ZfK (tOff1 f l A B C D E F G I J K N O R T U V Y Z _ rfl)
theorem ev57_c (f:Bool) (l:List Ln) (A B C D E F G I J K N O R T U V Y Z:Int):Ev M1 (.pure 57 [.agg [.int .i64 A,.int .i64 B,.int .i64 C,.int .i64 D,.int .i64 E,.int .i64 F,.int .i64 G,.int .i64 I,.int .i64 J,.int .i64 K,.int .i64 N,.int .i64 O,.int .i64 R,.int .i64 T,.int .i64 U,.int .i64 V,.int .i64 Y,.int .i64 Z,.vec f 2 (l.map Ln.a)],.int .i64 56000]) (.tup [.agg [.int .i64 G,.int .i64 I,.int .i64 J],.int .i64 0]) []:=ZfK (tOff2 f l A B C D E F G I J K N O R T U V Y Z _ rfl)
theorem ev57_d (f:Bool) (l:List Ln) (A B C D E F G I J K N O R T U V Y Z:Int):Ev M1 (.pure 57 [.agg [.int .i64 A,.int .i64 B,.int .i64 C,.int .i64 D,.int .i64 E,.int .i64 F,.int .i64 G,.int .i64 I,.int .i64 J,.int .i64 K,.int .i64 N,.int .i64 O,.int .i64 R,.int .i64 T,.int .i64 U,.int .i64 V,.int .i64 Y,.int .i64 Z,.vec f 2 (l.map Ln.a)],.int .i64 57000]) (.tup [.agg [.int .i64 K,.int .i64 N,.int .i64 O],.int .i64 0]) []:=ZfK (tOff3 f l A B C D E F G I J K N O R T U V Y Z _ rfl)
theorem ev57_e (f:Bool) (l:List Ln) (A B C D E F G I J K N O R T U V Y Z:Int):Ev M1 (.pure 57 [.agg [.int .i64 A,.int .i64 B,.int .i64 C,.int .i64 D,.int .i64 E,.int .i64 F,.int .i64 G,.int .i64 I,.int .i64 J,.int .i64 K,.int .i64 N,.int .i64 O,.int .i64 R,.int .i64 T,.int .i64 U,.int .i64 V,.int .i64 Y,.int .i64 Z,.vec f 2 (l.map Ln.a)],.int .i64 58000]) (.tup [.agg [.int .i64 R,.int .i64 T,.int .i64 U],.int .i64 0]) []:=ZfK (tOff4 f l A B C D E F G I J K N O R T U V Y Z _ rfl)
theorem ev57_o (f:Bool) (l:List Ln) (A B C D E F G I J K N O R T U V Y Z:Int):Ev M1 (.pure 57 [.agg [.int .i64 A,.int .i64 B,.int .i64 C,.int .i64 D,.int .i64 E,.int .i64 F,.int .i64 G,.int .i64 I,.int .i64 J,.int .i64 K,.int .i64 N,.int .i64 O,.int .i64 R,.int .i64 T,.int .i64 U,.int .i64 V,.int .i64 Y,.int .i64 Z,.vec f 2 (l.map Ln.a)],.int .i64 59000]) (.tup [.agg [.int .i64 V,.int .i64 Y,.int .i64 Z],.int .i64 0]) []:=ZfK (tOff5 f l A B C D E F G I J K N O R T U V Y Z _ rfl)
end Go.Av

namespace Go.Av
open Go.Proofs
set_option maxRecDepth 100000
def fi26:Fi:=⟨48,[.tmp 2]⟩
def kp26:List (Nat × List Nat):=[(0,[1]),(1,[1,3]),(2,[1,3,6]),(3,[1,3]),(4,[1,3,13]),(5,[2]),(6,[1,4]),(7,[1,4,18]),(8,[1,4]),(9,[1,4,47]),(10,[2]),(11,[2])]
def fi86:Fi:=⟨9,[.tmp 4]⟩
def kp86:List (Nat × List Nat):=[(0,[0,1]),(1,[4])]
def tCf_at (f:Bool) (l:List Pp) (Q:AV->Heap->Prop):Prop:=Wp M1 (.run fi86 (atC (cd Try.f86) []) [(0,.vec f 3 (l.map Pp.a)),(1,.func (.func 87) [] [])] []) Q
def tVdR_at (f:Bool) (l:List Ln) (A B C D E F G I J K N O R T U V Y Z:Int) (Q:AV->Heap->Prop):Prop:=Wp M1 (.run fi26 (atC (cd Try.f26) []) [(0,.agg [.int .i64 A,.int .i64 B,.int .i64 C,.int .i64 D,.int .i64 E,.int .i64 F,.int .i64 G,.int .i64 I,.int .i64 J,.int .i64 K,.int .i64 N,.int .i64 O,.int .i64 R,.int .i64 T,.int .i64 U,.int .i64 V,.int .i64 Y,.int .i64 Z,.vec f 2 (l.map Ln.a)])] []) Q
def Zds (f:Bool) (l:List Ln) (A B C D E F G I J K N O R T U V Y Z:Int) (i:Int) (Q:AV->Heap->Prop):Prop:=Wp M1 (.run fi26 (atC (cd Try.f26) [1,1,0,1,0,0]) [(1,.ptr 0 0 0 0),(4,.int .i64 i)] [⟨[.agg [.int .i64 A,.int .i64 B,.int .i64 C,.int .i64 D,.int .i64 E,.int .i64 F,.int .i64 G,.int .i64 I,.int .i64 J,.int .i64 K,.int .i64 N,.int .i64 O,.int .i64 R,.int .i64 T,.int .i64 U,.int .i64 V,.int .i64 Y,.int .i64 Z,.vec f 2 (l.map Ln.a)]],19,0,false,false⟩]) Q
def tVdR0_at (f:Bool) (l:List Ln) (A B C D E F G I J K N O R T U V Y Z:Int) (Q:AV->Heap->Prop):Prop:=Wp M1 (.run fi26 (atC (cd Try.f26) [1,0,1,0,0]) [(1,.ptr 0 0 0 0),(3,.int .i64 0)] [⟨[.agg [.int .i64 A,.int .i64 B,.int .i64 C,.int .i64 D,.int .i64 E,.int .i64 F,.int .i64 G,.int .i64 I,.int .i64 J,.int .i64 K,.int .i64 N,.int .i64 O,.int .i64 R,.int .i64 T,.int .i64 U,.int .i64 V,.int .i64 Y,.int .i64 Z,.vec f 2 (l.map Ln.a)]],19,0,false,false⟩]) Q
def tVdR1_at (f:Bool) (l:List Ln) (A B C D E F G I J K N O R T U V Y Z:Int) (Q:AV->Heap->Prop):Prop:=Wp M1 (.run fi26 (atC (cd Try.f26) [1,0,1,0,0]) [(1,.ptr 0 0 0 0),(3,.int .i64 1)] [⟨[.agg [.int .i64 A,.int .i64 B,.int .i64 C,.int .i64 D,.int .i64 E,.int .i64 F,.int .i64 G,.int .i64 I,.int .i64 J,.int .i64 K,.int .i64 N,.int .i64 O,.int .i64 R,.int .i64 T,.int .i64 U,.int .i64 V,.int .i64 Y,.int .i64 Z,.vec f 2 (l.map Ln.a)]],19,0,false,false⟩]) Q
def tVdR2_at (f:Bool) (l:List Ln) (A B C D E F G I J K N O R T U V Y Z:Int) (Q:AV->Heap->Prop):Prop:=Wp M1 (.run fi26 (atC (cd Try.f26) [1,0,1,0,0]) [(1,.ptr 0 0 0 0),(3,.int .i64 2)] [⟨[.agg [.int .i64 A,.int .i64 B,.int .i64 C,.int .i64 D,.int .i64 E,.int .i64 F,.int .i64 G,.int .i64 I,.int .i64 J,.int .i64 K,.int .i64 N,.int .i64 O,.int .i64 R,.int .i64 T,.int .i64 U,.int .i64 V,.int .i64 Y,.int .i64 Z,.vec f 2 (l.map Ln.a)]],19,0,false,false⟩]) Q
def tVdR3_at (f:Bool) (l:List Ln) (A B C D E F G I J K N O R T U V Y Z:Int) (Q:AV->Heap->Prop):Prop:=Wp M1 (.run fi26 (atC (cd Try.f26) [1,0,1,0,0]) [(1,.ptr 0 0 0 0),(3,.int .i64 3)] [⟨[.agg [.int .i64 A,.int .i64 B,.int .i64 C,.int .i64 D,.int .i64 E,.int .i64 F,.int .i64 G,.int .i64 I,.int .i64 J,.int .i64 K,.int .i64 N,.int .i64 O,.int .i64 R,.int .i64 T,.int .i64 U,.int .i64 V,.int .i64 Y,.int .i64 Z,.vec f 2 (l.map Ln.a)]],19,0,false,false⟩]) Q
def tVdR4_at (f:Bool) (l:List Ln) (A B C D E F G I J K N O R T U V Y Z:Int) (Q:AV->Heap->Prop):Prop:=Wp M1 (.run fi26 (atC (cd Try.f26) [1,0,1,0,0]) [(1,.ptr 0 0 0 0),(3,.int .i64 4)] [⟨[.agg [.int .i64 A,.int .i64 B,.int .i64 C,.int .i64 D,.int .i64 E,.int .i64 F,.int .i64 G,.int .i64 I,.int .i64 J,.int .i64 K,.int .i64 N,.int .i64 O,.int .i64 R,.int .i64 T,.int .i64 U,.int .i64 V,.int .i64 Y,.int .i64 Z,.vec f 2 (l.map Ln.a)]],19,0,false,false⟩]) Q
def tVdR5_at (f:Bool) (l:List Ln) (A B C D E F G I J K N O R T U V Y Z:Int) (Q:AV->Heap->Prop):Prop:=Wp M1 (.run fi26 (atC (cd Try.f26) [1,0,1,0,0]) [(1,.ptr 0 0 0 0),(3,.int .i64 5)] [⟨[.agg [.int .i64 A,.int .i64 B,.int .i64 C,.int .i64 D,.int .i64 E,.int .i64 F,.int .i64 G,.int .i64 I,.int .i64 J,.int .i64 K,.int .i64 N,.int .i64 O,.int .i64 R,.int .i64 T,.int .i64 U,.int .i64 V,.int .i64 Y,.int .i64 Z,.vec f 2 (l.map Ln.a)]],19,0,false,false⟩]) Q
def tVdR6_at (f:Bool) (l:List Ln) (A B C D E F G I J K N O R T U V Y Z:Int) (Q:AV->Heap->Prop):Prop:=Wp M1 (.run fi26 (atC (cd Try.f26) [1,0,1,0,0]) [(1,.ptr 0 0 0 0),(3,.int .i64 6)] [⟨[.agg [.int .i64 A,.int .i64 B,.int .i64 C,.int .i64 D,.int .i64 E,.int .i64 F,.int .i64 G,.int .i64 I,.int .i64 J,.int .i64 K,.int .i64 N,.int .i64 O,.int .i64 R,.int .i64 T,.int .i64 U,.int .i64 V,.int .i64 Y,.int .i64 Z,.vec f 2 (l.map Ln.a)]],19,0,false,false⟩]) Q
theorem call26 {args:List AV} {d:AV} (h:wc M1 fi26 Try.f26 args d):Ev M1 (.pure 26 args) d []:=pcl _ _ (by kernel_rfl) h
theorem call86 {args:List AV} {d:AV} (h:wc M1 fi86 Try.f86 args d):Ev M1 (.pure 86 args) d []:=pcl _ _ (by kernel_rfl) h
theorem tCf (f:Bool) (l:List Pp)  (dq:AV) (H :
  (Sp.few l.length 1000000) /\
  vb (decide (Sp.ffi 0 l >= 0)) = dq) :
 tCf_at f l (Zak dq):=by
 unfold tCf_at
 obtain ⟨k1,H⟩:=H
 exact Zae (G:=Zad kp86 [(1,2,.call (vi (Sp.ffi 0 l)) none)] []) 1000 [] (vb (decide (Sp.ffi 0 l >= 0))) (by kernel_rfl) b0 q0 (ce (@ev101 (f) (l) k1) c0) H
theorem tVdR (f:Bool) (l:List Ln) (A B C D E F G I J K N O R T U V Y Z:Int)  (dq:AV) (H :
  tVdR0_at (f) (l) (A) (B) (C) (D) (E) (F) (G) (I) (J) (K) (N) (O) (R) (T) (U) (V) (Y) (Z) (Zak dq)) :
 tVdR_at f l A B C D E F G I J K N O R T U V Y Z (Zak dq):=by
 unfold tVdR_at
 exact Zah (G:=Zad kp26 [] []) 1000 [] ⟨(atC (cd Try.f26) [1,0,1,0,0]),[(1,AV.ptr 0 0 0 0),(3,vi 0)],[⟨[ag [vi A,vi B,vi C,vi D,vi E,vi F,vi G,vi I,vi J,vi K,vi N,vi O,vi R,vi T,vi U,vi V,vi Y,vi Z,AV.vec f 2 (List.map Ln.a l)]],19,0,false,false⟩],_,[],_⟩ (by kernel_rfl) b0 q0 c0 (H)
noncomputable abbrev zNpL1 (l:List Ln) (i:Int):=ag [vi (l.getD i.toNat default).n,vi (l.getD i.toNat default).l]
theorem tVdRL (f:Bool) (l:List Ln) (A B C D E F G I J K N O R T U V Y Z:Int) (i:Int)  (dq:AV) (H :
  ((i < (↑l.length:Int)) -> (-9223372036854775808 <= i - 1 /\ i - 1 <= 9223372036854775807) /\
   (0 <= i) /\
   (i.toNat < l.length) /\
   (((i > 0) /\ (¬(¬(Sp.enP { n:=(l.getD i.toNat default).n,l:=(l.getD i.toNat default).l })))) -> (0 <= i - 1)) /\
   (((i > 0) /\ (¬(¬(Sp.enP { n:=(l.getD i.toNat default).n,l:=(l.getD i.toNat default).l })))) -> ((i - 1).toNat < l.length)) /\
   (((¬(Sp.enP { n:=(l.getD i.toNat default).n,l:=(l.getD i.toNat default).l })) \/ ((i > 0) /\ ((l.getD i.toNat default).n <= (l.getD (i - 1).toNat default).n))) -> vi 1 = dq) /\
   (¬((¬(Sp.enP { n:=(l.getD i.toNat default).n,l:=(l.getD i.toNat default).l })) \/ ((i > 0) /\ ((l.getD i.toNat default).n <= (l.getD (i - 1).toNat default).n))) -> (-9223372036854775808 <= i + 1 /\ i + 1 <= 9223372036854775807) /\
    Zds (f) (l) (A) (B) (C) (D) (E) (F) (G) (I) (J) (K) (N) (O) (R) (T) (U) (V) (Y) (Z) (i + 1) (Zak dq))) /\
  (¬(i < (↑l.length:Int)) -> vi 0 = dq)) :
 Zds f l A B C D E F G I J K N O R T U V Y Z i (Zak dq):=by
 unfold Zds
 have w1:(List.map Ln.a l).length = l.length:=List.length_map ..
 have i2:(decide (i < (↑(List.map Ln.a l).length:Int))) = true ↔ (i < (↑l.length:Int)):=(by (try rw [w1]);all_goals exact Zaa)
 rcases xq H with ⟨d3,H⟩|⟨d3,H⟩
 ·obtain ⟨k4,H⟩:=H
  have w5:wi (i - 1) = i - 1:=wI64 k4
  obtain ⟨k7,H⟩:=H
  have i8:(decide (i.toNat < (List.map Ln.a l).length)) = true ↔ (i.toNat < l.length):=(by (try rw [w1]);all_goals exact Zaa)
  obtain ⟨k9,H⟩:=H
  have i11:(!(decide (i > 0) == true && ((!decide (Sp.enP { n:=(l.getD i.toNat default).n,l:=(l.getD i.toNat default).l })) == false && true)) || decide (i.toNat < (List.map Ln.a l).length)) = true ↔ (((i > 0) /\ (¬(¬(Sp.enP { n:=(l.getD i.toNat default).n,l:=(l.getD i.toNat default).l })))) -> (i.toNat < l.length)):=(by (try rw [w1]);all_goals exact (i_imp (Zab (i_bt Zaa) (i_at (i_bf (Zan Zaa)))) Zaa))
  have i12:(!(decide (i > 0) == true && ((!decide (Sp.enP { n:=(l.getD i.toNat default).n,l:=(l.getD i.toNat default).l })) == false && true)) || decide (0 <= wi (i - 1))) = true ↔ (((i > 0) /\ (¬(¬(Sp.enP { n:=(l.getD i.toNat default).n,l:=(l.getD i.toNat default).l })))) -> (0 <= i - 1)):=(by (try rw [w5]);all_goals exact (i_imp (Zab (i_bt Zaa) (i_at (i_bf (Zan Zaa)))) Zaa))
  obtain ⟨k13,H⟩:=H
  have i14:(!(decide (i > 0) == true && ((!decide (Sp.enP { n:=(l.getD i.toNat default).n,l:=(l.getD i.toNat default).l })) == false && true)) || decide ((wi (i - 1)).toNat < (List.map Ln.a l).length)) = true ↔ (((i > 0) /\ (¬(¬(Sp.enP { n:=(l.getD i.toNat default).n,l:=(l.getD i.toNat default).l })))) -> ((i - 1).toNat < l.length)):=(by (try rw [w1]);(try rw [w5]);all_goals exact (i_imp (Zab (i_bt Zaa) (i_at (i_bf (Zan Zaa)))) Zaa))
  obtain ⟨k15,H⟩:=H
  refine Zah (G:=Zad kp26 [(9,4,.elem (zNpL1 l i)),(9,5,.call (vb (decide (Sp.enP { n:=(l.getD i.toNat default).n,l:=(l.getD i.toNat default).l }))) none),(9,16,.elem (zNpL1 l i)),(9,23,.elem (ag [vi (l.getD (i - 1).toNat default).n,vi (l.getD (i - 1).toNat default).l]))] []) 9 [true] ⟨(atC (cd Try.f26) [1,1,0,1,0,0,1,0,0,1]),[(1,AV.ptr 0 0 0 0),(4,vi i),(47,vb (bif !decide (Sp.enP { n:=(l.getD i.toNat default).n,l:=(l.getD i.toNat default).l }) then true else bif decide (i > 0) then decide ((l.getD i.toNat default).n <= (l.getD (i - 1).toNat default).n) else false))],[⟨[ag [vi A,vi B,vi C,vi D,vi E,vi F,vi G,vi I,vi J,vi K,vi N,vi O,vi R,vi T,vi U,vi V,vi Y,vi Z,AV.vec f 2 (List.map Ln.a l)]],19,0,false,false⟩],[true,(decide (i < (↑(List.map Ln.a l).length:Int))) == true,true,decide (0 <= i),decide (i.toNat < (List.map Ln.a l).length),!(decide (i > 0) == true && ((!decide (Sp.enP { n:=(l.getD i.toNat default).n,l:=(l.getD i.toNat default).l })) == false && true)) || true,!(decide (i > 0) == true && ((!decide (Sp.enP { n:=(l.getD i.toNat default).n,l:=(l.getD i.toNat default).l })) == false && true)) || decide (0 <= i),!(decide (i > 0) == true && ((!decide (Sp.enP { n:=(l.getD i.toNat default).n,l:=(l.getD i.toNat default).l })) == false && true)) || decide (i.toNat < (List.map Ln.a l).length),!(decide (i > 0) == true && ((!decide (Sp.enP { n:=(l.getD i.toNat default).n,l:=(l.getD i.toNat default).l })) == false && true)) || true,!(decide (i > 0) == true && ((!decide (Sp.enP { n:=(l.getD i.toNat default).n,l:=(l.getD i.toNat default).l })) == false && true)) || decide (0 <= wi (i - 1)),!(decide (i > 0) == true && ((!decide (Sp.enP { n:=(l.getD i.toNat default).n,l:=(l.getD i.toNat default).l })) == false && true)) || decide ((wi (i - 1)).toNat < (List.map Ln.a l).length)],[((List.map Ln.a l).get?Internal i.toNat = some (zNpL1 l i)),((decide (i > 0) == true && ((!decide (Sp.enP { n:=(l.getD i.toNat default).n,l:=(l.getD i.toNat default).l })) == false && true)) = true -> (List.map Ln.a l).get?Internal i.toNat = some (zNpL1 l i)),((decide (i > 0) == true && ((!decide (Sp.enP { n:=(l.getD i.toNat default).n,l:=(l.getD i.toNat default).l })) == false && true)) = true -> (List.map Ln.a l).get?Internal (wi (i - 1)).toNat = some (ag [vi (l.getD (i - 1).toNat default).n,vi (l.getD (i - 1).toNat default).l]))],_⟩ (by kernel_rfl) (bc rfl (bc (ZaG (i2.2 d3)) (bc rfl (bc (Zaa.2 k7) (bc (i8.2 k9) (bc (Bool.or_true _) (bc ((i_imp (Zab (i_bt Zaa) (i_at (i_bf (Zan Zaa)))) Zaa).2 (fun _ => k7)) (bc (i11.2 (fun _ => k9)) (bc (Bool.or_true _) (bc (i12.2 k13) (bc (i14.2 k15) b0))))))))))) (qc (Zed k9) (qc (fun h => Zed k9) (qc (by (try rw [w5]);all_goals exact (fun h => Zed (k15 ((Zab (i_bt Zaa) (i_at (i_bf (Zan Zaa)))).1 h)))) q0))) (ce (@ev54 ((l.getD i.toNat default).n) ((l.getD i.toNat default).l)) c0) ?_
  rcases xq H with ⟨d19,H⟩|⟨d19,H⟩
  ·exact Zae (G:=Zad kp26 [] []) 1000 [true] (vi 1) (by kernel_rfl) (bc (ZaG ((Zag (Zan Zaa) (Zcy Zaa Zaa)).2 d19)) b0) q0 c0 H
  ·obtain ⟨k20,H⟩:=H
   have w21:wi (i + 1) = i + 1:=wI64 k20
   exact Zah (G:=Zad kp26 [] []) 1000 [false] ⟨(atC (cd Try.f26) [1,1,0,1,0,0]),[(1,AV.ptr 0 0 0 0),(4,vi (wi (i + 1)))],[⟨[ag [vi A,vi B,vi C,vi D,vi E,vi F,vi G,vi I,vi J,vi K,vi N,vi O,vi R,vi T,vi U,vi V,vi Y,vi Z,AV.vec f 2 (List.map Ln.a l)]],19,0,false,false⟩],_,[],_⟩ (by kernel_rfl) (bc (Zaj (fun h => d19 ((Zag (Zan Zaa) (Zcy Zaa Zaa)).1 h))) b0) q0 c0 (by (try rw [w21]);all_goals exact H)
 ·exact Zae (G:=Zad kp26 [] []) 1000 [false] (vi 0) (by kernel_rfl) (bc rfl (bc (Zaj (fun h => d3 (i2.1 h))) b0)) q0 c0 H
theorem tVdR0 (f:Bool) (l:List Ln) (A B C D E F G I J K N O R T U V Y Z:Int)  (dq:AV) (H :
  ((¬Sp.pP A B C) -> vi 1 = dq) /\
  (¬(¬Sp.pP A B C) -> tVdR1_at (f) (l) (A) (B) (C) (D) (E) (F) (G) (I) (J) (K) (N) (O) (R) (T) (U) (V) (Y) (Z) (Zak dq))) :
 tVdR0_at f l A B C D E F G I J K N O R T U V Y Z (Zak dq):=by
 unfold tVdR0_at
 refine Zah (G:=Zad kp26 [(4,4,.call (vb (decide ¬Sp.pP A B C)) none)] []) 9 [true] ⟨(atC (cd Try.f26) [1,0,1,0,0,1,0,0,1]),[(1,AV.ptr 0 0 0 0),(3,vi 0),(13,vb (decide ¬Sp.pP A B C))],[⟨[ag [vi A,vi B,vi C,vi D,vi E,vi F,vi G,vi I,vi J,vi K,vi N,vi O,vi R,vi T,vi U,vi V,vi Y,vi Z,AV.vec f 2 (List.map Ln.a l)]],19,0,false,false⟩],_,[],_⟩ (by kernel_rfl) (bc rfl (bc rfl (bc rfl (bc rfl b0)))) q0 (ce (@ev53 (A) (B) (C)) c0) ?_
 rcases xq H with ⟨d2,H⟩|⟨d2,H⟩
 ·exact Zae (G:=Zad kp26 [] []) 1000 [true] (vi 1) (by kernel_rfl) (bc (ZaG (Zaa.2 d2)) b0) q0 c0 H
 ·exact Zah (G:=Zad kp26 [] []) 1000 [false] ⟨(atC (cd Try.f26) [1,0,1,0,0]),[(1,AV.ptr 0 0 0 0),(3,vi 1)],[⟨[ag [vi A,vi B,vi C,vi D,vi E,vi F,vi G,vi I,vi J,vi K,vi N,vi O,vi R,vi T,vi U,vi V,vi Y,vi Z,AV.vec f 2 (List.map Ln.a l)]],19,0,false,false⟩],_,[],_⟩ (by kernel_rfl) (bc (Zaj (fun h => d2 (Zaa.1 h))) b0) q0 c0 (H)
theorem tVdR1 (f:Bool) (l:List Ln) (A B C D E F G I J K N O R T U V Y Z:Int)  (dq:AV) (H :
  ((¬Sp.pP D E F) -> vi 1 = dq) /\
  (¬(¬Sp.pP D E F) -> tVdR2_at (f) (l) (A) (B) (C) (D) (E) (F) (G) (I) (J) (K) (N) (O) (R) (T) (U) (V) (Y) (Z) (Zak dq))) :
 tVdR1_at f l A B C D E F G I J K N O R T U V Y Z (Zak dq):=by
 unfold tVdR1_at
 refine Zah (G:=Zad kp26 [(4,4,.call (vb (decide ¬Sp.pP D E F)) none)] []) 9 [true] ⟨(atC (cd Try.f26) [1,0,1,0,0,1,0,0,1]),[(1,AV.ptr 0 0 0 0),(3,vi 1),(13,vb (decide ¬Sp.pP D E F))],[⟨[ag [vi A,vi B,vi C,vi D,vi E,vi F,vi G,vi I,vi J,vi K,vi N,vi O,vi R,vi T,vi U,vi V,vi Y,vi Z,AV.vec f 2 (List.map Ln.a l)]],19,0,false,false⟩],_,[],_⟩ (by kernel_rfl) (bc rfl (bc rfl (bc rfl (bc rfl b0)))) q0 (ce (@ev53 (D) (E) (F)) c0) ?_
 rcases xq H with ⟨d2,H⟩|⟨d2,H⟩
 ·exact Zae (G:=Zad kp26 [] []) 1000 [true] (vi 1) (by kernel_rfl) (bc (ZaG (Zaa.2 d2)) b0) q0 c0 H
 ·exact Zah (G:=Zad kp26 [] []) 1000 [false] ⟨(atC (cd Try.f26) [1,0,1,0,0]),[(1,AV.ptr 0 0 0 0),(3,vi 2)],[⟨[ag [vi A,vi B,vi C,vi D,vi E,vi F,vi G,vi I,vi J,vi K,vi N,vi O,vi R,vi T,vi U,vi V,vi Y,vi Z,AV.vec f 2 (List.map Ln.a l)]],19,0,false,false⟩],_,[],_⟩ (by kernel_rfl) (bc (Zaj (fun h => d2 (Zaa.1 h))) b0) q0 c0 (H)
theorem tVdR2 (f:Bool) (l:List Ln) (A B C D E F G I J K N O R T U V Y Z:Int)  (dq:AV) (H :
  ((¬Sp.pP G I J) -> vi 1 = dq) /\
  (¬(¬Sp.pP G I J) -> tVdR3_at (f) (l) (A) (B) (C) (D) (E) (F) (G) (I) (J) (K) (N) (O) (R) (T) (U) (V) (Y) (Z) (Zak dq))) :
 tVdR2_at f l A B C D E F G I J K N O R T U V Y Z (Zak dq):=by
 unfold tVdR2_at
 refine Zah (G:=Zad kp26 [(4,4,.call (vb (decide ¬Sp.pP G I J)) none)] []) 9 [true] ⟨(atC (cd Try.f26) [1,0,1,0,0,1,0,0,1]),[(1,AV.ptr 0 0 0 0),(3,vi 2),(13,vb (decide ¬Sp.pP G I J))],[⟨[ag [vi A,vi B,vi C,vi D,vi E,vi F,vi G,vi I,vi J,vi K,vi N,vi O,vi R,vi T,vi U,vi V,vi Y,vi Z,AV.vec f 2 (List.map Ln.a l)]],19,0,false,false⟩],_,[],_⟩ (by kernel_rfl) (bc rfl (bc rfl (bc rfl (bc rfl b0)))) q0 (ce (@ev53 (G) (I) (J)) c0) ?_
 rcases xq H with ⟨d2,H⟩|⟨d2,H⟩
 ·exact Zae (G:=Zad kp26 [] []) 1000 [true] (vi 1) (by kernel_rfl) (bc (ZaG (Zaa.2 d2)) b0) q0 c0 H
 ·exact Zah (G:=Zad kp26 [] []) 1000 [false] ⟨(atC (cd Try.f26) [1,0,1,0,0]),[(1,AV.ptr 0 0 0 0),(3,vi 3)],[⟨[ag [vi A,vi B,vi C,vi D,vi E,vi F,vi G,vi I,vi J,vi K,vi N,vi O,vi R,vi T,vi U,vi V,vi Y,vi Z,AV.vec f 2 (List.map Ln.a l)]],19,0,false,false⟩],_,[],_⟩ (by kernel_rfl) (bc (Zaj (fun h => d2 (Zaa.1 h))) b0) q0 c0 (H)
theorem tVdR3 (f:Bool) (l:List Ln) (A B C D E F G I J K N O R T U V Y Z:Int)  (dq:AV) (H :
  ((¬Sp.pP K N O) -> vi 1 = dq) /\
  (¬(¬Sp.pP K N O) -> tVdR4_at (f) (l) (A) (B) (C) (D) (E) (F) (G) (I) (J) (K) (N) (O) (R) (T) (U) (V) (Y) (Z) (Zak dq))) :
 tVdR3_at f l A B C D E F G I J K N O R T U V Y Z (Zak dq):=by
 unfold tVdR3_at
 refine Zah (G:=Zad kp26 [(4,4,.call (vb (decide ¬Sp.pP K N O)) none)] []) 9 [true] ⟨(atC (cd Try.f26) [1,0,1,0,0,1,0,0,1]),[(1,AV.ptr 0 0 0 0),(3,vi 3),(13,vb (decide ¬Sp.pP K N O))],[⟨[ag [vi A,vi B,vi C,vi D,vi E,vi F,vi G,vi I,vi J,vi K,vi N,vi O,vi R,vi T,vi U,vi V,vi Y,vi Z,AV.vec f 2 (List.map Ln.a l)]],19,0,false,false⟩],_,[],_⟩ (by kernel_rfl) (bc rfl (bc rfl (bc rfl (bc rfl b0)))) q0 (ce (@ev53 (K) (N) (O)) c0) ?_
 rcases xq H with ⟨d2,H⟩|⟨d2,H⟩
 ·exact Zae (G:=Zad kp26 [] []) 1000 [true] (vi 1) (by kernel_rfl) (bc (ZaG (Zaa.2 d2)) b0) q0 c0 H
 ·exact Zah (G:=Zad kp26 [] []) 1000 [false] ⟨(atC (cd Try.f26) [1,0,1,0,0]),[(1,AV.ptr 0 0 0 0),(3,vi 4)],[⟨[ag [vi A,vi B,vi C,vi D,vi E,vi F,vi G,vi I,vi J,vi K,vi N,vi O,vi R,vi T,vi U,vi V,vi Y,vi Z,AV.vec f 2 (List.map Ln.a l)]],19,0,false,false⟩],_,[],_⟩ (by kernel_rfl) (bc (Zaj (fun h => d2 (Zaa.1 h))) b0) q0 c0 (H)
theorem tVdR4 (f:Bool) (l:List Ln) (A B C D E F G I J K N O R T U V Y Z:Int)  (dq:AV) (H :
  ((¬Sp.pP R T U) -> vi 1 = dq) /\
  (¬(¬Sp.pP R T U) -> tVdR5_at (f) (l) (A) (B) (C) (D) (E) (F) (G) (I) (J) (K) (N) (O) (R) (T) (U) (V) (Y) (Z) (Zak dq))) :
 tVdR4_at f l A B C D E F G I J K N O R T U V Y Z (Zak dq):=by
 unfold tVdR4_at
 refine Zah (G:=Zad kp26 [(4,4,.call (vb (decide ¬Sp.pP R T U)) none)] []) 9 [true] ⟨(atC (cd Try.f26) [1,0,1,0,0,1,0,0,1]),[(1,AV.ptr 0 0 0 0),(3,vi 4),(13,vb (decide ¬Sp.pP R T U))],[⟨[ag [vi A,vi B,vi C,vi D,vi E,vi F,vi G,vi I,vi J,vi K,vi N,vi O,vi R,vi T,vi U,vi V,vi Y,vi Z,AV.vec f 2 (List.map Ln.a l)]],19,0,false,false⟩],_,[],_⟩ (by kernel_rfl) (bc rfl (bc rfl (bc rfl (bc rfl b0)))) q0 (ce (@ev53 (R) (T) (U)) c0) ?_
 rcases xq H with ⟨d2,H⟩|⟨d2,H⟩
 ·exact Zae (G:=Zad kp26 [] []) 1000 [true] (vi 1) (by kernel_rfl) (bc (ZaG (Zaa.2 d2)) b0) q0 c0 H
 ·exact Zah (G:=Zad kp26 [] []) 1000 [false] ⟨(atC (cd Try.f26) [1,0,1,0,0]),[(1,AV.ptr 0 0 0 0),(3,vi 5)],[⟨[ag [vi A,vi B,vi C,vi D,vi E,vi F,vi G,vi I,vi J,vi K,vi N,vi O,vi R,vi T,vi U,vi V,vi Y,vi Z,AV.vec f 2 (List.map Ln.a l)]],19,0,false,false⟩],_,[],_⟩ (by kernel_rfl) (bc (Zaj (fun h => d2 (Zaa.1 h))) b0) q0 c0 (H)
theorem tVdR5 (f:Bool) (l:List Ln) (A B C D E F G I J K N O R T U V Y Z:Int)  (dq:AV) (H :
  ((¬Sp.pP V Y Z) -> vi 1 = dq) /\
  (¬(¬Sp.pP V Y Z) -> tVdR6_at (f) (l) (A) (B) (C) (D) (E) (F) (G) (I) (J) (K) (N) (O) (R) (T) (U) (V) (Y) (Z) (Zak dq))) :
 tVdR5_at f l A B C D E F G I J K N O R T U V Y Z (Zak dq):=by
 unfold tVdR5_at
 refine Zah (G:=Zad kp26 [(4,4,.call (vb (decide ¬Sp.pP V Y Z)) none)] []) 9 [true] ⟨(atC (cd Try.f26) [1,0,1,0,0,1,0,0,1]),[(1,AV.ptr 0 0 0 0),(3,vi 5),(13,vb (decide ¬Sp.pP V Y Z))],[⟨[ag [vi A,vi B,vi C,vi D,vi E,vi F,vi G,vi I,vi J,vi K,vi N,vi O,vi R,vi T,vi U,vi V,vi Y,vi Z,AV.vec f 2 (List.map Ln.a l)]],19,0,false,false⟩],_,[],_⟩ (by kernel_rfl) (bc rfl (bc rfl (bc rfl (bc rfl b0)))) q0 (ce (@ev53 (V) (Y) (Z)) c0) ?_
 rcases xq H with ⟨d2,H⟩|⟨d2,H⟩
 ·exact Zae (G:=Zad kp26 [] []) 1000 [true] (vi 1) (by kernel_rfl) (bc (ZaG (Zaa.2 d2)) b0) q0 c0 H
 ·exact Zah (G:=Zad kp26 [] []) 1000 [false] ⟨(atC (cd Try.f26) [1,0,1,0,0]),[(1,AV.ptr 0 0 0 0),(3,vi 6)],[⟨[ag [vi A,vi B,vi C,vi D,vi E,vi F,vi G,vi I,vi J,vi K,vi N,vi O,vi R,vi T,vi U,vi V,vi Y,vi Z,AV.vec f 2 (List.map Ln.a l)]],19,0,false,false⟩],_,[],_⟩ (by kernel_rfl) (bc (Zaj (fun h => d2 (Zaa.1 h))) b0) q0 c0 (H)
theorem tVdR6 (f:Bool) (l:List Ln) (A B C D E F G I J K N O R T U V Y Z:Int)  (dq:AV) (H :
  Zds (f) (l) (A) (B) (C) (D) (E) (F) (G) (I) (J) (K) (N) (O) (R) (T) (U) (V) (Y) (Z) (0) (Zak dq)) :
 tVdR6_at f l A B C D E F G I J K N O R T U V Y Z (Zak dq):=by
 unfold tVdR6_at
 exact Zah (G:=Zad kp26 [] []) 1000 [false] ⟨(atC (cd Try.f26) [1,1,0,1,0,0]),[(1,AV.ptr 0 0 0 0),(4,vi 0)],[⟨[ag [vi A,vi B,vi C,vi D,vi E,vi F,vi G,vi I,vi J,vi K,vi N,vi O,vi R,vi T,vi U,vi V,vi Y,vi Z,AV.vec f 2 (List.map Ln.a l)]],19,0,false,false⟩],_,[],_⟩ (by kernel_rfl) (bc rfl b0) q0 c0 (H)
end Go.Av

namespace Go.Av
open Go.Proofs
namespace Sp
def six (A B C D E F G I J K N O R T U V Y Z:Int):Prop:=pP A B C/\pP D E F/\pP G I J/\pP K N O/\pP R T U/\pP V Y Z
instance (A B C D E F G I J K N O R T U V Y Z:Int):Decidable (six A B C D E F G I J K N O R T U V Y Z):=inferInstanceAs (Decidable (_/\_))
end Sp
theorem ev86 (f:Bool) (l:List Pp) (h:Sp.few l.length 1000000):Ev M1 (.pure 86 [.vec f 3 (l.map Pp.a),.func (.func 87) [] []]) (.bool (decide (¬∀ p ∈ l,Sp.okQ p))) []:=by
 refine call86 (tCf _ _ _ ⟨h,?_⟩)
 exact congrArg AV.bool (ZcR (ffi_ge l 0 (by omega)))
theorem ev86_a (A B C D E F G I J K N O R T U V Y Z:Int):Ev M1 (.pure 86 [.vec true 3 [.agg [.int .i64 A,.int .i64 B,.int .i64 C],.agg [.int .i64 D,.int .i64 E,.int .i64 F],.agg [.int .i64 G,.int .i64 I,.int .i64 J],.agg [.int .i64 K,.int .i64 N,.int .i64 O],.agg [.int .i64 R,.int .i64 T,.int .i64 U],.agg [.int .i64 V,.int .i64 Y,.int .i64 Z]],.func (.func 87) [] []]) (.bool (decide (¬Sp.six A B C D E F G I J K N O R T U V Y Z))) []:=by
 have r:=ev86 true [⟨A,B,C⟩,⟨D,E,F⟩,⟨G,I,J⟩,⟨K,N,O⟩,⟨R,T,U⟩,⟨V,Y,Z⟩] (show 6 <= 1000000 by decide)
 have e:decide (¬∀ p ∈ ([⟨A,B,C⟩,⟨D,E,F⟩,⟨G,I,J⟩,⟨K,N,O⟩,⟨R,T,U⟩,⟨V,Y,Z⟩]:List Pp),Sp.okQ p) = decide (¬Sp.six A B C D E F G I J K N O R T U V Y Z):=by
  refine ZcR (not_congr ?_)
  simp [Sp.okQ,Sp.six]
 rw [e] at r;exact r
end Go.Av

namespace Go.Av
open Go.Proofs
set_option maxRecDepth 100000
def fi55:Fi:=⟨36,[.tmp 2]⟩
def kp55:List (Nat × List Nat):=[(0,[1]),(1,[1,7]),(2,[2]),(3,[1,9,10,11]),(4,[1,9,10,11,12]),(5,[1,3,4,9,10,11]),(6,[1,9,10,11,34]),(7,[2]),(8,[1,9,10,11]),(9,[2])]
def tVd_at (f:Bool) (l:List Ln) (A B C D E F G I J K N O R T U V Y Z:Int) (Q:AV->Heap->Prop):Prop:=Wp M1 (.run fi55 (atC (cd Try.f55) []) [(0,.agg [.int .i64 A,.int .i64 B,.int .i64 C,.int .i64 D,.int .i64 E,.int .i64 F,.int .i64 G,.int .i64 I,.int .i64 J,.int .i64 K,.int .i64 N,.int .i64 O,.int .i64 R,.int .i64 T,.int .i64 U,.int .i64 V,.int .i64 Y,.int .i64 Z,.vec f 2 (l.map Ln.a)])] []) Q
def Zeu (f:Bool) (l:List Ln) (A B C D E F G I J K N O R T U V Y Z:Int) (n i:Int) (Q:AV->Heap->Prop):Prop:=Wp M1 (.run fi55 (atC (cd Try.f55) [1,1,0,1,0,0]) [(1,.ptr 0 0 0 0),(9,.vec f 2 (l.map Ln.a)),(10,.int .i64 n),(11,.int .i64 i)] [⟨[.agg [.int .i64 A,.int .i64 B,.int .i64 C,.int .i64 D,.int .i64 E,.int .i64 F,.int .i64 G,.int .i64 I,.int .i64 J,.int .i64 K,.int .i64 N,.int .i64 O,.int .i64 R,.int .i64 T,.int .i64 U,.int .i64 V,.int .i64 Y,.int .i64 Z,.vec f 2 (l.map Ln.a)]],19,0,true,false⟩]) Q
theorem call55 {args:List AV} {d:AV} (h:wc M1 fi55 Try.f55 args d):Ev M1 (.pure 55 args) d []:=pcl _ _ (by kernel_rfl) h
theorem tVd (f:Bool) (l:List Ln) (A B C D E F G I J K N O R T U V Y Z:Int)  (dq:AV) (H :
  ((¬Sp.six A B C D E F G I J K N O R T U V Y Z) -> vi 1 = dq) /\
  (¬(¬Sp.six A B C D E F G I J K N O R T U V Y Z) -> Zeu (f) (l) (A) (B) (C) (D) (E) (F) (G) (I) (J) (K) (N) (O) (R) (T) (U) (V) (Y) (Z) ((↑l.length:Int)) (0) (Zak dq))) :
 tVd_at f l A B C D E F G I J K N O R T U V Y Z (Zak dq):=by
 unfold tVd_at
 refine Zah (G:=Zad kp55 [(1,2,.call (vb (decide ¬Sp.six A B C D E F G I J K N O R T U V Y Z)) none)] []) 5 [] ⟨(atC (cd Try.f55) [1,0,1]),[(1,AV.ptr 0 0 0 0),(7,vb (decide ¬Sp.six A B C D E F G I J K N O R T U V Y Z))],[⟨[ag [vi A,vi B,vi C,vi D,vi E,vi F,vi G,vi I,vi J,vi K,vi N,vi O,vi R,vi T,vi U,vi V,vi Y,vi Z,AV.vec f 2 (List.map Ln.a l)]],19,0,true,false⟩],_,[],_⟩ (by kernel_rfl) (bc rfl b0) q0 (ce (@ev86_a (A) (B) (C) (D) (E) (F) (G) (I) (J) (K) (N) (O) (R) (T) (U) (V) (Y) (Z)) c0) ?_
 rcases xq H with ⟨d2,H⟩|⟨d2,H⟩
 ·exact Zae (G:=Zad kp55 [] []) 1000 [true] (vi 1) (by kernel_rfl) (bc (ZaG (Zaa.2 d2)) b0) q0 c0 H
 ·have w3:(List.map Ln.a l).length = l.length:=List.length_map ..
  exact Zah (G:=Zad kp55 [] []) 1000 [false] ⟨(atC (cd Try.f55) [1,1,0,1,0,0]),[(1,AV.ptr 0 0 0 0),(9,AV.vec f 2 (List.map Ln.a l)),(10,vi (↑(List.map Ln.a l).length:Int)),(11,vi 0)],[⟨[ag [vi A,vi B,vi C,vi D,vi E,vi F,vi G,vi I,vi J,vi K,vi N,vi O,vi R,vi T,vi U,vi V,vi Y,vi Z,AV.vec f 2 (List.map Ln.a l)]],19,0,true,false⟩],_,[],_⟩ (by kernel_rfl) (bc (Zaj (fun h => d2 (Zaa.1 h))) (bc rfl b0)) q0 c0 (by (try rw [w3]);all_goals exact H)
noncomputable abbrev Zer (n:Int) (l:List Ln) (i:Int):=Sp.enP { n:=(l.getD i.toNat default).n,l:=(l.getD i.toNat default).l }
noncomputable abbrev zNpM2 (l:List Ln) (i:Int):=ag [vi (l.getD i.toNat default).n,vi (l.getD i.toNat default).l]
theorem tVdL (f:Bool) (l:List Ln) (A B C D E F G I J K N O R T U V Y Z:Int) (n i:Int)  (dq:AV) (H :
  ((i < n) -> (0 <= i) /\
   (i.toNat < l.length) /\
   (-9223372036854775808 <= i - 1 /\ i - 1 <= 9223372036854775807) /\
   (((i > 0) /\ (¬(¬(Sp.enP { n:=(l.getD i.toNat default).n,l:=(l.getD i.toNat default).l })))) -> (0 <= i - 1)) /\
   (((i > 0) /\ (¬(¬(Sp.enP { n:=(l.getD i.toNat default).n,l:=(l.getD i.toNat default).l })))) -> ((i - 1).toNat < l.length)) /\
   (((¬(Sp.enP { n:=(l.getD i.toNat default).n,l:=(l.getD i.toNat default).l })) \/ ((i > 0) /\ ((l.getD (i - 1).toNat default).n >= (l.getD i.toNat default).n))) -> vi 1 = dq) /\
   (¬((¬(Sp.enP { n:=(l.getD i.toNat default).n,l:=(l.getD i.toNat default).l })) \/ ((i > 0) /\ ((l.getD (i - 1).toNat default).n >= (l.getD i.toNat default).n))) -> (-9223372036854775808 <= i + 1 /\ i + 1 <= 9223372036854775807) /\
    Zeu (f) (l) (A) (B) (C) (D) (E) (F) (G) (I) (J) (K) (N) (O) (R) (T) (U) (V) (Y) (Z) (n) (i + 1) (Zak dq))) /\
  (¬(i < n) -> vi 0 = dq)) :
 Zeu f l A B C D E F G I J K N O R T U V Y Z n i (Zak dq):=by
 unfold Zeu
 rcases xq H with ⟨d2,H⟩|⟨d2,H⟩
 ·obtain ⟨k4,H⟩:=H
  have w5:(List.map Ln.a l).length = l.length:=List.length_map ..
  have i6:(decide (i.toNat < (List.map Ln.a l).length)) = true ↔ (i.toNat < l.length):=(by (try rw [w5]);all_goals exact Zaa)
  obtain ⟨k7,k8,H⟩:=H
  have w9:wi (i - 1) = i - 1:=wI64 k8
  have i10:(!(decide (i > 0) == true && ((!decide (Zer n l i)) == false && true)) || decide (0 <= wi (i - 1))) = true ↔ (((i > 0) /\ (¬(¬(Zer n l i)))) -> (0 <= i - 1)):=(by (try rw [w9]);all_goals exact (i_imp (Zab (i_bt Zaa) (i_at (i_bf (Zan Zaa)))) Zaa))
  obtain ⟨k11,H⟩:=H
  have i12:(!(decide (i > 0) == true && ((!decide (Zer n l i)) == false && true)) || decide ((wi (i - 1)).toNat < (List.map Ln.a l).length)) = true ↔ (((i > 0) /\ (¬(¬(Zer n l i)))) -> ((i - 1).toNat < l.length)):=(by (try rw [w5]);(try rw [w9]);all_goals exact (i_imp (Zab (i_bt Zaa) (i_at (i_bf (Zan Zaa)))) Zaa))
  obtain ⟨k13,H⟩:=H
  refine Zah (G:=Zad kp55 [(5,2,.elem ((zNpM2 l i))),(6,1,.call (vb (decide (Zer n l i))) none),(6,13,.elem (ag [vi (l.getD (i - 1).toNat default).n,vi (l.getD (i - 1).toNat default).l]))] []) 11 [true] ⟨(atC (cd Try.f55) [1,1,0,1,0,0,1,1,0,0,1,1]),[(1,AV.ptr 0 0 0 0),(9,AV.vec f 2 (List.map Ln.a l)),(10,vi n),(11,vi i),(34,vb (bif !decide (Zer n l i) then true else bif decide (i > 0) then decide ((l.getD (i - 1).toNat default).n >= (l.getD i.toNat default).n) else false))],[⟨[ag [vi A,vi B,vi C,vi D,vi E,vi F,vi G,vi I,vi J,vi K,vi N,vi O,vi R,vi T,vi U,vi V,vi Y,vi Z,AV.vec f 2 (List.map Ln.a l)]],19,0,true,false⟩,⟨[(zNpM2 l i)],2,0,false,false⟩],[(decide (i < n)) == true,decide (0 <= i),decide (i.toNat < (List.map Ln.a l).length),true,true,!(decide (i > 0) == true && ((!decide (Zer n l i)) == false && true)) || true,!(decide (i > 0) == true && ((!decide (Zer n l i)) == false && true)) || decide (0 <= wi (i - 1)),!(decide (i > 0) == true && ((!decide (Zer n l i)) == false && true)) || decide ((wi (i - 1)).toNat < (List.map Ln.a l).length),!(decide (i > 0) == true && ((!decide (Zer n l i)) == false && true)) || true],[((List.map Ln.a l).get?Internal i.toNat = some ((zNpM2 l i))),((decide (i > 0) == true && ((!decide (Zer n l i)) == false && true)) = true -> (List.map Ln.a l).get?Internal (wi (i - 1)).toNat = some (ag [vi (l.getD (i - 1).toNat default).n,vi (l.getD (i - 1).toNat default).l]))],_⟩ (by kernel_rfl) (bc (ZaG (Zaa.2 d2)) (bc (Zaa.2 k4) (bc (i6.2 k7) (bc rfl (bc rfl (bc (Bool.or_true _) (bc (i10.2 k11) (bc (i12.2 k13) (bc (Bool.or_true _) b0))))))))) (qc (Zed k7) (qc (by (try rw [w9]);all_goals exact (fun h => Zed (k13 ((Zab (i_bt Zaa) (i_at (i_bf (Zan Zaa)))).1 h)))) q0)) (ce (@ev88 ((l.getD i.toNat default).n) ((l.getD i.toNat default).l)) c0) ?_
  rcases xq H with ⟨d16,H⟩|⟨d16,H⟩
  ·exact Zae (G:=Zad kp55 [] []) 1000 [true] (vi 1) (by kernel_rfl) (bc (ZaG ((Zag (Zan Zaa) (Zcy Zaa Zaa)).2 d16)) b0) q0 c0 H
  ·obtain ⟨k17,H⟩:=H
   have w18:wi (i + 1) = i + 1:=wI64 k17
   exact Zah (G:=Zad kp55 [] []) 1000 [false] ⟨(atC (cd Try.f55) [1,1,0,1,0,0]),[(1,AV.ptr 0 0 0 0),(9,AV.vec f 2 (List.map Ln.a l)),(10,vi n),(11,vi (wi (i + 1)))],[⟨[ag [vi A,vi B,vi C,vi D,vi E,vi F,vi G,vi I,vi J,vi K,vi N,vi O,vi R,vi T,vi U,vi V,vi Y,vi Z,AV.vec f 2 (List.map Ln.a l)]],19,0,true,false⟩,⟨[(zNpM2 l i)],2,0,false,false⟩],_,[],_⟩ (by kernel_rfl) (bc (Zaj (fun h => d16 ((Zag (Zan Zaa) (Zcy Zaa Zaa)).1 h))) b0) q0 c0 (by (try rw [w18]);all_goals exact ZcC [0] (by kernel_rfl) H)
 ·exact Zae (G:=Zad kp55 [] []) 1000 [false] (vi 0) (by kernel_rfl) (bc (Zaj (fun h => d2 (Zaa.1 h))) b0) q0 c0 H
end Go.Av

namespace Go.Av
open Go.Proofs
namespace Sp
def bdL (l:List Ln) (i:Nat):Prop:=¬enP ⟨(l.getD i default).n,(l.getD i default).l⟩\/0<i/\(l.getD i default).n<=(l.getD (i-1) default).n
open Classical in
noncomputable def tvF (l:List Ln) (i:Nat):Int:=if ∃ j,i<=j/\j<l.length/\bdL l j then 1 else 0
noncomputable def tv (A B C D E F G I J K N O R T U V Y Z:Int) (l:List Ln):Int:=if six A B C D E F G I J K N O R T U V Y Z then tvF l 0 else 1
end Sp
theorem tvF_stop {l:List Ln} {i:Nat} (h:l.length<=i):Sp.tvF l i=0:=if_neg fun ⟨j,h1,h2,_⟩=>by omega
theorem tvF_bad {l:List Ln} {i:Nat} (h:i<l.length) (k:Sp.bdL l i):Sp.tvF l i=1:=if_pos ⟨i,by omega,h,k⟩
theorem tvF_go {l:List Ln} {i:Nat} (k:¬Sp.bdL l i):Sp.tvF l i = Sp.tvF l (i + 1):=by
 unfold Sp.tvF
 have e:(∃ j,i <= j /\ j < l.length /\ Sp.bdL l j) ↔ ∃ j,i + 1 <= j /\ j < l.length /\ Sp.bdL l j:=by
  constructor
  ·rintro ⟨j,h1,h2,h3⟩
   refine ⟨j,?_,h2,h3⟩
   rcases Nat.lt_or_ge i j with x | x
   ·exact x
   ·have:j = i:=by omega
    subst this;exact absurd h3 k
  ·rintro ⟨j,h1,h2,h3⟩
   exact ⟨j,by omega,h2,h3⟩
 by_cases x:∃ j,i + 1 <= j /\ j < l.length /\ Sp.bdL l j
 ·rw [if_pos (e.2 x),if_pos x]
 ·rw [if_neg fun y => x (e.1 y),if_neg x]
theorem bdL_iff (l:List Ln) (i:Nat):((¬Sp.enP ⟨(l.getD i default).n,(l.getD i default).l⟩) \/ (((i:Int) > 0) /\ (l.getD i default).n <= (l.getD ((i:Int) - 1).toNat default).n)) ↔ Sp.bdL l i:=by
 have e:((i:Int) - 1).toNat = i - 1:=by omega
 unfold Sp.bdL
 rw [e]
 constructor <;> rintro (h | h)
 ·exact .inl h
 ·exact .inr ⟨by omega,h.2⟩
 ·exact .inl h
 ·exact .inr ⟨by omega,h.2⟩
theorem tVdL_loop (f:Bool) (l:List Ln) (A B C D E F G I J K N O R T U V Y Z:Int) (hl:l.length <= 1000000):∀ (k i:Nat),i + k = l.length -> Zeu f l A B C D E F G I J K N O R T U V Y Z (l.length:Int) (i:Int) (Zak (.int .i64 (Sp.tvF l i))):=by
 intro k
 induction k with
 | zero =>
  intro i hi
  refine tVdL _ _ _ _ _ _ _ _ _ _ _ _ _ _ _ _ _ _ _ _ _ _ _ ⟨fun h => absurd h (by omega),fun _ => ?_⟩
  rw [tvF_stop (by omega)]
 | succ k ih =>
  intro i hi
  have hlt:i < l.length:=by omega
  have e:((i:Int)).toNat = i:=Int.toNat_natCast i
  have e3:((i:Int) + 1) = ((i + 1:Nat):Int):=by omega
  refine tVdL _ _ _ _ _ _ _ _ _ _ _ _ _ _ _ _ _ _ _ _ _ _ _ ⟨fun _ => ⟨by omega,by rw [e];exact hlt,by omega,fun x => by omega,fun x => by omega,fun h => ?_,fun h => ⟨by omega,?_⟩⟩,fun h => absurd h (by omega)⟩
  ·rw [e] at h
   rw [tvF_bad hlt ((bdL_iff l i).1 h)]
  ·rw [e] at h
   rw [tvF_go fun x => h ((bdL_iff l i).2 x),e3]
   exact ih (i + 1) (by omega)
theorem tVdRL_loop (f:Bool) (l:List Ln) (A B C D E F G I J K N O R T U V Y Z:Int) (hl:l.length <= 1000000):∀ (k i:Nat),i + k = l.length -> Zds f l A B C D E F G I J K N O R T U V Y Z (i:Int) (Zak (.int .i64 (Sp.tvF l i))):=by
 intro k
 induction k with
 | zero =>
  intro i hi
  refine tVdRL _ _ _ _ _ _ _ _ _ _ _ _ _ _ _ _ _ _ _ _ _ _ ⟨fun h => absurd h (by omega),fun _ => ?_⟩
  rw [tvF_stop (by omega)]
 | succ k ih =>
  intro i hi
  have hlt:i < l.length:=by omega
  have e:((i:Int)).toNat = i:=Int.toNat_natCast i
  have e3:((i:Int) + 1) = ((i + 1:Nat):Int):=by omega
  refine tVdRL _ _ _ _ _ _ _ _ _ _ _ _ _ _ _ _ _ _ _ _ _ _ ⟨fun _ => ⟨by omega,by omega,by rw [e];exact hlt,fun x => by omega,fun x => by omega,fun h => ?_,fun h => ⟨by omega,?_⟩⟩,fun h => absurd h (by omega)⟩
  ·rw [e] at h
   rw [tvF_bad hlt ((bdL_iff l i).1 h)]
  ·rw [e] at h
   rw [tvF_go fun x => h ((bdL_iff l i).2 x),e3]
   exact ih (i + 1) (by omega)
theorem ev55 (f:Bool) (l:List Ln) (A B C D E F G I J K N O R T U V Y Z:Int) (h:Sp.few l.length 1000000):Ev M1 (.pure 55 [.agg [.int .i64 A,.int .i64 B,.int .i64 C,.int .i64 D,.int .i64 E,.int .i64 F,.int .i64 G,.int .i64 I,.int .i64 J,.int .i64 K,.int .i64 N,.int .i64 O,.int .i64 R,.int .i64 T,.int .i64 U,.int .i64 V,.int .i64 Y,.int .i64 Z,.vec f 2 (l.map Ln.a)]]) (.int .i64 (Sp.tv A B C D E F G I J K N O R T U V Y Z l)) []:=by
 refine call55 (tVd _ _ _ _ _ _ _ _ _ _ _ _ _ _ _ _ _ _ _ _ _ ⟨fun k => ?_,fun k => ?_⟩)
 ·unfold Sp.tv;rw [if_neg k]
 ·unfold Sp.tv;rw [if_pos (Classical.not_not.1 k)]
  exact tVdL_loop f l A B C D E F G I J K N O R T U V Y Z h l.length 0 (by omega)
theorem ev26 (f:Bool) (l:List Ln) (A B C D E F G I J K N O R T U V Y Z:Int) (h:Sp.few l.length 1000000):Ev M1 (.pure 26 [.agg [.int .i64 A,.int .i64 B,.int .i64 C,.int .i64 D,.int .i64 E,.int .i64 F,.int .i64 G,.int .i64 I,.int .i64 J,.int .i64 K,.int .i64 N,.int .i64 O,.int .i64 R,.int .i64 T,.int .i64 U,.int .i64 V,.int .i64 Y,.int .i64 Z,.vec f 2 (l.map Ln.a)]]) (.int .i64 (Sp.tv A B C D E F G I J K N O R T U V Y Z l)) []:=by
 have no:¬Sp.six A B C D E F G I J K N O R T U V Y Z -> AV.int .i64 1 = .int .i64 (Sp.tv A B C D E F G I J K N O R T U V Y Z l):=fun k => by unfold Sp.tv;rw [if_neg k]
 refine call26 (tVdR _ _ _ _ _ _ _ _ _ _ _ _ _ _ _ _ _ _ _ _ _ ?_)
 refine tVdR0 _ _ _ _ _ _ _ _ _ _ _ _ _ _ _ _ _ _ _ _ _ ⟨fun k => no fun q => k q.1,fun k0 => ?_⟩
 refine tVdR1 _ _ _ _ _ _ _ _ _ _ _ _ _ _ _ _ _ _ _ _ _ ⟨fun k => no fun q => k q.2.1,fun k1 => ?_⟩
 refine tVdR2 _ _ _ _ _ _ _ _ _ _ _ _ _ _ _ _ _ _ _ _ _ ⟨fun k => no fun q => k q.2.2.1,fun k2 => ?_⟩
 refine tVdR3 _ _ _ _ _ _ _ _ _ _ _ _ _ _ _ _ _ _ _ _ _ ⟨fun k => no fun q => k q.2.2.2.1,fun k3 => ?_⟩
 refine tVdR4 _ _ _ _ _ _ _ _ _ _ _ _ _ _ _ _ _ _ _ _ _ ⟨fun k => no fun q => k q.2.2.2.2.1,fun k4 => ?_⟩
 refine tVdR5 _ _ _ _ _ _ _ _ _ _ _ _ _ _ _ _ _ _ _ _ _ ⟨fun k => no fun q => k q.2.2.2.2.2,fun k5 => ?_⟩
 refine tVdR6 _ _ _ _ _ _ _ _ _ _ _ _ _ _ _ _ _ _ _ _ _ ?_
 have s:Sp.six A B C D E F G I J K N O R T U V Y Z:=⟨Classical.not_not.1 k0,Classical.not_not.1 k1,Classical.not_not.1 k2,Classical.not_not.1 k3,Classical.not_not.1 k4,Classical.not_not.1 k5⟩
 unfold Sp.tv;rw [if_pos s]
 exact tVdRL_loop f l A B C D E F G I J K N O R T U V Y Z h l.length 0 (by omega)
end Go.Av

namespace Go.Av
open Go.Proofs
set_option maxRecDepth 100000
def fi58:Fi:=⟨37,[.cell 6 72,.tmp 7]⟩
def kp58:List (Nat × List Nat):=[(0,[1,3,5,6]),(1,[1,3,5,6,8]),(2,[1,3,5,6,8,15]),(3,[6,7]),(4,[3,5,6,9,10]),(5,[3,5,6,9,10,24]),(6,[6,7]),(7,[3,5,6,9,28]),(8,[6,7]),(9,[5,6,9,11]),(10,[6,11]),(11,[6,7])]
def tSw0_at (f:Bool) (l:List Ln) (A B C D E F G I J K N O R T U V Y Z:Int) (x y z:Int) (Q:AV->Heap->Prop):Prop:=Wp M1 (.run fi58 (atC (cd Try.f58) []) [(0,.agg [.int .i64 A,.int .i64 B,.int .i64 C,.int .i64 D,.int .i64 E,.int .i64 F,.int .i64 G,.int .i64 I,.int .i64 J,.int .i64 K,.int .i64 N,.int .i64 O,.int .i64 R,.int .i64 T,.int .i64 U,.int .i64 V,.int .i64 Y,.int .i64 Z,.vec f 2 (l.map Ln.a)]),(1,.int .i64 54000),(2,.agg [.int .i64 x,.int .i64 y,.int .i64 z])] []) Q
def tSw1_at (f:Bool) (l:List Ln) (A B C D E F G I J K N O R T U V Y Z:Int) (x y z:Int) (Q:AV->Heap->Prop):Prop:=Wp M1 (.run fi58 (atC (cd Try.f58) []) [(0,.agg [.int .i64 A,.int .i64 B,.int .i64 C,.int .i64 D,.int .i64 E,.int .i64 F,.int .i64 G,.int .i64 I,.int .i64 J,.int .i64 K,.int .i64 N,.int .i64 O,.int .i64 R,.int .i64 T,.int .i64 U,.int .i64 V,.int .i64 Y,.int .i64 Z,.vec f 2 (l.map Ln.a)]),(1,.int .i64 55000),(2,.agg [.int .i64 x,.int .i64 y,.int .i64 z])] []) Q
def tSw2_at (f:Bool) (l:List Ln) (A B C D E F G I J K N O R T U V Y Z:Int) (x y z:Int) (Q:AV->Heap->Prop):Prop:=Wp M1 (.run fi58 (atC (cd Try.f58) []) [(0,.agg [.int .i64 A,.int .i64 B,.int .i64 C,.int .i64 D,.int .i64 E,.int .i64 F,.int .i64 G,.int .i64 I,.int .i64 J,.int .i64 K,.int .i64 N,.int .i64 O,.int .i64 R,.int .i64 T,.int .i64 U,.int .i64 V,.int .i64 Y,.int .i64 Z,.vec f 2 (l.map Ln.a)]),(1,.int .i64 56000),(2,.agg [.int .i64 x,.int .i64 y,.int .i64 z])] []) Q
def tSw3_at (f:Bool) (l:List Ln) (A B C D E F G I J K N O R T U V Y Z:Int) (x y z:Int) (Q:AV->Heap->Prop):Prop:=Wp M1 (.run fi58 (atC (cd Try.f58) []) [(0,.agg [.int .i64 A,.int .i64 B,.int .i64 C,.int .i64 D,.int .i64 E,.int .i64 F,.int .i64 G,.int .i64 I,.int .i64 J,.int .i64 K,.int .i64 N,.int .i64 O,.int .i64 R,.int .i64 T,.int .i64 U,.int .i64 V,.int .i64 Y,.int .i64 Z,.vec f 2 (l.map Ln.a)]),(1,.int .i64 57000),(2,.agg [.int .i64 x,.int .i64 y,.int .i64 z])] []) Q
def tSw4_at (f:Bool) (l:List Ln) (A B C D E F G I J K N O R T U V Y Z:Int) (x y z:Int) (Q:AV->Heap->Prop):Prop:=Wp M1 (.run fi58 (atC (cd Try.f58) []) [(0,.agg [.int .i64 A,.int .i64 B,.int .i64 C,.int .i64 D,.int .i64 E,.int .i64 F,.int .i64 G,.int .i64 I,.int .i64 J,.int .i64 K,.int .i64 N,.int .i64 O,.int .i64 R,.int .i64 T,.int .i64 U,.int .i64 V,.int .i64 Y,.int .i64 Z,.vec f 2 (l.map Ln.a)]),(1,.int .i64 58000),(2,.agg [.int .i64 x,.int .i64 y,.int .i64 z])] []) Q
def tSw5_at (f:Bool) (l:List Ln) (A B C D E F G I J K N O R T U V Y Z:Int) (x y z:Int) (Q:AV->Heap->Prop):Prop:=Wp M1 (.run fi58 (atC (cd Try.f58) []) [(0,.agg [.int .i64 A,.int .i64 B,.int .i64 C,.int .i64 D,.int .i64 E,.int .i64 F,.int .i64 G,.int .i64 I,.int .i64 J,.int .i64 K,.int .i64 N,.int .i64 O,.int .i64 R,.int .i64 T,.int .i64 U,.int .i64 V,.int .i64 Y,.int .i64 Z,.vec f 2 (l.map Ln.a)]),(1,.int .i64 59000),(2,.agg [.int .i64 x,.int .i64 y,.int .i64 z])] []) Q
theorem Zcz {args:List AV} {d:AV} (h:wc M1 fi58 Try.f58 args d):Ev M1 (.pure 58 args) d []:=pcl _ _ (by kernel_rfl) h
noncomputable abbrev zNpN1:=ag [vi 0,vi 0,vi 0,vi 0,vi 0,vi 0,vi 0,vi 0,vi 0,vi 0,vi 0,vi 0,vi 0,vi 0,vi 0,vi 0,vi 0,vi 0,AV.vnil]
theorem tSw0 (f:Bool) (l:List Ln) (A B C D E F G I J K N O R T U V Y Z:Int) (x y z:Int)  (dq:AV) (H :
  (Sp.few l.length 1000000) /\
  ((¬Sp.tv A B C D E F G I J K N O R T U V Y Z l = 0) -> Weak (tu [ag [vi 0,vi 0,vi 0,vi 0,vi 0,vi 0,vi 0,vi 0,vi 0,vi 0,vi 0,vi 0,vi 0,vi 0,vi 0,vi 0,vi 0,vi 0,AV.vnil],vi (Sp.tv A B C D E F G I J K N O R T U V Y Z l)]) dq) /\
  (¬(¬Sp.tv A B C D E F G I J K N O R T U V Y Z l = 0) -> ((¬Sp.pP x y z) -> Weak (tu [ag [vi 0,vi 0,vi 0,vi 0,vi 0,vi 0,vi 0,vi 0,vi 0,vi 0,vi 0,vi 0,vi 0,vi 0,vi 0,vi 0,vi 0,vi 0,AV.vnil],vi 11]) dq) /\
   (¬(¬Sp.pP x y z) -> Weak (tu [ag [vi x,vi y,vi z,vi D,vi E,vi F,vi G,vi I,vi J,vi K,vi N,vi O,vi R,vi T,vi U,vi V,vi Y,vi Z,AV.vec false 2 (List.map Ln.a l)],vi 0]) dq))) :
 tSw0_at f l A B C D E F G I J K N O R T U V Y Z x y z (Zak dq):=by
 unfold tSw0_at
 obtain ⟨k1,H⟩:=H
 refine Zah (G:=Zad kp58 [(1,1,.call (vi (Sp.tv A B C D E F G I J K N O R T U V Y Z l)) none)] []) 7 [] ⟨(atC (cd Try.f58) [1,0,1,1]),[(1,vi 54000),(3,AV.ptr 0 0 0 0),(5,AV.ptr 1 0 0 0),(6,AV.ptr 2 0 0 0),(8,vi (Sp.tv A B C D E F G I J K N O R T U V Y Z l)),(15,vb (Sp.tv A B C D E F G I J K N O R T U V Y Z l != 0))],[⟨[ag [vi A,vi B,vi C,vi D,vi E,vi F,vi G,vi I,vi J,vi K,vi N,vi O,vi R,vi T,vi U,vi V,vi Y,vi Z,AV.vec f 2 (List.map Ln.a l)]],19,0,false,false⟩,⟨[ag [vi x,vi y,vi z]],3,0,false,false⟩,⟨[zNpN1],19,0,false,false⟩],_,[],_⟩ (by kernel_rfl) (bc rfl b0) q0 (ce (@ev55 (f) (l) (A) (B) (C) (D) (E) (F) (G) (I) (J) (K) (N) (O) (R) (T) (U) (V) (Y) (Z) k1) c0) ?_
 rcases xq H with ⟨d3,H⟩|⟨d3,H⟩
 ·exact Zam (G:=Zad kp58 [] []) 1000 [true] (tu [zNpN1,vi (Sp.tv A B C D E F G I J K N O R T U V Y Z l)]) (by kernel_rfl) (bc (ZaG (i_ne.2 d3)) (bc rfl b0)) q0 c0 H
 ·refine Zah (G:=Zad kp58 [(4,1,.call (tu [vi 0,vi 0]) none),(7,1,.call (vb (decide ¬Sp.pP x y z)) none)] []) 12 [false,false] ⟨(atC (cd Try.f58) [1,1,1,1,0,1]),[(3,AV.ptr 0 0 0 0),(5,AV.ptr 1 0 0 0),(6,AV.ptr 2 0 0 0),(9,vi 0),(28,vb (decide ¬Sp.pP x y z))],[⟨[ag [vi A,vi B,vi C,vi D,vi E,vi F,vi G,vi I,vi J,vi K,vi N,vi O,vi R,vi T,vi U,vi V,vi Y,vi Z,AV.vec f 2 (List.map Ln.a l)]],19,0,false,false⟩,⟨[ag [vi x,vi y,vi z]],3,0,false,false⟩,⟨[zNpN1],19,0,false,false⟩],_,[],_⟩ (by kernel_rfl) (bc (Zaj (fun h => d3 (i_ne.1 h))) (bc rfl (bc rfl b0))) q0 (ce (@ev89_a ) (ce (@ev87 (x) (y) (z)) c0)) ?_
  rcases xq H with ⟨d5,H⟩|⟨d5,H⟩
  ·exact Zam (G:=Zad kp58 [] []) 1000 [true] (tu [zNpN1,vi 11]) (by kernel_rfl) (bc (ZaG (Zaa.2 d5)) (bc rfl b0)) q0 c0 H
  ·exact Zam (G:=Zad kp58 [(9,1,.call (ag [vi A,vi B,vi C,vi D,vi E,vi F,vi G,vi I,vi J,vi K,vi N,vi O,vi R,vi T,vi U,vi V,vi Y,vi Z,AV.vec false 2 (List.map Ln.a l)]) none)] []) 1000 [false] (tu [ag [vi x,vi y,vi z,vi D,vi E,vi F,vi G,vi I,vi J,vi K,vi N,vi O,vi R,vi T,vi U,vi V,vi Y,vi Z,AV.vec false 2 (List.map Ln.a l)],vi 0]) (by kernel_rfl) (bc (Zaj (fun h => d5 (Zaa.1 h))) (bc rfl (bc rfl (bc rfl (bc rfl (bc rfl (bc rfl (bc rfl (bc rfl b0))))))))) q0 (ce (@ev90 (f) (l) (A) (B) (C) (D) (E) (F) (G) (I) (J) (K) (N) (O) (R) (T) (U) (V) (Y) (Z) k1) c0) H
noncomputable abbrev zNpN2:=ag [vi 0,vi 0,vi 0,vi 0,vi 0,vi 0,vi 0,vi 0,vi 0,vi 0,vi 0,vi 0,vi 0,vi 0,vi 0,vi 0,vi 0,vi 0,AV.vnil]
theorem tSw1 (f:Bool) (l:List Ln) (A B C D E F G I J K N O R T U V Y Z:Int) (x y z:Int)  (dq:AV) (H :
  (Sp.few l.length 1000000) /\
  ((¬Sp.tv A B C D E F G I J K N O R T U V Y Z l = 0) -> Weak (tu [ag [vi 0,vi 0,vi 0,vi 0,vi 0,vi 0,vi 0,vi 0,vi 0,vi 0,vi 0,vi 0,vi 0,vi 0,vi 0,vi 0,vi 0,vi 0,AV.vnil],vi (Sp.tv A B C D E F G I J K N O R T U V Y Z l)]) dq) /\
  (¬(¬Sp.tv A B C D E F G I J K N O R T U V Y Z l = 0) -> ((¬Sp.pP x y z) -> Weak (tu [ag [vi 0,vi 0,vi 0,vi 0,vi 0,vi 0,vi 0,vi 0,vi 0,vi 0,vi 0,vi 0,vi 0,vi 0,vi 0,vi 0,vi 0,vi 0,AV.vnil],vi 11]) dq) /\
   (¬(¬Sp.pP x y z) -> Weak (tu [ag [vi A,vi B,vi C,vi x,vi y,vi z,vi G,vi I,vi J,vi K,vi N,vi O,vi R,vi T,vi U,vi V,vi Y,vi Z,AV.vec false 2 (List.map Ln.a l)],vi 0]) dq))) :
 tSw1_at f l A B C D E F G I J K N O R T U V Y Z x y z (Zak dq):=by
 unfold tSw1_at
 obtain ⟨k1,H⟩:=H
 refine Zah (G:=Zad kp58 [(1,1,.call (vi (Sp.tv A B C D E F G I J K N O R T U V Y Z l)) none)] []) 7 [] ⟨(atC (cd Try.f58) [1,0,1,1]),[(1,vi 55000),(3,AV.ptr 0 0 0 0),(5,AV.ptr 1 0 0 0),(6,AV.ptr 2 0 0 0),(8,vi (Sp.tv A B C D E F G I J K N O R T U V Y Z l)),(15,vb (Sp.tv A B C D E F G I J K N O R T U V Y Z l != 0))],[⟨[ag [vi A,vi B,vi C,vi D,vi E,vi F,vi G,vi I,vi J,vi K,vi N,vi O,vi R,vi T,vi U,vi V,vi Y,vi Z,AV.vec f 2 (List.map Ln.a l)]],19,0,false,false⟩,⟨[ag [vi x,vi y,vi z]],3,0,false,false⟩,⟨[zNpN2],19,0,false,false⟩],_,[],_⟩ (by kernel_rfl) (bc rfl b0) q0 (ce (@ev55 (f) (l) (A) (B) (C) (D) (E) (F) (G) (I) (J) (K) (N) (O) (R) (T) (U) (V) (Y) (Z) k1) c0) ?_
 rcases xq H with ⟨d3,H⟩|⟨d3,H⟩
 ·exact Zam (G:=Zad kp58 [] []) 1000 [true] (tu [zNpN2,vi (Sp.tv A B C D E F G I J K N O R T U V Y Z l)]) (by kernel_rfl) (bc (ZaG (i_ne.2 d3)) (bc rfl b0)) q0 c0 H
 ·refine Zah (G:=Zad kp58 [(4,1,.call (tu [vi 1,vi 0]) none),(7,1,.call (vb (decide ¬Sp.pP x y z)) none)] []) 12 [false,false] ⟨(atC (cd Try.f58) [1,1,1,1,0,1]),[(3,AV.ptr 0 0 0 0),(5,AV.ptr 1 0 0 0),(6,AV.ptr 2 0 0 0),(9,vi 1),(28,vb (decide ¬Sp.pP x y z))],[⟨[ag [vi A,vi B,vi C,vi D,vi E,vi F,vi G,vi I,vi J,vi K,vi N,vi O,vi R,vi T,vi U,vi V,vi Y,vi Z,AV.vec f 2 (List.map Ln.a l)]],19,0,false,false⟩,⟨[ag [vi x,vi y,vi z]],3,0,false,false⟩,⟨[zNpN2],19,0,false,false⟩],_,[],_⟩ (by kernel_rfl) (bc (Zaj (fun h => d3 (i_ne.1 h))) (bc rfl (bc rfl b0))) q0 (ce (@ev89_b ) (ce (@ev87 (x) (y) (z)) c0)) ?_
  rcases xq H with ⟨d5,H⟩|⟨d5,H⟩
  ·exact Zam (G:=Zad kp58 [] []) 1000 [true] (tu [zNpN2,vi 11]) (by kernel_rfl) (bc (ZaG (Zaa.2 d5)) (bc rfl b0)) q0 c0 H
  ·exact Zam (G:=Zad kp58 [(9,1,.call (ag [vi A,vi B,vi C,vi D,vi E,vi F,vi G,vi I,vi J,vi K,vi N,vi O,vi R,vi T,vi U,vi V,vi Y,vi Z,AV.vec false 2 (List.map Ln.a l)]) none)] []) 1000 [false] (tu [ag [vi A,vi B,vi C,vi x,vi y,vi z,vi G,vi I,vi J,vi K,vi N,vi O,vi R,vi T,vi U,vi V,vi Y,vi Z,AV.vec false 2 (List.map Ln.a l)],vi 0]) (by kernel_rfl) (bc (Zaj (fun h => d5 (Zaa.1 h))) (bc rfl (bc rfl (bc rfl (bc rfl (bc rfl (bc rfl (bc rfl (bc rfl b0))))))))) q0 (ce (@ev90 (f) (l) (A) (B) (C) (D) (E) (F) (G) (I) (J) (K) (N) (O) (R) (T) (U) (V) (Y) (Z) k1) c0) H
noncomputable abbrev zNpN3:=ag [vi 0,vi 0,vi 0,vi 0,vi 0,vi 0,vi 0,vi 0,vi 0,vi 0,vi 0,vi 0,vi 0,vi 0,vi 0,vi 0,vi 0,vi 0,AV.vnil]
theorem tSw2 (f:Bool) (l:List Ln) (A B C D E F G I J K N O R T U V Y Z:Int) (x y z:Int)  (dq:AV) (H :
  (Sp.few l.length 1000000) /\
  ((¬Sp.tv A B C D E F G I J K N O R T U V Y Z l = 0) -> Weak (tu [ag [vi 0,vi 0,vi 0,vi 0,vi 0,vi 0,vi 0,vi 0,vi 0,vi 0,vi 0,vi 0,vi 0,vi 0,vi 0,vi 0,vi 0,vi 0,AV.vnil],vi (Sp.tv A B C D E F G I J K N O R T U V Y Z l)]) dq) /\
  (¬(¬Sp.tv A B C D E F G I J K N O R T U V Y Z l = 0) -> ((¬Sp.pP x y z) -> Weak (tu [ag [vi 0,vi 0,vi 0,vi 0,vi 0,vi 0,vi 0,vi 0,vi 0,vi 0,vi 0,vi 0,vi 0,vi 0,vi 0,vi 0,vi 0,vi 0,AV.vnil],vi 11]) dq) /\
   (¬(¬Sp.pP x y z) -> Weak (tu [ag [vi A,vi B,vi C,vi D,vi E,vi F,vi x,vi y,vi z,vi K,vi N,vi O,vi R,vi T,vi U,vi V,vi Y,vi Z,AV.vec false 2 (List.map Ln.a l)],vi 0]) dq))) :
 tSw2_at f l A B C D E F G I J K N O R T U V Y Z x y z (Zak dq):=by
 unfold tSw2_at
 obtain ⟨k1,H⟩:=H
 refine Zah (G:=Zad kp58 [(1,1,.call (vi (Sp.tv A B C D E F G I J K N O R T U V Y Z l)) none)] []) 7 [] ⟨(atC (cd Try.f58) [1,0,1,1]),[(1,vi 56000),(3,AV.ptr 0 0 0 0),(5,AV.ptr 1 0 0 0),(6,AV.ptr 2 0 0 0),(8,vi (Sp.tv A B C D E F G I J K N O R T U V Y Z l)),(15,vb (Sp.tv A B C D E F G I J K N O R T U V Y Z l != 0))],[⟨[ag [vi A,vi B,vi C,vi D,vi E,vi F,vi G,vi I,vi J,vi K,vi N,vi O,vi R,vi T,vi U,vi V,vi Y,vi Z,AV.vec f 2 (List.map Ln.a l)]],19,0,false,false⟩,⟨[ag [vi x,vi y,vi z]],3,0,false,false⟩,⟨[zNpN3],19,0,false,false⟩],_,[],_⟩ (by kernel_rfl) (bc rfl b0) q0 (ce (@ev55 (f) (l) (A) (B) (C) (D) (E) (F) (G) (I) (J) (K) (N) (O) (R) (T) (U) (V) (Y) (Z) k1) c0) ?_
 rcases xq H with ⟨d3,H⟩|⟨d3,H⟩
 ·exact Zam (G:=Zad kp58 [] []) 1000 [true] (tu [zNpN3,vi (Sp.tv A B C D E F G I J K N O R T U V Y Z l)]) (by kernel_rfl) (bc (ZaG (i_ne.2 d3)) (bc rfl b0)) q0 c0 H
 ·refine Zah (G:=Zad kp58 [(4,1,.call (tu [vi 2,vi 0]) none),(7,1,.call (vb (decide ¬Sp.pP x y z)) none)] []) 12 [false,false] ⟨(atC (cd Try.f58) [1,1,1,1,0,1]),[(3,AV.ptr 0 0 0 0),(5,AV.ptr 1 0 0 0),(6,AV.ptr 2 0 0 0),(9,vi 2),(28,vb (decide ¬Sp.pP x y z))],[⟨[ag [vi A,vi B,vi C,vi D,vi E,vi F,vi G,vi I,vi J,vi K,vi N,vi O,vi R,vi T,vi U,vi V,vi Y,vi Z,AV.vec f 2 (List.map Ln.a l)]],19,0,false,false⟩,⟨[ag [vi x,vi y,vi z]],3,0,false,false⟩,⟨[zNpN3],19,0,false,false⟩],_,[],_⟩ (by kernel_rfl) (bc (Zaj (fun h => d3 (i_ne.1 h))) (bc rfl (bc rfl b0))) q0 (ce (@ev89_c ) (ce (@ev87 (x) (y) (z)) c0)) ?_
  rcases xq H with ⟨d5,H⟩|⟨d5,H⟩
  ·exact Zam (G:=Zad kp58 [] []) 1000 [true] (tu [zNpN3,vi 11]) (by kernel_rfl) (bc (ZaG (Zaa.2 d5)) (bc rfl b0)) q0 c0 H
  ·exact Zam (G:=Zad kp58 [(9,1,.call (ag [vi A,vi B,vi C,vi D,vi E,vi F,vi G,vi I,vi J,vi K,vi N,vi O,vi R,vi T,vi U,vi V,vi Y,vi Z,AV.vec false 2 (List.map Ln.a l)]) none)] []) 1000 [false] (tu [ag [vi A,vi B,vi C,vi D,vi E,vi F,vi x,vi y,vi z,vi K,vi N,vi O,vi R,vi T,vi U,vi V,vi Y,vi Z,AV.vec false 2 (List.map Ln.a l)],vi 0]) (by kernel_rfl) (bc (Zaj (fun h => d5 (Zaa.1 h))) (bc rfl (bc rfl (bc rfl (bc rfl (bc rfl (bc rfl (bc rfl (bc rfl b0))))))))) q0 (ce (@ev90 (f) (l) (A) (B) (C) (D) (E) (F) (G) (I) (J) (K) (N) (O) (R) (T) (U) (V) (Y) (Z) k1) c0) H
noncomputable abbrev zNpN4:=ag [vi 0,vi 0,vi 0,vi 0,vi 0,vi 0,vi 0,vi 0,vi 0,vi 0,vi 0,vi 0,vi 0,vi 0,vi 0,vi 0,vi 0,vi 0,AV.vnil]
theorem tSw3 (f:Bool) (l:List Ln) (A B C D E F G I J K N O R T U V Y Z:Int) (x y z:Int)  (dq:AV) (H :
  (Sp.few l.length 1000000) /\
  ((¬Sp.tv A B C D E F G I J K N O R T U V Y Z l = 0) -> Weak (tu [ag [vi 0,vi 0,vi 0,vi 0,vi 0,vi 0,vi 0,vi 0,vi 0,vi 0,vi 0,vi 0,vi 0,vi 0,vi 0,vi 0,vi 0,vi 0,AV.vnil],vi (Sp.tv A B C D E F G I J K N O R T U V Y Z l)]) dq) /\
  (¬(¬Sp.tv A B C D E F G I J K N O R T U V Y Z l = 0) -> ((¬Sp.pP x y z) -> Weak (tu [ag [vi 0,vi 0,vi 0,vi 0,vi 0,vi 0,vi 0,vi 0,vi 0,vi 0,vi 0,vi 0,vi 0,vi 0,vi 0,vi 0,vi 0,vi 0,AV.vnil],vi 11]) dq) /\
   (¬(¬Sp.pP x y z) -> Weak (tu [ag [vi A,vi B,vi C,vi D,vi E,vi F,vi G,vi I,vi J,vi x,vi y,vi z,vi R,vi T,vi U,vi V,vi Y,vi Z,AV.vec false 2 (List.map Ln.a l)],vi 0]) dq))) :
 tSw3_at f l A B C D E F G I J K N O R T U V Y Z x y z (Zak dq):=by
 unfold tSw3_at
 obtain ⟨k1,H⟩:=H
 refine Zah (G:=Zad kp58 [(1,1,.call (vi (Sp.tv A B C D E F G I J K N O R T U V Y Z l)) none)] []) 7 [] ⟨(atC (cd Try.f58) [1,0,1,1]),[(1,vi 57000),(3,AV.ptr 0 0 0 0),(5,AV.ptr 1 0 0 0),(6,AV.ptr 2 0 0 0),(8,vi (Sp.tv A B C D E F G I J K N O R T U V Y Z l)),(15,vb (Sp.tv A B C D E F G I J K N O R T U V Y Z l != 0))],[⟨[ag [vi A,vi B,vi C,vi D,vi E,vi F,vi G,vi I,vi J,vi K,vi N,vi O,vi R,vi T,vi U,vi V,vi Y,vi Z,AV.vec f 2 (List.map Ln.a l)]],19,0,false,false⟩,⟨[ag [vi x,vi y,vi z]],3,0,false,false⟩,⟨[zNpN4],19,0,false,false⟩],_,[],_⟩ (by kernel_rfl) (bc rfl b0) q0 (ce (@ev55 (f) (l) (A) (B) (C) (D) (E) (F) (G) (I) (J) (K) (N) (O) (R) (T) (U) (V) (Y) (Z) k1) c0) ?_
 rcases xq H with ⟨d3,H⟩|⟨d3,H⟩
 ·exact Zam (G:=Zad kp58 [] []) 1000 [true] (tu [zNpN4,vi (Sp.tv A B C D E F G I J K N O R T U V Y Z l)]) (by kernel_rfl) (bc (ZaG (i_ne.2 d3)) (bc rfl b0)) q0 c0 H
 ·refine Zah (G:=Zad kp58 [(4,1,.call (tu [vi 3,vi 0]) none),(7,1,.call (vb (decide ¬Sp.pP x y z)) none)] []) 12 [false,false] ⟨(atC (cd Try.f58) [1,1,1,1,0,1]),[(3,AV.ptr 0 0 0 0),(5,AV.ptr 1 0 0 0),(6,AV.ptr 2 0 0 0),(9,vi 3),(28,vb (decide ¬Sp.pP x y z))],[⟨[ag [vi A,vi B,vi C,vi D,vi E,vi F,vi G,vi I,vi J,vi K,vi N,vi O,vi R,vi T,vi U,vi V,vi Y,vi Z,AV.vec f 2 (List.map Ln.a l)]],19,0,false,false⟩,⟨[ag [vi x,vi y,vi z]],3,0,false,false⟩,⟨[zNpN4],19,0,false,false⟩],_,[],_⟩ (by kernel_rfl) (bc (Zaj (fun h => d3 (i_ne.1 h))) (bc rfl (bc rfl b0))) q0 (ce (@ev89_d ) (ce (@ev87 (x) (y) (z)) c0)) ?_
  rcases xq H with ⟨d5,H⟩|⟨d5,H⟩
  ·exact Zam (G:=Zad kp58 [] []) 1000 [true] (tu [zNpN4,vi 11]) (by kernel_rfl) (bc (ZaG (Zaa.2 d5)) (bc rfl b0)) q0 c0 H
  ·exact Zam (G:=Zad kp58 [(9,1,.call (ag [vi A,vi B,vi C,vi D,vi E,vi F,vi G,vi I,vi J,vi K,vi N,vi O,vi R,vi T,vi U,vi V,vi Y,vi Z,AV.vec false 2 (List.map Ln.a l)]) none)] []) 1000 [false] (tu [ag [vi A,vi B,vi C,vi D,vi E,vi F,vi G,vi I,vi J,vi x,vi y,vi z,vi R,vi T,vi U,vi V,vi Y,vi Z,AV.vec false 2 (List.map Ln.a l)],vi 0]) (by kernel_rfl) (bc (Zaj (fun h => d5 (Zaa.1 h))) (bc rfl (bc rfl (bc rfl (bc rfl (bc rfl (bc rfl (bc rfl (bc rfl b0))))))))) q0 (ce (@ev90 (f) (l) (A) (B) (C) (D) (E) (F) (G) (I) (J) (K) (N) (O) (R) (T) (U) (V) (Y) (Z) k1) c0) H
noncomputable abbrev zNpN5:=ag [vi 0,vi 0,vi 0,vi 0,vi 0,vi 0,vi 0,vi 0,vi 0,vi 0,vi 0,vi 0,vi 0,vi 0,vi 0,vi 0,vi 0,vi 0,AV.vnil]
theorem tSw4 (f:Bool) (l:List Ln) (A B C D E F G I J K N O R T U V Y Z:Int) (x y z:Int)  (dq:AV) (H :
  (Sp.few l.length 1000000) /\
  ((¬Sp.tv A B C D E F G I J K N O R T U V Y Z l = 0) -> Weak (tu [ag [vi 0,vi 0,vi 0,vi 0,vi 0,vi 0,vi 0,vi 0,vi 0,vi 0,vi 0,vi 0,vi 0,vi 0,vi 0,vi 0,vi 0,vi 0,AV.vnil],vi (Sp.tv A B C D E F G I J K N O R T U V Y Z l)]) dq) /\
  (¬(¬Sp.tv A B C D E F G I J K N O R T U V Y Z l = 0) -> ((¬Sp.pP x y z) -> Weak (tu [ag [vi 0,vi 0,vi 0,vi 0,vi 0,vi 0,vi 0,vi 0,vi 0,vi 0,vi 0,vi 0,vi 0,vi 0,vi 0,vi 0,vi 0,vi 0,AV.vnil],vi 11]) dq) /\
   (¬(¬Sp.pP x y z) -> Weak (tu [ag [vi A,vi B,vi C,vi D,vi E,vi F,vi G,vi I,vi J,vi K,vi N,vi O,vi x,vi y,vi z,vi V,vi Y,vi Z,AV.vec false 2 (List.map Ln.a l)],vi 0]) dq))) :
 tSw4_at f l A B C D E F G I J K N O R T U V Y Z x y z (Zak dq):=by
 unfold tSw4_at
 obtain ⟨k1,H⟩:=H
 refine Zah (G:=Zad kp58 [(1,1,.call (vi (Sp.tv A B C D E F G I J K N O R T U V Y Z l)) none)] []) 7 [] ⟨(atC (cd Try.f58) [1,0,1,1]),[(1,vi 58000),(3,AV.ptr 0 0 0 0),(5,AV.ptr 1 0 0 0),(6,AV.ptr 2 0 0 0),(8,vi (Sp.tv A B C D E F G I J K N O R T U V Y Z l)),(15,vb (Sp.tv A B C D E F G I J K N O R T U V Y Z l != 0))],[⟨[ag [vi A,vi B,vi C,vi D,vi E,vi F,vi G,vi I,vi J,vi K,vi N,vi O,vi R,vi T,vi U,vi V,vi Y,vi Z,AV.vec f 2 (List.map Ln.a l)]],19,0,false,false⟩,⟨[ag [vi x,vi y,vi z]],3,0,false,false⟩,⟨[zNpN5],19,0,false,false⟩],_,[],_⟩ (by kernel_rfl) (bc rfl b0) q0 (ce (@ev55 (f) (l) (A) (B) (C) (D) (E) (F) (G) (I) (J) (K) (N) (O) (R) (T) (U) (V) (Y) (Z) k1) c0) ?_
 rcases xq H with ⟨d3,H⟩|⟨d3,H⟩
 ·exact Zam (G:=Zad kp58 [] []) 1000 [true] (tu [zNpN5,vi (Sp.tv A B C D E F G I J K N O R T U V Y Z l)]) (by kernel_rfl) (bc (ZaG (i_ne.2 d3)) (bc rfl b0)) q0 c0 H
 ·refine Zah (G:=Zad kp58 [(4,1,.call (tu [vi 4,vi 0]) none),(7,1,.call (vb (decide ¬Sp.pP x y z)) none)] []) 12 [false,false] ⟨(atC (cd Try.f58) [1,1,1,1,0,1]),[(3,AV.ptr 0 0 0 0),(5,AV.ptr 1 0 0 0),(6,AV.ptr 2 0 0 0),(9,vi 4),(28,vb (decide ¬Sp.pP x y z))],[⟨[ag [vi A,vi B,vi C,vi D,vi E,vi F,vi G,vi I,vi J,vi K,vi N,vi O,vi R,vi T,vi U,vi V,vi Y,vi Z,AV.vec f 2 (List.map Ln.a l)]],19,0,false,false⟩,⟨[ag [vi x,vi y,vi z]],3,0,false,false⟩,⟨[zNpN5],19,0,false,false⟩],_,[],_⟩ (by kernel_rfl) (bc (Zaj (fun h => d3 (i_ne.1 h))) (bc rfl (bc rfl b0))) q0 (ce (@ev89_e ) (ce (@ev87 (x) (y) (z)) c0)) ?_
  rcases xq H with ⟨d5,H⟩|⟨d5,H⟩
  ·exact Zam (G:=Zad kp58 [] []) 1000 [true] (tu [zNpN5,vi 11]) (by kernel_rfl) (bc (ZaG (Zaa.2 d5)) (bc rfl b0)) q0 c0 H
  ·exact Zam (G:=Zad kp58 [(9,1,.call (ag [vi A,vi B,vi C,vi D,vi E,vi F,vi G,vi I,vi J,vi K,vi N,vi O,vi R,vi T,vi U,vi V,vi Y,vi Z,AV.vec false 2 (List.map Ln.a l)]) none)] []) 1000 [false] (tu [ag [vi A,vi B,vi C,vi D,vi E,vi F,vi G,vi I,vi J,vi K,vi N,vi O,vi x,vi y,vi z,vi V,vi Y,vi Z,AV.vec false 2 (List.map Ln.a l)],vi 0]) (by kernel_rfl) (bc (Zaj (fun h => d5 (Zaa.1 h))) (bc rfl (bc rfl (bc rfl (bc rfl (bc rfl (bc rfl (bc rfl (bc rfl b0))))))))) q0 (ce (@ev90 (f) (l) (A) (B) (C) (D) (E) (F) (G) (I) (J) (K) (N) (O) (R) (T) (U) (V) (Y) (Z) k1) c0) H
noncomputable abbrev zNpN6:=ag [vi 0,vi 0,vi 0,vi 0,vi 0,vi 0,vi 0,vi 0,vi 0,vi 0,vi 0,vi 0,vi 0,vi 0,vi 0,vi 0,vi 0,vi 0,AV.vnil]
theorem tSw5 (f:Bool) (l:List Ln) (A B C D E F G I J K N O R T U V Y Z:Int) (x y z:Int)  (dq:AV) (H :
  (Sp.few l.length 1000000) /\
  ((¬Sp.tv A B C D E F G I J K N O R T U V Y Z l = 0) -> Weak (tu [ag [vi 0,vi 0,vi 0,vi 0,vi 0,vi 0,vi 0,vi 0,vi 0,vi 0,vi 0,vi 0,vi 0,vi 0,vi 0,vi 0,vi 0,vi 0,AV.vnil],vi (Sp.tv A B C D E F G I J K N O R T U V Y Z l)]) dq) /\
  (¬(¬Sp.tv A B C D E F G I J K N O R T U V Y Z l = 0) -> ((¬Sp.pP x y z) -> Weak (tu [ag [vi 0,vi 0,vi 0,vi 0,vi 0,vi 0,vi 0,vi 0,vi 0,vi 0,vi 0,vi 0,vi 0,vi 0,vi 0,vi 0,vi 0,vi 0,AV.vnil],vi 11]) dq) /\
   (¬(¬Sp.pP x y z) -> Weak (tu [ag [vi A,vi B,vi C,vi D,vi E,vi F,vi G,vi I,vi J,vi K,vi N,vi O,vi R,vi T,vi U,vi x,vi y,vi z,AV.vec false 2 (List.map Ln.a l)],vi 0]) dq))) :
 tSw5_at f l A B C D E F G I J K N O R T U V Y Z x y z (Zak dq):=by
 unfold tSw5_at
 obtain ⟨k1,H⟩:=H
 refine Zah (G:=Zad kp58 [(1,1,.call (vi (Sp.tv A B C D E F G I J K N O R T U V Y Z l)) none)] []) 7 [] ⟨(atC (cd Try.f58) [1,0,1,1]),[(1,vi 59000),(3,AV.ptr 0 0 0 0),(5,AV.ptr 1 0 0 0),(6,AV.ptr 2 0 0 0),(8,vi (Sp.tv A B C D E F G I J K N O R T U V Y Z l)),(15,vb (Sp.tv A B C D E F G I J K N O R T U V Y Z l != 0))],[⟨[ag [vi A,vi B,vi C,vi D,vi E,vi F,vi G,vi I,vi J,vi K,vi N,vi O,vi R,vi T,vi U,vi V,vi Y,vi Z,AV.vec f 2 (List.map Ln.a l)]],19,0,false,false⟩,⟨[ag [vi x,vi y,vi z]],3,0,false,false⟩,⟨[zNpN6],19,0,false,false⟩],_,[],_⟩ (by kernel_rfl) (bc rfl b0) q0 (ce (@ev55 (f) (l) (A) (B) (C) (D) (E) (F) (G) (I) (J) (K) (N) (O) (R) (T) (U) (V) (Y) (Z) k1) c0) ?_
 rcases xq H with ⟨d3,H⟩|⟨d3,H⟩
 ·exact Zam (G:=Zad kp58 [] []) 1000 [true] (tu [zNpN6,vi (Sp.tv A B C D E F G I J K N O R T U V Y Z l)]) (by kernel_rfl) (bc (ZaG (i_ne.2 d3)) (bc rfl b0)) q0 c0 H
 ·refine Zah (G:=Zad kp58 [(4,1,.call (tu [vi 5,vi 0]) none),(7,1,.call (vb (decide ¬Sp.pP x y z)) none)] []) 12 [false,false] ⟨(atC (cd Try.f58) [1,1,1,1,0,1]),[(3,AV.ptr 0 0 0 0),(5,AV.ptr 1 0 0 0),(6,AV.ptr 2 0 0 0),(9,vi 5),(28,vb (decide ¬Sp.pP x y z))],[⟨[ag [vi A,vi B,vi C,vi D,vi E,vi F,vi G,vi I,vi J,vi K,vi N,vi O,vi R,vi T,vi U,vi V,vi Y,vi Z,AV.vec f 2 (List.map Ln.a l)]],19,0,false,false⟩,⟨[ag [vi x,vi y,vi z]],3,0,false,false⟩,⟨[zNpN6],19,0,false,false⟩],_,[],_⟩ (by kernel_rfl) (bc (Zaj (fun h => d3 (i_ne.1 h))) (bc rfl (bc rfl b0))) q0 (ce (@ev89_o ) (ce (@ev87 (x) (y) (z)) c0)) ?_
  rcases xq H with ⟨d5,H⟩|⟨d5,H⟩
  ·exact Zam (G:=Zad kp58 [] []) 1000 [true] (tu [zNpN6,vi 11]) (by kernel_rfl) (bc (ZaG (Zaa.2 d5)) (bc rfl b0)) q0 c0 H
  ·exact Zam (G:=Zad kp58 [(9,1,.call (ag [vi A,vi B,vi C,vi D,vi E,vi F,vi G,vi I,vi J,vi K,vi N,vi O,vi R,vi T,vi U,vi V,vi Y,vi Z,AV.vec false 2 (List.map Ln.a l)]) none)] []) 1000 [false] (tu [ag [vi A,vi B,vi C,vi D,vi E,vi F,vi G,vi I,vi J,vi K,vi N,vi O,vi R,vi T,vi U,vi x,vi y,vi z,AV.vec false 2 (List.map Ln.a l)],vi 0]) (by kernel_rfl) (bc (Zaj (fun h => d5 (Zaa.1 h))) (bc rfl (bc rfl (bc rfl (bc rfl (bc rfl (bc rfl (bc rfl (bc rfl b0))))))))) q0 (ce (@ev90 (f) (l) (A) (B) (C) (D) (E) (F) (G) (I) (J) (K) (N) (O) (R) (T) (U) (V) (Y) (Z) k1) c0) H
end Go.Av

namespace Go.Av
open Go.Proofs
theorem ev58_y (f:Bool) (l:List Ln) (A B C D E F G I J K N O R T U V Y Z:Int) (x y z:Int) (h:Sp.tv A B C D E F G I J K N O R T U V Y Z l = 0 /\ Sp.few l.length 1000000) (k:Sp.pP x y z):Ev M1 (.pure 58 [.agg [.int .i64 A,.int .i64 B,.int .i64 C,.int .i64 D,.int .i64 E,.int .i64 F,.int .i64 G,.int .i64 I,.int .i64 J,.int .i64 K,.int .i64 N,.int .i64 O,.int .i64 R,.int .i64 T,.int .i64 U,.int .i64 V,.int .i64 Y,.int .i64 Z,.vec f 2 (l.map Ln.a)],.int .i64 54000,.agg [.int .i64 x,.int .i64 y,.int .i64 z]]) (.tup [.agg [.int .i64 x,.int .i64 y,.int .i64 z,.int .i64 D,.int .i64 E,.int .i64 F,.int .i64 G,.int .i64 I,.int .i64 J,.int .i64 K,.int .i64 N,.int .i64 O,.int .i64 R,.int .i64 T,.int .i64 U,.int .i64 V,.int .i64 Y,.int .i64 Z,.vec false 2 (l.map Ln.a)],.int .i64 0]) []:=
 Zcz (tSw0 _ _ _ _ _ _ _ _ _ _ _ _ _ _ _ _ _ _ _ _ _ _ _ _ ⟨h.2,fun q => absurd h.1 q,fun _ => ⟨fun q => absurd k q,fun _ => .refl _⟩⟩)
theorem ev58_n (f:Bool) (l:List Ln) (A B C D E F G I J K N O R T U V Y Z:Int) (x y z:Int) (h:Sp.tv A B C D E F G I J K N O R T U V Y Z l = 0 /\ Sp.few l.length 1000000) (k:¬(Sp.pP x y z)):Ev M1 (.pure 58 [.agg [.int .i64 A,.int .i64 B,.int .i64 C,.int .i64 D,.int .i64 E,.int .i64 F,.int .i64 G,.int .i64 I,.int .i64 J,.int .i64 K,.int .i64 N,.int .i64 O,.int .i64 R,.int .i64 T,.int .i64 U,.int .i64 V,.int .i64 Y,.int .i64 Z,.vec f 2 (l.map Ln.a)],.int .i64 54000,.agg [.int .i64 x,.int .i64 y,.int .i64 z]]) (.tup [.agg [.int .i64 0,.int .i64 0,.int .i64 0,.int .i64 0,.int .i64 0,.int .i64 0,.int .i64 0,.int .i64 0,.int .i64 0,.int .i64 0,.int .i64 0,.int .i64 0,.int .i64 0,.int .i64 0,.int .i64 0,.int .i64 0,.int .i64 0,.int .i64 0,.vnil],.int .i64 11]) []:=
 Zcz (tSw0 _ _ _ _ _ _ _ _ _ _ _ _ _ _ _ _ _ _ _ _ _ _ _ _ ⟨h.2,fun q => absurd h.1 q,fun _ => ⟨fun _ => .refl _,fun q => absurd k q⟩⟩)
theorem ev58_y2 (f:Bool) (l:List Ln) (A B C D E F G I J K N O R T U V Y Z:Int) (x y z:Int) (h:Sp.tv A B C D E F G I J K N O R T U V Y Z l = 0 /\ Sp.few l.length 1000000) (k:Sp.pP x y z):Ev M1 (.pure 58 [.agg [.int .i64 A,.int .i64 B,.int .i64 C,.int .i64 D,.int .i64 E,.int .i64 F,.int .i64 G,.int .i64 I,.int .i64 J,.int .i64 K,.int .i64 N,.int .i64 O,.int .i64 R,.int .i64 T,.int .i64 U,.int .i64 V,.int .i64 Y,.int .i64 Z,.vec f 2 (l.map Ln.a)],.int .i64 55000,.agg [.int .i64 x,.int .i64 y,.int .i64 z]]) (.tup [.agg [.int .i64 A,.int .i64 B,.int .i64 C,.int .i64 x,.int .i64 y,.int .i64 z,.int .i64 G,.int .i64 I,.int .i64 J,.int .i64 K,.int .i64 N,.int .i64 O,.int .i64 R,.int .i64 T,.int .i64 U,.int .i64 V,.int .i64 Y,.int .i64 Z,.vec false 2 (l.map Ln.a)],.int .i64 0]) []:=
 Zcz (tSw1 _ _ _ _ _ _ _ _ _ _ _ _ _ _ _ _ _ _ _ _ _ _ _ _ ⟨h.2,fun q => absurd h.1 q,fun _ => ⟨fun q => absurd k q,fun _ => .refl _⟩⟩)
theorem ev58_n2 (f:Bool) (l:List Ln) (A B C D E F G I J K N O R T U V Y Z:Int) (x y z:Int) (h:Sp.tv A B C D E F G I J K N O R T U V Y Z l = 0 /\ Sp.few l.length 1000000) (k:¬(Sp.pP x y z)):Ev M1 (.pure 58 [.agg [.int .i64 A,.int .i64 B,.int .i64 C,.int .i64 D,.int .i64 E,.int .i64 F,.int .i64 G,.int .i64 I,.int .i64 J,.int .i64 K,.int .i64 N,.int .i64 O,.int .i64 R,.int .i64 T,.int .i64 U,.int .i64 V,.int .i64 Y,.int .i64 Z,.vec f 2 (l.map Ln.a)],.int .i64 55000,.agg [.int .i64 x,.int .i64 y,.int .i64 z]]) (.tup [.agg [.int .i64 0,.int .i64 0,.int .i64 0,.int .i64 0,.int .i64 0,.int .i64 0,.int .i64 0,.int .i64 0,.int .i64 0,.int .i64 0,.int .i64 0,.int .i64 0,.int .i64 0,.int .i64 0,.int .i64 0,.int .i64 0,.int .i64 0,.int .i64 0,.vnil],.int .i64 11]) []:=
 Zcz (tSw1 _ _ _ _ _ _ _ _ _ _ _ _ _ _ _ _ _ _ _ _ _ _ _ _ ⟨h.2,fun q => absurd h.1 q,fun _ => ⟨fun _ => .refl _,fun q => absurd k q⟩⟩)
theorem ev58_y3 (f:Bool) (l:List Ln) (A B C D E F G I J K N O R T U V Y Z:Int) (x y z:Int) (h:Sp.tv A B C D E F G I J K N O R T U V Y Z l = 0 /\ Sp.few l.length 1000000) (k:Sp.pP x y z):Ev M1 (.pure 58 [.agg [.int .i64 A,.int .i64 B,.int .i64 C,.int .i64 D,.int .i64 E,.int .i64 F,.int .i64 G,.int .i64 I,.int .i64 J,.int .i64 K,.int .i64 N,.int .i64 O,.int .i64 R,.int .i64 T,.int .i64 U,.int .i64 V,.int .i64 Y,.int .i64 Z,.vec f 2 (l.map Ln.a)],.int .i64 56000,.agg [.int .i64 x,.int .i64 y,.int .i64 z]]) (.tup [.agg [.int .i64 A,.int .i64 B,.int .i64 C,.int .i64 D,.int .i64 E,.int .i64 F,.int .i64 x,.int .i64 y,.int .i64 z,.int .i64 K,.int .i64 N,.int .i64 O,.int .i64 R,.int .i64 T,.int .i64 U,.int .i64 V,.int .i64 Y,.int .i64 Z,.vec false 2 (l.map Ln.a)],.int .i64 0]) []:=
 Zcz (tSw2 _ _ _ _ _ _ _ _ _ _ _ _ _ _ _ _ _ _ _ _ _ _ _ _ ⟨h.2,fun q => absurd h.1 q,fun _ => ⟨fun q => absurd k q,fun _ => .refl _⟩⟩)
theorem ev58_n3 (f:Bool) (l:List Ln) (A B C D E F G I J K N O R T U V Y Z:Int) (x y z:Int) (h:Sp.tv A B C D E F G I J K N O R T U V Y Z l = 0 /\ Sp.few l.length 1000000) (k:¬(Sp.pP x y z)):Ev M1 (.pure 58 [.agg [.int .i64 A,.int .i64 B,.int .i64 C,.int .i64 D,.int .i64 E,.int .i64 F,.int .i64 G,.int .i64 I,.int .i64 J,.int .i64 K,.int .i64 N,.int .i64 O,.int .i64 R,.int .i64 T,.int .i64 U,.int .i64 V,.int .i64 Y,.int .i64 Z,.vec f 2 (l.map Ln.a)],.int .i64 56000,.agg [.int .i64 x,.int .i64 y,.int .i64 z]]) (.tup [.agg [.int .i64 0,.int .i64 0,.int .i64 0,.int .i64 0,.int .i64 0,.int .i64 0,.int .i64 0,.int .i64 0,.int .i64 0,.int .i64 0,.int .i64 0,.int .i64 0,.int .i64 0,.int .i64 0,.int .i64 0,.int .i64 0,.int .i64 0,.int .i64 0,.vnil],.int .i64 11]) []:=
 Zcz (tSw2 _ _ _ _ _ _ _ _ _ _ _ _ _ _ _ _ _ _ _ _ _ _ _ _ ⟨h.2,fun q => absurd h.1 q,fun _ => ⟨fun _ => .refl _,fun q => absurd k q⟩⟩)
theorem ev58_y4 (f:Bool) (l:List Ln) (A B C D E F G I J K N O R T U V Y Z:Int) (x y z:Int) (h:Sp.tv A B C D E F G I J K N O R T U V Y Z l = 0 /\ Sp.few l.length 1000000) (k:Sp.pP x y z):Ev M1 (.pure 58 [.agg [.int .i64 A,.int .i64 B,.int .i64 C,.int .i64 D,.int .i64 E,.int .i64 F,.int .i64 G,.int .i64 I,.int .i64 J,.int .i64 K,.int .i64 N,.int .i64 O,.int .i64 R,.int .i64 T,.int .i64 U,.int .i64 V,.int .i64 Y,.int .i64 Z,.vec f 2 (l.map Ln.a)],.int .i64 57000,.agg [.int .i64 x,.int .i64 y,.int .i64 z]]) (.tup [.agg [.int .i64 A,.int .i64 B,.int .i64 C,.int .i64 D,.int .i64 E,.int .i64 F,.int .i64 G,.int .i64 I,.int .i64 J,.int .i64 x,.int .i64 y,.int .i64 z,.int .i64 R,.int .i64 T,.int .i64 U,.int .i64 V,.int .i64 Y,.int .i64 Z,.vec false 2 (l.map Ln.a)],.int .i64 0]) []:=
 Zcz (tSw3 _ _ _ _ _ _ _ _ _ _ _ _ _ _ _ _ _ _ _ _ _ _ _ _ ⟨h.2,fun q => absurd h.1 q,fun _ => ⟨fun q => absurd k q,fun _ => .refl _⟩⟩)
theorem ev58_n4 (f:Bool) (l:List Ln) (A B C D E F G I J K N O R T U V Y Z:Int) (x y z:Int) (h:Sp.tv A B C D E F G I J K N O R T U V Y Z l = 0 /\ Sp.few l.length 1000000) (k:¬(Sp.pP x y z)):Ev M1 (.pure 58 [.agg [.int .i64 A,.int .i64 B,.int .i64 C,.int .i64 D,.int .i64 E,.int .i64 F,.int .i64 G,.int .i64 I,.int .i64 J,.int .i64 K,.int .i64 N,.int .i64 O,.int .i64 R,.int .i64 T,.int .i64 U,.int .i64 V,.int .i64 Y,.int .i64 Z,.vec f 2 (l.map Ln.a)],.int .i64 57000,.agg [.int .i64 x,.int .i64 y,.int .i64 z]]) (.tup [.agg [.int .i64 0,.int .i64 0,.int .i64 0,.int .i64 0,.int .i64 0,.int .i64 0,.int .i64 0,.int .i64 0,.int .i64 0,.int .i64 0,.int .i64 0,.int .i64 0,.int .i64 0,.int .i64 0,.int .i64 0,.int .i64 0,.int .i64 0,.int .i64 0,.vnil],.int .i64 11]) []:=
 Zcz (tSw3 _ _ _ _ _ _ _ _ _ _ _ _ _ _ _ _ _ _ _ _ _ _ _ _ ⟨h.2,fun q => absurd h.1 q,fun _ => ⟨fun _ => .refl _,fun q => absurd k q⟩⟩)
theorem ev58_y5 (f:Bool) (l:List Ln) (A B C D E F G I J K N O R T U V Y Z:Int) (x y z:Int) (h:Sp.tv A B C D E F G I J K N O R T U V Y Z l = 0 /\ Sp.few l.length 1000000) (k:Sp.pP x y z):Ev M1 (.pure 58 [.agg [.int .i64 A,.int .i64 B,.int .i64 C,.int .i64 D,.int .i64 E,.int .i64 F,.int .i64 G,.int .i64 I,.int .i64 J,.int .i64 K,.int .i64 N,.int .i64 O,.int .i64 R,.int .i64 T,.int .i64 U,.int .i64 V,.int .i64 Y,.int .i64 Z,.vec f 2 (l.map Ln.a)],.int .i64 58000,.agg [.int .i64 x,.int .i64 y,.int .i64 z]]) (.tup [.agg [.int .i64 A,.int .i64 B,.int .i64 C,.int .i64 D,.int .i64 E,.int .i64 F,.int .i64 G,.int .i64 I,.int .i64 J,.int .i64 K,.int .i64 N,.int .i64 O,.int .i64 x,.int .i64 y,.int .i64 z,.int .i64 V,.int .i64 Y,.int .i64 Z,.vec false 2 (l.map Ln.a)],.int .i64 0]) []:=
 Zcz (tSw4 _ _ _ _ _ _ _ _ _ _ _ _ _ _ _ _ _ _ _ _ _ _ _ _ ⟨h.2,fun q => absurd h.1 q,fun _ => ⟨fun q => absurd k q,fun _ => .refl _⟩⟩)
theorem ev58_n5 (f:Bool) (l:List Ln) (A B C D E F G I J K N O R T U V Y Z:Int) (x y z:Int) (h:Sp.tv A B C D E F G I J K N O R T U V Y Z l = 0 /\ Sp.few l.length 1000000) (k:¬(Sp.pP x y z)):Ev M1 (.pure 58 [.agg [.int .i64 A,.int .i64 B,.int .i64 C,.int .i64 D,.int .i64 E,.int .i64 F,.int .i64 G,.int .i64 I,.int .i64 J,.int .i64 K,.int .i64 N,.int .i64 O,.int .i64 R,.int .i64 T,.int .i64 U,.int .i64 V,.int .i64 Y,.int .i64 Z,.vec f 2 (l.map Ln.a)],.int .i64 58000,.agg [.int .i64 x,.int .i64 y,.int .i64 z]]) (.tup [.agg [.int .i64 0,.int .i64 0,.int .i64 0,.int .i64 0,.int .i64 0,.int .i64 0,.int .i64 0,.int .i64 0,.int .i64 0,.int .i64 0,.int .i64 0,.int .i64 0,.int .i64 0,.int .i64 0,.int .i64 0,.int .i64 0,.int .i64 0,.int .i64 0,.vnil],.int .i64 11]) []:=
 Zcz (tSw4 _ _ _ _ _ _ _ _ _ _ _ _ _ _ _ _ _ _ _ _ _ _ _ _ ⟨h.2,fun q => absurd h.1 q,fun _ => ⟨fun _ => .refl _,fun q => absurd k q⟩⟩)
theorem ev58_y6 (f:Bool) (l:List Ln) (A B C D E F G I J K N O R T U V Y Z:Int) (x y z:Int) (h:Sp.tv A B C D E F G I J K N O R T U V Y Z l = 0 /\ Sp.few l.length 1000000) (k:Sp.pP x y z):Ev M1 (.pure 58 [.agg [.int .i64 A,.int .i64 B,.int .i64 C,.int .i64 D,.int .i64 E,.int .i64 F,.int .i64 G,.int .i64 I,.int .i64 J,.int .i64 K,.int .i64 N,.int .i64 O,.int .i64 R,.int .i64 T,.int .i64 U,.int .i64 V,.int .i64 Y,.int .i64 Z,.vec f 2 (l.map Ln.a)],.int .i64 59000,.agg [.int .i64 x,.int .i64 y,.int .i64 z]]) (.tup [.agg [.int .i64 A,.int .i64 B,.int .i64 C,.int .i64 D,.int .i64 E,.int .i64 F,.int .i64 G,.int .i64 I,.int .i64 J,.int .i64 K,.int .i64 N,.int .i64 O,.int .i64 R,.int .i64 T,.int .i64 U,.int .i64 x,.int .i64 y,.int .i64 z,.vec false 2 (l.map Ln.a)],.int .i64 0]) []:=
 Zcz (tSw5 _ _ _ _ _ _ _ _ _ _ _ _ _ _ _ _ _ _ _ _ _ _ _ _ ⟨h.2,fun q => absurd h.1 q,fun _ => ⟨fun q => absurd k q,fun _ => .refl _⟩⟩)
theorem ev58_n6 (f:Bool) (l:List Ln) (A B C D E F G I J K N O R T U V Y Z:Int) (x y z:Int) (h:Sp.tv A B C D E F G I J K N O R T U V Y Z l = 0 /\ Sp.few l.length 1000000) (k:¬(Sp.pP x y z)):Ev M1 (.pure 58 [.agg [.int .i64 A,.int .i64 B,.int .i64 C,.int .i64 D,.int .i64 E,.int .i64 F,.int .i64 G,.int .i64 I,.int .i64 J,.int .i64 K,.int .i64 N,.int .i64 O,.int .i64 R,.int .i64 T,.int .i64 U,.int .i64 V,.int .i64 Y,.int .i64 Z,.vec f 2 (l.map Ln.a)],.int .i64 59000,.agg [.int .i64 x,.int .i64 y,.int .i64 z]]) (.tup [.agg [.int .i64 0,.int .i64 0,.int .i64 0,.int .i64 0,.int .i64 0,.int .i64 0,.int .i64 0,.int .i64 0,.int .i64 0,.int .i64 0,.int .i64 0,.int .i64 0,.int .i64 0,.int .i64 0,.int .i64 0,.int .i64 0,.int .i64 0,.int .i64 0,.vnil],.int .i64 11]) []:=
 Zcz (tSw5 _ _ _ _ _ _ _ _ _ _ _ _ _ _ _ _ _ _ _ _ _ _ _ _ ⟨h.2,fun q => absurd h.1 q,fun _ => ⟨fun _ => .refl _,fun q => absurd k q⟩⟩)
end Go.Av

namespace Go.Av
open Go.Proofs
set_option maxRecDepth 100000
def fi27:Fi:=⟨73,[.cell 8 72,.tmp 9]⟩
def kp27:List (Nat × List Nat):=[(0,[1,4,6,7,8]),(1,[1,4,6,7,8,14]),(2,[8,9]),(3,[1,4,6,7,8,37]),(4,[8,9]),(5,[1,4,6,7,8,10,11]),(6,[1,4,6,7,8,10,11,46]),(7,[8,9]),(8,[1,4,6,7,8,10]),(9,[1,4,8,10]),(10,[8,9])]
def tCo0_at (f:Bool) (l:List Ln) (A B C D E F G I J K N O R T U V Y Z:Int) (x y u v:Int) (Q:AV->Heap->Prop):Prop:=Wp M1 (.run fi27 (atC (cd Try.f27) []) [(0,.agg [.int .i64 A,.int .i64 B,.int .i64 C,.int .i64 D,.int .i64 E,.int .i64 F,.int .i64 G,.int .i64 I,.int .i64 J,.int .i64 K,.int .i64 N,.int .i64 O,.int .i64 R,.int .i64 T,.int .i64 U,.int .i64 V,.int .i64 Y,.int .i64 Z,.vec f 2 (l.map Ln.a)]),(1,.int .i64 54000),(2,.agg [.int .i64 x,.int .i64 y]),(3,.agg [.int .i64 u,.int .i64 v])] []) Q
def tCo1_at (f:Bool) (l:List Ln) (A B C D E F G I J K N O R T U V Y Z:Int) (x y u v:Int) (Q:AV->Heap->Prop):Prop:=Wp M1 (.run fi27 (atC (cd Try.f27) []) [(0,.agg [.int .i64 A,.int .i64 B,.int .i64 C,.int .i64 D,.int .i64 E,.int .i64 F,.int .i64 G,.int .i64 I,.int .i64 J,.int .i64 K,.int .i64 N,.int .i64 O,.int .i64 R,.int .i64 T,.int .i64 U,.int .i64 V,.int .i64 Y,.int .i64 Z,.vec f 2 (l.map Ln.a)]),(1,.int .i64 55000),(2,.agg [.int .i64 x,.int .i64 y]),(3,.agg [.int .i64 u,.int .i64 v])] []) Q
def tCo2_at (f:Bool) (l:List Ln) (A B C D E F G I J K N O R T U V Y Z:Int) (x y u v:Int) (Q:AV->Heap->Prop):Prop:=Wp M1 (.run fi27 (atC (cd Try.f27) []) [(0,.agg [.int .i64 A,.int .i64 B,.int .i64 C,.int .i64 D,.int .i64 E,.int .i64 F,.int .i64 G,.int .i64 I,.int .i64 J,.int .i64 K,.int .i64 N,.int .i64 O,.int .i64 R,.int .i64 T,.int .i64 U,.int .i64 V,.int .i64 Y,.int .i64 Z,.vec f 2 (l.map Ln.a)]),(1,.int .i64 56000),(2,.agg [.int .i64 x,.int .i64 y]),(3,.agg [.int .i64 u,.int .i64 v])] []) Q
def tCo3_at (f:Bool) (l:List Ln) (A B C D E F G I J K N O R T U V Y Z:Int) (x y u v:Int) (Q:AV->Heap->Prop):Prop:=Wp M1 (.run fi27 (atC (cd Try.f27) []) [(0,.agg [.int .i64 A,.int .i64 B,.int .i64 C,.int .i64 D,.int .i64 E,.int .i64 F,.int .i64 G,.int .i64 I,.int .i64 J,.int .i64 K,.int .i64 N,.int .i64 O,.int .i64 R,.int .i64 T,.int .i64 U,.int .i64 V,.int .i64 Y,.int .i64 Z,.vec f 2 (l.map Ln.a)]),(1,.int .i64 57000),(2,.agg [.int .i64 x,.int .i64 y]),(3,.agg [.int .i64 u,.int .i64 v])] []) Q
def tCo4_at (f:Bool) (l:List Ln) (A B C D E F G I J K N O R T U V Y Z:Int) (x y u v:Int) (Q:AV->Heap->Prop):Prop:=Wp M1 (.run fi27 (atC (cd Try.f27) []) [(0,.agg [.int .i64 A,.int .i64 B,.int .i64 C,.int .i64 D,.int .i64 E,.int .i64 F,.int .i64 G,.int .i64 I,.int .i64 J,.int .i64 K,.int .i64 N,.int .i64 O,.int .i64 R,.int .i64 T,.int .i64 U,.int .i64 V,.int .i64 Y,.int .i64 Z,.vec f 2 (l.map Ln.a)]),(1,.int .i64 58000),(2,.agg [.int .i64 x,.int .i64 y]),(3,.agg [.int .i64 u,.int .i64 v])] []) Q
def tCo5_at (f:Bool) (l:List Ln) (A B C D E F G I J K N O R T U V Y Z:Int) (x y u v:Int) (Q:AV->Heap->Prop):Prop:=Wp M1 (.run fi27 (atC (cd Try.f27) []) [(0,.agg [.int .i64 A,.int .i64 B,.int .i64 C,.int .i64 D,.int .i64 E,.int .i64 F,.int .i64 G,.int .i64 I,.int .i64 J,.int .i64 K,.int .i64 N,.int .i64 O,.int .i64 R,.int .i64 T,.int .i64 U,.int .i64 V,.int .i64 Y,.int .i64 Z,.vec f 2 (l.map Ln.a)]),(1,.int .i64 59000),(2,.agg [.int .i64 x,.int .i64 y]),(3,.agg [.int .i64 u,.int .i64 v])] []) Q
theorem ZcA {args:List AV} {d:AV} (h:wc M1 fi27 Try.f27 args d):Ev M1 (.pure 27 args) d []:=pcl _ _ (by kernel_rfl) h
noncomputable abbrev zNpO1:=ag [vi 0,vi 0,vi 0,vi 0,vi 0,vi 0,vi 0,vi 0,vi 0,vi 0,vi 0,vi 0,vi 0,vi 0,vi 0,vi 0,vi 0,vi 0,AV.vnil]
noncomputable abbrev zNpO2 (A:Int) (B:Int) (C:Int):=tu [ag [vi A,vi B,vi C],vi 0]
theorem tCo0 (f:Bool) (l:List Ln) (A B C D E F G I J K N O R T U V Y Z:Int) (x y u v:Int)  (dq:AV) (H :
  (Sp.few l.length 1000000) /\
  ((¬Sp.tv A B C D E F G I J K N O R T U V Y Z l = 0) -> Weak (tu [ag [vi 0,vi 0,vi 0,vi 0,vi 0,vi 0,vi 0,vi 0,vi 0,vi 0,vi 0,vi 0,vi 0,vi 0,vi 0,vi 0,vi 0,vi 0,AV.vnil],vi 1]) dq) /\
  (¬(¬Sp.tv A B C D E F G I J K N O R T U V Y Z l = 0) -> (((((¬(Sp.pM x)) \/ (¬(Sp.pM y))) \/ (¬(Sp.pM u))) \/ (¬(Sp.pM v))) -> Weak (tu [ag [vi 0,vi 0,vi 0,vi 0,vi 0,vi 0,vi 0,vi 0,vi 0,vi 0,vi 0,vi 0,vi 0,vi 0,vi 0,vi 0,vi 0,vi 0,AV.vnil],vi 11]) dq) /\
   (¬((((¬(Sp.pM x)) \/ (¬(Sp.pM y))) \/ (¬(Sp.pM u))) \/ (¬(Sp.pM v))) -> (-9223372036854775808 <= u - x /\ u - x <= 9223372036854775807) /\
    (-9223372036854775808 <= A + (u - x) /\ A + (u - x) <= 9223372036854775807) /\
    (-9223372036854775808 <= v - y /\ v - y <= 9223372036854775807) /\
    (-9223372036854775808 <= B + (v - y) /\ B + (v - y) <= 9223372036854775807) /\
    ((Sp.pP (A + (u - x)) (B + (v - y)) C) -> (Sp.tv A B C D E F G I J K N O R T U V Y Z l = 0 /\ Sp.few l.length 1000000) /\
     Weak (tu [ag [vi (A + (u - x)),vi (B + (v - y)),vi C,vi D,vi E,vi F,vi G,vi I,vi J,vi K,vi N,vi O,vi R,vi T,vi U,vi V,vi Y,vi Z,AV.vec false 2 (List.map Ln.a l)],vi 0]) dq) /\
    (¬(Sp.pP (A + (u - x)) (B + (v - y)) C) -> (Sp.tv A B C D E F G I J K N O R T U V Y Z l = 0 /\ Sp.few l.length 1000000) /\
     Weak (tu [ag [vi 0,vi 0,vi 0,vi 0,vi 0,vi 0,vi 0,vi 0,vi 0,vi 0,vi 0,vi 0,vi 0,vi 0,vi 0,vi 0,vi 0,vi 0,AV.vnil],vi 11]) dq)))) :
 tCo0_at f l A B C D E F G I J K N O R T U V Y Z x y u v (Zak dq):=by
 unfold tCo0_at
 obtain ⟨k1,H⟩:=H
 refine Zah (G:=Zad kp27 [(1,1,.call (vi (Sp.tv A B C D E F G I J K N O R T U V Y Z l)) none)] []) 5 [] ⟨(atC (cd Try.f27) [1,0,1]),[(1,vi 54000),(4,AV.ptr 0 0 0 0),(6,AV.ptr 1 0 0 0),(7,AV.ptr 2 0 0 0),(8,AV.ptr 3 0 0 0),(14,vb (Sp.tv A B C D E F G I J K N O R T U V Y Z l != 0))],[⟨[ag [vi A,vi B,vi C,vi D,vi E,vi F,vi G,vi I,vi J,vi K,vi N,vi O,vi R,vi T,vi U,vi V,vi Y,vi Z,AV.vec f 2 (List.map Ln.a l)]],19,0,false,false⟩,⟨[ag [vi x,vi y]],2,0,false,false⟩,⟨[ag [vi u,vi v]],2,0,false,false⟩,⟨[zNpO1],19,0,false,false⟩],_,[],_⟩ (by kernel_rfl) (bc rfl b0) q0 (ce (@ev55 (f) (l) (A) (B) (C) (D) (E) (F) (G) (I) (J) (K) (N) (O) (R) (T) (U) (V) (Y) (Z) k1) c0) ?_
 rcases xq H with ⟨d3,H⟩|⟨d3,H⟩
 ·exact Zam (G:=Zad kp27 [] []) 1000 [true] (tu [zNpO1,vi 1]) (by kernel_rfl) (bc (ZaG (i_ne.2 d3)) (bc rfl b0)) q0 c0 H
 ·refine Zah (G:=Zad kp27 [(3,2,.call (vb (decide (Sp.pM x))) none),(3,7,.call (vb (decide (Sp.pM y))) none),(3,13,.call (vb (decide (Sp.pM u))) none),(3,19,.call (vb (decide (Sp.pM v))) none)] []) 5 [false] ⟨(atC (cd Try.f27) [1,1,0,1]),[(1,vi 54000),(4,AV.ptr 0 0 0 0),(6,AV.ptr 1 0 0 0),(7,AV.ptr 2 0 0 0),(8,AV.ptr 3 0 0 0),(37,vb (bif bif bif !decide (Sp.pM x) then true else !decide (Sp.pM y) then true else !decide (Sp.pM u) then true else !decide (Sp.pM v)))],[⟨[ag [vi A,vi B,vi C,vi D,vi E,vi F,vi G,vi I,vi J,vi K,vi N,vi O,vi R,vi T,vi U,vi V,vi Y,vi Z,AV.vec f 2 (List.map Ln.a l)]],19,0,false,false⟩,⟨[ag [vi x,vi y]],2,0,false,false⟩,⟨[ag [vi u,vi v]],2,0,false,false⟩,⟨[zNpO1],19,0,false,false⟩],[(Sp.tv A B C D E F G I J K N O R T U V Y Z l != 0) == false,true,!((!decide (Sp.pM x)) == false && true) || true,!((bif !decide (Sp.pM x) then true else !decide (Sp.pM y)) == false && true) || true,!((bif bif !decide (Sp.pM x) then true else !decide (Sp.pM y) then true else !decide (Sp.pM u)) == false && true) || true],[],[⟨true,false,56,[vi x],[],vb (decide (Sp.pM x)),[]⟩,⟨(!decide (Sp.pM x)) == false && true && true,false,56,[vi y],[],vb (decide (Sp.pM y)),[]⟩,⟨(bif !decide (Sp.pM x) then true else !decide (Sp.pM y)) == false && true && true,false,56,[vi u],[],vb (decide (Sp.pM u)),[]⟩,⟨(bif bif !decide (Sp.pM x) then true else !decide (Sp.pM y) then true else !decide (Sp.pM u)) == false && true && true,false,56,[vi v],[],vb (decide (Sp.pM v)),[]⟩]⟩ (by kernel_rfl) (bc (Zaj (fun h => d3 (i_ne.1 h))) (bc rfl (bc (Bool.or_true _) (bc (Bool.or_true _) (bc (Bool.or_true _) b0))))) q0 (cc (fun _ => (@ev56 (x))) (cc (fun hc => ((@ev56 (y)):Ev M1 (Conf.pure 56 [vi y]) (vb (decide (Sp.pM y))) [])) (cc (fun hc => ((@ev56 (u)):Ev M1 (Conf.pure 56 [vi u]) (vb (decide (Sp.pM u))) [])) (cc (fun hc => ((@ev56 (v)):Ev M1 (Conf.pure 56 [vi v]) (vb (decide (Sp.pM v))) [])) c0)))) ?_
  rcases xq H with ⟨d8,H⟩|⟨d8,H⟩
  ·exact Zam (G:=Zad kp27 [] []) 1000 [true] (tu [zNpO1,vi 11]) (by kernel_rfl) (bc (ZaG ((Zag (Zag (Zag (Zan Zaa) (Zan Zaa)) (Zan Zaa)) (Zan Zaa)).2 d8)) (bc rfl b0)) q0 c0 H
  ·obtain ⟨k9,H⟩:=H
   have w10:wi (u - x) = u - x:=wI64 k9
   obtain ⟨k11,H⟩:=H
   have w12:wi (A + (u - x)) = A + (u - x):=wI64 k11
   obtain ⟨k13,H⟩:=H
   have w14:wi (v - y) = v - y:=wI64 k13
   obtain ⟨k15,H⟩:=H
   have w16:wi (B + (v - y)) = B + (v - y):=wI64 k15
   rcases xq H with ⟨d17,H⟩|⟨d17,H⟩
   ·obtain ⟨k18,H⟩:=H
    exact Zam (G:=Zad kp27 [(5,2,.call (zNpO2 A B C) none),(10,3,.call (tu [ag [vi (A + (u - x)),vi (B + (v - y)),vi C,vi D,vi E,vi F,vi G,vi I,vi J,vi K,vi N,vi O,vi R,vi T,vi U,vi V,vi Y,vi Z,AV.vec false 2 (List.map Ln.a l)],vi 0]) none)] []) 1000 [false,false] (calls:=[pc 57 [ag [vi A,vi B,vi C,vi D,vi E,vi F,vi G,vi I,vi J,vi K,vi N,vi O,vi R,vi T,vi U,vi V,vi Y,vi Z,AV.vec f 2 (List.map Ln.a l)],vi 54000] (zNpO2 A B C),pc 58 [ag [vi A,vi B,vi C,vi D,vi E,vi F,vi G,vi I,vi J,vi K,vi N,vi O,vi R,vi T,vi U,vi V,vi Y,vi Z,AV.vec f 2 (List.map Ln.a l)],vi 54000,ag [vi (wi (A + wi (u - x))),vi (wi (B + wi (v - y))),vi C]] (tu [ag [vi (A + (u - x)),vi (B + (v - y)),vi C,vi D,vi E,vi F,vi G,vi I,vi J,vi K,vi N,vi O,vi R,vi T,vi U,vi V,vi Y,vi Z,AV.vec false 2 (List.map Ln.a l)],vi 0])]) (tu [ag [vi (A + (u - x)),vi (B + (v - y)),vi C,vi D,vi E,vi F,vi G,vi I,vi J,vi K,vi N,vi O,vi R,vi T,vi U,vi V,vi Y,vi Z,AV.vec false 2 (List.map Ln.a l)],vi 0]) (by kernel_rfl) (bc (Zaj (fun h => d8 ((Zag (Zag (Zag (Zan Zaa) (Zan Zaa)) (Zan Zaa)) (Zan Zaa)).1 h))) (bc rfl (bc rfl (bc rfl (bc rfl (bc rfl (bc rfl (bc rfl (bc rfl (bc rfl (bc rfl (bc rfl (bc rfl (bc rfl (bc rfl b0))))))))))))))) q0 (ce (@ev57_a (f) (l) (A) (B) (C) (D) (E) (F) (G) (I) (J) (K) (N) (O) (R) (T) (U) (V) (Y) (Z)) (ce (by (try rw [w10]);(try rw [w12]);(try rw [w14]);(try rw [w16]);all_goals exact (@ev58_y (f) (l) (A) (B) (C) (D) (E) (F) (G) (I) (J) (K) (N) (O) (R) (T) (U) (V) (Y) (Z) (A + (u - x)) (B + (v - y)) (C) k18 d17)) c0)) H
   ·obtain ⟨k19,H⟩:=H
    exact Zam (G:=Zad kp27 [(5,2,.call (zNpO2 A B C) none),(10,3,.call (tu [zNpO1,vi 11]) none)] []) 1000 [false,false] (calls:=[pc 57 [ag [vi A,vi B,vi C,vi D,vi E,vi F,vi G,vi I,vi J,vi K,vi N,vi O,vi R,vi T,vi U,vi V,vi Y,vi Z,AV.vec f 2 (List.map Ln.a l)],vi 54000] (zNpO2 A B C),pc 58 [ag [vi A,vi B,vi C,vi D,vi E,vi F,vi G,vi I,vi J,vi K,vi N,vi O,vi R,vi T,vi U,vi V,vi Y,vi Z,AV.vec f 2 (List.map Ln.a l)],vi 54000,ag [vi (wi (A + wi (u - x))),vi (wi (B + wi (v - y))),vi C]] (tu [zNpO1,vi 11])]) (tu [zNpO1,vi 11]) (by kernel_rfl) (bc (Zaj (fun h => d8 ((Zag (Zag (Zag (Zan Zaa) (Zan Zaa)) (Zan Zaa)) (Zan Zaa)).1 h))) (bc rfl (bc rfl (bc rfl (bc rfl (bc rfl (bc rfl (bc rfl (bc rfl (bc rfl (bc rfl (bc rfl (bc rfl (bc rfl (bc rfl b0))))))))))))))) q0 (ce (@ev57_a (f) (l) (A) (B) (C) (D) (E) (F) (G) (I) (J) (K) (N) (O) (R) (T) (U) (V) (Y) (Z)) (ce (by (try rw [w10]);(try rw [w12]);(try rw [w14]);(try rw [w16]);all_goals exact (@ev58_n (f) (l) (A) (B) (C) (D) (E) (F) (G) (I) (J) (K) (N) (O) (R) (T) (U) (V) (Y) (Z) (A + (u - x)) (B + (v - y)) (C) k19 d17)) c0)) H
noncomputable abbrev zNpO3:=ag [vi 0,vi 0,vi 0,vi 0,vi 0,vi 0,vi 0,vi 0,vi 0,vi 0,vi 0,vi 0,vi 0,vi 0,vi 0,vi 0,vi 0,vi 0,AV.vnil]
noncomputable abbrev zNpO4 (D:Int) (E:Int) (F:Int):=tu [ag [vi D,vi E,vi F],vi 0]
theorem tCo1 (f:Bool) (l:List Ln) (A B C D E F G I J K N O R T U V Y Z:Int) (x y u v:Int)  (dq:AV) (H :
  (Sp.few l.length 1000000) /\
  ((¬Sp.tv A B C D E F G I J K N O R T U V Y Z l = 0) -> Weak (tu [ag [vi 0,vi 0,vi 0,vi 0,vi 0,vi 0,vi 0,vi 0,vi 0,vi 0,vi 0,vi 0,vi 0,vi 0,vi 0,vi 0,vi 0,vi 0,AV.vnil],vi 1]) dq) /\
  (¬(¬Sp.tv A B C D E F G I J K N O R T U V Y Z l = 0) -> (((((¬(Sp.pM x)) \/ (¬(Sp.pM y))) \/ (¬(Sp.pM u))) \/ (¬(Sp.pM v))) -> Weak (tu [ag [vi 0,vi 0,vi 0,vi 0,vi 0,vi 0,vi 0,vi 0,vi 0,vi 0,vi 0,vi 0,vi 0,vi 0,vi 0,vi 0,vi 0,vi 0,AV.vnil],vi 11]) dq) /\
   (¬((((¬(Sp.pM x)) \/ (¬(Sp.pM y))) \/ (¬(Sp.pM u))) \/ (¬(Sp.pM v))) -> (-9223372036854775808 <= u - x /\ u - x <= 9223372036854775807) /\
    (-9223372036854775808 <= D + (u - x) /\ D + (u - x) <= 9223372036854775807) /\
    (-9223372036854775808 <= v - y /\ v - y <= 9223372036854775807) /\
    (-9223372036854775808 <= E + (v - y) /\ E + (v - y) <= 9223372036854775807) /\
    ((Sp.pP (D + (u - x)) (E + (v - y)) F) -> (Sp.tv A B C D E F G I J K N O R T U V Y Z l = 0 /\ Sp.few l.length 1000000) /\
     Weak (tu [ag [vi A,vi B,vi C,vi (D + (u - x)),vi (E + (v - y)),vi F,vi G,vi I,vi J,vi K,vi N,vi O,vi R,vi T,vi U,vi V,vi Y,vi Z,AV.vec false 2 (List.map Ln.a l)],vi 0]) dq) /\
    (¬(Sp.pP (D + (u - x)) (E + (v - y)) F) -> (Sp.tv A B C D E F G I J K N O R T U V Y Z l = 0 /\ Sp.few l.length 1000000) /\
     Weak (tu [ag [vi 0,vi 0,vi 0,vi 0,vi 0,vi 0,vi 0,vi 0,vi 0,vi 0,vi 0,vi 0,vi 0,vi 0,vi 0,vi 0,vi 0,vi 0,AV.vnil],vi 11]) dq)))) :
 tCo1_at f l A B C D E F G I J K N O R T U V Y Z x y u v (Zak dq):=by
 unfold tCo1_at
 obtain ⟨k1,H⟩:=H
 refine Zah (G:=Zad kp27 [(1,1,.call (vi (Sp.tv A B C D E F G I J K N O R T U V Y Z l)) none)] []) 5 [] ⟨(atC (cd Try.f27) [1,0,1]),[(1,vi 55000),(4,AV.ptr 0 0 0 0),(6,AV.ptr 1 0 0 0),(7,AV.ptr 2 0 0 0),(8,AV.ptr 3 0 0 0),(14,vb (Sp.tv A B C D E F G I J K N O R T U V Y Z l != 0))],[⟨[ag [vi A,vi B,vi C,vi D,vi E,vi F,vi G,vi I,vi J,vi K,vi N,vi O,vi R,vi T,vi U,vi V,vi Y,vi Z,AV.vec f 2 (List.map Ln.a l)]],19,0,false,false⟩,⟨[ag [vi x,vi y]],2,0,false,false⟩,⟨[ag [vi u,vi v]],2,0,false,false⟩,⟨[zNpO3],19,0,false,false⟩],_,[],_⟩ (by kernel_rfl) (bc rfl b0) q0 (ce (@ev55 (f) (l) (A) (B) (C) (D) (E) (F) (G) (I) (J) (K) (N) (O) (R) (T) (U) (V) (Y) (Z) k1) c0) ?_
 rcases xq H with ⟨d3,H⟩|⟨d3,H⟩
 ·exact Zam (G:=Zad kp27 [] []) 1000 [true] (tu [zNpO3,vi 1]) (by kernel_rfl) (bc (ZaG (i_ne.2 d3)) (bc rfl b0)) q0 c0 H
 ·refine Zah (G:=Zad kp27 [(3,2,.call (vb (decide (Sp.pM x))) none),(3,7,.call (vb (decide (Sp.pM y))) none),(3,13,.call (vb (decide (Sp.pM u))) none),(3,19,.call (vb (decide (Sp.pM v))) none)] []) 5 [false] ⟨(atC (cd Try.f27) [1,1,0,1]),[(1,vi 55000),(4,AV.ptr 0 0 0 0),(6,AV.ptr 1 0 0 0),(7,AV.ptr 2 0 0 0),(8,AV.ptr 3 0 0 0),(37,vb (bif bif bif !decide (Sp.pM x) then true else !decide (Sp.pM y) then true else !decide (Sp.pM u) then true else !decide (Sp.pM v)))],[⟨[ag [vi A,vi B,vi C,vi D,vi E,vi F,vi G,vi I,vi J,vi K,vi N,vi O,vi R,vi T,vi U,vi V,vi Y,vi Z,AV.vec f 2 (List.map Ln.a l)]],19,0,false,false⟩,⟨[ag [vi x,vi y]],2,0,false,false⟩,⟨[ag [vi u,vi v]],2,0,false,false⟩,⟨[zNpO3],19,0,false,false⟩],[(Sp.tv A B C D E F G I J K N O R T U V Y Z l != 0) == false,true,!((!decide (Sp.pM x)) == false && true) || true,!((bif !decide (Sp.pM x) then true else !decide (Sp.pM y)) == false && true) || true,!((bif bif !decide (Sp.pM x) then true else !decide (Sp.pM y) then true else !decide (Sp.pM u)) == false && true) || true],[],[⟨true,false,56,[vi x],[],vb (decide (Sp.pM x)),[]⟩,⟨(!decide (Sp.pM x)) == false && true && true,false,56,[vi y],[],vb (decide (Sp.pM y)),[]⟩,⟨(bif !decide (Sp.pM x) then true else !decide (Sp.pM y)) == false && true && true,false,56,[vi u],[],vb (decide (Sp.pM u)),[]⟩,⟨(bif bif !decide (Sp.pM x) then true else !decide (Sp.pM y) then true else !decide (Sp.pM u)) == false && true && true,false,56,[vi v],[],vb (decide (Sp.pM v)),[]⟩]⟩ (by kernel_rfl) (bc (Zaj (fun h => d3 (i_ne.1 h))) (bc rfl (bc (Bool.or_true _) (bc (Bool.or_true _) (bc (Bool.or_true _) b0))))) q0 (cc (fun _ => (@ev56 (x))) (cc (fun hc => ((@ev56 (y)):Ev M1 (Conf.pure 56 [vi y]) (vb (decide (Sp.pM y))) [])) (cc (fun hc => ((@ev56 (u)):Ev M1 (Conf.pure 56 [vi u]) (vb (decide (Sp.pM u))) [])) (cc (fun hc => ((@ev56 (v)):Ev M1 (Conf.pure 56 [vi v]) (vb (decide (Sp.pM v))) [])) c0)))) ?_
  rcases xq H with ⟨d8,H⟩|⟨d8,H⟩
  ·exact Zam (G:=Zad kp27 [] []) 1000 [true] (tu [zNpO3,vi 11]) (by kernel_rfl) (bc (ZaG ((Zag (Zag (Zag (Zan Zaa) (Zan Zaa)) (Zan Zaa)) (Zan Zaa)).2 d8)) (bc rfl b0)) q0 c0 H
  ·obtain ⟨k9,H⟩:=H
   have w10:wi (u - x) = u - x:=wI64 k9
   obtain ⟨k11,H⟩:=H
   have w12:wi (D + (u - x)) = D + (u - x):=wI64 k11
   obtain ⟨k13,H⟩:=H
   have w14:wi (v - y) = v - y:=wI64 k13
   obtain ⟨k15,H⟩:=H
   have w16:wi (E + (v - y)) = E + (v - y):=wI64 k15
   rcases xq H with ⟨d17,H⟩|⟨d17,H⟩
   ·obtain ⟨k18,H⟩:=H
    exact Zam (G:=Zad kp27 [(5,2,.call (zNpO4 D E F) none),(10,3,.call (tu [ag [vi A,vi B,vi C,vi (D + (u - x)),vi (E + (v - y)),vi F,vi G,vi I,vi J,vi K,vi N,vi O,vi R,vi T,vi U,vi V,vi Y,vi Z,AV.vec false 2 (List.map Ln.a l)],vi 0]) none)] []) 1000 [false,false] (calls:=[pc 57 [ag [vi A,vi B,vi C,vi D,vi E,vi F,vi G,vi I,vi J,vi K,vi N,vi O,vi R,vi T,vi U,vi V,vi Y,vi Z,AV.vec f 2 (List.map Ln.a l)],vi 55000] (zNpO4 D E F),pc 58 [ag [vi A,vi B,vi C,vi D,vi E,vi F,vi G,vi I,vi J,vi K,vi N,vi O,vi R,vi T,vi U,vi V,vi Y,vi Z,AV.vec f 2 (List.map Ln.a l)],vi 55000,ag [vi (wi (D + wi (u - x))),vi (wi (E + wi (v - y))),vi F]] (tu [ag [vi A,vi B,vi C,vi (D + (u - x)),vi (E + (v - y)),vi F,vi G,vi I,vi J,vi K,vi N,vi O,vi R,vi T,vi U,vi V,vi Y,vi Z,AV.vec false 2 (List.map Ln.a l)],vi 0])]) (tu [ag [vi A,vi B,vi C,vi (D + (u - x)),vi (E + (v - y)),vi F,vi G,vi I,vi J,vi K,vi N,vi O,vi R,vi T,vi U,vi V,vi Y,vi Z,AV.vec false 2 (List.map Ln.a l)],vi 0]) (by kernel_rfl) (bc (Zaj (fun h => d8 ((Zag (Zag (Zag (Zan Zaa) (Zan Zaa)) (Zan Zaa)) (Zan Zaa)).1 h))) (bc rfl (bc rfl (bc rfl (bc rfl (bc rfl (bc rfl (bc rfl (bc rfl (bc rfl (bc rfl (bc rfl (bc rfl (bc rfl (bc rfl b0))))))))))))))) q0 (ce (@ev57_b (f) (l) (A) (B) (C) (D) (E) (F) (G) (I) (J) (K) (N) (O) (R) (T) (U) (V) (Y) (Z)) (ce (by (try rw [w10]);(try rw [w12]);(try rw [w14]);(try rw [w16]);all_goals exact (@ev58_y2 (f) (l) (A) (B) (C) (D) (E) (F) (G) (I) (J) (K) (N) (O) (R) (T) (U) (V) (Y) (Z) (D + (u - x)) (E + (v - y)) (F) k18 d17)) c0)) H
   ·obtain ⟨k19,H⟩:=H
    exact Zam (G:=Zad kp27 [(5,2,.call (zNpO4 D E F) none),(10,3,.call (tu [zNpO3,vi 11]) none)] []) 1000 [false,false] (calls:=[pc 57 [ag [vi A,vi B,vi C,vi D,vi E,vi F,vi G,vi I,vi J,vi K,vi N,vi O,vi R,vi T,vi U,vi V,vi Y,vi Z,AV.vec f 2 (List.map Ln.a l)],vi 55000] (zNpO4 D E F),pc 58 [ag [vi A,vi B,vi C,vi D,vi E,vi F,vi G,vi I,vi J,vi K,vi N,vi O,vi R,vi T,vi U,vi V,vi Y,vi Z,AV.vec f 2 (List.map Ln.a l)],vi 55000,ag [vi (wi (D + wi (u - x))),vi (wi (E + wi (v - y))),vi F]] (tu [zNpO3,vi 11])]) (tu [zNpO3,vi 11]) (by kernel_rfl) (bc (Zaj (fun h => d8 ((Zag (Zag (Zag (Zan Zaa) (Zan Zaa)) (Zan Zaa)) (Zan Zaa)).1 h))) (bc rfl (bc rfl (bc rfl (bc rfl (bc rfl (bc rfl (bc rfl (bc rfl (bc rfl (bc rfl (bc rfl (bc rfl (bc rfl (bc rfl b0))))))))))))))) q0 (ce (@ev57_b (f) (l) (A) (B) (C) (D) (E) (F) (G) (I) (J) (K) (N) (O) (R) (T) (U) (V) (Y) (Z)) (ce (by (try rw [w10]);(try rw [w12]);(try rw [w14]);(try rw [w16]);all_goals exact (@ev58_n2 (f) (l) (A) (B) (C) (D) (E) (F) (G) (I) (J) (K) (N) (O) (R) (T) (U) (V) (Y) (Z) (D + (u - x)) (E + (v - y)) (F) k19 d17)) c0)) H
noncomputable abbrev zNpO5:=ag [vi 0,vi 0,vi 0,vi 0,vi 0,vi 0,vi 0,vi 0,vi 0,vi 0,vi 0,vi 0,vi 0,vi 0,vi 0,vi 0,vi 0,vi 0,AV.vnil]
noncomputable abbrev zNpO6 (G:Int) (I:Int) (J:Int):=tu [ag [vi G,vi I,vi J],vi 0]
theorem tCo2 (f:Bool) (l:List Ln) (A B C D E F G I J K N O R T U V Y Z:Int) (x y u v:Int)  (dq:AV) (H :
  (Sp.few l.length 1000000) /\
  ((¬Sp.tv A B C D E F G I J K N O R T U V Y Z l = 0) -> Weak (tu [ag [vi 0,vi 0,vi 0,vi 0,vi 0,vi 0,vi 0,vi 0,vi 0,vi 0,vi 0,vi 0,vi 0,vi 0,vi 0,vi 0,vi 0,vi 0,AV.vnil],vi 1]) dq) /\
  (¬(¬Sp.tv A B C D E F G I J K N O R T U V Y Z l = 0) -> (((((¬(Sp.pM x)) \/ (¬(Sp.pM y))) \/ (¬(Sp.pM u))) \/ (¬(Sp.pM v))) -> Weak (tu [ag [vi 0,vi 0,vi 0,vi 0,vi 0,vi 0,vi 0,vi 0,vi 0,vi 0,vi 0,vi 0,vi 0,vi 0,vi 0,vi 0,vi 0,vi 0,AV.vnil],vi 11]) dq) /\
   (¬((((¬(Sp.pM x)) \/ (¬(Sp.pM y))) \/ (¬(Sp.pM u))) \/ (¬(Sp.pM v))) -> (-9223372036854775808 <= u - x /\ u - x <= 9223372036854775807) /\
    (-9223372036854775808 <= G + (u - x) /\ G + (u - x) <= 9223372036854775807) /\
    (-9223372036854775808 <= v - y /\ v - y <= 9223372036854775807) /\
    (-9223372036854775808 <= I + (v - y) /\ I + (v - y) <= 9223372036854775807) /\
    ((Sp.pP (G + (u - x)) (I + (v - y)) J) -> (Sp.tv A B C D E F G I J K N O R T U V Y Z l = 0 /\ Sp.few l.length 1000000) /\
     Weak (tu [ag [vi A,vi B,vi C,vi D,vi E,vi F,vi (G + (u - x)),vi (I + (v - y)),vi J,vi K,vi N,vi O,vi R,vi T,vi U,vi V,vi Y,vi Z,AV.vec false 2 (List.map Ln.a l)],vi 0]) dq) /\
    (¬(Sp.pP (G + (u - x)) (I + (v - y)) J) -> (Sp.tv A B C D E F G I J K N O R T U V Y Z l = 0 /\ Sp.few l.length 1000000) /\
     Weak (tu [ag [vi 0,vi 0,vi 0,vi 0,vi 0,vi 0,vi 0,vi 0,vi 0,vi 0,vi 0,vi 0,vi 0,vi 0,vi 0,vi 0,vi 0,vi 0,AV.vnil],vi 11]) dq)))) :
 tCo2_at f l A B C D E F G I J K N O R T U V Y Z x y u v (Zak dq):=by
 unfold tCo2_at
 obtain ⟨k1,H⟩:=H
 refine Zah (G:=Zad kp27 [(1,1,.call (vi (Sp.tv A B C D E F G I J K N O R T U V Y Z l)) none)] []) 5 [] ⟨(atC (cd Try.f27) [1,0,1]),[(1,vi 56000),(4,AV.ptr 0 0 0 0),(6,AV.ptr 1 0 0 0),(7,AV.ptr 2 0 0 0),(8,AV.ptr 3 0 0 0),(14,vb (Sp.tv A B C D E F G I J K N O R T U V Y Z l != 0))],[⟨[ag [vi A,vi B,vi C,vi D,vi E,vi F,vi G,vi I,vi J,vi K,vi N,vi O,vi R,vi T,vi U,vi V,vi Y,vi Z,AV.vec f 2 (List.map Ln.a l)]],19,0,false,false⟩,⟨[ag [vi x,vi y]],2,0,false,false⟩,⟨[ag [vi u,vi v]],2,0,false,false⟩,⟨[zNpO5],19,0,false,false⟩],_,[],_⟩ (by kernel_rfl) (bc rfl b0) q0 (ce (@ev55 (f) (l) (A) (B) (C) (D) (E) (F) (G) (I) (J) (K) (N) (O) (R) (T) (U) (V) (Y) (Z) k1) c0) ?_
 rcases xq H with ⟨d3,H⟩|⟨d3,H⟩
 ·exact Zam (G:=Zad kp27 [] []) 1000 [true] (tu [zNpO5,vi 1]) (by kernel_rfl) (bc (ZaG (i_ne.2 d3)) (bc rfl b0)) q0 c0 H
 ·refine Zah (G:=Zad kp27 [(3,2,.call (vb (decide (Sp.pM x))) none),(3,7,.call (vb (decide (Sp.pM y))) none),(3,13,.call (vb (decide (Sp.pM u))) none),(3,19,.call (vb (decide (Sp.pM v))) none)] []) 5 [false] ⟨(atC (cd Try.f27) [1,1,0,1]),[(1,vi 56000),(4,AV.ptr 0 0 0 0),(6,AV.ptr 1 0 0 0),(7,AV.ptr 2 0 0 0),(8,AV.ptr 3 0 0 0),(37,vb (bif bif bif !decide (Sp.pM x) then true else !decide (Sp.pM y) then true else !decide (Sp.pM u) then true else !decide (Sp.pM v)))],[⟨[ag [vi A,vi B,vi C,vi D,vi E,vi F,vi G,vi I,vi J,vi K,vi N,vi O,vi R,vi T,vi U,vi V,vi Y,vi Z,AV.vec f 2 (List.map Ln.a l)]],19,0,false,false⟩,⟨[ag [vi x,vi y]],2,0,false,false⟩,⟨[ag [vi u,vi v]],2,0,false,false⟩,⟨[zNpO5],19,0,false,false⟩],[(Sp.tv A B C D E F G I J K N O R T U V Y Z l != 0) == false,true,!((!decide (Sp.pM x)) == false && true) || true,!((bif !decide (Sp.pM x) then true else !decide (Sp.pM y)) == false && true) || true,!((bif bif !decide (Sp.pM x) then true else !decide (Sp.pM y) then true else !decide (Sp.pM u)) == false && true) || true],[],[⟨true,false,56,[vi x],[],vb (decide (Sp.pM x)),[]⟩,⟨(!decide (Sp.pM x)) == false && true && true,false,56,[vi y],[],vb (decide (Sp.pM y)),[]⟩,⟨(bif !decide (Sp.pM x) then true else !decide (Sp.pM y)) == false && true && true,false,56,[vi u],[],vb (decide (Sp.pM u)),[]⟩,⟨(bif bif !decide (Sp.pM x) then true else !decide (Sp.pM y) then true else !decide (Sp.pM u)) == false && true && true,false,56,[vi v],[],vb (decide (Sp.pM v)),[]⟩]⟩ (by kernel_rfl) (bc (Zaj (fun h => d3 (i_ne.1 h))) (bc rfl (bc (Bool.or_true _) (bc (Bool.or_true _) (bc (Bool.or_true _) b0))))) q0 (cc (fun _ => (@ev56 (x))) (cc (fun hc => ((@ev56 (y)):Ev M1 (Conf.pure 56 [vi y]) (vb (decide (Sp.pM y))) [])) (cc (fun hc => ((@ev56 (u)):Ev M1 (Conf.pure 56 [vi u]) (vb (decide (Sp.pM u))) [])) (cc (fun hc => ((@ev56 (v)):Ev M1 (Conf.pure 56 [vi v]) (vb (decide (Sp.pM v))) [])) c0)))) ?_
  rcases xq H with ⟨d8,H⟩|⟨d8,H⟩
  ·exact Zam (G:=Zad kp27 [] []) 1000 [true] (tu [zNpO5,vi 11]) (by kernel_rfl) (bc (ZaG ((Zag (Zag (Zag (Zan Zaa) (Zan Zaa)) (Zan Zaa)) (Zan Zaa)).2 d8)) (bc rfl b0)) q0 c0 H
  ·obtain ⟨k9,H⟩:=H
   have w10:wi (u - x) = u - x:=wI64 k9
   obtain ⟨k11,H⟩:=H
   have w12:wi (G + (u - x)) = G + (u - x):=wI64 k11
   obtain ⟨k13,H⟩:=H
   have w14:wi (v - y) = v - y:=wI64 k13
   obtain ⟨k15,H⟩:=H
   have w16:wi (I + (v - y)) = I + (v - y):=wI64 k15
   rcases xq H with ⟨d17,H⟩|⟨d17,H⟩
   ·obtain ⟨k18,H⟩:=H
    exact Zam (G:=Zad kp27 [(5,2,.call (zNpO6 G I J) none),(10,3,.call (tu [ag [vi A,vi B,vi C,vi D,vi E,vi F,vi (G + (u - x)),vi (I + (v - y)),vi J,vi K,vi N,vi O,vi R,vi T,vi U,vi V,vi Y,vi Z,AV.vec false 2 (List.map Ln.a l)],vi 0]) none)] []) 1000 [false,false] (calls:=[pc 57 [ag [vi A,vi B,vi C,vi D,vi E,vi F,vi G,vi I,vi J,vi K,vi N,vi O,vi R,vi T,vi U,vi V,vi Y,vi Z,AV.vec f 2 (List.map Ln.a l)],vi 56000] (zNpO6 G I J),pc 58 [ag [vi A,vi B,vi C,vi D,vi E,vi F,vi G,vi I,vi J,vi K,vi N,vi O,vi R,vi T,vi U,vi V,vi Y,vi Z,AV.vec f 2 (List.map Ln.a l)],vi 56000,ag [vi (wi (G + wi (u - x))),vi (wi (I + wi (v - y))),vi J]] (tu [ag [vi A,vi B,vi C,vi D,vi E,vi F,vi (G + (u - x)),vi (I + (v - y)),vi J,vi K,vi N,vi O,vi R,vi T,vi U,vi V,vi Y,vi Z,AV.vec false 2 (List.map Ln.a l)],vi 0])]) (tu [ag [vi A,vi B,vi C,vi D,vi E,vi F,vi (G + (u - x)),vi (I + (v - y)),vi J,vi K,vi N,vi O,vi R,vi T,vi U,vi V,vi Y,vi Z,AV.vec false 2 (List.map Ln.a l)],vi 0]) (by kernel_rfl) (bc (Zaj (fun h => d8 ((Zag (Zag (Zag (Zan Zaa) (Zan Zaa)) (Zan Zaa)) (Zan Zaa)).1 h))) (bc rfl (bc rfl (bc rfl (bc rfl (bc rfl (bc rfl (bc rfl (bc rfl (bc rfl (bc rfl (bc rfl (bc rfl (bc rfl (bc rfl b0))))))))))))))) q0 (ce (@ev57_c (f) (l) (A) (B) (C) (D) (E) (F) (G) (I) (J) (K) (N) (O) (R) (T) (U) (V) (Y) (Z)) (ce (by (try rw [w10]);(try rw [w12]);(try rw [w14]);(try rw [w16]);all_goals exact (@ev58_y3 (f) (l) (A) (B) (C) (D) (E) (F) (G) (I) (J) (K) (N) (O) (R) (T) (U) (V) (Y) (Z) (G + (u - x)) (I + (v - y)) (J) k18 d17)) c0)) H
   ·obtain ⟨k19,H⟩:=H
    exact Zam (G:=Zad kp27 [(5,2,.call (zNpO6 G I J) none),(10,3,.call (tu [zNpO5,vi 11]) none)] []) 1000 [false,false] (calls:=[pc 57 [ag [vi A,vi B,vi C,vi D,vi E,vi F,vi G,vi I,vi J,vi K,vi N,vi O,vi R,vi T,vi U,vi V,vi Y,vi Z,AV.vec f 2 (List.map Ln.a l)],vi 56000] (zNpO6 G I J),pc 58 [ag [vi A,vi B,vi C,vi D,vi E,vi F,vi G,vi I,vi J,vi K,vi N,vi O,vi R,vi T,vi U,vi V,vi Y,vi Z,AV.vec f 2 (List.map Ln.a l)],vi 56000,ag [vi (wi (G + wi (u - x))),vi (wi (I + wi (v - y))),vi J]] (tu [zNpO5,vi 11])]) (tu [zNpO5,vi 11]) (by kernel_rfl) (bc (Zaj (fun h => d8 ((Zag (Zag (Zag (Zan Zaa) (Zan Zaa)) (Zan Zaa)) (Zan Zaa)).1 h))) (bc rfl (bc rfl (bc rfl (bc rfl (bc rfl (bc rfl (bc rfl (bc rfl (bc rfl (bc rfl (bc rfl (bc rfl (bc rfl (bc rfl b0))))))))))))))) q0 (ce (@ev57_c (f) (l) (A) (B) (C) (D) (E) (F) (G) (I) (J) (K) (N) (O) (R) (T) (U) (V) (Y) (Z)) (ce (by (try rw [w10]);(try rw [w12]);(try rw [w14]);(try rw [w16]);all_goals exact (@ev58_n3 (f) (l) (A) (B) (C) (D) (E) (F) (G) (I) (J) (K) (N) (O) (R) (T) (U) (V) (Y) (Z) (G + (u - x)) (I + (v - y)) (J) k19 d17)) c0)) H
noncomputable abbrev zNpO7:=ag [vi 0,vi 0,vi 0,vi 0,vi 0,vi 0,vi 0,vi 0,vi 0,vi 0,vi 0,vi 0,vi 0,vi 0,vi 0,vi 0,vi 0,vi 0,AV.vnil]
noncomputable abbrev zNpO8 (K:Int) (N:Int) (O:Int):=tu [ag [vi K,vi N,vi O],vi 0]
theorem tCo3 (f:Bool) (l:List Ln) (A B C D E F G I J K N O R T U V Y Z:Int) (x y u v:Int)  (dq:AV) (H :
  (Sp.few l.length 1000000) /\
  ((¬Sp.tv A B C D E F G I J K N O R T U V Y Z l = 0) -> Weak (tu [ag [vi 0,vi 0,vi 0,vi 0,vi 0,vi 0,vi 0,vi 0,vi 0,vi 0,vi 0,vi 0,vi 0,vi 0,vi 0,vi 0,vi 0,vi 0,AV.vnil],vi 1]) dq) /\
  (¬(¬Sp.tv A B C D E F G I J K N O R T U V Y Z l = 0) -> (((((¬(Sp.pM x)) \/ (¬(Sp.pM y))) \/ (¬(Sp.pM u))) \/ (¬(Sp.pM v))) -> Weak (tu [ag [vi 0,vi 0,vi 0,vi 0,vi 0,vi 0,vi 0,vi 0,vi 0,vi 0,vi 0,vi 0,vi 0,vi 0,vi 0,vi 0,vi 0,vi 0,AV.vnil],vi 11]) dq) /\
   (¬((((¬(Sp.pM x)) \/ (¬(Sp.pM y))) \/ (¬(Sp.pM u))) \/ (¬(Sp.pM v))) -> (-9223372036854775808 <= u - x /\ u - x <= 9223372036854775807) /\
    (-9223372036854775808 <= K + (u - x) /\ K + (u - x) <= 9223372036854775807) /\
    (-9223372036854775808 <= v - y /\ v - y <= 9223372036854775807) /\
    (-9223372036854775808 <= N + (v - y) /\ N + (v - y) <= 9223372036854775807) /\
    ((Sp.pP (K + (u - x)) (N + (v - y)) O) -> (Sp.tv A B C D E F G I J K N O R T U V Y Z l = 0 /\ Sp.few l.length 1000000) /\
     Weak (tu [ag [vi A,vi B,vi C,vi D,vi E,vi F,vi G,vi I,vi J,vi (K + (u - x)),vi (N + (v - y)),vi O,vi R,vi T,vi U,vi V,vi Y,vi Z,AV.vec false 2 (List.map Ln.a l)],vi 0]) dq) /\
    (¬(Sp.pP (K + (u - x)) (N + (v - y)) O) -> (Sp.tv A B C D E F G I J K N O R T U V Y Z l = 0 /\ Sp.few l.length 1000000) /\
     Weak (tu [ag [vi 0,vi 0,vi 0,vi 0,vi 0,vi 0,vi 0,vi 0,vi 0,vi 0,vi 0,vi 0,vi 0,vi 0,vi 0,vi 0,vi 0,vi 0,AV.vnil],vi 11]) dq)))) :
 tCo3_at f l A B C D E F G I J K N O R T U V Y Z x y u v (Zak dq):=by
 unfold tCo3_at
 obtain ⟨k1,H⟩:=H
 refine Zah (G:=Zad kp27 [(1,1,.call (vi (Sp.tv A B C D E F G I J K N O R T U V Y Z l)) none)] []) 5 [] ⟨(atC (cd Try.f27) [1,0,1]),[(1,vi 57000),(4,AV.ptr 0 0 0 0),(6,AV.ptr 1 0 0 0),(7,AV.ptr 2 0 0 0),(8,AV.ptr 3 0 0 0),(14,vb (Sp.tv A B C D E F G I J K N O R T U V Y Z l != 0))],[⟨[ag [vi A,vi B,vi C,vi D,vi E,vi F,vi G,vi I,vi J,vi K,vi N,vi O,vi R,vi T,vi U,vi V,vi Y,vi Z,AV.vec f 2 (List.map Ln.a l)]],19,0,false,false⟩,⟨[ag [vi x,vi y]],2,0,false,false⟩,⟨[ag [vi u,vi v]],2,0,false,false⟩,⟨[zNpO7],19,0,false,false⟩],_,[],_⟩ (by kernel_rfl) (bc rfl b0) q0 (ce (@ev55 (f) (l) (A) (B) (C) (D) (E) (F) (G) (I) (J) (K) (N) (O) (R) (T) (U) (V) (Y) (Z) k1) c0) ?_
 rcases xq H with ⟨d3,H⟩|⟨d3,H⟩
 ·exact Zam (G:=Zad kp27 [] []) 1000 [true] (tu [zNpO7,vi 1]) (by kernel_rfl) (bc (ZaG (i_ne.2 d3)) (bc rfl b0)) q0 c0 H
 ·refine Zah (G:=Zad kp27 [(3,2,.call (vb (decide (Sp.pM x))) none),(3,7,.call (vb (decide (Sp.pM y))) none),(3,13,.call (vb (decide (Sp.pM u))) none),(3,19,.call (vb (decide (Sp.pM v))) none)] []) 5 [false] ⟨(atC (cd Try.f27) [1,1,0,1]),[(1,vi 57000),(4,AV.ptr 0 0 0 0),(6,AV.ptr 1 0 0 0),(7,AV.ptr 2 0 0 0),(8,AV.ptr 3 0 0 0),(37,vb (bif bif bif !decide (Sp.pM x) then true else !decide (Sp.pM y) then true else !decide (Sp.pM u) then true else !decide (Sp.pM v)))],[⟨[ag [vi A,vi B,vi C,vi D,vi E,vi F,vi G,vi I,vi J,vi K,vi N,vi O,vi R,vi T,vi U,vi V,vi Y,vi Z,AV.vec f 2 (List.map Ln.a l)]],19,0,false,false⟩,⟨[ag [vi x,vi y]],2,0,false,false⟩,⟨[ag [vi u,vi v]],2,0,false,false⟩,⟨[zNpO7],19,0,false,false⟩],[(Sp.tv A B C D E F G I J K N O R T U V Y Z l != 0) == false,true,!((!decide (Sp.pM x)) == false && true) || true,!((bif !decide (Sp.pM x) then true else !decide (Sp.pM y)) == false && true) || true,!((bif bif !decide (Sp.pM x) then true else !decide (Sp.pM y) then true else !decide (Sp.pM u)) == false && true) || true],[],[⟨true,false,56,[vi x],[],vb (decide (Sp.pM x)),[]⟩,⟨(!decide (Sp.pM x)) == false && true && true,false,56,[vi y],[],vb (decide (Sp.pM y)),[]⟩,⟨(bif !decide (Sp.pM x) then true else !decide (Sp.pM y)) == false && true && true,false,56,[vi u],[],vb (decide (Sp.pM u)),[]⟩,⟨(bif bif !decide (Sp.pM x) then true else !decide (Sp.pM y) then true else !decide (Sp.pM u)) == false && true && true,false,56,[vi v],[],vb (decide (Sp.pM v)),[]⟩]⟩ (by kernel_rfl) (bc (Zaj (fun h => d3 (i_ne.1 h))) (bc rfl (bc (Bool.or_true _) (bc (Bool.or_true _) (bc (Bool.or_true _) b0))))) q0 (cc (fun _ => (@ev56 (x))) (cc (fun hc => ((@ev56 (y)):Ev M1 (Conf.pure 56 [vi y]) (vb (decide (Sp.pM y))) [])) (cc (fun hc => ((@ev56 (u)):Ev M1 (Conf.pure 56 [vi u]) (vb (decide (Sp.pM u))) [])) (cc (fun hc => ((@ev56 (v)):Ev M1 (Conf.pure 56 [vi v]) (vb (decide (Sp.pM v))) [])) c0)))) ?_
  rcases xq H with ⟨d8,H⟩|⟨d8,H⟩
  ·exact Zam (G:=Zad kp27 [] []) 1000 [true] (tu [zNpO7,vi 11]) (by kernel_rfl) (bc (ZaG ((Zag (Zag (Zag (Zan Zaa) (Zan Zaa)) (Zan Zaa)) (Zan Zaa)).2 d8)) (bc rfl b0)) q0 c0 H
  ·obtain ⟨k9,H⟩:=H
   have w10:wi (u - x) = u - x:=wI64 k9
   obtain ⟨k11,H⟩:=H
   have w12:wi (K + (u - x)) = K + (u - x):=wI64 k11
   obtain ⟨k13,H⟩:=H
   have w14:wi (v - y) = v - y:=wI64 k13
   obtain ⟨k15,H⟩:=H
   have w16:wi (N + (v - y)) = N + (v - y):=wI64 k15
   rcases xq H with ⟨d17,H⟩|⟨d17,H⟩
   ·obtain ⟨k18,H⟩:=H
    exact Zam (G:=Zad kp27 [(5,2,.call (zNpO8 K N O) none),(10,3,.call (tu [ag [vi A,vi B,vi C,vi D,vi E,vi F,vi G,vi I,vi J,vi (K + (u - x)),vi (N + (v - y)),vi O,vi R,vi T,vi U,vi V,vi Y,vi Z,AV.vec false 2 (List.map Ln.a l)],vi 0]) none)] []) 1000 [false,false] (calls:=[pc 57 [ag [vi A,vi B,vi C,vi D,vi E,vi F,vi G,vi I,vi J,vi K,vi N,vi O,vi R,vi T,vi U,vi V,vi Y,vi Z,AV.vec f 2 (List.map Ln.a l)],vi 57000] (zNpO8 K N O),pc 58 [ag [vi A,vi B,vi C,vi D,vi E,vi F,vi G,vi I,vi J,vi K,vi N,vi O,vi R,vi T,vi U,vi V,vi Y,vi Z,AV.vec f 2 (List.map Ln.a l)],vi 57000,ag [vi (wi (K + wi (u - x))),vi (wi (N + wi (v - y))),vi O]] (tu [ag [vi A,vi B,vi C,vi D,vi E,vi F,vi G,vi I,vi J,vi (K + (u - x)),vi (N + (v - y)),vi O,vi R,vi T,vi U,vi V,vi Y,vi Z,AV.vec false 2 (List.map Ln.a l)],vi 0])]) (tu [ag [vi A,vi B,vi C,vi D,vi E,vi F,vi G,vi I,vi J,vi (K + (u - x)),vi (N + (v - y)),vi O,vi R,vi T,vi U,vi V,vi Y,vi Z,AV.vec false 2 (List.map Ln.a l)],vi 0]) (by kernel_rfl) (bc (Zaj (fun h => d8 ((Zag (Zag (Zag (Zan Zaa) (Zan Zaa)) (Zan Zaa)) (Zan Zaa)).1 h))) (bc rfl (bc rfl (bc rfl (bc rfl (bc rfl (bc rfl (bc rfl (bc rfl (bc rfl (bc rfl (bc rfl (bc rfl (bc rfl (bc rfl b0))))))))))))))) q0 (ce (@ev57_d (f) (l) (A) (B) (C) (D) (E) (F) (G) (I) (J) (K) (N) (O) (R) (T) (U) (V) (Y) (Z)) (ce (by (try rw [w10]);(try rw [w12]);(try rw [w14]);(try rw [w16]);all_goals exact (@ev58_y4 (f) (l) (A) (B) (C) (D) (E) (F) (G) (I) (J) (K) (N) (O) (R) (T) (U) (V) (Y) (Z) (K + (u - x)) (N + (v - y)) (O) k18 d17)) c0)) H
   ·obtain ⟨k19,H⟩:=H
    exact Zam (G:=Zad kp27 [(5,2,.call (zNpO8 K N O) none),(10,3,.call (tu [zNpO7,vi 11]) none)] []) 1000 [false,false] (calls:=[pc 57 [ag [vi A,vi B,vi C,vi D,vi E,vi F,vi G,vi I,vi J,vi K,vi N,vi O,vi R,vi T,vi U,vi V,vi Y,vi Z,AV.vec f 2 (List.map Ln.a l)],vi 57000] (zNpO8 K N O),pc 58 [ag [vi A,vi B,vi C,vi D,vi E,vi F,vi G,vi I,vi J,vi K,vi N,vi O,vi R,vi T,vi U,vi V,vi Y,vi Z,AV.vec f 2 (List.map Ln.a l)],vi 57000,ag [vi (wi (K + wi (u - x))),vi (wi (N + wi (v - y))),vi O]] (tu [zNpO7,vi 11])]) (tu [zNpO7,vi 11]) (by kernel_rfl) (bc (Zaj (fun h => d8 ((Zag (Zag (Zag (Zan Zaa) (Zan Zaa)) (Zan Zaa)) (Zan Zaa)).1 h))) (bc rfl (bc rfl (bc rfl (bc rfl (bc rfl (bc rfl (bc rfl (bc rfl (bc rfl (bc rfl (bc rfl (bc rfl (bc rfl (bc rfl b0))))))))))))))) q0 (ce (@ev57_d (f) (l) (A) (B) (C) (D) (E) (F) (G) (I) (J) (K) (N) (O) (R) (T) (U) (V) (Y) (Z)) (ce (by (try rw [w10]);(try rw [w12]);(try rw [w14]);(try rw [w16]);all_goals exact (@ev58_n4 (f) (l) (A) (B) (C) (D) (E) (F) (G) (I) (J) (K) (N) (O) (R) (T) (U) (V) (Y) (Z) (K + (u - x)) (N + (v - y)) (O) k19 d17)) c0)) H
noncomputable abbrev zNpO9:=ag [vi 0,vi 0,vi 0,vi 0,vi 0,vi 0,vi 0,vi 0,vi 0,vi 0,vi 0,vi 0,vi 0,vi 0,vi 0,vi 0,vi 0,vi 0,AV.vnil]
noncomputable abbrev zNpO10 (R:Int) (T:Int) (U:Int):=tu [ag [vi R,vi T,vi U],vi 0]
theorem tCo4 (f:Bool) (l:List Ln) (A B C D E F G I J K N O R T U V Y Z:Int) (x y u v:Int)  (dq:AV) (H :
  (Sp.few l.length 1000000) /\
  ((¬Sp.tv A B C D E F G I J K N O R T U V Y Z l = 0) -> Weak (tu [ag [vi 0,vi 0,vi 0,vi 0,vi 0,vi 0,vi 0,vi 0,vi 0,vi 0,vi 0,vi 0,vi 0,vi 0,vi 0,vi 0,vi 0,vi 0,AV.vnil],vi 1]) dq) /\
  (¬(¬Sp.tv A B C D E F G I J K N O R T U V Y Z l = 0) -> (((((¬(Sp.pM x)) \/ (¬(Sp.pM y))) \/ (¬(Sp.pM u))) \/ (¬(Sp.pM v))) -> Weak (tu [ag [vi 0,vi 0,vi 0,vi 0,vi 0,vi 0,vi 0,vi 0,vi 0,vi 0,vi 0,vi 0,vi 0,vi 0,vi 0,vi 0,vi 0,vi 0,AV.vnil],vi 11]) dq) /\
   (¬((((¬(Sp.pM x)) \/ (¬(Sp.pM y))) \/ (¬(Sp.pM u))) \/ (¬(Sp.pM v))) -> (-9223372036854775808 <= u - x /\ u - x <= 9223372036854775807) /\
    (-9223372036854775808 <= R + (u - x) /\ R + (u - x) <= 9223372036854775807) /\
    (-9223372036854775808 <= v - y /\ v - y <= 9223372036854775807) /\
    (-9223372036854775808 <= T + (v - y) /\ T + (v - y) <= 9223372036854775807) /\
    ((Sp.pP (R + (u - x)) (T + (v - y)) U) -> (Sp.tv A B C D E F G I J K N O R T U V Y Z l = 0 /\ Sp.few l.length 1000000) /\
     Weak (tu [ag [vi A,vi B,vi C,vi D,vi E,vi F,vi G,vi I,vi J,vi K,vi N,vi O,vi (R + (u - x)),vi (T + (v - y)),vi U,vi V,vi Y,vi Z,AV.vec false 2 (List.map Ln.a l)],vi 0]) dq) /\
    (¬(Sp.pP (R + (u - x)) (T + (v - y)) U) -> (Sp.tv A B C D E F G I J K N O R T U V Y Z l = 0 /\ Sp.few l.length 1000000) /\
     Weak (tu [ag [vi 0,vi 0,vi 0,vi 0,vi 0,vi 0,vi 0,vi 0,vi 0,vi 0,vi 0,vi 0,vi 0,vi 0,vi 0,vi 0,vi 0,vi 0,AV.vnil],vi 11]) dq)))) :
 tCo4_at f l A B C D E F G I J K N O R T U V Y Z x y u v (Zak dq):=by
 unfold tCo4_at
 obtain ⟨k1,H⟩:=H
 refine Zah (G:=Zad kp27 [(1,1,.call (vi (Sp.tv A B C D E F G I J K N O R T U V Y Z l)) none)] []) 5 [] ⟨(atC (cd Try.f27) [1,0,1]),[(1,vi 58000),(4,AV.ptr 0 0 0 0),(6,AV.ptr 1 0 0 0),(7,AV.ptr 2 0 0 0),(8,AV.ptr 3 0 0 0),(14,vb (Sp.tv A B C D E F G I J K N O R T U V Y Z l != 0))],[⟨[ag [vi A,vi B,vi C,vi D,vi E,vi F,vi G,vi I,vi J,vi K,vi N,vi O,vi R,vi T,vi U,vi V,vi Y,vi Z,AV.vec f 2 (List.map Ln.a l)]],19,0,false,false⟩,⟨[ag [vi x,vi y]],2,0,false,false⟩,⟨[ag [vi u,vi v]],2,0,false,false⟩,⟨[zNpO9],19,0,false,false⟩],_,[],_⟩ (by kernel_rfl) (bc rfl b0) q0 (ce (@ev55 (f) (l) (A) (B) (C) (D) (E) (F) (G) (I) (J) (K) (N) (O) (R) (T) (U) (V) (Y) (Z) k1) c0) ?_
 rcases xq H with ⟨d3,H⟩|⟨d3,H⟩
 ·exact Zam (G:=Zad kp27 [] []) 1000 [true] (tu [zNpO9,vi 1]) (by kernel_rfl) (bc (ZaG (i_ne.2 d3)) (bc rfl b0)) q0 c0 H
 ·refine Zah (G:=Zad kp27 [(3,2,.call (vb (decide (Sp.pM x))) none),(3,7,.call (vb (decide (Sp.pM y))) none),(3,13,.call (vb (decide (Sp.pM u))) none),(3,19,.call (vb (decide (Sp.pM v))) none)] []) 5 [false] ⟨(atC (cd Try.f27) [1,1,0,1]),[(1,vi 58000),(4,AV.ptr 0 0 0 0),(6,AV.ptr 1 0 0 0),(7,AV.ptr 2 0 0 0),(8,AV.ptr 3 0 0 0),(37,vb (bif bif bif !decide (Sp.pM x) then true else !decide (Sp.pM y) then true else !decide (Sp.pM u) then true else !decide (Sp.pM v)))],[⟨[ag [vi A,vi B,vi C,vi D,vi E,vi F,vi G,vi I,vi J,vi K,vi N,vi O,vi R,vi T,vi U,vi V,vi Y,vi Z,AV.vec f 2 (List.map Ln.a l)]],19,0,false,false⟩,⟨[ag [vi x,vi y]],2,0,false,false⟩,⟨[ag [vi u,vi v]],2,0,false,false⟩,⟨[zNpO9],19,0,false,false⟩],[(Sp.tv A B C D E F G I J K N O R T U V Y Z l != 0) == false,true,!((!decide (Sp.pM x)) == false && true) || true,!((bif !decide (Sp.pM x) then true else !decide (Sp.pM y)) == false && true) || true,!((bif bif !decide (Sp.pM x) then true else !decide (Sp.pM y) then true else !decide (Sp.pM u)) == false && true) || true],[],[⟨true,false,56,[vi x],[],vb (decide (Sp.pM x)),[]⟩,⟨(!decide (Sp.pM x)) == false && true && true,false,56,[vi y],[],vb (decide (Sp.pM y)),[]⟩,⟨(bif !decide (Sp.pM x) then true else !decide (Sp.pM y)) == false && true && true,false,56,[vi u],[],vb (decide (Sp.pM u)),[]⟩,⟨(bif bif !decide (Sp.pM x) then true else !decide (Sp.pM y) then true else !decide (Sp.pM u)) == false && true && true,false,56,[vi v],[],vb (decide (Sp.pM v)),[]⟩]⟩ (by kernel_rfl) (bc (Zaj (fun h => d3 (i_ne.1 h))) (bc rfl (bc (Bool.or_true _) (bc (Bool.or_true _) (bc (Bool.or_true _) b0))))) q0 (cc (fun _ => (@ev56 (x))) (cc (fun hc => ((@ev56 (y)):Ev M1 (Conf.pure 56 [vi y]) (vb (decide (Sp.pM y))) [])) (cc (fun hc => ((@ev56 (u)):Ev M1 (Conf.pure 56 [vi u]) (vb (decide (Sp.pM u))) [])) (cc (fun hc => ((@ev56 (v)):Ev M1 (Conf.pure 56 [vi v]) (vb (decide (Sp.pM v))) [])) c0)))) ?_
  rcases xq H with ⟨d8,H⟩|⟨d8,H⟩
  ·exact Zam (G:=Zad kp27 [] []) 1000 [true] (tu [zNpO9,vi 11]) (by kernel_rfl) (bc (ZaG ((Zag (Zag (Zag (Zan Zaa) (Zan Zaa)) (Zan Zaa)) (Zan Zaa)).2 d8)) (bc rfl b0)) q0 c0 H
  ·obtain ⟨k9,H⟩:=H
   have w10:wi (u - x) = u - x:=wI64 k9
   obtain ⟨k11,H⟩:=H
   have w12:wi (R + (u - x)) = R + (u - x):=wI64 k11
   obtain ⟨k13,H⟩:=H
   have w14:wi (v - y) = v - y:=wI64 k13
   obtain ⟨k15,H⟩:=H
   have w16:wi (T + (v - y)) = T + (v - y):=wI64 k15
   rcases xq H with ⟨d17,H⟩|⟨d17,H⟩
   ·obtain ⟨k18,H⟩:=H
    exact Zam (G:=Zad kp27 [(5,2,.call (zNpO10 R T U) none),(10,3,.call (tu [ag [vi A,vi B,vi C,vi D,vi E,vi F,vi G,vi I,vi J,vi K,vi N,vi O,vi (R + (u - x)),vi (T + (v - y)),vi U,vi V,vi Y,vi Z,AV.vec false 2 (List.map Ln.a l)],vi 0]) none)] []) 1000 [false,false] (calls:=[pc 57 [ag [vi A,vi B,vi C,vi D,vi E,vi F,vi G,vi I,vi J,vi K,vi N,vi O,vi R,vi T,vi U,vi V,vi Y,vi Z,AV.vec f 2 (List.map Ln.a l)],vi 58000] (zNpO10 R T U),pc 58 [ag [vi A,vi B,vi C,vi D,vi E,vi F,vi G,vi I,vi J,vi K,vi N,vi O,vi R,vi T,vi U,vi V,vi Y,vi Z,AV.vec f 2 (List.map Ln.a l)],vi 58000,ag [vi (wi (R + wi (u - x))),vi (wi (T + wi (v - y))),vi U]] (tu [ag [vi A,vi B,vi C,vi D,vi E,vi F,vi G,vi I,vi J,vi K,vi N,vi O,vi (R + (u - x)),vi (T + (v - y)),vi U,vi V,vi Y,vi Z,AV.vec false 2 (List.map Ln.a l)],vi 0])]) (tu [ag [vi A,vi B,vi C,vi D,vi E,vi F,vi G,vi I,vi J,vi K,vi N,vi O,vi (R + (u - x)),vi (T + (v - y)),vi U,vi V,vi Y,vi Z,AV.vec false 2 (List.map Ln.a l)],vi 0]) (by kernel_rfl) (bc (Zaj (fun h => d8 ((Zag (Zag (Zag (Zan Zaa) (Zan Zaa)) (Zan Zaa)) (Zan Zaa)).1 h))) (bc rfl (bc rfl (bc rfl (bc rfl (bc rfl (bc rfl (bc rfl (bc rfl (bc rfl (bc rfl (bc rfl (bc rfl (bc rfl (bc rfl b0))))))))))))))) q0 (ce (@ev57_e (f) (l) (A) (B) (C) (D) (E) (F) (G) (I) (J) (K) (N) (O) (R) (T) (U) (V) (Y) (Z)) (ce (by (try rw [w10]);(try rw [w12]);(try rw [w14]);(try rw [w16]);all_goals exact (@ev58_y5 (f) (l) (A) (B) (C) (D) (E) (F) (G) (I) (J) (K) (N) (O) (R) (T) (U) (V) (Y) (Z) (R + (u - x)) (T + (v - y)) (U) k18 d17)) c0)) H
   ·obtain ⟨k19,H⟩:=H
    exact Zam (G:=Zad kp27 [(5,2,.call (zNpO10 R T U) none),(10,3,.call (tu [zNpO9,vi 11]) none)] []) 1000 [false,false] (calls:=[pc 57 [ag [vi A,vi B,vi C,vi D,vi E,vi F,vi G,vi I,vi J,vi K,vi N,vi O,vi R,vi T,vi U,vi V,vi Y,vi Z,AV.vec f 2 (List.map Ln.a l)],vi 58000] (zNpO10 R T U),pc 58 [ag [vi A,vi B,vi C,vi D,vi E,vi F,vi G,vi I,vi J,vi K,vi N,vi O,vi R,vi T,vi U,vi V,vi Y,vi Z,AV.vec f 2 (List.map Ln.a l)],vi 58000,ag [vi (wi (R + wi (u - x))),vi (wi (T + wi (v - y))),vi U]] (tu [zNpO9,vi 11])]) (tu [zNpO9,vi 11]) (by kernel_rfl) (bc (Zaj (fun h => d8 ((Zag (Zag (Zag (Zan Zaa) (Zan Zaa)) (Zan Zaa)) (Zan Zaa)).1 h))) (bc rfl (bc rfl (bc rfl (bc rfl (bc rfl (bc rfl (bc rfl (bc rfl (bc rfl (bc rfl (bc rfl (bc rfl (bc rfl (bc rfl b0))))))))))))))) q0 (ce (@ev57_e (f) (l) (A) (B) (C) (D) (E) (F) (G) (I) (J) (K) (N) (O) (R) (T) (U) (V) (Y) (Z)) (ce (by (try rw [w10]);(try rw [w12]);(try rw [w14]);(try rw [w16]);all_goals exact (@ev58_n5 (f) (l) (A) (B) (C) (D) (E) (F) (G) (I) (J) (K) (N) (O) (R) (T) (U) (V) (Y) (Z) (R + (u - x)) (T + (v - y)) (U) k19 d17)) c0)) H
noncomputable abbrev Zeq:=ag [vi 0,vi 0,vi 0,vi 0,vi 0,vi 0,vi 0,vi 0,vi 0,vi 0,vi 0,vi 0,vi 0,vi 0,vi 0,vi 0,vi 0,vi 0,AV.vnil]
noncomputable abbrev zNpO12 (V:Int) (Y:Int) (Z:Int):=tu [ag [vi V,vi Y,vi Z],vi 0]
theorem tCo5 (f:Bool) (l:List Ln) (A B C D E F G I J K N O R T U V Y Z:Int) (x y u v:Int)  (dq:AV) (H :
  (Sp.few l.length 1000000) /\
  ((¬Sp.tv A B C D E F G I J K N O R T U V Y Z l = 0) -> Weak (tu [ag [vi 0,vi 0,vi 0,vi 0,vi 0,vi 0,vi 0,vi 0,vi 0,vi 0,vi 0,vi 0,vi 0,vi 0,vi 0,vi 0,vi 0,vi 0,AV.vnil],vi 1]) dq) /\
  (¬(¬Sp.tv A B C D E F G I J K N O R T U V Y Z l = 0) -> (((((¬(Sp.pM x)) \/ (¬(Sp.pM y))) \/ (¬(Sp.pM u))) \/ (¬(Sp.pM v))) -> Weak (tu [ag [vi 0,vi 0,vi 0,vi 0,vi 0,vi 0,vi 0,vi 0,vi 0,vi 0,vi 0,vi 0,vi 0,vi 0,vi 0,vi 0,vi 0,vi 0,AV.vnil],vi 11]) dq) /\
   (¬((((¬(Sp.pM x)) \/ (¬(Sp.pM y))) \/ (¬(Sp.pM u))) \/ (¬(Sp.pM v))) -> (-9223372036854775808 <= u - x /\ u - x <= 9223372036854775807) /\
    (-9223372036854775808 <= V + (u - x) /\ V + (u - x) <= 9223372036854775807) /\
    (-9223372036854775808 <= v - y /\ v - y <= 9223372036854775807) /\
    (-9223372036854775808 <= Y + (v - y) /\ Y + (v - y) <= 9223372036854775807) /\
    ((Sp.pP (V + (u - x)) (Y + (v - y)) Z) -> (Sp.tv A B C D E F G I J K N O R T U V Y Z l = 0 /\ Sp.few l.length 1000000) /\
     Weak (tu [ag [vi A,vi B,vi C,vi D,vi E,vi F,vi G,vi I,vi J,vi K,vi N,vi O,vi R,vi T,vi U,vi (V + (u - x)),vi (Y + (v - y)),vi Z,AV.vec false 2 (List.map Ln.a l)],vi 0]) dq) /\
    (¬(Sp.pP (V + (u - x)) (Y + (v - y)) Z) -> (Sp.tv A B C D E F G I J K N O R T U V Y Z l = 0 /\ Sp.few l.length 1000000) /\
     Weak (tu [ag [vi 0,vi 0,vi 0,vi 0,vi 0,vi 0,vi 0,vi 0,vi 0,vi 0,vi 0,vi 0,vi 0,vi 0,vi 0,vi 0,vi 0,vi 0,AV.vnil],vi 11]) dq)))) :
 tCo5_at f l A B C D E F G I J K N O R T U V Y Z x y u v (Zak dq):=by
 unfold tCo5_at
 obtain ⟨k1,H⟩:=H
 refine Zah (G:=Zad kp27 [(1,1,.call (vi (Sp.tv A B C D E F G I J K N O R T U V Y Z l)) none)] []) 5 [] ⟨(atC (cd Try.f27) [1,0,1]),[(1,vi 59000),(4,AV.ptr 0 0 0 0),(6,AV.ptr 1 0 0 0),(7,AV.ptr 2 0 0 0),(8,AV.ptr 3 0 0 0),(14,vb (Sp.tv A B C D E F G I J K N O R T U V Y Z l != 0))],[⟨[ag [vi A,vi B,vi C,vi D,vi E,vi F,vi G,vi I,vi J,vi K,vi N,vi O,vi R,vi T,vi U,vi V,vi Y,vi Z,AV.vec f 2 (List.map Ln.a l)]],19,0,false,false⟩,⟨[ag [vi x,vi y]],2,0,false,false⟩,⟨[ag [vi u,vi v]],2,0,false,false⟩,⟨[Zeq],19,0,false,false⟩],_,[],_⟩ (by kernel_rfl) (bc rfl b0) q0 (ce (@ev55 (f) (l) (A) (B) (C) (D) (E) (F) (G) (I) (J) (K) (N) (O) (R) (T) (U) (V) (Y) (Z) k1) c0) ?_
 rcases xq H with ⟨d3,H⟩|⟨d3,H⟩
 ·exact Zam (G:=Zad kp27 [] []) 1000 [true] (tu [Zeq,vi 1]) (by kernel_rfl) (bc (ZaG (i_ne.2 d3)) (bc rfl b0)) q0 c0 H
 ·refine Zah (G:=Zad kp27 [(3,2,.call (vb (decide (Sp.pM x))) none),(3,7,.call (vb (decide (Sp.pM y))) none),(3,13,.call (vb (decide (Sp.pM u))) none),(3,19,.call (vb (decide (Sp.pM v))) none)] []) 5 [false] ⟨(atC (cd Try.f27) [1,1,0,1]),[(1,vi 59000),(4,AV.ptr 0 0 0 0),(6,AV.ptr 1 0 0 0),(7,AV.ptr 2 0 0 0),(8,AV.ptr 3 0 0 0),(37,vb (bif bif bif !decide (Sp.pM x) then true else !decide (Sp.pM y) then true else !decide (Sp.pM u) then true else !decide (Sp.pM v)))],[⟨[ag [vi A,vi B,vi C,vi D,vi E,vi F,vi G,vi I,vi J,vi K,vi N,vi O,vi R,vi T,vi U,vi V,vi Y,vi Z,AV.vec f 2 (List.map Ln.a l)]],19,0,false,false⟩,⟨[ag [vi x,vi y]],2,0,false,false⟩,⟨[ag [vi u,vi v]],2,0,false,false⟩,⟨[Zeq],19,0,false,false⟩],[(Sp.tv A B C D E F G I J K N O R T U V Y Z l != 0) == false,true,!((!decide (Sp.pM x)) == false && true) || true,!((bif !decide (Sp.pM x) then true else !decide (Sp.pM y)) == false && true) || true,!((bif bif !decide (Sp.pM x) then true else !decide (Sp.pM y) then true else !decide (Sp.pM u)) == false && true) || true],[],[⟨true,false,56,[vi x],[],vb (decide (Sp.pM x)),[]⟩,⟨(!decide (Sp.pM x)) == false && true && true,false,56,[vi y],[],vb (decide (Sp.pM y)),[]⟩,⟨(bif !decide (Sp.pM x) then true else !decide (Sp.pM y)) == false && true && true,false,56,[vi u],[],vb (decide (Sp.pM u)),[]⟩,⟨(bif bif !decide (Sp.pM x) then true else !decide (Sp.pM y) then true else !decide (Sp.pM u)) == false && true && true,false,56,[vi v],[],vb (decide (Sp.pM v)),[]⟩]⟩ (by kernel_rfl) (bc (Zaj (fun h => d3 (i_ne.1 h))) (bc rfl (bc (Bool.or_true _) (bc (Bool.or_true _) (bc (Bool.or_true _) b0))))) q0 (cc (fun _ => (@ev56 (x))) (cc (fun hc => ((@ev56 (y)):Ev M1 (Conf.pure 56 [vi y]) (vb (decide (Sp.pM y))) [])) (cc (fun hc => ((@ev56 (u)):Ev M1 (Conf.pure 56 [vi u]) (vb (decide (Sp.pM u))) [])) (cc (fun hc => ((@ev56 (v)):Ev M1 (Conf.pure 56 [vi v]) (vb (decide (Sp.pM v))) [])) c0)))) ?_
  rcases xq H with ⟨d8,H⟩|⟨d8,H⟩
  ·exact Zam (G:=Zad kp27 [] []) 1000 [true] (tu [Zeq,vi 11]) (by kernel_rfl) (bc (ZaG ((Zag (Zag (Zag (Zan Zaa) (Zan Zaa)) (Zan Zaa)) (Zan Zaa)).2 d8)) (bc rfl b0)) q0 c0 H
  ·obtain ⟨k9,H⟩:=H
   have w10:wi (u - x) = u - x:=wI64 k9
   obtain ⟨k11,H⟩:=H
   have w12:wi (V + (u - x)) = V + (u - x):=wI64 k11
   obtain ⟨k13,H⟩:=H
   have w14:wi (v - y) = v - y:=wI64 k13
   obtain ⟨k15,H⟩:=H
   have w16:wi (Y + (v - y)) = Y + (v - y):=wI64 k15
   rcases xq H with ⟨d17,H⟩|⟨d17,H⟩
   ·obtain ⟨k18,H⟩:=H
    exact Zam (G:=Zad kp27 [(5,2,.call (zNpO12 V Y Z) none),(10,3,.call (tu [ag [vi A,vi B,vi C,vi D,vi E,vi F,vi G,vi I,vi J,vi K,vi N,vi O,vi R,vi T,vi U,vi (V + (u - x)),vi (Y + (v - y)),vi Z,AV.vec false 2 (List.map Ln.a l)],vi 0]) none)] []) 1000 [false,false] (calls:=[pc 57 [ag [vi A,vi B,vi C,vi D,vi E,vi F,vi G,vi I,vi J,vi K,vi N,vi O,vi R,vi T,vi U,vi V,vi Y,vi Z,AV.vec f 2 (List.map Ln.a l)],vi 59000] (zNpO12 V Y Z),pc 58 [ag [vi A,vi B,vi C,vi D,vi E,vi F,vi G,vi I,vi J,vi K,vi N,vi O,vi R,vi T,vi U,vi V,vi Y,vi Z,AV.vec f 2 (List.map Ln.a l)],vi 59000,ag [vi (wi (V + wi (u - x))),vi (wi (Y + wi (v - y))),vi Z]] (tu [ag [vi A,vi B,vi C,vi D,vi E,vi F,vi G,vi I,vi J,vi K,vi N,vi O,vi R,vi T,vi U,vi (V + (u - x)),vi (Y + (v - y)),vi Z,AV.vec false 2 (List.map Ln.a l)],vi 0])]) (tu [ag [vi A,vi B,vi C,vi D,vi E,vi F,vi G,vi I,vi J,vi K,vi N,vi O,vi R,vi T,vi U,vi (V + (u - x)),vi (Y + (v - y)),vi Z,AV.vec false 2 (List.map Ln.a l)],vi 0]) (by kernel_rfl) (bc (Zaj (fun h => d8 ((Zag (Zag (Zag (Zan Zaa) (Zan Zaa)) (Zan Zaa)) (Zan Zaa)).1 h))) (bc rfl (bc rfl (bc rfl (bc rfl (bc rfl (bc rfl (bc rfl (bc rfl (bc rfl (bc rfl (bc rfl (bc rfl (bc rfl (bc rfl b0))))))))))))))) q0 (ce (@ev57_o (f) (l) (A) (B) (C) (D) (E) (F) (G) (I) (J) (K) (N) (O) (R) (T) (U) (V) (Y) (Z)) (ce (by (try rw [w10]);(try rw [w12]);(try rw [w14]);(try rw [w16]);all_goals exact (@ev58_y6 (f) (l) (A) (B) (C) (D) (E) (F) (G) (I) (J) (K) (N) (O) (R) (T) (U) (V) (Y) (Z) (V + (u - x)) (Y + (v - y)) (Z) k18 d17)) c0)) H
   ·obtain ⟨k19,H⟩:=H
    exact Zam (G:=Zad kp27 [(5,2,.call (zNpO12 V Y Z) none),(10,3,.call (tu [Zeq,vi 11]) none)] []) 1000 [false,false] (calls:=[pc 57 [ag [vi A,vi B,vi C,vi D,vi E,vi F,vi G,vi I,vi J,vi K,vi N,vi O,vi R,vi T,vi U,vi V,vi Y,vi Z,AV.vec f 2 (List.map Ln.a l)],vi 59000] (zNpO12 V Y Z),pc 58 [ag [vi A,vi B,vi C,vi D,vi E,vi F,vi G,vi I,vi J,vi K,vi N,vi O,vi R,vi T,vi U,vi V,vi Y,vi Z,AV.vec f 2 (List.map Ln.a l)],vi 59000,ag [vi (wi (V + wi (u - x))),vi (wi (Y + wi (v - y))),vi Z]] (tu [Zeq,vi 11])]) (tu [Zeq,vi 11]) (by kernel_rfl) (bc (Zaj (fun h => d8 ((Zag (Zag (Zag (Zan Zaa) (Zan Zaa)) (Zan Zaa)) (Zan Zaa)).1 h))) (bc rfl (bc rfl (bc rfl (bc rfl (bc rfl (bc rfl (bc rfl (bc rfl (bc rfl (bc rfl (bc rfl (bc rfl (bc rfl (bc rfl b0))))))))))))))) q0 (ce (@ev57_o (f) (l) (A) (B) (C) (D) (E) (F) (G) (I) (J) (K) (N) (O) (R) (T) (U) (V) (Y) (Z)) (ce (by (try rw [w10]);(try rw [w12]);(try rw [w14]);(try rw [w16]);all_goals exact (@ev58_n6 (f) (l) (A) (B) (C) (D) (E) (F) (G) (I) (J) (K) (N) (O) (R) (T) (U) (V) (Y) (Z) (V + (u - x)) (Y + (v - y)) (Z) k19 d17)) c0)) H
end Go.Av
