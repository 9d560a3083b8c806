/- PART 3 of the texts of a claim, joined by a program: what each part shows stands at its head. -/
import Derived.Test.YtgnpmphnpnfapaaPartf58f2d29f8
import Derived.ProofKit
import Derived.OpenShut
import Derived.Test.YtgnpmphnpnfapaaRows
import Derived.RangeFuncIn
import Derived.Test.YtgnpmphnpnfapaaProg

namespace Go.Av
open Go.RowKit
theorem lift_get (env:Vars) (t:Nat):Env.get (lift env) t = ([],env.get t):=by
 induction env with
 | nil => rfl
 | cons e env ih =>
  obtain ⟨k,v⟩:=e
  simp only [lift,List.map_cons,Env.get,Vars.get]
  cases k == t with
  | true => rfl
  | false => exact ih
theorem lift_rel {S:St} {env:Vars} {tm:Array Value} (h:VRel S env tm):TRel S (lift env) tm:=by
 refine ⟨fun t => ?_,fun t _ => ?_,fun t ht => ?_⟩
 ·rw [lift_get];exact .nil
 ·rw [lift_get];exact h t
 ·rw [lift_get] at ht;simp [chainVal] at ht
theorem forget_rel {S:St} {env:Env} {tm:Array Value} (h:TRel S env tm) (keep:List Nat):VRel S (forget keep env) tm:=by
 intro t
 induction keep with
 | nil => exact .any _
 | cons k keep ih =>
  simp only [forget,List.map_cons,Vars.get]
  cases hk:k == t with
  | false => exact ih
  | true =>
   have hk:k = t:=by simpa using hk
   subst hk
   simp only [cond_true]
   split
   ·rename_i v hv
    have:=h.yes k (by rw [hv];rfl)
    rw [hv] at this;exact this
   ·exact .any _
theorem vget_rel {S:St} {env:Vars} {a:Act} (h:VRel S env a.tmps) (x:Operand):Rel S (evV env x) (a.eval x):=by
 cases x with
 | tmp t => exact h t
 | const v => exact rel_ofC S v
 | global g => exact .any _
 | func f => exact .data _ _ (.func _ [] [] [] [] rfl rfl (by simp) (by simp))
theorem args_rel {S:St}:∀ (i:Nat) (args:List AV) (vs:List Value) (t:Nat),RelL S args vs -> Rel S ((argVars i args).get t) (if i <= t then vs.getD (t - i) undef else undef)
 | i,[],vs,t,_ => .any _
 | i,c :: args,[],t,h => by have:=h.1;simp at this
 | i,c :: args,u :: vs,t,h => by
  simp only [argVars,Vars.get]
  cases hk:i == t with
  | true =>
   have hk:i = t:=by simpa using hk
   subst hk
   simp only [cond_true,Nat.le_refl,if_true,Nat.sub_self,List.getD_cons_zero]
   exact h.2 0 c u rfl rfl
  | false =>
   have hk:i ≠ t:=by simpa using hk
   have:=args_rel (S:=S) (i + 1) args vs t ⟨by simpa using h.1,fun j c v hc hv => h.2 (j + 1) c v (by simpa using hc) (by simpa using hv)⟩
   simp only [cond_false]
   by_cases hlt:i + 1 <= t
   ·rw [if_pos hlt] at this
    rw [if_pos (by omega)]
    obtain ⟨m,rfl⟩:∃ m,t = i + 1 + m:=⟨t - (i + 1),by omega⟩
    have e1:i + 1 + m - (i + 1) = m:=by omega
    have e2:i + 1 + m - i = m + 1:=by omega
    rw [e1] at this
    rw [e2];simpa using this
   ·rw [if_neg hlt] at this
    rw [if_neg (by omega)];exact this
theorem enter_rel {S:St} {args:List AV} {vs:List Value} (n:Nat) (h:RelL S args vs):VRel S (argVars 0 args) ((⟨vs⟩:Array Value) ++ Array.replicate n undef):=by
 intro t
 have:=args_rel (S:=S) 0 args vs t h
 simp only [Nat.zero_le,if_true,Nat.sub_zero] at this
 have e:((⟨vs⟩:Array Value) ++ Array.replicate n undef).getD t undef = vs.getD t undef:=by
  simp only [Array.getD_eq_getD_getElem?,List.getD_eq_getElem?_getD,Array.getElem?_append,List.size_toArray,List.getElem?_toArray]
  by_cases ht:t < vs.length
  ·rw [if_pos ht]
  ·rw [if_neg ht,List.getElem?_eq_none (by omega:vs.length <= t)]
   simp only [Array.getElem?_replicate,Option.getD_none]
   split <;> rfl
 rw [e];exact this
def resF (tm:Array Value):ResultVar -> Sem Value
 | .tmp t => pure (tm.getD t undef)
 | .cell a t => do loadVar t (<- asAddr (tm.getD a undef))
theorem resultsA_sound {P:Unit -> Program} {S:St} (hS:HeapOk S) {env:Vars} {tm:Array Value} (hV:VRel S env tm):∀ (l:List ResultVar) {vs:List AV},resultsA P env S.L l = some vs ->
  ∃ cvs:List Value,RelL S vs cvs /\ (l.mapM (resF tm)).run (P ()) S.w = .ok cvs S.w
 | [],vs,h => by
  simp only [resultsA,Option.some.injEq] at h;subst h
  exact ⟨[],.nil S,by simp⟩
 | .tmp t :: r,vs,h => by
  simp only [resultsA] at h
  split at h
  ·rename_i vs' h'
   simp only [Option.some.injEq] at h;subst h
   obtain ⟨cvs,h1,h2⟩:=resultsA_sound hS hV r h'
   have h3:(resF tm (.tmp t)).run (P ()) S.w = .ok (tm.getD t undef) S.w:=rfl
   exact ⟨tm.getD t undef :: cvs,.cons (hV t) h1,by simp only [List.mapM_cons,Sem.run_bind,h3,Result.andThen_ok,h2,Sem.run_pure]⟩
  ·simp at h
 | .cell a T :: r,vs,h => by
  simp only [resultsA] at h
  split at h
  ·rename_i x vs' hx h'
   cases hall:x.asm.all fun b => b with
   | false => simp [hall] at h
   | true =>
    simp only [hall,cond_true,Option.some.injEq] at h;subst h
    obtain ⟨cvs,h1,h2⟩:=resultsA_sound hS hV r h'
    have hel:∀ {xs:List AV} {i:Nat} {x:AV} {q:List Prop},elemA none xs i = some (x,q) -> q = []:=by
     intro xs i x q he
     unfold elemA at he
     simp only at he
     split at he
     ·simp only [Option.some.injEq,Prod.mk.injEq] at he;exact he.2.symm
     ·simp at he
    have hva:=hV a
    have key:x.eqs = [] /\ ∃ ad,tm.getD a undef = .pointer (some ad):=by
     unfold loadA at hx
     split at hx
     ·rename_i q ver i j hv
      rw [hv] at hva
      obtain ⟨hp,_⟩:=rel_ptr' hva
      split at hx
      ·split at hx
       ·rename_i he
        split at hx
        ·simp only [Option.some.injEq] at hx;subst hx
         exact ⟨hel he,hp⟩
        ·simp at hx
       ·simp at hx
      ·simp at hx
     ·rename_i es xs i j hv
      rw [hv] at hva
      have hp:∃ ad,tm.getD a undef = .pointer (some ad):=by
       have hd:=rel_eptr hva
       generalize tm.getD a undef = pv at *
       cases hd with
       | eptr _ _ _ _ b off h1 h2 h3 => exact ⟨_,rfl⟩
      split at hx
      ·rename_i he
       split at hx
       ·simp only [Option.some.injEq] at hx;subst hx
        exact ⟨hel he,hp⟩
       ·simp at hx
      ·simp at hx
     ·simp at hx
    obtain ⟨heq,ad,had⟩:=key
    obtain ⟨_,_,cv,k1,k2⟩:=load_sound (P:=P) hS (hV a) hx (by simpa using hall) (by rw [heq];simp)
    have h3:(resF tm (.cell a T)).run (P ()) S.w = .ok cv S.w:=by
     rw [<- k1,had]
     simp [resF,asAddr,Instr.loadAt,Instr.sureAddr,had]
    exact ⟨cv :: cvs,.cons k2 h1,by simp only [List.mapM_cons,Sem.run_bind,h3,Result.andThen_ok,h2,Sem.run_pure]⟩
  ·simp at h
theorem finish_sound {P:Unit -> Program} {S:St} (hS:HeapOk S) {env:Vars} {tm:Array Value} (hV:VRel S env tm) {fi:Fi} {fn:Func} (hfi:fn.results.toList = fi.res) {v:AV} (h:finish P fi env S.L = some v) :
  ∃ cv,(results fn tm).run (P ()) S.w = .ok cv S.w /\ Rel S v cv:=by
 have hrun:∀ {cvs:List Value},(fi.res.mapM (resF tm)).run (P ()) S.w = .ok cvs S.w -> (results fn tm).run (P ()) S.w = .ok (if h:cvs.length = 1 then cvs[0] else .tuple ⟨cvs⟩) S.w:=by
  intro cvs h
  have hm:results fn tm = (do let vs <- fn.results.mapM (resF tm);pure (if h:vs.size = 1 then vs[0] else .tuple vs)):=by
   unfold results
   congr 1
  rw [hm,Array.mapM_eq_mapM_toList,hfi]
  rw [map_eq_pure_bind]
  simp only [Sem.run_bind,h,Result.andThen_ok,Sem.run_pure]
  rfl
 unfold finish at h
 split at h
 ·rename_i u hr
  simp only [Option.some.injEq] at h;subst h
  obtain ⟨cvs,h1,h2⟩:=resultsA_sound hS hV _ hr
  have:=h1.1
  match cvs,this,h1,h2 with
  | [cv],_,h1,h2 => exact ⟨cv,by simpa using hrun h2,h1.head⟩
 ·rename_i vs hne hr
  simp only [Option.some.injEq] at h;subst h
  obtain ⟨cvs,h1,h2⟩:=resultsA_sound hS hV _ hr
  have hl:cvs.length ≠ 1:=by
   rw [<- h1.1]
   intro e
   obtain ⟨x,rfl⟩:=List.length_eq_one_iff.1 e
   exact hne x rfl
  exact ⟨.tuple ⟨cvs⟩,by simpa [hl] using hrun h2,.tup vs cvs h1.1 h1.2⟩
 ·simp at h
theorem call_runs {P:Program} {f:FuncId} {fn:Func} {c:Code} {args:Array Value} (hf:P.funcs[f]? = some fn) (hb:fn.body = some c) (hn:(fn.name == "runtime.NumGoroutine") = false) (w:World) :
  (callFunc f args).run P w = .ok (.enter f args) w:=by
 have hn':fn.name ≠ "runtime.NumGoroutine":=by simpa using hn
 simp [callFunc,hf,hb,hn']
theorem weak_rel {S:St} {a d:AV} (h:Weak a d):∀ {v:Value},DRel S a v -> DRel S d v:=by
 induction h with
 | refl a => exact fun h => h
 | vnil es => intro v h;cases h;exact .vecE false es none 0 (by simp)
 | full es xs =>
  intro v h
  cases h with
  | vecE f es a cap hf => exact .vecE false es a cap (by simp)
  | vec f es xs b off cap ho hf hl hc hr => exact .vec false es xs b off cap ho (by simp) hl hc hr
 | tup xs ys hl _ ih =>
  intro v h
  cases h with
  | tup _ vs h1 h2 =>
   refine .tup ys vs (hl.symm.trans h1) fun i c v hc hv => ?_
   have hi:i < xs.length:=by rw [hl];exact (List.getElem?_eq_some_iff.1 hc).1
   exact ih i xs[i] c (List.getElem?_eq_getElem hi) hc (h2 i xs[i] v (List.getElem?_eq_getElem hi) hv)
 | agg xs ys hl _ ih =>
  intro v h
  cases h with
  | agg _ vs h1 h2 =>
   refine .agg ys vs (hl.symm.trans h1) fun i c v hc hv => ?_
   have hi:i < xs.length:=by rw [hl];exact (List.getElem?_eq_some_iff.1 hc).1
   exact ih i xs[i] c (List.getElem?_eq_getElem hi) hc (h2 i xs[i] v (List.getElem?_eq_getElem hi) hv)
 | cells f es xs ys hl _ hy hx ih =>
  intro v h
  have one:∀ {y:AV} {k:Nat} {c:AV},y.cells = [y] -> y.cells[k]? = some c -> k = 0 /\ c = y:=by
   intro y k c e hk
   rw [e] at hk
   cases k with
   | zero => simp at hk;exact ⟨rfl,hk.symm⟩
   | succ k => simp at hk
  have lk:∀ (i:Nat) y,ys[i]? = some y -> ∃ x,xs[i]? = some x:=fun i y h => by
   have hi:i < xs.length:=by rw [hl];exact (List.getElem?_eq_some_iff.1 h).1
   exact ⟨xs[i],List.getElem?_eq_getElem hi⟩
  have lk':∀ (i:Nat) x,xs[i]? = some x -> ∃ y,ys[i]? = some y:=fun i y h => by
   have hi:i < ys.length:=by rw [<- hl];exact (List.getElem?_eq_some_iff.1 h).1
   exact ⟨ys[i],List.getElem?_eq_getElem hi⟩
  cases h with
  | vecE f es a cap hf =>
   have:ys = []:=List.length_eq_zero_iff.1 (by simpa using hl.symm)
   subst this
   exact .vecE f es a cap hf
  | vec f es xs b off cap ho hf hlc hc hr =>
   have:=DRel.vec (S:=S) f es ys b off cap (fun i y h => by
     obtain ⟨x,hxi⟩:=lk i y h
     obtain ⟨q1,q2⟩:=ho i x hxi
     rw [hx x (List.mem_of_getElem? hxi)] at q1
     obtain ⟨p1,p2⟩:=hy y (List.mem_of_getElem? h)
     rw [p1];exact ⟨q1,by simp [p2]⟩)
    (fun e => by rw [<- hl];exact hf e) (by rw [<- hl];exact hlc)
    (fun i y k c h hk => by
     obtain ⟨x,hxi⟩:=lk i y h
     obtain ⟨rfl,rfl⟩:=one (hy y (List.mem_of_getElem? h)).1 hk
     exact hc i x 0 x hxi (by rw [hx x (List.mem_of_getElem? hxi)];rfl))
    (fun i y k c cv h hk hcv => by
     obtain ⟨x,hxi⟩:=lk i y h
     obtain ⟨rfl,rfl⟩:=one (hy y (List.mem_of_getElem? h)).1 hk
     exact ih i x c hxi h (hr i x 0 x cv hxi (by rw [hx x (List.mem_of_getElem? hxi)];rfl) hcv))
   rw [<- hl] at this
   exact this
theorem OwnQ.snd {M:Mach} {f:FuncId} {args:List AV} {L L':Heap} {v:AV} (h:OwnQ M f args L (isR v L')):OwnSnd M f args L v L':=by
 intro S cargs h1 h2 h3
 obtain ⟨k1,k2⟩:=h S cargs h1 h2 h3
 refine ⟨k1,Calls.mono k2 fun e w' he => ?_⟩
 cases e with
 | returned cv =>
  obtain ⟨v',K,β',⟨rfl,rfl⟩,m1,m2,m3⟩:=he
  exact ⟨β',m1,m2,m3⟩
 | panicked c => exact he.elim
 | outgrown => exact he.elim
theorem PureR.snd {M:Mach} {f:FuncId} {args:List AV} {v:AV} (h:PureR M f args (isR v [])):PureSnd M f args v:=by
 intro base acc w cargs h1 h2 h3
 obtain ⟨k1,k2⟩:=h base acc w cargs h1 h2 h3
 refine ⟨k1,Calls.mono k2 fun e w' he => ?_⟩
 cases e with
 | returned cv =>
  obtain ⟨d,⟨rfl,_⟩,m1,m2⟩:=he
  exact ⟨m1,m2⟩
 | panicked c => exact he.elim
 | outgrown => exact he.elim
theorem RunSnd.step {M:Mach} {fi:Fi} {k k':List Item} {env:Vars} {L:Heap} {Q:AV -> Heap -> Prop} (h:RunSnd M fi k' env L Q) (ht:tameL k = true -> tameL k' = true)
  (hs:∀ (b:Frame) (a:Act) (cs:List Frame) (S:St),VRel S env a.tmps -> step (M.P ()) (lone (b.atR a k) cs S.w) = .next (lone (b.atR a k') cs S.w)):RunSnd M fi k env L Q:=by
 intro S b a cs fn h1 h2 h3 h4 h5 h6 h7 h8
 obtain ⟨a',todo',Ds,w',β',v,L',hq,g1,g2,k1,k2⟩:=h S b a cs fn h1 h2 h3 (h4.imp id ht) h5 h6 h7 h8
 exact ⟨a',todo',Ds,w',β',v,L',hq,g1,g2,.head (hs b a cs S h7) k1,k2⟩
theorem tame_exit {id:Nat}:∀ {k k':List Item},exitTo id k = some k' -> tameL k = true -> tameL k' = true
 | [],k',h,_ => by simp [exitTo] at h
 | x :: k,k',h,ht => by
  have ht':tameI x = true /\ tameL k = true:=by simpa [tameL] using ht
  cases x with
  | inBlock id' =>
   simp only [exitTo] at h
   split at h
   ·simp only [Option.some.injEq] at h;subst h;exact ht'.2
   ·exact tame_exit h ht'.2
  | _ => exact tame_exit (by simpa [exitTo] using h) ht'.2
def onlyN (K:Act -> World -> Prop):Exit -> Act -> World -> Prop:=fun e a w => match e with
 | .normal => K a w
 | _ => False
theorem opsR {P:Program} {ops:Array Oper} {K:Act -> World -> Prop} {b:Frame} {k:List Item} {cs:List Frame} {rest:List Nat} (hb:b.roundOf = none \/ noDefer ops = true):∀ (l:List Nat) (a:Act) (w:World),wpOps P ops (onlyN K) l a w ->
  ∃ a' w',K a' w' /\ Steps P (lone (b.atR a (.inRegion ops (l ++ rest) :: k)) cs w) (lone (b.atR a' (.inRegion ops rest :: k)) cs w'):=by
 intro l
 induction l with
 | nil => exact fun a w h => ⟨a,w,h,Steps.refl _ _⟩
 | cons i l ih =>
  intro a w h
  simp only [wpOps] at h
  simp only [List.cons_append]
  cases ho:ops[i]? with
  | none =>
   simp only [ho] at h
   obtain ⟨a',w',hq,harr⟩:=ih a w h
   have hs:=stepR_op_skip (P:=P) (b:=b) (a:=a) (k:=k) (cs:=cs) (w:=w) (ops:=ops) (i:=i) (rest:=l ++ rest) (by simp [ho])
   simp only [ho,Option.bind_none,Act.put] at hs
   exact ⟨a',w',hq,.head hs harr⟩
  | some o =>
   simp only [ho] at h
   by_cases hw:Region.wanted o (yielded ops a.tmps) = true
   ·simp only [hw,if_true] at h
    have hsem:o.semAt b.roundOf a.eval = execOp a.eval o:=by
     rcases hb with hb | hb
     ·rw [hb];rfl
     ·refine Oper.semAt_eq _ _ _ fun c hc => ?_
      have:=List.all_eq_true.1 hb o (by
       have:=Array.mem_of_getElem? ho
       exact Array.mem_toList_iff.2 this)
      rw [hc] at this;simp at this
    rcases h with h | ⟨_,a0,w0,h⟩
    ·unfold Oper.wp at h
     have hg:=stepGR_op (P:=P) (b:=b) (k:=k) (cs:=cs) (w:=w) (rest:=l ++ rest) ho hw
     rw [hsem] at hg
     have hfin:∀ v,(b.atR a (.inRegion ops (i :: (l ++ rest)) :: k)).finish v = b.atR (a.put o.dst v) (.inRegion ops (l ++ rest) :: k):=by
      intro v;rw [Frame.finish_atR,ho];rfl
     simp only [Oper.upon] at h
     split at h
     ·rename_i v w' hr'
      obtain ⟨a',w'',hq,harr⟩:=ih _ _ h
      refine ⟨a',w'',hq,.head (step_lone_go ?_) harr⟩
      rw [hg,<- hfin];simp [stepG.apply,hr']
     ·rename_i w' hr'
      obtain ⟨a',w'',hq,harr⟩:=ih _ _ h
      refine ⟨a',w'',hq,.head (step_lone_go ?_) harr⟩
      rw [hg,<- hfin];simp [stepG.apply,hr']
     ·rename_i d w' hr'
      obtain ⟨a',w'',hq,harr⟩:=ih _ _ h
      refine ⟨a',w'',hq,.head (step_lone_go ?_) harr⟩
      have:({ b.atR a (.inRegion ops (i :: (l ++ rest)) :: k) with defers:=d :: a.defers }:Frame).finish undef =
        b.atR ({ a with defers:=d :: a.defers }.put o.dst undef) (.inRegion ops (l ++ rest) :: k):=by
       have:=Frame.finish_atR b { a with defers:=d :: a.defers } ops i (l ++ rest) k undef
       rw [ho] at this;exact this
      rw [hg];simp only [stepG.apply,Sem.runT_eq,hr',GStep.bare_after]
      exact congrArg (fun fr => GStep.go { frame:=fr,callers:=cs,status:=.running,dying:=none } w') this
     ·rename_i f args w' hr'
      obtain ⟨e,w'',fr,hR,hsteps,hfn,hleave⟩:=h (b.atR a (.inRegion ops (i :: (l ++ rest)) :: k) :: cs)
      have henter:step P (lone (b.atR a (.inRegion ops (i :: (l ++ rest)) :: k)) cs w) =
        .next (lone (Frame.enter P f args .normal) (b.atR a (.inRegion ops (i :: (l ++ rest)) :: k) :: cs) w'):=
       step_lone_go (by rw [hg];simp [stepG.apply,hr',Frame.atR])
      cases e with
      | returned v =>
       obtain ⟨a',w₃,hq,harr⟩:=ih _ _ hR
       refine ⟨a',w₃,hq,.head henter (Steps.trans hsteps (.head ?_ harr))⟩
       rw [<- hfin];exact step_leave_returned hleave
      | panicked chain => exact hR.elim
      | outgrown => obtain ⟨a₀,w₀,hq⟩:=hR;exact hq.elim
     ·rename_i row args w' hr'
      obtain ⟨v,w'',hR,hsteps⟩:=h (b.atR a (.inRegion ops (i :: (l ++ rest)) :: k)) cs
      have henter:step P (lone (b.atR a (.inRegion ops (i :: (l ++ rest)) :: k)) cs w) =
        .next (lone (Frame.ofRow P row args .normal) (b.atR a (.inRegion ops (i :: (l ++ rest)) :: k) :: cs) w'):=
       step_lone_go (by rw [hg];simp [stepG.apply,hr',Frame.atR])
      obtain ⟨a',w₃,hq,harr⟩:=ih _ _ hR
      refine ⟨a',w₃,hq,.head henter (Steps.trans hsteps ?_)⟩
      rw [hfin];exact harr
     ·exact h.elim
     ·exact h.elim
    ·exact h.elim
   ·simp only [hw,if_false,Bool.false_eq_true] at h
    obtain ⟨a',w',hq,harr⟩:=ih _ _ h
    have hs:=stepR_op_skip (P:=P) (b:=b) (a:=a) (k:=k) (cs:=cs) (w:=w) (ops:=ops) (i:=i) (rest:=l ++ rest)
     (by simp [ho];simpa using hw)
    simp only [ho,Option.bind_some] at hs
    exact ⟨a',w',hq,.head hs harr⟩
def RegR (P:Program) (id:Nat) (ops:Array Oper) (draw:Bool) (K:Act -> World -> Prop) (a:Act) (w:World):Prop:=
 ∀ (b:Frame) (k:List Item) (cs:List Frame),(b.roundOf = none \/ noDefer ops = true) ->
  ∃ a' w',K a' w' /\ Steps P (lone (b.atR a (.code (.region id ops draw) :: k)) cs w) (lone (b.atR a' k) cs w')
theorem regR_text {P:Program} {id:Nat} {ops:Array Oper} {K:Act -> World -> Prop} {a:Act} {w:World} (h:wpOps P ops (onlyN K) (List.range ops.size) a w):RegR P id ops false K a w:=by
 intro b k cs hb
 obtain ⟨a',w',h1,h2⟩:=opsR (k:=k) (cs:=cs) (rest:=[]) hb _ a w h
 rw [List.append_nil] at h2
 exact ⟨a',w',h1,.head stepR_region (Steps.trans h2 (.one stepR_region_end))⟩
theorem regR_any {P:Program} {id:Nat} {ops:Array Oper} {K:Act -> World -> Prop} {a:Act} {w:World} (hm:P.follows .mixedOrders = true)
  (h:wpAny P .any ops (onlyN K) ops.size (Array.replicate ops.size false) a { w with drawn:=w.drawn + 1 }):RegR P id ops true K a w:=by
 intro b k cs hb
 have h':wpOps P ops (onlyN K) (Region.schedule (P.follows .mixedOrders) ops (w.tape w.drawn (.order b.fn id))) a { w with drawn:=w.drawn + 1 }:=by
  simp only [Region.schedule,hm,Bool.true_or,if_true]
  exact wpAny_sound ops.size _ _ a _ h
 obtain ⟨a',w',h1,h2⟩:=opsR (k:=k) (cs:=cs) (rest:=[]) hb _ a _ h'
 rw [List.append_nil] at h2
 exact ⟨a',w',h1,.head stepR_region_draw (Steps.trans h2 (.one stepR_region_end))⟩
theorem RunSnd.after {M:Mach} {fi:Fi} {id:Nat} {ops:Array Oper} {draw:Bool} {k:List Item} {env:Vars} {L:Heap} {Q:AV -> Heap -> Prop}
  (h:∀ (S:St) (a:Act),HeapOk S -> S.L = L -> VRel S env a.tmps -> fi.n <= a.tmps.size -> RegR (M.P ()) id ops draw (fun a' w' => ∃ (S':St) (env':Vars),S'.w = w' /\ HeapOk S' /\ Ext S S' /\ RunSnd M fi k env' S'.L Q /\ VRel S' env' a'.tmps /\ a'.tmps.size = a.tmps.size /\ a'.defers = a.defers) a S.w) :
  RunSnd M fi (.code (.region id ops draw) :: k) env L Q:=by
 intro S b a cs fn h1 h2 h3 h4 h5 h6 h7 h8
 have ht:b.roundOf = none \/ (noDefer ops = true /\ tameL k = true):=h4.imp (fun h => h) fun h => by simpa [tameL,tameI,tameC] using h
 obtain ⟨a',w',⟨S',env',rfl,k1,k2,k3,k4,k5,k6⟩,hs⟩:=h S a h5 h6 h7 h8 b k cs (ht.imp (fun h => h) And.left)
 obtain ⟨a2,todo',Ds,w2,β',v,L',hq,g1,g2,m1,m2,m3,m4,m5,m6⟩:=k3 S' b a' cs fn h1 h2 h3 (ht.imp (fun h => h) And.right) k1 rfl k4 (by rw [k5];exact h8)
 rw [k2.base,k2.acc] at m5 m6
 exact ⟨a2,todo',Ds,w2,β',v,L',hq,g1,g2,Steps.trans hs m1,by rw [m2,k6],⟨m3.1,fun D hD => ⟨Nat.le_trans k2.below.size (m3.2 D hD).1,(m3.2 D hD).2⟩⟩,fun w'' hn => by obtain ⟨cv,z1,z2⟩:=m4 w'' hn;rw [k2.base,k2.acc] at z2;exact ⟨cv,z1,z2⟩,m5,k2.trans m6⟩
theorem run_eq_nil {P:Unit -> Program} {d:Nat} {T e:TypeId} (hu:(P ()).underlying T = some (.slice e)) (a:Option Addr) (c:Nat) (w:World) :
  (Op.equalIn (d + 1) T (.slice a 0 c) (.slice none 0 0)).run (P ()) w = .ok a.isNone w /\ (Op.equalIn (d + 1) T (.slice none 0 0) (.slice a 0 c)).run (P ()) w = .ok a.isNone w:=by
 constructor <;> cases a <;> simp [Op.equalIn,run_underlying hu]
theorem nilTest_runs {P:Unit -> Program} {env:Env} {o:Oper} {d:Nat} (h:nilTest P env o = some d) {S:St} {ρ:Operand -> Value} (hρ:∀ x,Rel S (ev env [] x) (ρ x)) :
  o.guard = none /\ o.dst = some d /\ ∃ b,(execOp ρ o).run (P ()) S.w = .ok (.value (.bool b)) S.w:=by
 unfold nilTest at h
 split at h
 ·rename_i d' op T x y yT hg hd ho
  have hx:=hρ x
  have hy:=hρ y
  have emp:∀ {f:Bool} {es:Nat} {v:Value},Rel S (.vec f es []) v -> ∃ a c,v = .slice a 0 c:=by
   intro f es v hv
   have:=rel_vec hv
   cases this with
   | vecE f es a cap _ => exact ⟨a,cap,rfl⟩
   | vec f es xs b off cap => exact ⟨_,_,rfl⟩
  refine ⟨hg,?_⟩
  have eqn':∀ {e:TypeId},(P ()).underlying T = some (.slice e) -> ∀ (a:Option Addr) (c:Nat),(Op.equalIn Op.maxDepth T (.slice a 0 c) (.slice none 0 0)).run (P ()) S.w = .ok a.isNone S.w /\ (Op.equalIn Op.maxDepth T (.slice none 0 0) (.slice a 0 c)).run (P ()) S.w = .ok a.isNone S.w:=
   fun hu a c => run_eq_nil (d:=Op.maxDepth - 1) hu a c S.w
  split at h
  ·rename_i e f es hu hvx hvy
   have eqn:=eqn' hu
   simp only [Option.some.injEq] at h;subst h
   rw [hvx] at hx;rw [hvy] at hy
   obtain ⟨a,c,ex⟩:=emp hx
   exact ⟨hd,a.isNone,by simp [execOp,ho,ex,rel_vnil hy,eqGuard,binOp,Op.equal,(eqn a c).1]⟩
  ·rename_i e f es hu hvx hvy
   have eqn:=eqn' hu
   simp only [Option.some.injEq] at h;subst h
   rw [hvx] at hx;rw [hvy] at hy
   obtain ⟨a,c,ey⟩:=emp hy
   exact ⟨hd,a.isNone,by simp [execOp,ho,ey,rel_vnil hx,eqGuard,binOp,Op.equal,(eqn a c).2]⟩
  ·rename_i e f es hu hvx hvy
   have eqn:=eqn' hu
   simp only [Option.some.injEq] at h;subst h
   rw [hvx] at hx;rw [hvy] at hy
   obtain ⟨a,c,ex⟩:=emp hx
   exact ⟨hd,!a.isNone,by simp [execOp,ho,ex,rel_vnil hy,eqGuard,binOp,Op.equal,(eqn a c).1]⟩
  ·rename_i e f es hu hvx hvy
   have eqn:=eqn' hu
   simp only [Option.some.injEq] at h;subst h
   rw [hvx] at hx;rw [hvy] at hy
   obtain ⟨a,c,ey⟩:=emp hy
   exact ⟨hd,!a.isNone,by simp [execOp,ho,ey,rel_vnil hx,eqGuard,binOp,Op.equal,(eqn a c).2]⟩
  ·simp at h
 ·simp at h
theorem rel_in {S:St} {a:AV} {v:Value} (h:Rel S a v):∀ r ∈ rowsA a,r < S.L.length:=by
 have lt:∀ {r:Nat} {row:Row},S.L[r]? = some row -> r < S.L.length:=fun h => (List.getElem?_eq_some_iff.1 h).1
 have all:∀ {cs:List AV} {vs:List Value},cs.length = vs.length -> (∀ (i:Nat) c v,cs[i]? = some c -> vs[i]? = some v -> ∀ r ∈ rowsA c,r < S.L.length) -> ∀ r ∈ rowsL cs,r < S.L.length:=by
  intro cs
  induction cs with
  | nil => intro vs _ _ r hr;simp [rowsL] at hr
  | cons c cs ih =>
   intro vs hl h r hr
   cases vs with
   | nil => simp at hl
   | cons u vs =>
    simp only [rowsL,List.mem_append] at hr
    rcases hr with hr | hr
    ·exact h 0 c u rfl rfl r hr
    ·exact ih (vs:=vs) (by simpa using hl) (fun i c v hc hv => h (i + 1) c v (by simpa using hc) (by simpa using hv)) r hr
 induction h with
 | any v => intro r hr;simp [rowsA] at hr
 | data a v h =>
  intro r hr
  have h1:=rowsA_ren (fun _ => S.L.length) a
  have h2:=dren h (fun _ => S.L.length)
  have h3:=dren h (fun _ => S.L.length + 1)
  have h4:=rowsA_ren (fun _ => S.L.length + 1) a
  rw [h2] at h1
  rw [h3,h1] at h4
  cases hra:rowsA a with
  | nil => rw [hra] at hr;simp at hr
  | cons q l => rw [hra] at h4;simp at h4
 | agg cs vs hl _ ih => exact all hl ih
 | tup cs vs hl _ ih => exact all hl ih
 | func fn a b va vb ha hb _ _ ih1 ih2 =>
  intro r hr
  simp only [rowsA,List.mem_append] at hr
  rcases hr with hr | hr
  ·exact all ha ih1 r hr
  ·exact all hb ih2 r hr
 | mapr r0 row info v _ _ h1 => intro r hr;simp only [rowsA,List.mem_singleton] at hr;subst hr;exact lt h1
 | ptr r0 ver i j row info v _ h1 => intro r hr;simp only [rowsA,List.mem_singleton] at hr;subst hr;exact lt h1
 | row r0 ver row info v _ h1 => intro r hr;simp only [rowsA,List.mem_singleton] at hr;subst hr;exact lt h1
 | ref r0 ver lo len row info v _ h1 => intro r hr;simp only [rowsA,List.mem_singleton] at hr;subst hr;exact lt h1
theorem refs_in {S:St} (hS:HeapOk S):∀ row ∈ S.L,∀ r ∈ rowRefs row,r < S.L.length:=by
 intro row hm r hr
 obtain ⟨q,hq⟩:=List.getElem?_of_mem hm
 have hlt:q < S.β.length:=by rw [<- hS.len];exact (List.getElem?_eq_some_iff.1 hq).1
 obtain ⟨info,hi⟩:∃ info,S.β[q]? = some info:=⟨_,List.getElem?_eq_getElem hlt⟩
 unfold rowRefs at hr
 cases hc:row.clean with
 | true => rw [hc] at hr;simp at hr
 | false =>
  rw [hc] at hr
  simp only [cond_false] at hr
  obtain ⟨i,x,h1,h2⟩:=rowsL_at hr
  have hcell:∃ (k:Nat) (c:AV),x.cells[k]? = some c /\ r ∈ rowsA c:=by
   cases x with
   | agg cs => exact rowsL_at h2
   | _ => exact ⟨0,_,rfl,h2⟩
  obtain ⟨k,c,h3,h4⟩:=hcell
  cases hmp:info.mp with
  | false =>
   obtain ⟨cv,_,hcr⟩:=row_cells hS hq hi hmp h1 k c h3
   exact rel_in hcr r h4
  | true =>
   obtain ⟨es,b1,b2,b3,b4⟩:=hS.maps q row info hq hi hmp
   have hil:i < es.size:=by have:=(List.getElem?_eq_some_iff.1 h1).1;omega
   obtain ⟨_,kk,n,v,rfl,_,_,g5,_⟩:=b4 i es[i] x (Array.getElem?_eq_getElem hil) h1
   match k with
   | 0 => simp [AV.cells] at h3;subst h3;simp [rowsA] at h4
   | 1 => simp [AV.cells] at h3;subst h3;exact rel_in g5 r h4
   | k + 2 => simp [AV.cells] at h3
theorem get_renV (f:Nat -> Nat) (env:Vars) (t:Nat):(renV f env).get t = renA f (env.get t):=by
 induction env with
 | nil => rfl
 | cons e env ih =>
  obtain ⟨k,v⟩:=e
  simp only [renV,List.map_cons,Vars.get]
  cases k == t with
  | true => rfl
  | false => exact ih
theorem rows_get {env:Vars} {t r:Nat} (h:r ∈ rowsA (env.get t)):r ∈ rowsL (env.map (·.2)):=by
 induction env with
 | nil => simp [Vars.get,rowsA] at h
 | cons e env ih =>
  obtain ⟨k,v⟩:=e
  simp only [Vars.get] at h
  simp only [List.map_cons,rowsL,List.mem_append]
  cases hk:k == t with
  | true => rw [hk] at h;exact .inl h
  | false => rw [hk] at h;exact .inr (ih h)
theorem getRows_take (l:List Row):∀ n,n <= l.length -> getRows l (List.range n) = some (l.take n):=by
 intro n hn
 have gen:∀ (k m:Nat),k + m <= l.length -> getRows l (List.range' k m) = some ((l.drop k).take m):=by
  intro k m
  induction m generalizing k with
  | zero => intro _;rfl
  | succ m ih =>
   intro h
   have hk:k < l.length:=by omega
   simp only [List.range'_succ,getRows,List.getElem?_eq_getElem hk,ih (k + 1) (by omega)]
   rw [List.drop_eq_getElem_cons hk];rfl
 have:=gen 0 n (by omega)
 rw [List.range_eq_range'];simpa using this
theorem getRows_drop (l:List Row) (n:Nat) (hn:n <= l.length):getRows l (List.range' n (l.length - n)) = some (l.drop n):=by
 have gen:∀ (k m:Nat),k + m <= l.length -> getRows l (List.range' k m) = some ((l.drop k).take m):=by
  intro k m
  induction m generalizing k with
  | zero => intro _;rfl
  | succ m ih =>
   intro h
   have hk:k < l.length:=by omega
   simp only [List.range'_succ,getRows,List.getElem?_eq_getElem hk,ih (k + 1) (by omega)]
   rw [List.drop_eq_getElem_cons hk];rfl
 rw [gen n _ (by omega),List.take_of_length_le (by simp)]
theorem posOf_range':∀ (m k i:Nat),k <= i -> i < k + m -> posOf (List.range' k m) i = i - k
 | 0,k,i,h1,h2 => by omega
 | m + 1,k,i,h1,h2 => by
  simp only [List.range'_succ,posOf]
  by_cases he:k = i
  ·subst he;simp
  ·have:(k == i) = false:=by simpa using he
   rw [this,posOf_range' m (k + 1) i (by omega) (by omega)]
   simp only [cond_false];omega
theorem DRel.recell {S S':St} (hL:S'.L = S.L) (hβ:S'.β = S.β) (ha:S'.acc = S.acc) (hc:∀ b off,S'.w.cell? ⟨b,off,none⟩ = S.w.cell? ⟨b,off,none⟩) {a:AV} {v:Value} (h:DRel S a v):DRel S' a v:=by
 have hi:∀ b off,Imm S b off -> Imm S' b off:=fun b off ⟨h1,h2⟩ => ⟨by rw [ha];exact h1,fun r info hr hb => by rw [hβ] at hr;rw [hL];exact h2 r info hr hb⟩
 induction h with
 | bool b => exact .bool b
 | int k n => exact .int k n
 | str s => exact .str s
 | flt s => exact .flt s
 | nilp => exact .nilp
 | nilf => exact .nilf
 | nilm => exact .nilm
 | agg cs vs hl _ ih => exact .agg cs vs hl ih
 | tup cs vs hl _ ih => exact .tup cs vs hl ih
 | func fn a b va vb ha hb _ _ ih1 ih2 => exact .func fn a b va vb ha hb ih1 ih2
 | eptr es xs i j b off ho hk _ ih => exact .eptr es xs i j b off ho (fun i x k c hx hk' => by obtain ⟨⟨cv,q1⟩,q2⟩:=hk i x k c hx hk';exact ⟨⟨cv,by rw [hc];exact q1⟩,hi _ _ q2⟩) (fun i x k c cv hx hk' hcv => ih i x k c cv hx hk' (by rw [<- hc];exact hcv))
 | vnil => exact .vnil
 | vecE f es a cap hf => exact .vecE f es a cap hf
 | vec f es xs b off cap ho hf hl hk _ ih => exact .vec f es xs b off cap ho hf hl (fun i x k c hx hk' => by obtain ⟨⟨cv,q1⟩,q2⟩:=hk i x k c hx hk';exact ⟨⟨cv,by rw [hc];exact q1⟩,hi _ _ q2⟩) (fun i x k c cv hx hk' hcv => ih i x k c cv hx hk' (by rw [<- hc];exact hcv))
theorem Rel.recell {S S':St} (hL:S'.L = S.L) (hβ:S'.β = S.β) (ha:S'.acc = S.acc) (hc:∀ b off,S'.w.cell? ⟨b,off,none⟩ = S.w.cell? ⟨b,off,none⟩) {a:AV} {v:Value} (h:Rel S a v):Rel S' a v:=by
 induction h with
 | any v => exact .any v
 | data a v h => exact .data a v (h.recell hL hβ ha hc)
 | agg cs vs hl _ ih => exact .agg cs vs hl ih
 | tup cs vs hl _ ih => exact .tup cs vs hl ih
 | func fn a b va vb ha hb _ _ ih1 ih2 => exact .func fn a b va vb ha hb ih1 ih2
 | mapr r row info v h0 h3 h1 h2 => exact .mapr r row info v h0 h3 (hL ▸ h1) (hβ ▸ h2)
 | ptr r ver i j row info v h0 h1 h2 h3 h4 => exact .ptr r ver i j row info v h0 (hL ▸ h1) (hβ ▸ h2) h3 h4
 | row r ver row info v h0 h1 h2 h3 h4 => exact .row r ver row info v h0 (hL ▸ h1) (hβ ▸ h2) h3 h4
 | ref r ver lo len row info v h0 h1 h2 h3 h4 => exact .ref r ver lo len row info v h0 (hL ▸ h1) (hβ ▸ h2) h3 h4
theorem other_blk {S:St} (hS:HeapOk S) {D:Nat} {o:Obj} (ho:S.w.heap[D]? = some o) (hk:isOther o = true):∀ (r:Nat) info,S.β[r]? = some info -> info.blk ≠ D:=by
 intro r info hi e
 have hlt:r < S.L.length:=by rw [hS.len];exact (List.getElem?_eq_some_iff.1 hi).1
 obtain ⟨row,hr⟩:∃ row,S.L[r]? = some row:=⟨_,List.getElem?_eq_getElem hlt⟩
 cases hmp:info.mp with
 | true =>
  obtain ⟨es,h1,_⟩:=hS.maps r row info hr hi hmp
  rw [e,ho] at h1;simp only [Option.some.injEq] at h1;subst h1;simp [isOther] at hk
 | false =>
  obtain ⟨_,_,cs,T,h1,_⟩:=hS.cells r row info hr hi hmp
  rw [e,ho] at h1;simp only [Option.some.injEq] at h1;subst h1;simp [isOther] at hk
theorem Rel.at {base:Nat} {acc:Nat -> Nat -> Prop} {L:Heap} {β:List BI} {w w':World} (hc:∀ b off,w'.cell? ⟨b,off,none⟩ = w.cell? ⟨b,off,none⟩) {a:AV} {v:Value} (h:Rel ⟨base,acc,L,β,w⟩ a v):Rel ⟨base,acc,L,β,w'⟩ a v:=
 Rel.recell (S:=⟨base,acc,L,β,w⟩) (S':=⟨base,acc,L,β,w'⟩) rfl rfl rfl hc h
theorem cell_other {w:World} {D:Nat} {o:Obj} (ho:w.heap[D]? = some o) (hk:isOther o = true) (off:Nat):w.cell? ⟨D,off,none⟩ = none:=by
 unfold World.cell?
 simp only [ho]
 cases o <;> first | rfl | (simp [isOther] at hk;done)
theorem cell_put {w:World} {D:Nat} {o o':Obj} (ho:w.heap[D]? = some o) (hk:isOther o = true) (hk':isOther o' = true) (b off:Nat):(w.putObj D o').cell? ⟨b,off,none⟩ = w.cell? ⟨b,off,none⟩:=by
 by_cases e:b = D
 ·subst e
  rw [cell_other ho hk,cell_other (World.putObj_heap_same (w:=w) (o:=o') (Array.getElem?_eq_some_iff.1 ho).1) hk']
 ·exact cell_of_heap (World.putObj_heap_other e)
theorem put_heap {S:St} (hS:HeapOk S) {D:Nat} {o o':Obj} (ho:S.w.heap[D]? = some o) (hk:isOther o = true) (hk':isOther o' = true) :
  HeapOk ⟨S.base,S.acc,S.L,S.β,S.w.putObj D o'⟩ /\ ∀ a v,Rel S a v -> Rel ⟨S.base,S.acc,S.L,S.β,S.w.putObj D o'⟩ a v:=by
 have hne:=other_blk hS ho hk
 have hcell:=cell_put ho hk hk'
 have hh:∀ b,b ≠ D -> (S.w.putObj D o').heap[b]? = S.w.heap[b]?:=fun b h => World.putObj_heap_other h
 have hrel:∀ a v,Rel S a v -> Rel ⟨S.base,S.acc,S.L,S.β,S.w.putObj D o'⟩ a v:=fun a v h => Rel.recell (S:=S) (S':=⟨S.base,S.acc,S.L,S.β,S.w.putObj D o'⟩) rfl rfl rfl hcell h
 have hdrel:∀ a v,DRel S a v -> DRel ⟨S.base,S.acc,S.L,S.β,S.w.putObj D o'⟩ a v:=fun a v h => DRel.recell (S:=S) (S':=⟨S.base,S.acc,S.L,S.β,S.w.putObj D o'⟩) rfl rfl rfl hcell h
 refine ⟨⟨by simpa using hS.base,hS.len,fun r info h => by simpa using hS.blk r info h,hS.inj,fun r row info h1 h2 h3 => ?_,fun r row info h1 h2 h3 => ?_,hS.elems,fun r row info i x k c cv h1 h2 h3 h4 h5 => ?_,fun r row info i x k c cv h1 h2 h0 h3 h4 h5 => ?_,hS.acq,fun b off h => hS.anew b off (by simpa using h)⟩,hrel⟩
 ·obtain ⟨es,q1,q2,q3,q4⟩:=hS.maps r row info h1 h2 h3
  refine ⟨es,(hh _ (hne r info h2)).trans q1,q2,q3,fun i e x he hx => ?_⟩
  obtain ⟨z1,kk,n,v,z2,z3,z4,z5,z6⟩:=q4 i e x he hx
  exact ⟨z1,kk,n,v,z2,z3,z4,hrel _ _ z5,fun hc => hdrel _ _ (z6 hc)⟩
 ·obtain ⟨q1,q2,cs,T,q3,q4⟩:=hS.cells r row info h1 h2 h3
  exact ⟨q1,q2,cs,T,(hh _ (hne r info h2)).trans q3,q4⟩
 ·exact hrel _ _ (hS.rel r row info i x k c cv h1 h2 h3 h4 (by rw [<- hcell];exact h5))
 ·exact hdrel _ _ (hS.clean r row info i x k c cv h1 h2 h0 h3 h4 (by rw [<- hcell];exact h5))
theorem put_ext {S0 S:St} {D:Nat} {o o':Obj} (ho:S.w.heap[D]? = some o) (hk:isOther o = true) (hk':isOther o' = true) (hD:S0.base <= S0.w.heap.size) (hD0:S0.w.heap.size <= D) (he:Ext S0 S):Ext S0 ⟨S.base,S.acc,S.L,S.β,S.w.putObj D o'⟩:=by
 have hcell:=cell_put ho hk hk'
 have hh:∀ b,b ≠ D -> (S.w.putObj D o').heap[b]? = S.w.heap[b]?:=fun b h => World.putObj_heap_other h
 refine ⟨he.base,he.acc,fun b off hi hlt => ?_,he.rows,?_,he.fresh,fun b h1 h2 h3 => (hh b (by omega)).trans (he.other b h1 h2 h3)⟩
 ·obtain ⟨q1,q2⟩:=he.imm b off hi hlt
  exact ⟨q1,(hcell b off).trans q2⟩
 ·have hb:=he.below
  exact ⟨hb.os,hb.tape,hb.output,by simpa using hb.size,fun k hk => (hh k (by omega)).trans (hb.block k hk)⟩
theorem near_cell {w w':World} (h:Near w w'):∀ b off,w'.cell? ⟨b,off,none⟩ = w.cell? ⟨b,off,none⟩:=by
 induction h with
 | refl => exact fun _ _ => rfl
 | put o' _ h1 h2 h3 ih => exact fun b off => (cell_put h1 h2 h3 b off).trans (ih b off)
theorem near_ok {base:Nat} {acc:Nat -> Nat -> Prop} {L:Heap} {β:List BI} {w w':World} (hn:Near w w'):HeapOk ⟨base,acc,L,β,w⟩ -> HeapOk ⟨base,acc,L,β,w'⟩:=by
 induction hn with
 | refl => exact fun h => h
 | put o' _ h1 h2 h3 ih => exact fun h => (put_heap (ih h) h1 h2 h3).1
theorem narrow_sound {M:Mach} {fi:Fi} {k:List Item} {env env':Vars} {L Lc:Heap} {Q:AV -> Heap -> Prop} {rs:List Nat} (hn:narrowIn L rs env = some (env',Lc))
  (ih:RunSnd M fi k env' Lc fun v L1 => Q (renA (backAt L.length rs) v) (backAll L rs L1)):RunSnd M fi k env L Q:=by
 unfold narrowIn at hn
 split at hn
 ·rename_i rows hrows
  split at hn
  ·rename_i hc
   simp only [Option.some.injEq,Prod.mk.injEq] at hn
   obtain ⟨rfl,rfl⟩:=hn
   simp only [Bool.and_eq_true,List.all_eq_true,List.contains_iff_mem] at hc
   obtain ⟨hnd,ha,hcl⟩:=hc
   have hnd:=(noDup_iff rs).1 hnd
   intro S b a cs fn h1 h2 h3 h4 h5 h6 h7 h8
   subst h6
   obtain ⟨hSc,_,hrelc⟩:=sub_ok h5 hrows hnd hcl
   obtain ⟨gl,_⟩:=getRows_spec hrows
   have hV:VRel ⟨S.base,accOf S rs,rows.map (renRow (posOf rs)),subβ S.β rs,S.w⟩ (renV (posOf rs) env) a.tmps:=by
    intro t
    rw [get_renV]
    exact hrelc _ _ (h7 t) fun r hr => ha r (rows_get hr)
   obtain ⟨a',todo',Ds,w',β',v,L1,hq,g1,g2,k1,k2,k3,k3',k4,k5⟩:=ih _ b a cs fn h1 h2 h3 h4 hSc rfl hV h8
   have hle:rs.length <= L1.length:=by
    by_cases hz:rs.length = 0
    ·omega
    ·have hlt:rs.length - 1 < (rows.map (renRow (posOf rs))).length:=by simp;omega
     have hβ:rs.length - 1 < (subβ S.β rs).length:=by simp [subβ];omega
     obtain ⟨row',info',q1,_⟩:=k5.rows (rs.length - 1) _ _ (List.getElem?_eq_getElem hlt) (List.getElem?_eq_getElem hβ)
     have:=(List.getElem?_eq_some_iff.1 q1).1
     simp only at this;omega
   let ns:=List.range' rs.length (L1.length - rs.length)
   have hmem:∀ i,i ∈ ns ↔ rs.length <= i /\ i < L1.length:=by
    intro i;simp only [ns,List.mem_range'_1];omega
   have hrefs:=refs_in k4
   obtain ⟨m1,m2,m3⟩:=back_ok (S1:=⟨S.base,accOf S rs,L1,β',w'⟩) (ns:=ns) (old:=L1.take rs.length) (new:=L1.drop rs.length) h5 hrows hnd hcl k4 k5 List.nodup_range' (fun i hi => ((hmem i).1 hi).1)
    (getRows_take L1 _ hle) (getRows_drop L1 _ hle) (fun row hr r hrr => by
     have hm:row ∈ L1:=by
      rcases List.mem_append.1 hr with h | h
      ·exact List.mem_of_mem_take h
      ·exact List.mem_of_mem_drop h
     have:=hrefs row hm r hrr
     by_cases hlt:r < rs.length
     ·exact .inl hlt
     ·exact .inr ((hmem r).2 ⟨by omega,this⟩))
   have heq:∀ r,r < L1.length -> backOf S.L.length rs ns r = backAt S.L.length rs r:=by
    intro r hr
    unfold backOf backAt
    cases hb:Nat.blt r rs.length with
    | true => rfl
    | false =>
     have hge:rs.length <= r:=by
      rcases Nat.lt_or_ge r rs.length with h | h
      ·rw [Nat.blt_eq.mpr h] at hb;simp at hb
      ·exact h
     simp only [cond_false,ns]
     rw [posOf_range' _ _ _ hge (by omega)]
   have hrow:∀ row ∈ L1,renRow (backOf S.L.length rs ns) row = renRow (backAt S.L.length rs) row:=by
    intro row hm
    unfold renRow
    cases hcr:row.clean with
    | true => rfl
    | false =>
     simp only [cond_false]
     rw [renL_ext _ fun r hr => heq r (hrefs row hm r (by unfold rowRefs;rw [hcr];exact hr))]
   have hLL:backL S.L rs ns (L1.take rs.length) (L1.drop rs.length) = backAll S.L rs L1:=by
    unfold backL backAll
    rw [List.map_congr_left fun row hm => hrow row (List.mem_of_mem_take hm),List.map_congr_left fun row hm => hrow row (List.mem_of_mem_drop hm)]
   rw [hLL] at m1 m2 m3
   refine ⟨a',todo',Ds,w',_,_,_,hq,g1,g2,k1,k2,k3,fun w'' hne => ?_,m1,m2⟩
   obtain ⟨cv,z1,z2⟩:=k3' w'' hne
   have hcell:=near_cell hne
   have k6:Rel ⟨S.base,accOf S rs,L1,β',w'⟩ v cv:=Rel.at (fun b off => (hcell b off).symm) z2
   have hin:=rel_in k6
   have m3':=m3 v cv k6 fun r hr => by
    have:=hin r hr
    by_cases hlt:r < rs.length
    ·exact .inl hlt
    ·exact .inr ((hmem r).2 ⟨by omega,this⟩)
   rw [renA_ext v fun r hr => heq r (hin r hr)] at m3'
   exact ⟨cv,z1,Rel.at hcell m3'⟩
  ·simp at hn
 ·simp at hn
theorem posOf_range {n i:Nat} (h:i < n):posOf (List.range n) i = i:=by
 rw [List.range_eq_range',posOf_range' n 0 i (Nat.zero_le _) (by omega)];rfl
theorem renRow_self {f:Nat -> Nat} {row:Row} (h:∀ r ∈ rowRefs row,f r = r):renRow f row = row:=by
 unfold renRow
 cases hc:row.clean with
 | true => rfl
 | false =>
  simp only [cond_false]
  rw [renL_ext (g:=fun r => r) row.elems (fun r hr => h r (by unfold rowRefs;rw [hc];exact hr)),renL_id,<- hc]
theorem renA_self {f:Nat -> Nat} {a:AV} (h:∀ r ∈ rowsA a,f r = r):renA f a = a:=by
 rw [renA_ext (g:=fun r => r) a h,renA_id]
theorem put_all {α:Type} (l xs:List α) (h:xs.length = l.length):putAt l (List.range l.length) xs = xs:=by
 apply List.ext_getElem?
 intro i
 by_cases hi:i < l.length
 ·rw [putAt_at (List.range l.length) l xs List.nodup_range i i xs[i] (by simp [hi]) (List.getElem?_eq_getElem (by omega)) hi,List.getElem?_eq_getElem (by omega)]
 ·rw [List.getElem?_eq_none (by rw [putAt_len];omega),List.getElem?_eq_none (by omega)]
theorem keepV_rel {S:St} {env:Vars} {tm:Array Value} (h:VRel S env tm) (ks:List Nat):VRel S (keepV ks env) tm:=by
 intro t
 have key:∀ ks:List Nat,Vars.get (keepV ks env) t = env.get t \/ Vars.get (keepV ks env) t = .any:=by
  intro ks
  induction ks with
  | nil => exact .inr rfl
  | cons x ks ih =>
   show (bif x == t then env.get x else Vars.get (keepV ks env) t) = _ \/ (bif x == t then env.get x else Vars.get (keepV ks env) t) = _
   cases hx:x == t with
   | true =>
    have:x = t:=by simpa using hx
    subst this;exact .inl rfl
   | false => exact ih
 rcases key ks with e | e
 ·rw [e];exact h t
 ·rw [e];exact .any _
theorem drop_sound {M:Mach} {f:FuncId} {args:List AV} {L:Heap} {v:AV} {K:Heap} (hk:keepOk L.length v K = true) (ih:OwnQ M f args L (KeepQ v K)):OwnQ M f args L (isR v K):=by
 unfold keepOk at hk
 simp only [Bool.and_eq_true,List.all_eq_true,Nat.blt_eq,Nat.beq_eq] at hk
 obtain ⟨hKl,hv,hK⟩:=hk
 intro S cargs h1 h2 h3
 subst h2
 have hrows:=getRows_all S.L
 have hnd:(List.range S.L.length).Nodup:=List.nodup_range
 have hin:=refs_in h1
 have hcl:∀ row ∈ S.L,∀ r ∈ rowRefs row,r ∈ List.range S.L.length:=fun row hr r hrr => by simpa using hin row hr r hrr
 obtain ⟨hSc,_,hrelc⟩:=sub_ok h1 hrows hnd hcl
 have hself:S.L.map (renRow (posOf (List.range S.L.length))) = S.L:=by
  have:S.L.map (renRow (posOf (List.range S.L.length))) = S.L.map id:=List.map_congr_left fun row hr => by
   rw [renRow_self fun r hrr => posOf_range (hin row hr r hrr)];rfl
  rw [this,List.map_id]
 have hrel':RelL ⟨S.base,accOf S (List.range S.L.length),S.L.map (renRow (posOf (List.range S.L.length))),subβ S.β (List.range S.L.length),S.w⟩ args cargs:=by
  refine ⟨h3.1,fun i c cv hc hcv => ?_⟩
  have hri:=rel_in (h3.2 i c cv hc hcv)
  have:=hrelc c cv (h3.2 i c cv hc hcv) fun r hr => by simpa using hri r hr
  rwa [renA_self fun r hr => posOf_range (hri r hr)] at this
 obtain ⟨m1,m2⟩:=ih _ cargs hSc hself hrel'
 refine ⟨m1,Calls.mono m2 fun e w' he => ?_⟩
 cases e with
 | panicked c => exact he.elim
 | outgrown => exact he.elim
 | returned cv =>
  obtain ⟨v',L1,β1,⟨rfl,hq⟩,n1,n2,n3⟩:=he
  rw [hKl] at hq
  have hlen:(List.range S.L.length).length = S.L.length:=List.length_range
  have hle:S.L.length <= L1.length:=by
   have:=congrArg List.length hq
   rw [List.length_take,hKl] at this
   omega
  have ho:getRows L1 (List.range (List.range S.L.length).length) = some K:=by
   rw [hlen,<- hq]
   have:=getRows_take L1 S.L.length hle
   rw [hq] at this ⊢
   exact this
  obtain ⟨k1,k2,k3⟩:=back_ok (S1:=⟨S.base,accOf S (List.range S.L.length),L1,β1,w'⟩) (ns:=[]) (new:=[]) h1 hrows hnd hcl n1 n2 List.nodup_nil (by simp) ho rfl
   (fun row hr r hrr => .inl (by rw [hlen];exact hK row (by simpa using hr) r hrr))
  have hb:∀ r,r < S.L.length -> backOf S.L.length (List.range S.L.length) [] r = r:=by
   intro r hr
   rw [back_lt (by rw [hlen];exact hr)];simp
  have hKK:backL S.L (List.range S.L.length) [] K [] = K:=by
   unfold backL
   rw [List.map_nil,List.append_nil]
   have:K.map (renRow (backOf S.L.length (List.range S.L.length) [])) = K.map id:=List.map_congr_left fun row hr => by
    rw [renRow_self fun r hrr => hb r (hK row hr r hrr)];rfl
   rw [this,List.map_id,put_all _ _ hKl]
  have k3':=k3 v' cv n3 fun r hr => .inl (by rw [hlen];exact hv r hr)
  rw [renA_self fun r hr => hb r (hv r hr)] at k3'
  rw [hKK] at k1 k2 k3'
  exact ⟨v',K,_,⟨rfl,rfl⟩,k1,k2,k3'⟩
theorem text_app {M:Mach} {call:Answer} {n:Nat} {ops:Array Oper} {ans:Nat -> Option Ans} {hot:Nat -> Nat} {Q:Exit -> Act -> World -> Prop} (l2:List Nat):∀ (l:List Nat) {s sf:RS} {S:St} {a:Act},runOps M.P M.inl call n ops ans hot l s = some sf ->
  (∀ b ∈ sf.asm,b = true) -> (∀ q ∈ sf.eqs,q) -> (∀ c ∈ sf.calls,c.cond = true -> CFSnd M c) ->
  HeapOk S -> S.L = s.L -> TRel S s.env a.tmps -> n <= a.tmps.size ->
  (∀ S' a',HeapOk S' -> Ext S S' -> S'.L = sf.L -> TRel S' sf.env a'.tmps -> a'.tmps.size = a.tmps.size -> a'.defers = a.defers -> wpOps (M.P ()) ops Q l2 a' S'.w) ->
  wpOps (M.P ()) ops Q (l ++ l2) a S.w
 | [],s,sf,S,a,h,_,_,_,hS,hL,hT,_,hK => by
  simp only [runOps,Option.some.injEq] at h;subst h
  exact hK S a hS (Ext.refl S) hL hT rfl rfl
 | i :: rest,s,sf,S,a,h,hA,hQ,hC,hS,hL,hT,hn,hK => by
  rw [List.cons_append,wpOps_cons]
  simp only [runOps] at h
  cases ho:ops[i]? with
  | none =>
   rw [ho] at h
   unfold wpOp
   simp only [ho]
   exact text_app l2 rest h hA hQ hC hS hL hT hn hK
  | some o =>
   rw [ho] at h
   simp only at h
   cases h1:runOp M.P M.inl call n ops (ans i) (hot i) o s with
   | none => rw [h1] at h;simp at h
   | some s1 =>
    rw [h1] at h
    simp only at h
    obtain ⟨env,L,x,y,z,rfl,_⟩:=runOps_adds _ h
    refine op_sound hS hL hT hn ho h1 (fun b hb => hA b (by simp [hb])) (fun b hb => hQ b (by simp [hb])) (fun b hb => hC b (by simp [hb])) fun S' a' k1 k2 k3 k4 k5 k6 => ?_
    exact text_app l2 rest h hA hQ hC k1 k3 k4 (by rw [k5];exact hn) fun S'' a'' m1 m2 m3 m4 m5 m6 => hK S'' a'' m1 (k2.trans m2) m3 m4 (m5.trans k5) (m6.trans k6)
theorem range_split {n i:Nat} (h:i < n):List.range n = List.range i ++ i :: (List.range n).drop (i + 1):=by
 have h1:List.range i = (List.range n).take i:=by rw [List.take_range,Nat.min_eq_left (by omega)]
 have h2:(List.range n).drop i = i :: (List.range n).drop (i + 1):=by
  have h3:i < (List.range n).length:=by simpa using h
  rw [List.drop_eq_getElem_cons h3];simp
 rw [h1,<- h2,List.take_append_drop]
theorem nil_sound {M:Mach} {fi:Fi} {id i:Nat} {ops:Array Oper} {k:List Item} {env:Vars} {L:Heap} {Q:AV -> Heap -> Prop} {keep:List Nat} {s:Bool -> RS}
  (hr:∀ b,nilRun M.P M.inl fi.n ops i env L b = some (s b)) (hA:∀ b,(∀ x ∈ (s b).asm,x = true) /\ (s b).eqs = [] /\ (s b).calls = [])
  (ih:∀ b,RunSnd M fi k (forget keep (s b).env) (s b).L Q):RunSnd M fi (.code (.region id ops false) :: k) env L Q:=by
 refine RunSnd.after fun S a h5 h6 h7 h8 => ?_
 refine regR_text ?_
 show wpOps (M.P ()) ops _ _ a S.w
 ·have h0:=hr true
  unfold nilRun at h0
  cases ho:ops[i]? with
  | none => simp [ho] at h0
  | some o =>
  cases hs1:runOps M.P M.inl (fun _ _ _ => none) fi.n ops (fun _ => none) (fun _ => 2) (List.range i) ⟨lift env,L,[],[],[]⟩ with
  | none => simp [hs1] at h0
  | some s1 =>
  simp only [ho,hs1] at h0
  cases hd:nilTest M.P s1.env o with
  | none => simp [hd] at h0
  | some d =>
  have hb:∀ t,∃ env1,putE fi.n (some d) [] (.bool t) s1.env = some env1 /\ runOps M.P M.inl (fun _ _ _ => none) fi.n ops (fun _ => none) (fun _ => 2) ((List.range ops.size).drop (i + 1)) ⟨env1,s1.L,s1.asm,s1.eqs,s1.calls⟩ = some (s t):=by
   intro t
   have ht:=hr t
   unfold nilRun at ht
   simp only [ho,hs1,hd] at ht
   split at ht
   ·rename_i env1 he;exact ⟨env1,he,ht⟩
   ·simp at ht
  have hin:(∀ x ∈ s1.asm,x = true) /\ s1.eqs = [] /\ s1.calls = []:=by
   obtain ⟨env1,_,ht⟩:=hb true
   obtain ⟨e2,L2,x,y,z,he,_⟩:=runOps_adds _ ht
   have:=hA true
   rw [he] at this
   simp only [List.append_eq_nil_iff] at this
   exact ⟨fun w hw => this.1 w (by simp [hw]),this.2.1.1,this.2.2.1⟩
  have hlt:i < ops.size:=(Array.getElem?_eq_some_iff.1 ho).1
  rw [range_split hlt]
  refine text_app _ (List.range i) hs1 hin.1 (by rw [hin.2.1];simp) (by rw [hin.2.2];simp) h5 h6 (lift_rel h7) h8 fun S' a' k1 k2 k3 k4 k5 k6 => ?_
  rw [wpOps_cons]
  have hρ:∀ x,Rel S' (ev s1.env [] x) (a'.eval x):=ev_rel k4 (by intro x hx;simp at hx)
  obtain ⟨n1,n2,t,n3⟩:=nilTest_runs hd (S:=S') hρ
  obtain ⟨env1,he,ht⟩:=hb t
  have hc:chainOf ops s1.env o = some (some []):=by unfold chainOf;rw [n1]
  obtain ⟨hco,hw⟩:=chainOf_yes k4 hc
  unfold wpOp
  simp only [ho]
  rw [hw]
  simp only [chainVal,if_true]
  left
  unfold Oper.wp
  rw [n3,Oper.upon_value,n2]
  have hput:=put_rel (cv:=.bool t) k4 (by rw [k5];exact h8) hco he (fun _ => .data _ _ (.bool t)) (fun h => by simp [chainVal] at h)
  obtain ⟨p1,p2,p3⟩:=hA t
  refine text_sound _ ht p1 (by rw [p2];simp) (by rw [p3];simp) k1 k3 hput (by rw [size_put,k5];exact h8) fun S'' a'' m1 m2 m3 m4 m5 m6 => ?_
  exact ⟨S'',forget keep (s t).env,rfl,m1,k2.trans m2,m3.symm ▸ ih t,forget_rel m4 keep,by rw [m5,size_put,k5],by rw [m6];simpa [Act.put] using k6⟩
theorem both_sound {M:Mach} (hm:(M.P ()).follows .mixedOrders = true) {fi:Fi} {id:Nat} {ops:Array Oper} {env:Vars} {L:Heap} {call:Answer} {ans:Nat -> Option Ans} {hot:Bool -> Nat -> Nat} {keep rs:List Nat} {p:Nat} {e1:Vars} {L1:Heap} {asl:List Bool} {qs:List Prop} {cl:List CF}
  (hd:∀ t,drawOk2 (hot t) ops p = true) (hr:∀ t,bothRun M.P M.inl call fi.n ops ans (hot t) keep rs p env L t = some (e1,L1,asl,qs,cl)) (hA:∀ b ∈ asl,b = true) (hQ:∀ q ∈ qs,q) (hC:∀ c ∈ cl,c.cond = true -> CFSnd M c)
  {S:St} {a:Act} (h5:HeapOk S) (h6:S.L = L) (h7:VRel S env a.tmps) (h8:fi.n <= a.tmps.size) :
  RegR (M.P ()) id ops true (fun a' w' => ∃ S':St,S'.w = w' /\ HeapOk S' /\ Ext S S' /\ S'.L = L1 /\ VRel S' e1 a'.tmps /\ a'.tmps.size = a.tmps.size /\ a'.defers = a.defers) a S.w:=by
 refine regR_any hm ?_
 obtain ⟨n1,n2⟩:=more_heap h5 (w':={ S.w with drawn:=S.w.drawn + 1 }) ⟨rfl,rfl,rfl,Nat.le_refl _,fun _ _ => rfl⟩ (fun _ _ => rfl)
 have hf:=hr false
 have ht:=hr true
 unfold bothRun at hf ht
 simp only at hf ht
 have hp1:p + 1 < ops.size:=by
  have hd:=hd false
  unfold drawOk2 at hd
  simp only [Bool.and_eq_true] at hd
  have:=hd.2.1
  cases h:ops[p + 1]? with
  | none => rw [h] at this;simp at this
  | some o => exact (Array.getElem?_eq_some_iff.1 h).1
 split at hf
 ·rename_i s1 hs1
  simp only [Option.some.injEq,Prod.mk.injEq] at hf
  obtain ⟨f1,f2,f3,f4,f5⟩:=hf
  split at ht
  ·rename_i s2 hs2
   split at ht
   ·rename_i e2 K hn hall
    simp only [Option.some.injEq,Prod.mk.injEq] at ht
    obtain ⟨g1,g2,g3,g4,g5⟩:=ht
    subst g1 g2
    have hclosed:∀ (j:Nat) (o:Oper),ops[j]? = some o -> (Array.replicate ops.size false).getD j false = true -> ∀ e ∈ o.after,Region.binds .any e = true -> (Array.replicate ops.size false).getD e.on false = true:=by
     intro j o _ hj
     by_cases hlt:j < ops.size <;> simp [hlt] at hj
    refine draw_two (hd false) (hd true) ops.size (Array.replicate ops.size false) (List.range ops.size) ((List.range ops.size).map (sw p)) (S:=⟨S.base,S.acc,S.L,S.β,{ S.w with drawn:=S.w.drawn + 1 }⟩)
     ⟨by simp,List.pairwise_lt_range,fun i => ?_,hclosed,hs1⟩ ⟨by simp,?_,fun i => ?_,hclosed,hs2⟩ (by simp) (by simp)
     (by rw [f3];exact hA) (by rw [f4];exact hQ) (by rw [f5];exact hC) (by rw [g3];exact hA) (by rw [g4];exact hQ) (by rw [g5];exact hC) n1 h6 ((lift_rel h7).mono n2) h8
     (fun S' a' k1 k2 k3 k4 k5 k6 => ⟨S',rfl,k1,n2.trans k2,k3.trans f2,f1 ▸ forget_rel k4 keep,k5,k6⟩)
     (fun S' a' k1 k2 k3 k4 k5 k6 => ?_)
    ·simp only [List.mem_range]
     constructor
     ·intro h;exact ⟨h,by simp [h]⟩
     ·intro h;exact h.1
    ·rw [List.pairwise_map]
     exact List.pairwise_lt_range.imp fun h => by rw [sw_sw,sw_sw];exact h
    ·simp only [List.mem_map,List.mem_range]
     constructor
     ·rintro ⟨j,h,rfl⟩
      have:=(sw_lt (i:=j) hp1).2 h
      exact ⟨this,by simp [this]⟩
     ·intro h;exact ⟨sw p i,(sw_lt hp1).2 h.1,sw_sw p i⟩
    ·unfold narrowIn at hn
     split at hn
     ·rename_i rows hrows
      split at hn
      ·rename_i hc
       simp only [Option.some.injEq,Prod.mk.injEq] at hn
       obtain ⟨rfl,rfl⟩:=hn
       simp only [Bool.and_eq_true,List.all_eq_true,List.contains_iff_mem] at hc
       obtain ⟨hnd,ha,hcl⟩:=hc
       have hnd:=(noDup_iff rs).1 hnd
       simp only [Bool.and_eq_true,List.all_eq_true,List.mem_range] at hall
       rw [<- k3] at hrows
       obtain ⟨p1,p2,p3⟩:=perm_ok k1 n1 k2 hrows hnd hcl (fun r hr => by
        have:=hall.2 r (by rw [<- h6];exact hr)
        cases h:rs[r]? with
        | none => rw [h] at this;simp at this
        | some q => rw [h] at this;simp only [Nat.beq_eq] at this;rw [this])
       refine ⟨⟨S'.base,S'.acc,rows.map (renRow (posOf rs)),subβ S'.β rs,S'.w⟩,rfl,p1,n2.trans p2,rfl,fun t => ?_,k5,k6⟩
       rw [get_renV]
       exact p3 _ _ (forget_rel k4 keep t) fun r hr => ha r (rows_get hr)
      ·simp at hn
     ·simp at hn
   ·simp at ht
  ·simp at ht
 ·simp at hf
theorem marks_out {P:Program} {S0:St}:∀ (Ds:List Nat) {S:St} {fr:Frame} {cs:List Frame},HeapOk S -> Ext S0 S -> S0.base <= S0.w.heap.size -> MarksOk S0.w.heap.size S.w Ds ->
  fr.mode = .returning -> fr.defers = Ds.map mkMark ->
  ∃ w',Steps P (lone fr cs S.w) (lone { fr with defers:=[] } cs w') /\ Near S.w w' /\ HeapOk ⟨S.base,S.acc,S.L,S.β,w'⟩ /\ Ext S0 ⟨S.base,S.acc,S.L,S.β,w'⟩
 | [],S,fr,cs,hS,he,_,_,h1,h2 => by
  have:({ fr with defers:=[] }:Frame) = fr:=by cases fr;simp at h2;subst h2;rfl
  rw [this]
  exact ⟨S.w,Steps.refl _ _,.refl _,hS,he⟩
 | D :: Ds,S,fr,cs,hS,he,hb,hm,h1,h2 => by
  obtain ⟨hnd,hD⟩:=hm
  obtain ⟨d1,d2⟩:=hD D (List.mem_cons_self ..)
  obtain ⟨p1,p3⟩:=put_heap (o':=.deferred none) hS d2 rfl rfl
  have p2:=put_ext (o':=.deferred none) d2 rfl rfl hb d1 he
  have hstep:=step_collected (P:=P) (fr:=fr) (cs:=cs) (w:=S.w) (d:=mkMark D) (r:=D) (ds:=Ds.map mkMark) (by rw [h1];simp) (by rw [h2];rfl) rfl (run_takeDeferred d2)
  obtain ⟨w',s1,s2,s3,s4⟩:=marks_out Ds (S:=⟨S.base,S.acc,S.L,S.β,S.w.putObj D (.deferred none)⟩) (fr:={ fr with defers:=[] ++ Ds.map mkMark }) (cs:=cs) p1 p2 hb
   ⟨(List.nodup_cons.1 hnd).2,fun D' h' => by
    obtain ⟨e1,e2⟩:=hD D' (List.mem_cons_of_mem _ h')
    have hne:D' ≠ D:=fun e => (List.nodup_cons.1 hnd).1 (e ▸ h')
    exact ⟨e1,(World.putObj_heap_other hne).trans e2⟩⟩ h1 rfl
  have near:∀ {w1 w2:World},Near w1 w2 -> ∀ {w0:World},Near w0 w1 -> Near w0 w2:=by
   intro w1 w2 h
   induction h with
   | refl => exact fun h => h
   | put o' _ q1 q2 q3 ih => exact fun h => .put o' (ih h) q1 q2 q3
  exact ⟨w',.head hstep s1,near s2 (.put _ (.refl _) d2 rfl rfl),s3,s4⟩
theorem own_of_run {M:Mach} {f:FuncId} {args:List AV} {L:Heap} {Q:AV -> Heap -> Prop} {fn:Func} {c:Code} (hf:(M.P ()).funcs[f]? = some fn) (hb:fn.body = some c) (hn:(fn.name == "runtime.NumGoroutine") = false)
  (ih:RunSnd M ⟨fn.ntmps,fn.results.toList⟩ [.code c] (argVars 0 args) L Q):OwnQ M f args L Q:=by
 intro S cargs hS hL hr
 refine ⟨call_runs hf hb hn,fun cs => ?_⟩
 let b:Frame:={ (default:Frame) with fn:=f,kind:=.normal,roundOf:=none }
 let a:Act:={ tmps:=⟨cargs⟩ ++ Array.replicate (fn.ntmps - (⟨cargs⟩:Array Value).size) undef,defers:=[] }
 have henter:Frame.enter (M.P ()) f ⟨cargs⟩ .normal = b.atR a [.code c]:=by
  simp [Frame.enter,Frame.atR,hf,hb,b,a]
 obtain ⟨a',todo',Ds,w',β',v,L',hq,g1,g2,k1,k2,k3,k4,k5,k6⟩:=ih S b a cs fn hf rfl rfl (.inl rfl) hS hL (enter_rel _ hr) (by simp [a];omega)
 have hout:step (M.P ()) (lone (b.atR a' todo') cs w') = .next (lone { b.atR a' todo' with mode:=.returning } cs w'):=by
  rcases g1 with rfl | ⟨k,rfl⟩
  ·exact stepR_end rfl
  ·exact stepR_ret rfl
 have hd:a'.defers = Ds.map mkMark:=by rw [k2];simp [a]
 obtain ⟨w2,s1,s2,s3,s4⟩:=marks_out (P:=M.P ()) (S0:=S) Ds (S:=⟨S.base,S.acc,L',β',w'⟩) (fr:={ b.atR a' todo' with mode:=.returning }) (cs:=cs) k5 k6 hS.base k3 rfl hd
 obtain ⟨cv,z1,z2⟩:=k4 w2 s2
 rw [<- henter] at k1
 exact ⟨.returned cv,w2,_,⟨v,L',β',hq,s3,s4,z2⟩,Steps.trans k1 (.head hout s1),rfl,rfl,rfl,rfl,fn,hf,z1⟩
theorem wp_sound {M:Mach} (hm:(M.P ()).follows .mixedOrders = true) {c:Conf} {Q:AV -> Heap -> Prop} (h:Wp M c Q):Means M c Q:=by
 induction h with
 | skip _ ih => exact RunSnd.step ih (fun h => by simpa [tameL,tameI,tameC] using h) fun b a cs S _ => stepR_skip
 | seq _ ih => exact RunSnd.step ih (fun h => by simp only [tameL,List.all_cons,tameI,tameC,Bool.and_eq_true] at h ⊢;exact ⟨h.1.1,h.1.2,h.2⟩) fun b a cs S _ => stepR_seq
 | @cond fi c x y k env L Q t ht _ ih =>
  refine RunSnd.step ih (fun h => ?_) fun b a cs S hV => ?_
  ·simp only [tameL,List.all_cons,tameI,tameC,Bool.and_eq_true] at h ⊢
   cases t with
   | true => exact ⟨h.1.1,h.2⟩
   | false => exact ⟨h.1.2,h.2⟩
  have:=vget_rel (a:=a) hV c
  rw [ht] at this
  have hc:=rel_bool this
  cases t with
  | true => exact stepR_cond (t:=true) hc
  | false => exact stepR_cond (t:=false) hc
 | block _ ih => exact RunSnd.step ih (fun h => by simpa [tameL,tameI,tameC] using h) fun b a cs S _ => stepR_block
 | inBlock _ ih => exact RunSnd.step ih (fun h => by simpa [tameL,tameI,tameC] using h) fun b a cs S _ => stepR_inBlock
 | loop _ ih => exact RunSnd.step ih (fun h => by simp only [tameL,List.all_cons,tameI,tameC,Bool.and_eq_true] at h ⊢;exact ⟨h.1,h.1,h.2⟩) fun b a cs S _ => stepR_loop
 | inLoop _ ih => exact RunSnd.step ih (fun h => by simp only [tameL,List.all_cons,tameI,tameC,Bool.and_eq_true] at h ⊢;exact ⟨h.1,h.1,h.2⟩) fun b a cs S _ => stepR_inLoop
 | exit he _ ih => exact RunSnd.step ih (fun h => tame_exit he (by simpa [tameL,tameI,tameC] using h)) fun b a cs S _ => stepR_exit he
 | @region fi id ops draw k env L Q0 call ans hot keep s hd hr hA hQ ho hp _ iho ihp ih =>
  have hC:∀ c ∈ s.calls,c.cond = true -> CFSnd M c:=by
   intro c hc hcc
   unfold CFSnd
   cases hown:c.own with
   | true => exact OwnQ.snd (iho c hc hcc hown)
   | false => exact PureR.snd (ihp c hc hcc hown)
  refine RunSnd.after fun S a h5 h6 h7 h8 => ?_
  cases draw with
  | false =>
   exact regR_text (text_sound _ hr hA hQ hC h5 h6 (lift_rel h7) h8 fun S' a' k1 k2 k3 k4 k5 k6 => ⟨S',_,rfl,k1,k2,k3.symm ▸ ih,forget_rel k4 keep,k5,k6⟩)
  | true =>
   refine regR_any hm ?_
   obtain ⟨n1,n2⟩:=more_heap h5 (w':={ S.w with drawn:=S.w.drawn + 1 }) ⟨rfl,rfl,rfl,Nat.le_refl _,fun _ _ => rfl⟩ (fun _ _ => rfl)
   refine draw_sound (hd rfl) ops.size (Array.replicate ops.size false) (List.range ops.size) (S:=⟨S.base,S.acc,S.L,S.β,{ S.w with drawn:=S.w.drawn + 1 }⟩) (by simp) List.pairwise_lt_range (fun i => ?_) (fun j o _ hj => ?_) (by simp) hr hA hQ hC n1 h6 ((lift_rel h7).mono n2) h8 fun S' a' k1 k2 k3 k4 k5 k6 => ⟨S',_,rfl,k1,n2.trans k2,k3.symm ▸ ih,forget_rel k4 keep,k5,k6⟩
   ·simp only [List.mem_range]
    constructor
    ·intro h;exact ⟨h,by simp [h]⟩
    ·intro h;exact h.1
   ·by_cases hlt:j < ops.size <;> simp [hlt] at hj
 | @both fi id ops k env L Q0 call ans hot keep rs p e1 L1 asl qs cl hd hr hA hQ ho hp _ iho ihp ih =>
  have hC:∀ c ∈ cl,c.cond = true -> CFSnd M c:=by
   intro c hc hcc
   unfold CFSnd
   cases hown:c.own with
   | true => exact OwnQ.snd (iho c hc hcc hown)
   | false => exact PureR.snd (ihp c hc hcc hown)
  refine RunSnd.after fun S a h5 h6 h7 h8 b k2 cs hb => ?_
  obtain ⟨a',w',⟨S',e0,n1,n2,n3,n4,n5,n6⟩,hs⟩:=both_sound hm hd hr hA hQ hC h5 h6 h7 h8 b k2 cs hb
  exact ⟨a',w',⟨S',e1,e0,n1,n2,n3.symm ▸ ih,n4,n5,n6⟩,hs⟩
 | @ret fi k env L v Q hf hq =>
  intro S b a cs fn h1 h2 h3 h4 h5 h6 h7 h8
  subst h6
  have hn:b.roundOf = none:=by
   rcases h4 with h | h
   ·exact h
   ·simp [tameL,tameI,tameC] at h
  exact ⟨a,_,[],S.w,S.β,v,_,hq,.inr ⟨k,rfl⟩,.inl hn,Steps.refl _ _,rfl,⟨.nil,by simp⟩,fun w'' hne => finish_sound (S:=⟨S.base,S.acc,S.L,S.β,w''⟩) (near_ok hne h5) (fun t => Rel.at (near_cell hne) (h7 t)) h2 hf,h5,Ext.refl S⟩
 | @done fi env L v Q hf hq =>
  intro S b a cs fn h1 h2 h3 h4 h5 h6 h7 h8
  subst h6
  exact ⟨a,_,[],S.w,S.β,v,_,hq,.inl rfl,.inr ⟨rfl,rfl⟩,Steps.refl _ _,rfl,⟨.nil,by simp⟩,fun w'' hne => finish_sound (S:=⟨S.base,S.acc,S.L,S.β,w''⟩) (near_ok hne h5) (fun t => Rel.at (near_cell hne) (h7 t)) h2 hf,h5,Ext.refl S⟩
 | @own f args L Q fn c hf hb hn _ ih => exact own_of_run hf hb hn ih
 | @pure f args Q _ ih =>
  intro base acc w cargs hb hac hr
  have hS:HeapOk ⟨base,acc,[],[],w⟩:=⟨hb,rfl,by simp,by simp,by simp,by simp,by simp,by simp,by simp,by simp,fun b off h => hac b off (Nat.le_trans hb h)⟩
  obtain ⟨k1,k2⟩:=ih ⟨base,acc,[],[],w⟩ cargs hS rfl hr
  refine ⟨k1,Calls.mono k2 fun e w' he => ?_⟩
  cases e with
  | returned cv =>
   obtain ⟨v,L',β',⟨d,d',hd,hv,hcl,hw,hq⟩,m1,m2,m3⟩:=he
   refine ⟨d',hq,m2.below,weak_rel hw (pure_rel (S:=⟨base,acc,L',β',w'⟩) (S':=⟨base,acc,[],[],w'⟩) m1 rfl (fun b off hi _ => ?_) v m3 hd hv fun r hr row info q1 q2 off _ _ => ?_)⟩
   ·exact ⟨hi.1,by simp⟩
   ·exact ⟨m1.acq r info off q2,by simp⟩
  | panicked c => exact he.elim
  | outgrown => exact he.elim
 | @narrow fi k env L Q rs env' Lc hn _ ih => exact narrow_sound hn ih
 | @drop f args L v K hk _ ih => exact drop_sound hk ih
 | @less fi k env L Q ks _ ih => exact fun S b a cs fn h1 h2 h3 h4 h5 h6 h7 h8 => ih S b a cs fn h1 h2 h3 h4 h5 h6 (keepV_rel h7 ks) h8
 | @nilq fi id ops k env L Q i keep s hr hA _ ih => exact nil_sound hr hA ih
 | sem h => exact h
 | @mono c Q Q' _ hq ih =>
  cases c with
  | run fi todo env L =>
   intro S b a cs fn h1 h2 h3 h4 h5 h6 h7 h8
   obtain ⟨a',todo',Ds,w',β',v,L',hqq,k⟩:=ih S b a cs fn h1 h2 h3 h4 h5 h6 h7 h8
   exact ⟨a',todo',Ds,w',β',v,L',hq v L' hqq,k⟩
  | own f args L =>
   intro S cargs h1 h2 h3
   obtain ⟨k1,k2⟩:=ih S cargs h1 h2 h3
   refine ⟨k1,Calls.mono k2 fun e w' he => ?_⟩
   cases e with
   | returned cv =>
    obtain ⟨v,L',β',hqq,m⟩:=he
    exact ⟨v,L',β',hq v L' hqq,m⟩
   | panicked c => exact he.elim
   | outgrown => exact he.elim
  | pure f args =>
   intro base acc w cargs h1 h2 h3
   obtain ⟨k1,k2⟩:=ih base acc w cargs h1 h2 h3
   refine ⟨k1,Calls.mono k2 fun e w' he => ?_⟩
   cases e with
   | returned cv =>
    obtain ⟨d,hqq,m⟩:=he
    exact ⟨d,hq d [] hqq,m⟩
   | panicked c => exact he.elim
   | outgrown => exact he.elim
 | @weak f args v d _ hw ih =>
  intro base acc w cargs hb hac hr
  obtain ⟨k1,k2⟩:=ih base acc w cargs hb hac hr
  refine ⟨k1,Calls.mono k2 fun e w' he => ?_⟩
  cases e with
  | returned cv =>
   obtain ⟨d0,⟨rfl,_⟩,m1,m2⟩:=he
   exact ⟨d,⟨rfl,rfl⟩,m1,weak_rel hw m2⟩
  | panicked c => exact he.elim
  | outgrown => exact he.elim
theorem ev_sound {M:Mach} (hm:(M.P ()).follows .mixedOrders = true) {f:FuncId} {args:List AV} {v:AV} (h:Ev M (.pure f args) v []):PureSnd M f args v:=
 PureR.snd (wp_sound hm h)
end Go.Av

namespace Go.Av
open Go.RowKit Go.WideShapes Go.ChangeShapes
def TyL (R:TypeId -> List AV -> Prop):List TypeId -> List AV -> Prop
 | [],cs => cs = []
 | t :: ts,cs => ∃ a b,cs = a ++ b /\ R t a /\ TyL R ts b
def aggT (P:Program) (t:TypeId):Bool:=
 match P.underlying t with
 | some (.struct _) | some (.array _ _) => true
 | _ => false
def packA (P:Program) (t:TypeId) (cs:List AV):AV:=if aggT P t = true then .agg cs else cs.headD .any
def Ty (P:Program):Nat -> TypeId -> List AV -> Prop
 | 0,_,_ => False
 | n + 1,t,cs =>
  match P.underlying t with
  | some .bool => ∃ b,cs = [.bool b]
  | some (.int k) => ∃ m,cs = [.int k m] /\ k.min <= m /\ m <= k.max
  | some .string => ∃ s,cs = [.str s] /\ s.length <= maxLen
  | some (.slice e) => ∃ xs,cs = [.vec false (P.cellsOf e) xs] /\ xs.length <= maxLen /\ ∀ x ∈ xs,∃ ys,Ty P n e ys /\ x = packA P e ys
  | some (.struct fs) => TyL (Ty P n) (fs.toList.map (·.type)) cs
  | some (.array m e) => TyL (Ty P n) (List.replicate m e) cs
  | _ => False
def laidFrom (P:Program):Nat -> List Field -> Nat -> Bool
 | off,[],n => off == n
 | off,f :: fs,n => f.offset == off && laidFrom P (off + P.cellsOf f.type) fs n
def served (P:Program):Nat -> TypeId -> Bool
 | 0,_ => false
 | n + 1,t =>
  match P.underlying t with
  | some .bool | some (.int _) | some .string => P.cellsOf t == 1
  | some (.slice e) => P.cellsOf t == 1 && served P n e && Nat.blt 0 (P.cellsOf e)
  | some (.struct fs) => (fs.toList.all fun f => served P n f.type) && laidFrom P 0 fs.toList (P.cellsOf t)
  | some (.array m e) => served P n e && P.cellsOf t == m * P.cellsOf e
  | _ => false
def S0 (w:World):St:=⟨w.heap.size,fun _ _ => True,[],[],w⟩
structure RelD (w:World) (axs:List AV) (cs:List Value):Prop where
 len:axs.length = cs.length
 plain:axs.all AV.plain = true
 rel:∀ (i:Nat) a c,axs[i]? = some a -> cs[i]? = some c -> DRel (S0 w) a c
theorem RelD.append {w:World} {axs bs:List AV} {cs ds:List Value} (h:RelD w axs cs) (k:RelD w bs ds):RelD w (axs ++ bs) (cs ++ ds):=by
 refine ⟨by simp [h.len,k.len],by simp [List.all_append,h.plain,k.plain],fun i a c ha hc => ?_⟩
 by_cases hi:i < axs.length
 ·rw [List.getElem?_append_left hi] at ha
  rw [List.getElem?_append_left (by rw [<- h.len];exact hi)] at hc
  exact h.rel i a c ha hc
 ·rw [List.getElem?_append_right (by omega)] at ha
  rw [List.getElem?_append_right (by have:=h.len;omega),<- h.len] at hc
  exact k.rel _ a c ha hc
theorem RelD.one {w:World} {a:AV} {c:Value} (hp:a.plain = true) (h:DRel (S0 w) a c):RelD w [a] [c]:=
 ⟨rfl,by simp [hp],fun i x y hx hy => by cases i with
  | zero => simp at hx hy;subst hx;subst hy;exact h
  | succ i => simp at hx⟩
theorem list_of {α:Type} {R:Nat -> α -> Prop}:∀ (n:Nat),(∀ i,i < n -> ∃ x,R i x) -> ∃ xs:List α,xs.length = n /\ ∀ (i:Nat) x,xs[i]? = some x -> R i x
 | 0,_ => ⟨[],rfl,by simp⟩
 | n + 1,h => by
  obtain ⟨xs,h1,h2⟩:=list_of n (fun i hi => h i (by omega))
  obtain ⟨x,hx⟩:=h n (by omega)
  refine ⟨xs ++ [x],by simp [h1],fun i y hy => ?_⟩
  by_cases hi:i < xs.length
  ·rw [List.getElem?_append_left hi] at hy;exact h2 i y hy
  ·rw [List.getElem?_append_right (by omega)] at hy
   have:i = n:=by
    have:=(List.getElem?_eq_some_iff.1 hy).1
    simp at this;omega
   subst this
   rw [h1] at hy
   simp at hy;subst hy;exact hx
section
variable {H:Type} {enc:TypeId × Value -> H} {P:Program} {w:World} {sp:Nat -> Bool} {held:Bool}
theorem read_parts {R:TypeId -> List AV -> Prop}:∀ (fs:List Field) (off:Nat) (cs:List Value),laidFrom P off fs cs.length = true ->
  (∀ f ∈ fs,∃ axs,R f.type axs /\ RelD w axs ((cs.drop f.offset).take (P.cellsOf f.type)) /\ ((cs.drop f.offset).take (P.cellsOf f.type)).length = P.cellsOf f.type) ->
  ∃ axs,TyL R (fs.map (·.type)) axs /\ RelD w axs (cs.drop off)
 | [],off,cs,hl,_ => by
  simp only [laidFrom,beq_iff_eq] at hl
  refine ⟨[],rfl,?_⟩
  rw [List.drop_eq_nil_of_le (by omega)]
  exact ⟨rfl,rfl,by simp⟩
 | f :: fs,off,cs,hl,h => by
  simp only [laidFrom,Bool.and_eq_true,beq_iff_eq] at hl
  obtain ⟨rfl,hl⟩:=hl
  obtain ⟨axs,h1,h2,h3⟩:=h f (List.mem_cons_self ..)
  obtain ⟨bs,k1,k2⟩:=read_parts fs _ cs hl (fun g hg => h g (List.mem_cons_of_mem _ hg))
  refine ⟨axs ++ bs,⟨axs,bs,rfl,h1,k1⟩,?_⟩
  have:=h2.append k2
  rwa [<- List.drop_drop,List.take_append_drop] at this
theorem read_same {R:TypeId -> List AV -> Prop} {e:TypeId} {z:Nat}:∀ (m:Nat) (cs:List Value),cs.length = m * z ->
  (∀ i,i < m -> ∃ axs,R e axs /\ RelD w axs ((cs.drop (i * z)).take z)) -> ∃ axs,TyL R (List.replicate m e) axs /\ RelD w axs cs
 | 0,cs,hl,_ => by
  have:cs = []:=List.length_eq_zero_iff.1 (by simpa using hl)
  subst this
  exact ⟨[],rfl,rfl,rfl,by simp⟩
 | m + 1,cs,hl,h => by
  obtain ⟨axs,h1,h2⟩:=h 0 (by omega)
  simp only [Nat.zero_mul,List.drop_zero] at h2
  obtain ⟨bs,k1,k2⟩:=read_same (R:=R) (e:=e) (z:=z) m (cs.drop z) (by simp [hl,Nat.add_mul]) fun i hi => by
   obtain ⟨axs,q1,q2⟩:=h (i + 1) (by omega)
   refine ⟨axs,q1,?_⟩
   rw [List.drop_drop]
   have:z + i * z = (i + 1) * z:=by rw [Nat.add_mul];omega
   rw [this];exact q2
  refine ⟨axs ++ bs,⟨axs,bs,rfl,h1,k1⟩,?_⟩
  have:=h2.append k2
  rwa [List.take_append_drop] at this
theorem read_cells:∀ (n:Nat) (t:TypeId) (cs:List Value) (x:DataW H × List MemPlace) (fuel:Nat),served P n t = true -> DataW.trod enc P w 0 sp held fuel t cs = some x ->
  ∃ axs,Ty P n t axs /\ RelD w axs cs /\ cs.length = P.cellsOf t
 | 0,t,cs,x,fuel,hs,_ => by simp [served] at hs
 | n + 1,t,cs,x,fuel,hs,hx => by
  unfold served at hs
  unfold Ty
  split at hs
  ·rename_i hu
   try simp only [hu]
   obtain ⟨b,rfl,_⟩:=DataW.trod_bool hu hx
   exact ⟨[.bool b],⟨b,rfl⟩,.one rfl (.bool b),by simp only [beq_iff_eq] at hs;exact hs.symm⟩
  ·rename_i k hu
   try simp only [hu]
   obtain ⟨m,rfl,_,hw⟩:=DataW.trod_int hu hx
   simp only [Lit.wf,Bool.and_eq_true,decide_eq_true_eq] at hw
   exact ⟨[.int k m],⟨m,rfl,hw.1,hw.2⟩,.one rfl (.int k m),by simp only [beq_iff_eq] at hs;exact hs.symm⟩
  ·rename_i hu
   try simp only [hu]
   obtain ⟨s,rfl,_,hw⟩:=DataW.trod_string hu hx
   obtain ⟨⟨l⟩⟩:=s
   exact ⟨[.str l],⟨l,rfl,hw⟩,.one rfl (.str l),by simp only [beq_iff_eq] at hs;exact hs.symm⟩
  ·rename_i e hu
   try simp only [hu]
   simp only [Bool.and_eq_true,beq_iff_eq,Nat.blt_eq] at hs
   obtain ⟨⟨hs1,hs2⟩,hs3⟩:=hs
   rcases DataW.trod_slice hu hx with ⟨rfl,_⟩ | ⟨a,len,cap,elems,rest,m,_,rfl,_,_,hlc,hcm,hel,hall,_,_⟩
   ·exact ⟨[.vec false (P.cellsOf e) []],⟨[],rfl,by simp,by simp⟩,.one rfl (.vecE _ _ _ _ (by simp)),hs1.symm⟩
   ·have hget:∀ i,i < len -> ∃ x:AV,∃ ys cs',Ty P n e ys /\ x = packA P e ys /\ RelD w ys cs' /\ cs'.length = P.cellsOf e /\ w.cells? 0 (a.add (i * P.cellsOf e)) (P.cellsOf e) = some cs':=by
     intro i hi
     have h1:=hall i hi
     rw [List.getElem?_eq_getElem (by omega)] at h1
     obtain ⟨cs',h2,h3⟩:=Option.bind_eq_some_iff.1 h1
     obtain ⟨ys,k1,k2,k3⟩:=read_cells n e cs' _ m hs2 h3
     exact ⟨_,ys,cs',k1,rfl,k2,k3,h2⟩
    obtain ⟨xs,hxl,hxs⟩:=list_of len hget
    have hpack:∀ {ys:List AV} {cs':List Value},Ty P n e ys -> RelD w ys cs' -> cs'.length = P.cellsOf e -> (packA P e ys).cells = ys:=by
     intro ys cs' hty hrd hl
     unfold packA
     split
     ·rfl
     ·rename_i hagg
      have h1:∃ y,ys = [y]:=by
       cases n with
       | zero => simp [served] at hs2
       | succ n =>
        unfold Ty at hty
        unfold aggT at hagg
        split at hty
        ·obtain ⟨b,rfl⟩:=hty;exact ⟨_,rfl⟩
        ·obtain ⟨b,rfl,_⟩:=hty;exact ⟨_,rfl⟩
        ·obtain ⟨b,rfl,_⟩:=hty;exact ⟨_,rfl⟩
        ·obtain ⟨b,rfl,_⟩:=hty;exact ⟨_,rfl⟩
        ·rename_i hu';simp [hu'] at hagg
        ·rename_i hu';simp [hu'] at hagg
        ·exact hty.elim
      obtain ⟨y,rfl⟩:=h1
      have:=hrd.plain
      simp only [List.all_cons,List.all_nil,Bool.and_true] at this
      simp only [List.headD_cons]
      cases y <;> first | rfl | simp [AV.plain] at this
    have hok:okElems (P.cellsOf e) xs:=by
     intro i x hix
     obtain ⟨ys,cs',k1,rfl,k3,k4,_⟩:=hxs i x hix
     rw [hpack k1 k3 k4]
     exact ⟨k3.len.trans k4,k3.plain⟩
    refine ⟨[.vec false (P.cellsOf e) xs],⟨xs,rfl,by omega,fun x hx => ?_⟩,.one rfl ?_,hs1.symm⟩
    ·obtain ⟨i,hi⟩:=List.getElem?_of_mem hx
     obtain ⟨ys,cs',k1,k2,_⟩:=hxs i x hi
     exact ⟨ys,k1,k2⟩
    ·subst hxl
     cases hxe:xs with
     | nil => exact .vecE _ _ _ _ (by simp)
     | cons x0 xs0 =>
      obtain ⟨b,off,spot⟩:=a
      have hlen0:0 < xs.length:=by rw [hxe];simp
      obtain ⟨ys0,cs0,_,_,_,z4,z5⟩:=hxs 0 xs[0] (List.getElem?_eq_getElem hlen0)
      obtain ⟨_,_,z6⟩:=World.cells?_some z5
      have z7:=z6 0 hs3
      rw [List.getElem?_eq_getElem (by omega)] at z7
      have hspot:spot = none:=by simpa [Addr.add] using World.cell?_spot z7
      subst hspot
      have hcell:∀ (i:Nat) x (k:Nat) c,xs[i]? = some x -> x.cells[k]? = some c -> ∃ cv,w.cell? ⟨b,off + i * P.cellsOf e + k,none⟩ = some cv /\ DRel (S0 w) c cv:=by
       intro i x k c hix hk
       obtain ⟨ys,cs',k1,rfl,k3,k4,k5⟩:=hxs i x hix
       rw [hpack k1 k3 k4] at hk
       obtain ⟨_,_,k6⟩:=World.cells?_some k5
       have hkl:k < ys.length:=(List.getElem?_eq_some_iff.1 hk).1
       have hkc:k < cs'.length:=by rw [<- k3.len];exact hkl
       have h1:=k6 k (by omega)
       rw [List.getElem?_eq_getElem hkc] at h1
       rw [addr_add,addr_add] at h1
       exact ⟨_,h1,k3.rel k c _ hk (List.getElem?_eq_getElem hkc)⟩
      rw [<- hxe]
      refine .vec false (P.cellsOf e) xs b off cap hok (by simp) hlc (fun i x k c hix hk => ?_) (fun i x k c cv hix hk hcv => ?_)
      ·obtain ⟨cv,h1,_⟩:=hcell i x k c hix hk
       exact ⟨⟨cv,h1⟩,⟨trivial,by simp [S0]⟩⟩
      ·obtain ⟨cv',h1,h2⟩:=hcell i x k c hix hk
       have:cv' = cv:=by
        have h3:w.cell? ⟨b,off + i * P.cellsOf e + k,none⟩ = some cv:=hcv
        rw [h1] at h3;exact Option.some.inj h3
       subst this;exact h2
  ·rename_i fs hu
   try simp only [hu]
   simp only [Bool.and_eq_true,List.all_eq_true] at hs
   obtain ⟨hs1,hs2⟩:=hs
   obtain ⟨xs,m,_,_,hl,hxl,hf⟩:=DataW.trod_struct hu hx
   obtain ⟨axs,k1,k2⟩:=read_parts (P:=P) (w:=w) (R:=Ty P n) fs.toList 0 cs (by rw [hl];exact hs2) fun f hfm => by
    obtain ⟨i,hi⟩:=List.getElem?_of_mem hfm
    have hi':fs[i]? = some f:=by simpa using hi
    have h1:=hf i f hi'
    have hilt:i < xs.length:=by rw [hxl];exact (Array.getElem?_eq_some_iff.1 hi').1
    rw [List.getElem?_eq_getElem hilt] at h1
    obtain ⟨axs,q1,q2,q3⟩:=read_cells n f.type _ _ m (hs1 f hfm) h1
    exact ⟨axs,q1,q2,q3⟩
   exact ⟨axs,k1,by simpa using k2,hl⟩
  ·rename_i m e hu
   try simp only [hu]
   simp only [Bool.and_eq_true,beq_iff_eq] at hs
   obtain ⟨hs1,hs2⟩:=hs
   obtain ⟨xs,q,_,_,hl,hxl,hf⟩:=DataW.trod_array hu hx
   obtain ⟨axs,k1,k2⟩:=read_same (w:=w) (R:=Ty P n) (e:=e) (z:=P.cellsOf e) m cs (by rw [hl,hs2]) fun i hi => by
    have h1:=hf i hi
    rw [List.getElem?_eq_getElem (by omega)] at h1
    obtain ⟨axs,q1,q2,_⟩:=read_cells n e _ _ q hs1 h1
    exact ⟨axs,q1,q2⟩
   exact ⟨axs,k1,k2,hl⟩
  ·simp at hs
theorem read_arg {n:Nat} {t:TypeId} {v:Value} {d:DataW H} {ps:List MemPlace} {r:Reach} {b0:Nat} (hs:served P n t = true) (hval:Value.okWide P w r b0 t v) (hd:DataW.Trod enc P w 0 sp held t v d ps) :
  ∃ axs,Ty P n t axs /\ DRel (S0 w) (packA P t axs) v:=by
 obtain ⟨fuel,hf⟩:=hd
 obtain ⟨axs,h1,h2,h3⟩:=read_cells n t _ _ fuel hs hf
 refine ⟨axs,h1,?_⟩
 unfold packA
 cases n with
 | zero => simp [served] at hs
 | succ n =>
  have one:v.cells = #[v] -> (∃ a,axs = [a]) -> DRel (S0 w) (axs.headD .any) v:=by
   rintro hc ⟨a,rfl⟩
   exact h2.rel 0 a v rfl (by rw [hc];rfl)
  unfold Ty at h1
  unfold aggT
  split at h1
  ·rename_i hu
   obtain ⟨b,rfl⟩:=h1
   obtain ⟨b',rfl⟩:=okWide_bool hu hval
   simp only [hu,Bool.false_eq_true,if_false]
   exact one rfl ⟨_,rfl⟩
  ·rename_i hu
   obtain ⟨b,rfl,_⟩:=h1
   obtain ⟨b',rfl⟩:=okWide_int hu hval
   simp only [hu,Bool.false_eq_true,if_false]
   exact one rfl ⟨_,rfl⟩
  ·rename_i hu
   obtain ⟨b,rfl,_⟩:=h1
   obtain ⟨b',rfl⟩:=okWide_string hu hval
   simp only [hu,Bool.false_eq_true,if_false]
   exact one rfl ⟨_,rfl⟩
  ·rename_i hu
   obtain ⟨b,rfl,_⟩:=h1
   obtain ⟨b1,b2,b3,rfl⟩:=okWide_slice hu hval
   simp only [hu,Bool.false_eq_true,if_false]
   exact one rfl ⟨_,rfl⟩
  ·rename_i fs hu
   obtain ⟨cs,rfl,_⟩:=okWide_struct hu hval
   simp only [hu,if_true]
   obtain ⟨cs⟩:=cs
   exact .agg axs cs h2.len h2.rel
  ·rename_i m e hu
   have:∃ cs,v = .agg cs:=by
    unfold Value.okWide at hval
    rw [hu] at hval
    obtain ⟨cs,rfl,_⟩:=hval
    exact ⟨cs,rfl⟩
   obtain ⟨⟨cs⟩,rfl⟩:=this
   simp only [hu,if_true]
   exact .agg axs cs h2.len h2.rel
  ·exact h1.elim
end
theorem ty_int {P:Program} {n:Nat} {t:TypeId} {k:IntKind} {cs:List AV} (hu:P.underlying t = some (.int k)) (h:Ty P (n + 1) t cs):∃ m,cs = [.int k m] /\ k.min <= m /\ m <= k.max:=by
 unfold Ty at h;rw [hu] at h;exact h
theorem ty_bool {P:Program} {n:Nat} {t:TypeId} {cs:List AV} (hu:P.underlying t = some .bool) (h:Ty P (n + 1) t cs):∃ b,cs = [.bool b]:=by
 unfold Ty at h;rw [hu] at h;exact h
end Go.Av

namespace Go.Av
open Go.RowKit Go.WideShapes Go.ChangeShapes
section
variable {H:Type} {enc:TypeId × Value -> H} {P:Program}
theorem all_stays (hl:laidOutB P = true) {W W':World} {sp:Nat -> Bool} (hb:Below W.heap.size W W'):∀ (ts:List TypeId) (vs:List Value) (ds:List (DataW H)) (ps:List MemPlace),
  (∀ t ∈ ts,P.readableRec t = true /\ t < P.types.size) -> (∀ x ∈ ps,x.block < W.heap.size) -> (∀ x ∈ ps,sp x.block = true) -> DataW.TrodAll enc P W 0 (fun _ => true) true ts vs ds ps -> DataW.TrodAll enc P W' 0 sp true ts vs ds ps
 | [],vs,ds,ps,_,_,_,h => by
  obtain ⟨rfl,rfl,rfl⟩:=trodAll_nil h
  rfl
 | t :: ts,vs,ds,ps,ht,hlt,hsp,h => by
  obtain ⟨v,vs,d,ds,p,q,rfl,rfl,rfl,h1,h2⟩:=trodAll_cons h
  obtain ⟨r1,r2⟩:=ht t (List.mem_cons_self ..)
  exact ⟨p,q,WideElems.Trod_stays hl r1 r2 h1 (fun x hx => hb.same (hlt x (by simp [hx]))) (fun x hx => hsp x (by simp [hx])),
   all_stays hl hb ts vs ds q (fun t ht' => ht t (List.mem_cons_of_mem _ ht')) (fun x hx => hlt x (by simp [hx])) (fun x hx => hsp x (by simp [hx])) h2,rfl⟩
theorem args_read {W:World} {n base:Nat}:∀ (ts:List TypeId) (vs:List Value) (ds:List (DataW H)) (ps:List MemPlace),(∀ t ∈ ts,served P n t = true) ->
  (∀ (j:Nat) t v,ts[j]? = some t -> vs[j]? = some v -> Value.okWide P W .any base t v) -> DataW.TrodAll enc P W 0 (fun _ => true) true ts vs ds ps ->
  ∃ ass:List (List AV),ass.length = ts.length /\ (∀ (j:Nat) t bs,ts[j]? = some t -> ass[j]? = some bs -> Ty P n t bs) /\ RelL (S0 W) ((ts.zip ass).map fun x => packA P x.1 x.2) vs /\ ds.length = ts.length
 | [],vs,ds,ps,_,_,h => by
  obtain ⟨rfl,rfl,rfl⟩:=trodAll_nil h
  exact ⟨[],rfl,by simp,.nil _,rfl⟩
 | t :: ts,vs,ds,ps,hs,hv,h => by
  obtain ⟨v,vs,d,ds,p,q,rfl,rfl,rfl,h1,h2⟩:=trodAll_cons h
  obtain ⟨bs,k1,k2⟩:=read_arg (hs t (List.mem_cons_self ..)) (hv 0 t v rfl rfl) h1
  obtain ⟨ass,m1,m2,m3,m4⟩:=args_read ts vs ds q (fun t ht => hs t (List.mem_cons_of_mem _ ht)) (fun j t v hj hv' => hv (j + 1) t v (by simpa using hj) (by simpa using hv')) h2
  refine ⟨bs :: ass,by simp [m1],fun j t' bs' hj ha => ?_,.cons (.data _ _ k2) m3,by simp [m4]⟩
  cases j with
  | zero => simp at hj ha;subst hj;subst ha;exact k1
  | succ j => exact m2 j t' bs' (by simpa using hj) (by simpa using ha)
theorem law_post {M:Mach} (hP:M.P () = P) (hm:P.follows .mixedOrders = true) (hl:laidOutB P = true) {f:FuncId} {F:Func} {s:ChangeSpec} {n:Nat} {tb:TypeId} (hvars:s.vars = []) (hrt:F.resultTypes = #[tb]) (htb:P.underlying tb = some .bool)
  (hserved:∀ t ∈ F.params.toList,served P n t = true /\ P.readableRec t = true /\ t < P.types.size)
  (hs:∀ (ds:List (DataW H)),ds.length = F.params.toList.length -> s.fn H ds = { results:=[.lit (.bool true)],args:=ds })
  (hev:∀ ass:List (List AV),ass.length = F.params.toList.length -> (∀ (j:Nat) t bs,F.params.toList[j]? = some t -> ass[j]? = some bs -> Ty P n t bs) ->
   Ev M (.pure f ((F.params.toList.zip ass).map fun x => packA P x.1 x.2)) (.bool true) [])
  {apart handsOn:Bool} {W:World} {base:Nat} {args:Array Value} {ds gs:List (DataW H)} {before:List MemPlace}
  (hval:∀ (j:Nat) t v,F.params[j]? = some t -> args[j]? = some v -> Value.okWide P W .any base t v) (hW:DataW.Whole enc P F.params.toList s.vars apart W args.toList ds gs before) :
  Calls P f args W fun e W' => ∃ v,e = .returned v /\ s.post enc P F apart true handsOn false W args v W':=by
 have hW':=hW
 obtain ⟨p,q,hA,hV,rfl,hfz,hnd⟩:=hW
 rw [hvars] at hV
 obtain ⟨rfl,rfl⟩:=trodVars_none hV
 obtain ⟨ass,k1,k2,k3,k4⟩:=args_read F.params.toList args.toList ds p (fun t ht => (hserved t ht).1) (fun j t v hj hv => hval j t v (by simpa using hj) (by simpa using hv)) hA
 have hlt:∀ x ∈ p,x.block < W.heap.size:=fun x hx => by simpa using hW'.lt x (by simpa using hx)
 obtain ⟨_,h2⟩:=(ev_sound (M:=M) (by rw [hP];exact hm) (hev ass k1 k2):PureSnd M f _ _) W.heap.size (fun _ _ => True) W args.toList (Nat.le_refl _) (fun _ _ _ => trivial) k3
 rw [hP] at h2
 refine Calls.mono h2 fun e W' he => ?_
 cases e with
 | returned cv =>
  obtain ⟨hb,hd⟩:=he
  cases hd
  have hpl:∀ x ∈ p,decide (x.block < W.heap.size) = true:=fun x hx => by simpa using hlt x hx
  refine ⟨_,rfl,ds,[],p ++ [],[],p,[],hW',?_,?_,?_,hb.frame _,fun h => by simp at h⟩
  ·rw [List.append_nil,hs ds k4,hrt]
   exact trodAll_mk1 (shut_bool htb true)
  ·rw [List.append_nil,hs ds k4]
   exact all_stays hl hb _ _ _ _ (fun t ht => (hserved t ht).2) hlt hpl hA
  ·rw [List.append_nil,hs ds k4,hvars];rfl
 | panicked c => exact he.elim
 | outgrown => exact he.elim
end
end Go.Av

namespace Go.Av
open Go.RowKit
def IterSnd (M:Mach) (it:FuncId) (A:AV) (xs:List (AV × AV)):Prop:=
 ∀ (l:Nat) (J:Nat -> St -> Prop),(∀ j T,J j T -> HeapOk T) -> (∀ j T T',J j T -> HeapOk T' -> Ext T T' -> T'.L = T.L -> J j T') ->
  (∀ j T v1 v2 (hj:j < xs.length),J j T -> Rel T (xs[j]).1 v1 -> Rel T (xs[j]).2 v2 -> ∃ fid tmps asg bd,(Instr.yield l #[v1,v2]).run (M.P ()) T.w = .ok (.round l fid tmps asg bd) T.w /\
   ∀ c cs,∃ T',J (j + 1) T' /\ (∀ a v,Rel T a v -> Rel T' a v) /\ Steps (M.P ()) (lone (Frame.round l fid tmps asg bd .normal) (c :: cs) T.w) (lone (c.finish (.bool true)) cs T'.w)) ->
  ∀ T cA,J 0 T -> Rel T A cA -> ∀ cs,∃ cv fr T',J xs.length T' /\ (∀ a v,Rel T a v -> Rel T' a v) /\
   Steps (M.P ()) (lone (Frame.enter (M.P ()) it #[.func (.yield l) #[] #[],cA] .normal) cs T.w) (lone fr cs T'.w) /\ fr.leaving (M.P ()) T'.w (.returned cv)
theorem ext_other {T T':St} (hT:HeapOk T) (he:Ext T T') {l:Nat} {o:Obj} (ho:T.w.heap[l]? = some o) (hk:isOther o = true) (hl:T.base <= l):T'.w.heap[l]? = some o:=
 (he.other l hl (Array.getElem?_eq_some_iff.1 ho).1 (other_blk hT ho hk)).trans ho
theorem vrel_mono {S S':St} (he:Ext S S') {env:Vars} {tm:Array Value} (h:VRel S env tm):VRel S' env tm:=fun t => (h t).mono he
theorem vrel_set {S:St} {env:Vars} {tm:Array Value} (h:VRel S env tm) {p:Nat} (hp:p < tm.size) {x:AV} {v:Value} (hx:Rel S x v):VRel S ((p,x) :: env) (tm.setIfInBounds p v):=by
 intro t
 simp only [Vars.get]
 by_cases e:p = t
 ·subst e
  have:(p == p) = true:=by simp
  rw [this]
  simpa [hp] using hx
 ·have:(p == t) = false:=by simpa using e
  rw [this]
  simpa [e] using h t
theorem fold_two {p0 p1:Tmp} {v1 v2:Value} (f:Array Value -> Tmp × Value -> Array Value) (a:Array Value):(#[p0,p1].zip #[v1,v2]).foldl f a = f (f a (p0,v1)) (p1,v2):=by
 have:(#[p0,p1].zip #[v1,v2]) = #[(p0,v1),(p1,v2)]:=by
  show [p0,p1].toArray.zip [v1,v2].toArray = _
  rw [List.zip_toArray];rfl
 rw [this];rfl
theorem range_sound {M:Mach} {fi:Fi} {g:Operand} {p0 p1:Tmp} {ida:Nat} {opsA:Array Oper} {body:Code} {k:List Item} {env:Vars} {L:Heap} {Q:AV -> Heap -> Prop} {it:FuncId} {A:AV} {xs:List (AV × AV)} {keepA:List Nat}
  (hg:evV env g = .func (.func it) [] [A]) (hit:∀ args w,(callFunc it args).run (M.P ()) w = .ok (.enter it args) w) (hI:IterSnd M it A xs) (hna:noDefer opsA = true) (hnb:tameC body = true) (hp0:p0 < fi.n) (hp1:p1 < fi.n)
  (Ls:Nat -> Heap) (h0:Ls 0 = L) (eA:Nat -> Env)
  (hasg:∀ j (hj:j < xs.length),runOps M.P M.inl (fun _ _ _ => none) fi.n opsA (fun _ => none) (fun _ => 2) (List.range opsA.size) ⟨lift ((p1,(xs[j]).2) :: (p0,(xs[j]).1) :: env),Ls j,[],[],[]⟩ = some ⟨eA j,Ls j,[],[],[]⟩)
  (hbody:∀ j,j < xs.length -> RunSnd M fi [.code body] (forget keepA (eA j)) (Ls j) (fun _ L' => L' = Ls (j + 1)))
  (hk:RunSnd M fi k env (Ls xs.length) Q):RunSnd M fi (.code (.rangeFunc g #[p0,p1] (.region ida opsA false) body) :: k) env L Q:=by
 intro S b a cs fn h1 h2 h3 h4 h5 h6 h7 h8
 have hb:b.roundOf = none:=by
  rcases h4 with h | h
  ·exact h
  ·simp [tameL,tameI,tameC] at h
 obtain ⟨R,hR⟩:∃ R:Loop,R = { state:=.ready,pending:=none,fn:=b.fn,tmps:=a.tmps,params:=#[p0,p1],assign:=.region ida opsA false,body,defers:=S.w.heap.size }:=⟨_,rfl⟩
 obtain ⟨B,hB⟩:∃ B:Loop,B = { R with state:=.busy }:=⟨_,rfl⟩
 obtain ⟨X,hX⟩:∃ X:Loop,X = { R with state:=.exhausted }:=⟨_,rfl⟩
 obtain ⟨W1,hW1⟩:∃ W1,(S.w.alloc (.deferred (some []))).alloc (.loop R) = W1:=⟨_,rfl⟩
 have hl1:W1.heap[S.w.heap.size + 1]? = some (.loop R):=by
  rw [<- hW1];have:=World.alloc_heap_new (S.w.alloc (.deferred (some []))) (.loop R);rwa [World.size_alloc] at this
 have hd1:W1.heap[S.w.heap.size]? = some (.deferred (some [])):=by
  rw [<- hW1];exact (Below.heap_alloc _ _ _ (by simp)).trans (World.alloc_heap_new S.w _)
 have hbelow:Below S.base S.w W1:=by
  rw [<- hW1];exact (((Below.refl _ S.w).alloc h5.base _).alloc (by simp;have:=h5.base;omega) _)
 have hsame:∀ q,q < S.w.heap.size -> W1.heap[q]? = S.w.heap[q]?:=fun q hq => by
  rw [<- hW1];exact (Below.heap_alloc _ _ q (by simp;omega)).trans (Below.heap_alloc _ _ q hq)
 obtain ⟨o1,e1⟩:=more_heap h5 hbelow hsame
 obtain ⟨cg,hcg⟩:∃ cg,a.eval g = cg:=⟨_,rfl⟩
 have hrg:=vget_rel (a:=a) h7 g
 rw [hg,hcg] at hrg
 obtain ⟨va,vb,rfl,l1,l2,r1,r2⟩:=rel_func hrg
 have hva:va = []:=List.length_eq_zero_iff.1 l1.symm
 subst hva
 obtain ⟨cA,rfl⟩:=List.length_eq_one_iff.1 l2.symm
 have hcA:Rel S A cA:=r2 0 A cA rfl rfl
 let J:Nat -> St -> Prop:=fun j T => HeapOk T /\ Ext S T /\ T.L = Ls j /\ T.w.heap[S.w.heap.size + 1]? = some (.loop R) /\ T.w.heap[S.w.heap.size]? = some (.deferred (some []))
 have hbase:∀ {T:St},Ext S T -> T.base <= S.w.heap.size:=fun he => by rw [he.base];exact h5.base
 have hJ:∀ j T T',J j T -> HeapOk T' -> Ext T T' -> T'.L = T.L -> J j T':=fun j T T' ⟨q1,q2,q3,q4,q5⟩ hT' he hL =>
  ⟨hT',q2.trans he,hL.trans q3,ext_other q1 he q4 rfl (by have:=hbase q2;omega),ext_other q1 he q5 rfl (hbase q2)⟩
 have hround:∀ j T v1 v2 (hj:j < xs.length),J j T -> Rel T (xs[j]).1 v1 -> Rel T (xs[j]).2 v2 -> ∃ fid tmps asg bd,(Instr.yield (S.w.heap.size + 1) #[v1,v2]).run (M.P ()) T.w = .ok (.round (S.w.heap.size + 1) fid tmps asg bd) T.w /\
   ∀ c cs,∃ T',J (j + 1) T' /\ (∀ a v,Rel T a v -> Rel T' a v) /\ Steps (M.P ()) (lone (Frame.round (S.w.heap.size + 1) fid tmps asg bd .normal) (c :: cs) T.w) (lone (c.finish (.bool true)) cs T'.w):=by
  intro j T v1 v2 hj ⟨q1,q2,q3,q4,q5⟩ hv1 hv2
  obtain ⟨tm,htm⟩:∃ tm:Array Value,tm = (a.tmps.setIfInBounds p0 v1).setIfInBounds p1 v2:=⟨_,rfl⟩
  have hy:(Instr.yield (S.w.heap.size + 1) #[v1,v2]).run (M.P ()) T.w = .ok (.round (S.w.heap.size + 1) b.fn tm (.region ida opsA false) body) T.w:=by
   have:=run_yield (P:=M.P ()) (args:=#[v1,v2]) q4 (by rw [hR];rfl)
   rw [hR] at this
   simp only [fold_two] at this
   rw [this,htm]
  refine ⟨b.fn,tm,.region ida opsA false,body,hy,fun c cs => ?_⟩
  have hV:VRel T ((p1,(xs[j]).2) :: (p0,(xs[j]).1) :: env) tm:=by
   rw [htm]
   exact vrel_set (vrel_set (vrel_mono q2 h7) (Nat.lt_of_lt_of_le hp0 h8) hv1) (by rw [Array.size_setIfInBounds];exact Nat.lt_of_lt_of_le hp1 h8) hv2
  let bR:Frame:={ (default:Frame) with fn:=b.fn,kind:=.normal,roundOf:=some (S.w.heap.size + 1) }
  have hfr:Frame.round (S.w.heap.size + 1) b.fn tm (.region ida opsA false) body .normal = bR.atR { tmps:=tm,defers:=[] } [.code (.region ida opsA false),.beginRound,.code body]:=by
   simp [Frame.round,Frame.atR,bR]
  have hsz:fi.n <= tm.size:=by rw [htm,Array.size_setIfInBounds,Array.size_setIfInBounds];exact h8
  rw [hfr]
  have hA:RegR (M.P ()) ida opsA false (fun a' w' => ∃ T2:St,T2.w = w' /\ HeapOk T2 /\ Ext T T2 /\ T2.L = Ls j /\ VRel T2 (forget keepA (eA j)) a'.tmps /\ a'.tmps.size = tm.size /\ a'.defers = []) { tmps:=tm,defers:=[] } T.w:=
   regR_text (text_sound _ (hasg j hj) (by simp) (by simp) (by simp) q1 q3 (lift_rel hV) hsz fun S' a' k1 k2 k3 k4 k5 k6 => ⟨S',rfl,k1,k2,k3,forget_rel k4 keepA,k5,k6⟩)
  obtain ⟨a2,_,⟨T2,rfl,u1,u2,u3,u4,u5,u6⟩,st1⟩:=hA bR [.beginRound,.code body] (c :: cs) (.inr hna)
  have hl2:=ext_other q1 u2 q4 rfl (by have:=hbase q2;omega)
  have hd2:=ext_other q1 u2 q5 rfl (hbase q2)
  have hbr:=run_beginRound (P:=M.P ()) hl2 (by rw [hR])
  rw [<- hB] at hbr
  obtain ⟨v1',v2'⟩:=put_heap (o':=.loop B) u1 hl2 rfl rfl
  have x3:Ext S ⟨T2.base,T2.acc,T2.L,T2.β,T2.w.putObj (S.w.heap.size + 1) (.loop B)⟩:=
   put_ext hl2 rfl rfl h5.base (by omega) (q2.trans u2)
  have hl3:(T2.w.putObj (S.w.heap.size + 1) (.loop B)).heap[S.w.heap.size + 1]? = some (.loop B):=World.putObj_heap_same (Array.getElem?_eq_some_iff.1 hl2).1
  have hd3:(T2.w.putObj (S.w.heap.size + 1) (.loop B)).heap[S.w.heap.size]? = some (.deferred (some [])):=(World.putObj_heap_other (by omega)).trans hd2
  obtain ⟨a4,todo4,Ds4,w4,β4,v4,L4,hq4,g1,g2,s4,d4,m4,r4,o4,x4⟩:=hbody j hj ⟨T2.base,T2.acc,T2.L,T2.β,T2.w.putObj (S.w.heap.size + 1) (.loop B)⟩ bR a2 (c :: cs) fn h1 h2 rfl
   (.inr (by simp [tameL,tameI,hnb])) v1' u3 (fun t => v2' _ _ (u4 t)) (by rw [u5];exact hsz)
  obtain ⟨rfl,rfl⟩:todo4 = [] /\ Ds4 = []:=by
   rcases g2 with g | g
   ·simp [bR] at g
   ·exact g
  subst hq4
  have hb3:T2.base <= S.w.heap.size:=hbase (q2.trans u2)
  have hl4:=ext_other v1' x4 hl3 rfl (by show T2.base <= _;omega)
  have hd4:=ext_other v1' x4 hd3 rfl hb3
  have her:=run_endRound (P:=M.P ()) none hl4
  have hrr:({ B with state:=if (none:Option Code).isNone then .ready else .done,pending:=none }:Loop) = R:=by rw [hB,hR];rfl
  rw [hrr] at her
  obtain ⟨y1,y2⟩:=put_heap (o':=.loop (R)) o4 hl4 rfl rfl
  have x5:=put_ext (o':=.loop (R)) hl4 rfl rfl h5.base (by omega) (x3.trans x4)
  refine ⟨_,⟨y1,x5,rfl,World.putObj_heap_same (Array.getElem?_eq_some_iff.1 hl4).1,(World.putObj_heap_other (by omega)).trans hd4⟩,fun a v h => y2 _ _ ((v2' _ _ (h.mono u2)).mono x4),?_⟩
  exact Steps.trans st1 (.head (stepR_beginRound rfl hbr) (Steps.trans s4 (.one (stepR_round_end rfl rfl her))))
 have hmono:∀ a v,Rel S a v -> Rel ⟨S.base,S.acc,S.L,S.β,W1⟩ a v:=fun a v h => h.mono e1
 obtain ⟨cv,fr,T,⟨q1,q2,q3,q4,q5⟩,t2,t3,t4⟩:=hI (S.w.heap.size + 1) J (fun j T h => h.1) hJ hround ⟨S.base,S.acc,S.L,S.β,W1⟩ cA ⟨o1,e1,h6.trans h0.symm,hl1,hd1⟩ (hmono _ _ hcA)
  (b.atR { a with defers:=[mkMark S.w.heap.size] ++ a.defers } (.inRangeFunc (S.w.heap.size + 1) :: k) :: cs)
 have he:=run_enterLoop_outer (P:=M.P ()) (w:=S.w) b.fn a.tmps #[p0,p1] (.region ida opsA false) body
 have hW1':(S.w.alloc (.deferred (some []))).alloc (.loop { state:=.ready,pending:=none,fn:=b.fn,tmps:=a.tmps,params:=#[p0,p1],assign:=.region ida opsA false,body,defers:=S.w.heap.size }) = W1:=by rw [<- hW1,hR]
 rw [hW1',<- hb] at he
 have henter:=stepR_rangeFunc (P:=M.P ()) (b:=b) (a:=a) (k:=k) (cs:=cs) (w:=S.w) (g:=g) (d:={ target:=.fn (.func it) #[cA],args:=#[.func (.yield (S.w.heap.size + 1)) #[] #[]] }) (w₁':=W1) (w₂:=W1) (f:=it) (args:=#[.func (.yield (S.w.heap.size + 1)) #[] #[]] ++ #[cA]) he
  (by simp only [resolve,rangeCall,hcg];simp [go_sem]) (by simp [invoke,go_sem,hit])
 have hend:=run_endLoop (P:=M.P ()) q4 (by rw [hR];simp)
 rw [<- hX,(show R.pending = none by rw [hR])] at hend
 obtain ⟨z1,z2⟩:=put_heap (o':=.loop X) q1 q4 rfl rfl
 have x6:=put_ext (o':=.loop X) q4 rfl rfl h5.base (by omega) q2
 have hd6:(T.w.putObj (S.w.heap.size + 1) (.loop X)).heap[S.w.heap.size]? = some (.deferred (some [])):=(World.putObj_heap_other (by omega)).trans q5
 have hb6:=hbase q2
 obtain ⟨a7,todo7,Ds7,w7,β7,v7,L7,hq7,g1,g2,s7,d7,m7,r7,o7,x7⟩:=hk ⟨T.base,T.acc,T.L,T.β,T.w.putObj (S.w.heap.size + 1) (.loop X)⟩ b { a with defers:=[mkMark S.w.heap.size] ++ a.defers } cs fn h1 h2 h3 (.inl hb) z1 q3
  (fun t => z2 _ _ ((h7 t).mono q2)) h8
 have hd7:=ext_other z1 x7 hd6 rfl hb6
 have hsz7:S.w.heap.size < (T.w.putObj (S.w.heap.size + 1) (.loop X)).heap.size:=(Array.getElem?_eq_some_iff.1 hd6).1
 have hb7:T.base = S.base:=q2.base
 have ha7:T.acc = S.acc:=q2.acc
 refine ⟨a7,todo7,Ds7 ++ [S.w.heap.size],w7,β7,v7,L7,hq7,g1,.inl hb,?_,by rw [d7];simp,⟨?_,fun D hD => ?_⟩,?_,?_,?_⟩
 ·refine .head henter (Steps.trans t3 (.head ?_ (.head (stepR_endRangeFunc hend) s7)))
  rw [<- finish_atR_inRangeFunc (S.w.heap.size + 1) cv]
  exact step_leave_returned t4
 ·rw [List.nodup_append]
  refine ⟨m7.1,by simp,fun x hx y hy => ?_⟩
  simp only [List.mem_singleton] at hy
  have:=(m7.2 x hx).1
  simp only at this
  omega
 ·rcases List.mem_append.1 hD with h | h
  ·obtain ⟨n1,n2⟩:=m7.2 D h
   simp only at n1
   exact ⟨by omega,n2⟩
  ·simp only [List.mem_singleton] at h;subst h
   exact ⟨Nat.le_refl _,hd7⟩
 ·intro w'' hn
  obtain ⟨cv',n1,n2⟩:=r7 w'' hn
  simp only [hb7,ha7] at n2
  exact ⟨cv',n1,n2⟩
 ·simpa only [hb7,ha7] using o7
 ·have:=x6.trans x7
  simpa only [hb7,ha7] using this
def bkX (X:List Int):List (AV × AV):=(List.range X.length).map fun j => (.int .i64 ((X.length - 1 - j:Nat):Int),.int .i64 (X.getD (X.length - 1 - j) 0))
inductive Rounds (M:Mach) (fi:Fi) (p0 p1:Tmp) (opsA:Array Oper) (body:Code) (env:Vars) (keepA:List Nat):List (AV × AV) -> Heap -> Heap -> Prop
 | nil (L:Heap):Rounds M fi p0 p1 opsA body env keepA [] L L
 | cons {x:AV × AV} {xs:List (AV × AV)} {L L1 L2:Heap} (e:Env):runOps M.P M.inl (fun _ _ _ => none) fi.n opsA (fun _ => none) (fun _ => 2) (List.range opsA.size) ⟨lift ((p1,x.2) :: (p0,x.1) :: env),L,[],[],[]⟩ = some ⟨e,L,[],[],[]⟩ ->
   RunSnd M fi [.code body] (forget keepA e) L (fun _ L' => L' = L1) -> Rounds M fi p0 p1 opsA body env keepA xs L1 L2 -> Rounds M fi p0 p1 opsA body env keepA (x :: xs) L L2
theorem Rounds.to {M:Mach} {fi:Fi} {p0 p1:Tmp} {opsA:Array Oper} {body:Code} {env:Vars} {keepA:List Nat} {xs:List (AV × AV)} {L L2:Heap} (h:Rounds M fi p0 p1 opsA body env keepA xs L L2) :
  ∃ (Ls:Nat -> Heap) (eA:Nat -> Env),Ls 0 = L /\ Ls xs.length = L2 /\
   (∀ j (hj:j < xs.length),runOps M.P M.inl (fun _ _ _ => none) fi.n opsA (fun _ => none) (fun _ => 2) (List.range opsA.size) ⟨lift ((p1,(xs[j]).2) :: (p0,(xs[j]).1) :: env),Ls j,[],[],[]⟩ = some ⟨eA j,Ls j,[],[],[]⟩) /\
   (∀ j,j < xs.length -> RunSnd M fi [.code body] (forget keepA (eA j)) (Ls j) (fun _ L' => L' = Ls (j + 1))):=by
 induction h with
 | nil L => exact ⟨fun _ => L,fun _ => [],rfl,rfl,fun j hj => absurd hj (Nat.not_lt_zero _),fun j hj => absurd hj (Nat.not_lt_zero _)⟩
 | @cons x xs L L1 L2 e h1 h2 _ ih =>
  obtain ⟨Ls,eA,g1,g2,g3,g4⟩:=ih
  refine ⟨fun j => match j with | 0 => L | j + 1 => Ls j,fun j => match j with | 0 => e | j + 1 => eA j,rfl,g2,fun j hj => ?_,fun j hj => ?_⟩
  ·cases j with
   | zero => exact h1
   | succ j => exact g3 j (by simpa using hj)
  ·cases j with
   | zero => subst g1;exact h2
   | succ j => exact g4 j (by simpa using hj)
theorem range_rounds {M:Mach} {fi:Fi} {g:Operand} {p0 p1:Tmp} {ida:Nat} {opsA:Array Oper} {body:Code} {k:List Item} {env:Vars} {L L2:Heap} {Q:AV -> Heap -> Prop} {it:FuncId} {A:AV} {xs:List (AV × AV)} {keepA:List Nat}
  (hg:evV env g = .func (.func it) [] [A]) (hit:∀ args w,(callFunc it args).run (M.P ()) w = .ok (.enter it args) w) (hI:IterSnd M it A xs) (hna:noDefer opsA = true) (hnb:tameC body = true) (hp0:p0 < fi.n) (hp1:p1 < fi.n)
  (hr:Rounds M fi p0 p1 opsA body env keepA xs L L2) (hk:RunSnd M fi k env L2 Q):RunSnd M fi (.code (.rangeFunc g #[p0,p1] (.region ida opsA false) body) :: k) env L Q:=by
 obtain ⟨Ls,eA,g1,g2,g3,g4⟩:=hr.to
 subst g2
 exact range_sound hg hit hI hna hnb hp0 hp1 Ls g1 eA g3 g4 hk
end Go.Av

namespace Go.Av
open Go.RowKit
def inserts (x:Nat):List Nat -> List (List Nat)
 | [] => [[x]]
 | y :: l => (x :: y :: l) :: (inserts x l).map (y :: ·)
def perms:List Nat -> List (List Nat)
 | [] => [[]]
 | x :: l => (perms l).flatMap (inserts x)
theorem inserts_mem {x:Nat}:∀ (s t:List Nat),s ++ x :: t ∈ inserts x (s ++ t)
 | [],[] => by simp [inserts]
 | [],y :: t => by simp [inserts]
 | y :: s,t => by
  simp only [List.cons_append,inserts]
  exact List.mem_cons_of_mem _ (List.mem_map.2 ⟨_,inserts_mem s t,rfl⟩)
theorem perms_mem:∀ (l:List Nat) {σ:List Nat},σ.Perm l -> σ ∈ perms l
 | [],σ,h => by rw [List.Perm.eq_nil h];simp [perms]
 | x :: l,σ,h => by
  obtain ⟨s,t,rfl⟩:=List.append_of_mem (h.mem_iff.2 (List.mem_cons_self ..))
  have:(s ++ t).Perm l:=List.Perm.cons_inv ((List.perm_middle (a:=x) (l₁:=s) (l₂:=t)).symm.trans h)
  exact List.mem_flatMap.2 ⟨_,perms_mem l this,inserts_mem s t⟩
def Ahead (l:List Nat) (i j:Nat):Prop:=posOf l i < posOf l j
structure OrdOk (ops:Array Oper) (C σ:List Nat) (hot:Nat -> Nat) (l:List Nat):Prop where
 edge:∀ (j:Nat) (o:Oper),ops[j]? = some o -> ∀ e ∈ o.after,Region.binds .any e = true -> e.on < j /\ ¬Ahead l j e.on
 swap:∀ i j a b,Ahead l i j -> ops[i]? = some a -> ops[j]? = some b -> (i ∈ C /\ j ∈ C /\ posOf σ i < posOf σ j) \/ maySwap hot ops i j a b = true \/ reach ops i ops.size j = true
section
variable {M:Mach} {call:Answer} {n:Nat} {ops:Array Oper} {ans:Nat -> Option Ans} {Q:Exit -> Act -> World -> Prop}
def Alts (M:Mach) (call:Answer) (n:Nat) (ops:Array Oper) (ans:Nat -> Option Ans) (Q:Exit -> Act -> World -> Prop) (C:List Nat) (hot:List Nat -> Nat -> Nat) (l:List Nat -> List Nat) (fuel:Nat) (listed:Array Bool) (s:RS) (S:St) (a:Act) (π:List Nat):Prop:=
 ∀ σ:List Nat,σ.Perm C -> π <+: σ -> ∃ rest f,Left M call n ops ans (hot σ) (Ahead (l σ)) listed rest s f /\ rest.length <= fuel /\
  (∀ b ∈ f.asm,b = true) /\ (∀ q ∈ f.eqs,q) /\ (∀ c ∈ f.calls,c.cond = true -> CFSnd M c) /\
  (∀ S' a',HeapOk S' -> Ext S S' -> S'.L = f.L -> TRel S' f.env a'.tmps -> a'.tmps.size = a.tmps.size -> a'.defers = a.defers -> Q .normal a' S'.w)
theorem draw_any {C:List Nat} {hot:List Nat -> Nat -> Nat} {l:List Nat -> List Nat} (hnd:C.Nodup) (hok:∀ σ:List Nat,σ.Perm C -> OrdOk ops C σ (hot σ) (l σ)) :
  ∀ (fuel:Nat) (listed:Array Bool) (s:RS) (S:St) (a:Act) (π:List Nat),(∃ σ:List Nat,σ.Perm C /\ π <+: σ) -> (∀ c ∈ C,c ∈ π ↔ listed.getD c false = true) -> Alts M call n ops ans Q C hot l fuel listed s S a π ->
  HeapOk S -> S.L = s.L -> TRel S s.env a.tmps -> n <= a.tmps.size -> wpAny (M.P ()) .any ops Q fuel listed a S.w:=by
 intro fuel
 induction fuel with
 | zero =>
  intro listed s S a π ⟨σ,p1,p2⟩ hC hA hS hL hT hn
  obtain ⟨rest,f,hl,hlen,_,_,_,hK⟩:=hA σ p1 p2
  have:rest = []:=List.length_eq_zero_iff.1 (Nat.le_zero.1 hlen)
  subst this
  have h:=hl.run
  simp only [runOps,Option.some.injEq] at h;subst h
  refine ⟨?_,hK S a hS (Ext.refl S) hL hT rfl rfl⟩
  apply List.eq_nil_iff_forall_not_mem.2
  intro j hj
  obtain ⟨h1,o,h2,_⟩:=mem_ready.1 hj
  have:=(hl.mem j).2 ⟨(Array.getElem?_eq_some_iff.1 h2).1,h1⟩
  cases this
 | succ fuel ih =>
  intro listed s S a π ⟨σ0,p1,p2⟩ hC hA hS hL hT hn
  refine ⟨fun hnil => ?_,fun j hj => ?_⟩
  ·obtain ⟨rest,f,hl,hlen,_,_,_,hK⟩:=hA σ0 p1 p2
   have:=hl.none (hok σ0 p1).edge hnil
   subst this
   have h:=hl.run
   simp only [runOps,Option.some.injEq] at h;subst h
   exact hK S a hS (Ext.refl S) hL hT rfl rfl
  ·obtain ⟨j1,oj0,j2,_⟩:=mem_ready.1 hj
   have hjs:j < ops.size:=(Array.getElem?_eq_some_iff.1 j2).1
   have hsz:listed.size = ops.size:=by
    obtain ⟨rest,f,hl,_⟩:=hA σ0 p1 p2
    exact hl.size
   obtain ⟨π',hπ',hpre,hex,hCj⟩:∃ π':List Nat,(j ∈ C -> π' = π ++ [j]) /\ (∀ σ:List Nat,π' <+: σ -> π <+: σ) /\ (∃ σ:List Nat,σ.Perm C /\ π' <+: σ) /\ (∀ c ∈ C,c ∈ π' ↔ (listed.setIfInBounds j true).getD c false = true):=by
    by_cases hjC:j ∈ C
    ·refine ⟨π ++ [j],fun _ => rfl,fun σ h => (List.prefix_append π [j]).trans h,?_,fun c hc => ?_⟩
     ·obtain ⟨τ,rfl⟩:=p2
      have hjn:j ∉ π:=fun h => by
       have:=(hC j hjC).1 h
       rw [getD_flip (by omega) false true] at this
       rw [j1] at this;cases this
      have hjt:j ∈ τ:=by
       rcases List.mem_append.1 (p1.mem_iff.2 hjC) with h | h
       ·exact absurd h hjn
       ·exact h
      refine ⟨π ++ [j] ++ τ.erase j,?_,List.prefix_append _ _⟩
      rw [List.append_assoc]
      exact ((List.perm_cons_erase hjt).symm.append_left π).trans p1
     ·by_cases e:j = c
      ·subst e
       simp [show j < listed.size by omega]
      ·rw [getD_set_ne false e,<- hC c hc]
       simp only [List.mem_append,List.mem_singleton]
       exact ⟨fun h => h.resolve_right fun h => e h.symm,.inl⟩
    ·refine ⟨π,fun h => absurd h hjC,fun σ h => h,⟨σ0,p1,p2⟩,fun c hc => ?_⟩
     rw [getD_set_ne false (fun e:j = c => hjC (by rw [e];exact hc)),<- hC c hc]
   have pick:∀ σ:List Nat,σ.Perm C -> π' <+: σ -> ∃ oj s1 f f' rest',ops[j]? = some oj /\ runOp M.P M.inl call n ops (ans j) (hot σ j) oj s = some s1 /\ Left M call n ops ans (hot σ) (Ahead (l σ)) (listed.setIfInBounds j true) rest' s1 f' /\ RSEq f f' /\ rest'.length <= fuel /\
     (∀ b ∈ f.asm,b = true) /\ (∀ q ∈ f.eqs,q) /\ (∀ c ∈ f.calls,c.cond = true -> CFSnd M c) /\
     (∀ S' a',HeapOk S' -> Ext S S' -> S'.L = f.L -> TRel S' f.env a'.tmps -> a'.tmps.size = a.tmps.size -> a'.defers = a.defers -> Q .normal a' S'.w):=by
    intro σ q1 q2
    obtain ⟨rest,f,hl,hlen,f1,f2,f3,f4⟩:=hA σ q1 (hpre σ q2)
    have hl2:Left M call n ops ans (hot σ) (fun i k => Ahead (l σ) i k /\ listed.getD i true = false) listed rest s f:=
     ⟨hl.size,hl.pw.imp_of_mem fun {x y} hx _ h => ⟨h,((hl.mem x).1 hx).2⟩,hl.mem,hl.closed,hl.run⟩
    obtain ⟨oj,s1,f',rest',g1,g2,g3,g4,g5⟩:=hl2.pick (fun i h => Nat.lt_irrefl _ h.1) hj fun i a b h hi hb => by
     rcases (hok σ q1).swap i j a b h.1 hi hb with ⟨c1,c2,c3⟩ | h
     ·exfalso
      rw [hπ' c2] at q2
      obtain ⟨τ,rfl⟩:=q2
      have hnd2:(π ++ [j] ++ τ).Nodup:=q1.nodup_iff.2 hnd
      have e1:posOf (π ++ [j] ++ τ) j = π.length:=posOf_at hnd2 (by simp)
      rw [e1] at c3
      have e2:=posOf_get (q1.mem_iff.2 c1)
      rw [List.append_assoc,List.getElem?_append_left (by rw [List.append_assoc] at c3;exact c3)] at e2
      have:=(hC i c1).1 (List.mem_of_getElem? e2)
      rw [getD_flip (by rw [hsz];exact (Array.getElem?_eq_some_iff.1 hi).1) false true,h.2] at this
      cases this
     ·exact h
    exact ⟨oj,s1,f,f',rest',g1,g2,⟨g3.size,g3.pw.imp fun h => h.1,g3.mem,g3.closed,g3.run⟩,g4,by omega,f1,f2,f3,f4⟩
   obtain ⟨σ1,r1,r2⟩:=hex
   obtain ⟨oj,s1,f,f',rest',hoj,h2,hl',k2,_,f1,f2,f3,_⟩:=pick σ1 r1 r2
   obtain ⟨env,L,x,y,z,he,_⟩:=runOps_adds _ hl'.run
   have hA':∀ b ∈ f'.asm,b = true:=fun b hb => f1 b ((k2.a b).2 hb)
   have hQ':∀ b ∈ f'.eqs,b:=fun b hb => f2 b ((k2.q b).2 hb)
   have hC':∀ c ∈ f'.calls,c.cond = true -> CFSnd M c:=fun b hb => f3 b ((k2.k b).2 hb)
   refine op_sound hS hL hT hn hoj h2 (fun b hb => hA' b (by rw [he];simp [hb])) (fun b hb => hQ' b (by rw [he];simp [hb])) (fun b hb => hC' b (by rw [he];simp [hb])) fun S' a' m1 m2 m3 m4 m5 m6 => ?_
   refine ih _ s1 S' a' π' ⟨σ1,r1,r2⟩ hCj (fun σ q1 q2 => ?_) m1 m3 m4 (by rw [m5];exact hn)
   obtain ⟨oj2,s2,g,g',rest2,hoj2,h22,hl2',kk2,hlen2,g1,g2,g3,g4⟩:=pick σ q1 q2
   rw [hoj] at hoj2;cases hoj2
   have:=runOp_hot h2 h22
   subst this
   exact ⟨rest2,g',hl2',hlen2,fun b hb => g1 b ((kk2.a b).2 hb),fun b hb => g2 b ((kk2.q b).2 hb),fun b hb => g3 b ((kk2.k b).2 hb),
    fun S'' a'' q1 q2 q3 q4 q5 q6 => g4 S'' a'' q1 (m2.trans q2) (q3.trans kk2.L.symm) (q4.congr fun t => (kk2.get t).symm) (q5.trans m5) (q6.trans m6)⟩
end
def ordOk (ops:Array Oper) (C σ:List Nat) (hot:Nat -> Nat) (l:List Nat):Bool:=
 (noDup l && (((List.range ops.size).all fun i => l.contains i) && l.all fun i => Nat.blt i ops.size)) &&
 ((List.range ops.size).all fun j => match ops[j]? with
  | some o => o.after.toList.all fun e => !Region.binds .any e || (Nat.blt e.on j && Nat.ble (posOf l e.on) (posOf l j))
  | none => true) &&
 ((List.range ops.size).all fun j => (List.range ops.size).all fun i => !Nat.blt (posOf l i) (posOf l j) || ((C.contains i && (C.contains j && Nat.blt (posOf σ i) (posOf σ j))) ||
  match ops[i]?,ops[j]? with
  | some a,some b => maySwap hot ops i j a b || reach ops i ops.size j
  | _,_ => true))
theorem ordOk_spec {ops:Array Oper} {C σ:List Nat} {hot:Nat -> Nat} {l:List Nat} (h:ordOk ops C σ hot l = true):OrdOk ops C σ hot l /\ l.Nodup /\ (∀ i,i ∈ l ↔ i < ops.size):=by
 unfold ordOk at h
 simp only [Bool.and_eq_true,List.all_eq_true,List.mem_range,List.contains_iff_mem,Nat.blt_eq] at h
 obtain ⟨⟨⟨h1,h2,h3⟩,h4⟩,h5⟩:=h
 have hnd:=(noDup_iff l).1 h1
 refine ⟨⟨fun j o ho e he hb => ?_,fun i j a b hij hi hj => ?_⟩,hnd,fun i => ⟨h3 i,fun hi => ?_⟩⟩
 ·have:=h4 j (Array.getElem?_eq_some_iff.1 ho).1
  rw [ho] at this
  have:=List.all_eq_true.1 this e (by simpa using he)
  rw [hb] at this
  simp only [Bool.not_true,Bool.false_or,Bool.and_eq_true,Nat.blt_eq,Nat.ble_eq] at this
  exact ⟨this.1,Nat.not_lt.2 this.2⟩
 ·have:=h5 j (Array.getElem?_eq_some_iff.1 hj).1 i (Array.getElem?_eq_some_iff.1 hi).1
  rw [hi,hj] at this
  simp only [Bool.or_eq_true,Bool.not_eq_true',Bool.and_eq_true,List.contains_iff_mem,Nat.blt_eq] at this
  rcases this with h | h | h
  ·have:=Nat.blt_eq.mpr hij
   rw [this] at h;cases h
  ·exact .inl ⟨h.1,h.2.1,h.2.2⟩
  ·exact .inr h
 ·exact h2 i hi
def ordRun (M:Mach) (call:Answer) (n:Nat) (ops:Array Oper) (ans:Nat -> Option Ans) (hot:Nat -> Nat) (keep C σ l rs:List Nat) (env:Vars) (L:Heap):Option (Vars × Heap × List Bool × List Prop × List CF):=
 match ordOk ops C σ hot l,runOps M.P M.inl call n ops ans hot l ⟨lift env,L,[],[],[]⟩ with
 | true,some s => match narrowIn s.L rs (forget keep s.env),Nat.beq rs.length s.L.length && (List.range L.length).all fun i => (match rs[i]? with | some r => Nat.beq r i | none => false) with
  | some (e,K),true => some (e,K,s.asm,s.eqs,s.calls)
  | _,_ => none
 | _,_ => none
theorem any_sound {M:Mach} (hm:(M.P ()).follows .mixedOrders = true) {fi:Fi} {id:Nat} {ops:Array Oper} {env:Vars} {L:Heap} {call:Answer} {ans:Nat -> Option Ans} {keep C:List Nat} {hot:List Nat -> Nat -> Nat} {l rs:List Nat -> List Nat} {e1:Vars} {L1:Heap} (hnd:C.Nodup)
  (h:∀ σ ∈ perms C,∃ asl qs cl,ordRun M call fi.n ops ans (hot σ) keep C σ (l σ) (rs σ) env L = some (e1,L1,asl,qs,cl) /\ (∀ b ∈ asl,b = true) /\ (∀ q ∈ qs,q) /\ (∀ c ∈ cl,c.cond = true -> CFSnd M c))
  {S:St} {a:Act} (h5:HeapOk S) (h6:S.L = L) (h7:VRel S env a.tmps) (h8:fi.n <= a.tmps.size) :
  RegR (M.P ()) id ops true (fun a' w' => ∃ S':St,S'.w = w' /\ HeapOk S' /\ Ext S S' /\ S'.L = L1 /\ VRel S' e1 a'.tmps /\ a'.tmps.size = a.tmps.size /\ a'.defers = a.defers) a S.w:=by
 refine regR_any hm ?_
 obtain ⟨n1,n2⟩:=more_heap h5 (w':={ S.w with drawn:=S.w.drawn + 1 }) ⟨rfl,rfl,rfl,Nat.le_refl _,fun _ _ => rfl⟩ (fun _ _ => rfl)
 have key:∀ σ:List Nat,σ.Perm C -> ∃ s asl qs cl,ordOk ops C σ (hot σ) (l σ) = true /\ runOps M.P M.inl call fi.n ops ans (hot σ) (l σ) ⟨lift env,L,[],[],[]⟩ = some s /\ narrowIn s.L (rs σ) (forget keep s.env) = some (e1,L1) /\
   (∀ r,r < L.length -> (rs σ)[r]? = some r) /\ (∀ b ∈ s.asm,b = true) /\ (∀ q ∈ s.eqs,q) /\ (∀ c ∈ s.calls,c.cond = true -> CFSnd M c) /\ asl = s.asm /\ qs = s.eqs /\ cl = s.calls:=by
  intro σ hσ
  obtain ⟨asl,qs,cl,hr,h1,h2,h3⟩:=h σ (perms_mem C hσ)
  unfold ordRun at hr
  split at hr
  ·rename_i s ho hs
   split at hr
   ·rename_i e K hn hall
    simp only [Option.some.injEq,Prod.mk.injEq] at hr
    obtain ⟨rfl,rfl,rfl,rfl,rfl⟩:=hr
    simp only [Bool.and_eq_true,List.all_eq_true,List.mem_range] at hall
    refine ⟨s,_,_,_,ho,hs,hn,fun r hr => ?_,h1,h2,h3,rfl,rfl,rfl⟩
    have:=hall.2 r hr
    cases h:(rs σ)[r]? with
    | none => rw [h] at this;simp at this
    | some q => rw [h] at this;simp only [Nat.beq_eq] at this;rw [this]
   ·simp at hr
  ·simp at hr
 refine draw_any (call:=call) (ans:=ans) (C:=C) (hot:=hot) (l:=l) hnd (fun σ hσ => ?_) ops.size (Array.replicate ops.size false) ⟨lift env,L,[],[],[]⟩ ⟨S.base,S.acc,S.L,S.β,{ S.w with drawn:=S.w.drawn + 1 }⟩ a [] ⟨C,.refl _,List.nil_prefix⟩ (fun c hc => ?_) (fun σ hσ _ => ?_) n1 h6 ((lift_rel h7).mono n2) h8
 ·obtain ⟨s,_,_,_,ho,_⟩:=key σ hσ
  exact (ordOk_spec ho).1
 ·constructor
  ·intro h;cases h
  ·intro h
   by_cases hlt:c < ops.size <;> simp [hlt] at h
 ·obtain ⟨s,_,_,_,ho,hs,hn,hid,a1,a2,a3,_⟩:=key σ hσ
  obtain ⟨_,hndl,hmem⟩:=ordOk_spec ho
  refine ⟨l σ,s,⟨by simp,?_,fun i => ?_,fun j o _ hj => ?_,hs⟩,?_,a1,a2,a3,fun S' a' k1 k2 k3 k4 k5 k6 => ?_⟩
  ·refine List.pairwise_iff_getElem.2 fun i j hi hj hij => ?_
   show posOf _ _ < posOf _ _
   rw [posOf_at hndl (List.getElem?_eq_getElem hi),posOf_at hndl (List.getElem?_eq_getElem hj)]
   exact hij
  ·rw [hmem]
   constructor
   ·intro h;exact ⟨h,by simp [h]⟩
   ·intro h;exact h.1
  ·by_cases hlt:j < ops.size <;> simp [hlt] at hj
  ·have hp:(l σ).Perm (List.range ops.size):=(List.perm_ext_iff_of_nodup hndl List.nodup_range).2 fun i => by rw [hmem,List.mem_range]
   rw [hp.length_eq];simp
  ·unfold narrowIn at hn
   split at hn
   ·rename_i rows hrows
    split at hn
    ·rename_i hc
     simp only [Option.some.injEq,Prod.mk.injEq] at hn
     obtain ⟨rfl,rfl⟩:=hn
     simp only [Bool.and_eq_true,List.all_eq_true,List.contains_iff_mem] at hc
     obtain ⟨hnd',ha,hcl⟩:=hc
     have hnd':=(noDup_iff (rs σ)).1 hnd'
     rw [<- k3] at hrows
     obtain ⟨p1,p2,p3⟩:=perm_ok k1 n1 k2 hrows hnd' hcl (fun r hr => hid r (by rw [<- h6];exact hr))
     refine ⟨⟨S'.base,S'.acc,rows.map (renRow (posOf (rs σ))),subβ S'.β (rs σ),S'.w⟩,rfl,p1,n2.trans p2,rfl,fun t => ?_,k5,k6⟩
     rw [get_renV]
     exact p3 _ _ (forget_rel k4 keep t) fun r hr => ha r (rows_get hr)
    ·simp at hn
   ·simp at hn
end Go.Av

namespace Go.Av
def PureQ (d:AV):AV -> Heap -> Prop:=fun v L => ∃ d0,pureA L v = some d0 /\ allB (versA L v) /\ d0.clean = true /\ Weak d0 d
theorem pq_weak {L:Heap} {v d dq:AV} {bs:List Bool} (h1:pureA L v = some d) (h2:versA L v = bs) (h3:allB bs) (h4:d.clean = true) (h:Weak d dq):PureQ dq v L:=⟨d,h1,by rw [h2];exact h3,h4,h⟩
theorem pure_pq {M:Mach} {f:FuncId} {args:List AV} {d:AV} (fn:Func) (fi:Fi) (hf:(M.P ()).funcs[f]? = some fn) (hb:fn.body = some (cd fn)) (hn:(fn.name == "runtime.NumGoroutine") = false)
  (hi:(⟨fn.ntmps,fn.results.toList⟩:Fi) = fi) (h:Wp M (.run fi [.code (cd fn)] (argVars 0 args) []) (PureQ d)):Ev M (.pure f args) d []:=
 .pure (.mono (own_wp fn fi hf hb hn hi h) fun _ _ ⟨d0,h1,h2,h3,h4⟩ => ⟨d0,d,h1,(allB_iff _).1 h2,h3,h4,rfl,rfl⟩)
mutual
theorem clean_ren (f:Nat -> Nat):∀ (a:AV),a.clean = true -> renA f a = a
 | .any,h => by simp [AV.clean] at h
 | .bool _,_ => rfl
 | .int _ _,_ => rfl
 | .str _,_ => rfl
 | .flt _,_ => rfl
 | .nilp,_ => rfl
 | .nilf,_ => rfl
 | .nilm,_ => rfl
 | .mapr _,h => by simp [AV.clean] at h
 | .vnil,_ => rfl
 | .eptr ..,_ => rfl
 | .vec ..,_ => rfl
 | .ptr ..,h => by simp [AV.clean] at h
 | .row ..,h => by simp [AV.clean] at h
 | .ref ..,h => by simp [AV.clean] at h
 | .agg cs,h => by simp only [renA,cleanL_ren f cs (by simpa [AV.clean] using h)]
 | .tup cs,h => by simp only [renA,cleanL_ren f cs (by simpa [AV.clean] using h)]
 | .func fn a b,h => by
  simp only [AV.clean,Bool.and_eq_true] at h
  simp only [renA,cleanL_ren f a h.1,cleanL_ren f b h.2]
theorem cleanL_ren (f:Nat -> Nat):∀ (l:List AV),cleanL l = true -> renL f l = l
 | [],_ => rfl
 | c :: l,h => by
  simp only [cleanL,Bool.and_eq_true] at h
  simp only [renL,clean_ren f c h.1,cleanL_ren f l h.2]
end
mutual
theorem pureA_ren {L K:Heap} {f:Nat -> Nat} (hb:∀ (r:Nat) row,L[r]? = some row -> K[f r]? = some (renRow f row)):∀ (a:AV) {d:AV},pureA L a = some d -> pureA K (renA f a) = some d /\ versA K (renA f a) = versA L a
 | .any,_,h => by simp [pureA] at h
 | .bool b,_,h => ⟨h,rfl⟩
 | .int k n,_,h => ⟨h,rfl⟩
 | .str s,_,h => ⟨h,rfl⟩
 | .flt s,_,h => ⟨h,rfl⟩
 | .nilp,_,h => ⟨h,rfl⟩
 | .nilf,_,h => ⟨h,rfl⟩
 | .nilm,_,h => ⟨h,rfl⟩
 | .mapr _,_,h => by simp [pureA] at h
 | .vnil,_,h => ⟨h,rfl⟩
 | .eptr ..,_,h => ⟨h,rfl⟩
 | .vec ..,_,h => ⟨h,rfl⟩
 | .row r v,_,h => by
  cases hr:L[r]? with
  | none => simp [pureA,hr] at h
  | some row =>
   have h2:=hb r row hr
   obtain ⟨_,s2,_,_,_⟩:=renRow_spec f row
   simp only [pureA,hr] at h
   split at h
   ·rename_i hc
    have e:renRow f row = row:=by simp [renRow,hc]
    exact ⟨by simp only [renA,pureA,h2,e,hc,if_true];exact h,by simp only [renA,versA,verOk,h2,hr,s2]⟩
   ·simp at h
 | .ref r v lo len,_,h => by
  cases hr:L[r]? with
  | none => simp [pureA,hr] at h
  | some row =>
   have h2:=hb r row hr
   obtain ⟨_,s2,_,_,_⟩:=renRow_spec f row
   simp only [pureA,hr] at h
   split at h
   ·rename_i hc
    have e:renRow f row = row:=by simp [renRow,hc]
    exact ⟨by simp only [renA,pureA,h2,e,hc,if_true];exact h,by simp only [renA,versA,verOk,h2,hr,s2]⟩
   ·simp at h
 | .ptr r v i j,_,h => by
  cases hr:L[r]? with
  | none => simp [pureA,hr] at h
  | some row =>
   have h2:=hb r row hr
   obtain ⟨s1,s2,_,_,_⟩:=renRow_spec f row
   simp only [pureA,hr] at h
   split at h
   ·rename_i x hx
    split at h
    ·rename_i hcx
     have e:(renRow f row).elems = [x]:=by
      unfold renRow
      cases hc:row.clean with
      | true => simpa using hx
      | false => simp only [cond_false,hx,renL,clean_ren f x hcx]
     exact ⟨by simp only [renA,pureA,h2,e,hcx,s1,if_true];exact h,by simp only [renA,versA,verOk,h2,hr,s2]⟩
    ·simp at h
   ·simp at h
 | .agg cs,_,h => by
  cases hr:pureL L cs with
  | none => simp [pureA,hr] at h
  | some ds =>
   obtain ⟨h1,h2⟩:=pureL_ren hb cs hr
   exact ⟨by simpa only [renA,pureA,h1,hr] using h,by simp only [renA,versA,h2]⟩
 | .tup cs,_,h => by
  cases hr:pureL L cs with
  | none => simp [pureA,hr] at h
  | some ds =>
   obtain ⟨h1,h2⟩:=pureL_ren hb cs hr
   exact ⟨by simpa only [renA,pureA,h1,hr] using h,by simp only [renA,versA,h2]⟩
 | .func fn a b,_,h => by
  cases hr:pureL L a with
  | none => simp [pureA,hr] at h
  | some ds =>
   cases hr2:pureL L b with
   | none => simp [pureA,hr,hr2] at h
   | some ds2 =>
    obtain ⟨h1,h2⟩:=pureL_ren hb a hr
    obtain ⟨h3,h4⟩:=pureL_ren hb b hr2
    exact ⟨by simpa only [renA,pureA,h1,h3,hr,hr2] using h,by simp only [renA,versA,h2,h4]⟩
theorem pureL_ren {L K:Heap} {f:Nat -> Nat} (hb:∀ (r:Nat) row,L[r]? = some row -> K[f r]? = some (renRow f row)):∀ (l:List AV) {ds:List AV},pureL L l = some ds -> pureL K (renL f l) = some ds /\ versL K (renL f l) = versL L l
 | [],_,h => ⟨h,rfl⟩
 | c :: l,_,h => by
  cases hr:pureA L c with
  | none => simp [pureL,hr] at h
  | some d =>
   cases hr2:pureL L l with
   | none => simp [pureL,hr,hr2] at h
   | some ds2 =>
    obtain ⟨h1,h2⟩:=pureA_ren hb c hr
    obtain ⟨h3,h4⟩:=pureL_ren hb l hr2
    exact ⟨by simpa only [renL,pureL,h1,h3,hr,hr2] using h,by simp only [renL,versL,h2,h4]⟩
end
theorem back_at {L L1:Heap} {rs:List Nat} {rows:List Row} (hrows:getRows L rs = some rows) (hnd:rs.Nodup) (r:Nat) (row:Row) (h:L1[r]? = some row) :
  (backAll L rs L1)[backAt L.length rs r]? = some (renRow (backAt L.length rs) row):=by
 obtain ⟨g1,g2⟩:=getRows_spec hrows
 unfold backAll
 by_cases hlt:r < rs.length
 ·have hb:Nat.blt r rs.length = true:=Nat.blt_eq.mpr hlt
  have e:backAt L.length rs r = rs[r]:=by simp [backAt,hb,hlt]
  obtain ⟨row0,k1,_⟩:=g2 r _ (List.getElem?_eq_getElem hlt)
  have hin:rs[r] < L.length:=(List.getElem?_eq_some_iff.1 k1).1
  rw [e,List.getElem?_append_left (by rw [putAt_len];exact hin)]
  exact putAt_at rs _ _ hnd r _ _ (List.getElem?_eq_getElem hlt) (by rw [List.getElem?_map,List.getElem?_take_of_lt hlt,h];rfl) hin
 ·have hb:Nat.blt r rs.length = false:=by
   cases hb:Nat.blt r rs.length with
   | false => rfl
   | true => have:=Nat.blt_eq.mp hb;omega
  have e:backAt L.length rs r = L.length + (r - rs.length):=by simp [backAt,hb]
  rw [e,List.getElem?_append_right (by rw [putAt_len];omega),putAt_len,List.getElem?_map,List.getElem?_drop]
  have e2:rs.length + (L.length + (r - rs.length) - L.length) = r:=by omega
  rw [e2,h];rfl
theorem wp_narrow {M:Mach} {fi:Fi} {k:List Item} {env env':Vars} {L Lc:Heap} {d:AV} (rs:List Nat) (hn:narrowIn L rs env = some (env',Lc)) (h:Wp M (.run fi k env' Lc) (PureQ d)):Wp M (.run fi k env L) (PureQ d):=by
 refine .narrow rs env' Lc hn (.mono h fun v L1 ⟨d0,hq1,hq2,hq3,hq4⟩ => ?_)
 unfold narrowIn at hn
 split at hn
 ·rename_i rows hrows
  split at hn
  ·rename_i hc
   simp only [Bool.and_eq_true] at hc
   obtain ⟨p1,p2⟩:=pureA_ren (back_at (L1:=L1) hrows ((noDup_iff rs).1 hc.1)) v hq1
   exact ⟨d0,p1,by rw [p2];exact hq2,hq3,hq4⟩
  ·simp at hn
 ·simp at hn
theorem keep_spec {n:Nat} {v:AV} {K:Heap} (h:keepOk n v K = true):K.length = n /\ (∀ r ∈ rowsA v,r < n) /\ ∀ row ∈ K,∀ r ∈ rowRefs row,r < n:=by
 unfold keepOk at h
 simp only [Bool.and_eq_true,List.all_eq_true,Nat.blt_eq,Nat.beq_eq] at h
 exact ⟨h.1,h.2.1,h.2.2⟩
theorem renRow_same {f:Nat -> Nat} {row:Row} (h:∀ r ∈ rowRefs row,f r = r):renRow f row = row:=by
 unfold renRow
 cases hc:row.clean with
 | true => rfl
 | false =>
  simp only [cond_false]
  rw [renL_ext (g:=fun r => r) row.elems (fun r hr => h r (by unfold rowRefs;rw [hc];exact hr)),renL_id,<- hc]
theorem put_first {α:Type} (n:Nat) (l xs:List α) (h:xs.length = n) (hn:n <= l.length):(putAt l (List.range n) xs).take n = xs:=by
 apply List.ext_getElem?
 intro i
 by_cases hi:i < n
 ·rw [List.getElem?_take_of_lt hi,putAt_at (List.range n) l xs List.nodup_range i i xs[i] (by simp [hi]) (List.getElem?_eq_getElem (by omega)) (by omega),List.getElem?_eq_getElem (by omega)]
 ·rw [List.getElem?_eq_none (by rw [List.length_take];omega),List.getElem?_eq_none (by omega)]
theorem wp_narrow_keep {M:Mach} {fi:Fi} {k:List Item} {env env':Vars} {L Lc:Heap} {v:AV} {K:Heap} (n:Nat) (hk:keepOk n v K = true) (hn:narrowIn L (List.range n) env = some (env',Lc)) (h:Wp M (.run fi k env' Lc) (KeepQ v K)) :
  Wp M (.run fi k env L) (KeepQ v K):=by
 obtain ⟨k1,k2,k3⟩:=keep_spec hk
 have hle:n <= L.length:=by
  unfold narrowIn at hn
  split at hn
  ·rename_i rows hr
   by_cases h0:n = 0
   ·omega
   ·obtain ⟨row,q,_⟩:=(getRows_spec hr).2 (n - 1) (n - 1) (by rw [List.getElem?_range (by omega)])
    have:=(List.getElem?_eq_some_iff.1 q).1
    omega
  ·simp at hn
 refine .narrow _ env' Lc hn (.mono h fun x L1 ⟨e,hq⟩ => ?_)
 subst e
 have hb:∀ r,r < n -> backAt L.length (List.range n) r = r:=by
  intro r hr
  unfold backAt
  rw [show Nat.blt r (List.range n).length = true from Nat.blt_eq.mpr (by simpa using hr),cond_true]
  simp [hr]
 refine ⟨by rw [renA_ext (g:=fun r => r) x (fun r hr => hb r (k2 r hr)),renA_id],?_⟩
 rw [k1] at hq ⊢
 unfold backAll
 rw [List.length_range,hq]
 have e2:K.map (renRow (backAt L.length (List.range n))) = K.map id:=List.map_congr_left fun row hr => by
  rw [renRow_same fun r hrr => hb r (k3 row hr r hrr)];rfl
 rw [e2,List.map_id,List.take_append_of_le_length (by rw [putAt_len];exact hle)]
 exact put_first n L K k1 hle
theorem own_keep {M:Mach} {f:FuncId} {args:List AV} {L:Heap} {v:AV} {K:Heap} (fn:Func) (fi:Fi) (hf:(M.P ()).funcs[f]? = some fn) (hb:fn.body = some (cd fn)) (hn:(fn.name == "runtime.NumGoroutine") = false)
  (hi:(⟨fn.ntmps,fn.results.toList⟩:Fi) = fi) (hk:keepOk L.length v K = true) (h:Wp M (.run fi [.code (cd fn)] (argVars 0 args) L) (KeepQ v K)):Ev M (.own f args L) v K:=
 .drop hk (own_wp fn fi hf hb hn hi h)
end Go.Av

namespace Go.Av
structure EG where
 keep:List (Nat × List (Nat × List Nat))
 hot:List (Nat × List (Nat × List Nat))
 known:List (Nat × List AV × AV):=[]
 rows:List (Nat × List (Nat × List Nat)):=[]
mutual
def beqA:AV -> AV -> Bool
 | .bool a,.bool b => a == b
 | .int k n,.int j m => decide (k = j) && n == m
 | .str a,.str b => a == b
 | .flt a,.flt b => a == b
 | .agg a,.agg b => beqAL a b
 | .tup a,.tup b => beqAL a b
 | .vec f es a,.vec g fs b => f == g && (es == fs && beqAL a b)
 | .nilp,.nilp => true
 | .vnil,.vnil => true
 | _,_ => false
def beqAL:List AV -> List AV -> Bool
 | [],[] => true
 | a :: l,b :: m => beqA a b && beqAL l m
 | _,_ => false
end
mutual
theorem beqA_eq:∀ (a b:AV),beqA a b = true -> a = b
 | .bool a,b,h => by cases b <;> simp [beqA] at h;rw [h]
 | .int k n,b,h => by cases b <;> simp [beqA] at h;rw [h.1,h.2]
 | .str a,b,h => by cases b <;> simp [beqA] at h;rw [h]
 | .flt a,b,h => by cases b <;> simp [beqA] at h;rw [h]
 | .agg a,b,h => by cases b <;> simp [beqA] at h;rw [beqAL_eq a _ h]
 | .tup a,b,h => by cases b <;> simp [beqA] at h;rw [beqAL_eq a _ h]
 | .vec f es a,b,h => by cases b <;> simp [beqA] at h;rw [h.1,h.2.1,beqAL_eq a _ h.2.2]
 | .nilp,b,h => by cases b <;> simp [beqA] at h;rfl
 | .vnil,b,h => by cases b <;> simp [beqA] at h;rfl
 | .any,b,h => by cases b <;> simp [beqA] at h
 | .ptr ..,b,h => by cases b <;> simp [beqA] at h
 | .eptr ..,b,h => by cases b <;> simp [beqA] at h
 | .row ..,b,h => by cases b <;> simp [beqA] at h
 | .ref ..,b,h => by cases b <;> simp [beqA] at h
 | .func ..,b,h => by cases b <;> simp [beqA] at h
 | .nilf,b,h => by cases b <;> simp [beqA] at h
 | .mapr ..,b,h => by cases b <;> simp [beqA] at h
 | .nilm,b,h => by cases b <;> simp [beqA] at h
theorem beqAL_eq:∀ (a b:List AV),beqAL a b = true -> a = b
 | [],b,h => by cases b <;> simp [beqAL] at h;rfl
 | a :: l,b,h => by
  cases b with
  | nil => simp [beqAL] at h
  | cons b m => simp [beqAL] at h;rw [beqA_eq a b h.1,beqAL_eq l m h.2]
end
def knownOf (f:Nat) (args:List AV):List (Nat × List AV × AV) -> Option AV
 | [] => none
 | (g,bs,v) :: l => bif Nat.beq f g && beqAL args bs then some v else knownOf f args l
theorem known_in {f:Nat} {args:List AV} {v:AV}:∀ {l:List (Nat × List AV × AV)},knownOf f args l = some v -> (f,args,v) ∈ l
 | [],h => by simp [knownOf] at h
 | (g,bs,u) :: l,h => by
  unfold knownOf at h
  cases hb:(Nat.beq f g && beqAL args bs) with
  | true =>
   rw [hb] at h
   simp only [cond_true,Option.some.injEq] at h
   simp only [Bool.and_eq_true,Nat.beq_eq] at hb
   rw [h,hb.1,beqAL_eq _ _ hb.2];exact .head _
  | false => rw [hb] at h;exact .tail _ (known_in h)
def ofFn:List (Nat × List (Nat × List Nat)) -> Nat -> List (Nat × List Nat)
 | [],_ => []
 | (f,l) :: t,g => bif Nat.beq f g then l else ofFn t g
def keepAns (l:List Nat) (i:Nat):Option Ans:=bif l.contains i then some .keep else none
def GoodC (inl:FuncId -> Bool) (call:Answer) (c:CF):Prop:=
 (c.own = true /\ inl c.f = true /\ ∃ o,call c.f c.args c.L = some (c.v,o) /\ c.L' = o.getD c.L) \/
 (inl c.f = false /\ ∃ L1,call c.f c.args [] = some (c.v,some L1)) \/
 (c.own = false /\ inl c.f = false /\ call c.f c.args [] = some (c.v,none))
section
variable {P:Unit -> Program}
theorem quiet_no {x:Option AV} {r:SR} (h:quiet x = some r):r.calls = []:=by
 unfold quiet at h;split at h
 ·simp only [Option.some.injEq] at h;subst h;rfl
 ·simp at h
theorem convS_no {src dst:TypeId} {x:AV} {r:SR} (h:convS P src dst x = some r):r.calls = []:=by
 unfold convS at h
 repeat' split at h
 all_goals first | (simp only [Option.some.injEq] at h;subst h;rfl) | simp at h
theorem intBin_no {op:BinOp} {k:IntKind} {x y:Int} {r:SR} (h:intBin op k x y = some r):r.calls = []:=by
 unfold intBin at h
 split at h <;> first | (simp only [Option.some.injEq] at h;subst h;rfl) | (simp at h)
theorem strBin_no {op:BinOp} {x y:List UInt8} {r:SR} (h:strBin op x y = some r):r.calls = []:=by
 unfold strBin at h
 split at h <;> first | (simp only [Option.some.injEq] at h;subst h;rfl) | (simp at h)
theorem binA_no {op:BinOp} {T:TypeId} {x y:AV} {r:SR} (h:binA P op T x y = some r):r.calls = []:=by
 unfold binA at h
 split at h
 ·simp only [Option.some.injEq] at h;subst h;rfl
 ·simp only [Option.some.injEq] at h;subst h;rfl
 ·split at h
  ·exact intBin_no h
  ·simp at h
 ·exact strBin_no h
 ·split at h
  ·exact quiet_no h
  ·simp at h
 ·split at h
  ·exact quiet_no h
  ·simp at h
 ·simp at h
theorem boxA_no {L:Heap} {x:AV} {r:SR} (h:boxA L x = some r):r.calls = []:=by
 unfold boxA at h;split at h
 ·simp only [Option.some.injEq] at h;subst h;rfl
 ·simp at h
theorem loadA_no {el:Option AV} {L:Heap} {T:TypeId} {p:AV} {r:SR} (h:loadA P el L T p = some r):r.calls = []:=by
 unfold loadA at h
 repeat' split at h
 all_goals first | (simp only [Option.some.injEq] at h;subst h;rfl) | (simp at h)
theorem storeA_no {el:Option AV} {L:Heap} {T:TypeId} {p v:AV} {r:SR} (h:storeA P el L T p v = some r):r.calls = []:=by
 unfold storeA at h
 repeat' split at h
 all_goals first | (simp only [Option.some.injEq] at h;subst h;rfl) | (simp at h)
theorem buildSliceA_no {keep:Bool} {L:Heap} {T:TypeId} {len:Nat} {parts:List (Nat × AV)} {r:SR} (h:buildSliceA P keep L T len parts = some r):r.calls = []:=by
 unfold buildSliceA at h
 cases keep <;> simp only [cond_true,cond_false] at h <;> (repeat' split at h) <;> first | (simp only [Option.some.injEq] at h;subst h;rfl) | (simp at h)
theorem indexAddrA_no {L:Heap} {T:TypeId} {x i:AV} {r:SR} (h:indexAddrA P L T x i = some r):r.calls = []:=by
 unfold indexAddrA at h
 repeat' split at h
 all_goals first | (simp only [Option.some.injEq] at h;subst h;rfl) | (simp at h)
theorem indexA_no {T:TypeId} {x i:AV} {r:SR} (h:indexA P T x i = some r):r.calls = []:=by
 unfold indexA at h
 repeat' split at h
 all_goals first | (simp only [Option.some.injEq] at h;subst h;rfl) | (simp at h)
theorem sliceA_no {L:Heap} {T:TypeId} {x:AV} {lo hi mx:Option AV} {r:SR} (h:sliceA P L T x lo hi mx = some r):r.calls = []:=by
 unfold sliceA at h
 repeat' split at h
 all_goals first | (simp only [Option.some.injEq] at h;subst h;rfl) | (simp at h)
theorem appendA_no {L:Heap} {T:TypeId} {s x:AV} {r:SR} (h:appendA P L T s x = some r):r.calls = []:=by
 unfold appendA at h
 repeat' split at h
 all_goals first | (simp only [Option.some.injEq] at h;subst h;rfl) | (simp at h)
theorem clearA_no {L:Heap} {T:TypeId} {d:AV} {r:SR} (h:clearA P L T d = some r):r.calls = []:=by
 unfold clearA at h
 repeat' split at h
 all_goals first | (simp only [Option.some.injEq] at h;subst h;rfl) | (simp at h)
theorem lenA_no {L:Heap} {T:TypeId} {x:AV} {r:SR} (h:lenA P L T x = some r):r.calls = []:=by
 unfold lenA at h
 repeat' split at h
 all_goals first | (simp only [Option.some.injEq] at h;subst h;rfl) | (simp at h)
theorem makeSliceA_no {L:Heap} {T:TypeId} {a b:AV} {r:SR} (h:makeSliceA P L T a b = some r):r.calls = []:=by
 unfold makeSliceA at h
 repeat' split at h
 all_goals first | (simp only [Option.some.injEq] at h;subst h;rfl) | (simp at h)
theorem sliceArrA_no {L:Heap} {n:Nat} {e:TypeId} {x:AV} {r:SR} (h:sliceArrA P L n e x = some r):r.calls = []:=by
 unfold sliceArrA at h
 repeat' split at h
 all_goals first | (simp only [Option.some.injEq] at h;subst h;rfl) | (simp at h)
theorem appendZ_no {L:Heap} {T:TypeId} {s x:AV} {r:SR} (h:appendZ P L T s x = some r):r.calls = []:=by
 unfold appendZ at h
 repeat' split at h
 all_goals first | (simp only [Option.some.injEq] at h;subst h;rfl) | (simp at h)
theorem makeMapA_no {L:Heap} {T:TypeId} {r:SR} (h:makeMapA P L T = some r):r.calls = []:=by
 unfold makeMapA at h
 repeat' split at h
 all_goals first | (simp only [Option.some.injEq] at h;subst h;rfl) | (simp at h)
theorem lookupA_no {el:Option AV} {L:Heap} {T:TypeId} {m k:AV} {ok:Bool} {r:SR} (h:lookupA P el L T m k ok = some r):r.calls = []:=by
 unfold lookupA at h
 repeat' split at h
 all_goals first | (simp only [Option.some.injEq] at h;subst h;rfl) | (simp at h)
theorem mapUpdateA_no {L:Heap} {T:TypeId} {m k v:AV} {r:SR} (h:mapUpdateA P L T m k v = some r):r.calls = []:=by
 unfold mapUpdateA at h
 repeat' split at h
 all_goals first | (simp only [Option.some.injEq] at h;subst h;rfl) | (simp at h)
theorem mapEntryA_no {el:Option AV} {L:Heap} {T:TypeId} {m k:AV} {r:SR} (h:mapEntryA P el L T m k = some r):r.calls = []:=by
 unfold mapEntryA at h
 repeat' split at h
 all_goals first | (simp only [Option.some.injEq] at h;subst h;rfl) | (simp at h)
theorem entryStoreA_no {L:Heap} {m i v:AV} {r:SR} (h:entryStoreA L m i v = some r):r.calls = []:=by
 unfold entryStoreA at h
 repeat' split at h
 all_goals first | (simp only [Option.some.injEq] at h;subst h;rfl) | (simp at h)
theorem callF_good {inl:FuncId -> Bool} {call:Answer} {L:Heap} {g:FuncId} {args:List AV} {r:SR} (h:callF inl call L g args = some r):∀ c ∈ r.calls,GoodC inl call c:=by
 unfold callF at h
 cases hi:inl g with
 | true =>
  rw [hi] at h
  simp only [cond_true] at h
  split at h
  ·rename_i rs args' Lc hin
   split at h
   ·rename_i v o hc
    split at h
    ·simp only [Option.some.injEq] at h
     subst h
     intro c hm
     simp only [List.mem_singleton] at hm
     subst hm
     exact .inl ⟨rfl,hi,o,hc,rfl⟩
    ·simp at h
   ·simp at h
  ·simp at h
 | false =>
  rw [hi] at h
  simp only [cond_false] at h
  split at h
  ·rename_i ds hds
   split at h
   ·rename_i d hc
    split at h
    ·split at h
     all_goals
      simp only [Option.some.injEq] at h
      subst h
      intro c hm
      simp only [List.mem_singleton] at hm
      subst hm
      exact .inr (.inr ⟨rfl,hi,hc⟩)
    ·simp at h
   ·rename_i v L1 hc
    split at h
    ·split at h
     ·split at h
      ·simp only [Option.some.injEq] at h
       subst h
       intro c hm
       simp only [List.mem_singleton] at hm
       subst hm
       exact .inr (.inl ⟨hi,L1,hc⟩)
      ·simp at h
     ·simp at h
    ·simp at h
   ·simp at h
  ·simp at h
theorem good_no {inl:FuncId -> Bool} {call:Answer} {r:SR} (h:r.calls = []):∀ c ∈ r.calls,GoodC inl call c:=by
 rw [h];intro c hc;cases hc
theorem callA_good {inl:FuncId -> Bool} {call:Answer} {ρ:Operand -> AV} {L:Heap} {c:Call} {r:SR} (h:callA P inl call ρ L c = some r):∀ c ∈ r.calls,GoodC inl call c:=by
 unfold callA at h
 split at h
 ·apply good_no
  split at h
  ·split at h
   ·exact appendA_no h
   ·exact appendA_no h
   ·exact appendZ_no h
   ·simp at h
  ·exact clearA_no h
  ·exact lenA_no h
  ·exact quiet_no h
  ·exact quiet_no h
  ·exact quiet_no h
  ·simp at h
 ·split at h
  ·exact callF_good h
  ·simp at h
 ·simp at h
theorem stepA_good {inl:FuncId -> Bool} {call:Answer} {ρ:Chain -> Operand -> AV} {L:Heap} {o:Oper} {r:SR} {an:Option Ans} (han:an = none \/ an = some .keep) (h:stepA P inl call an ρ L o = some r):∀ c ∈ r.calls,GoodC inl call c:=by
 unfold stepA at h
 simp only at h
 split at h
 ·simp only [Option.some.injEq] at h;subst h;exact good_no rfl
 ·simp only [Option.some.injEq] at h;subst h;exact good_no rfl
 ·split at h
  ·exact good_no (quiet_no h)
  ·exact good_no (quiet_no h)
 ·split at h
  ·exact good_no (boxA_no h)
  ·simp at h
 ·exact good_no (boxA_no h)
 ·exact good_no (quiet_no h)
 ·exact good_no (buildSliceA_no h)
 ·exact good_no (loadA_no h)
 ·exact good_no (storeA_no h)
 ·split at h
  ·simp only [Option.some.injEq] at h;subst h;exact good_no rfl
  ·simp only [Option.some.injEq] at h;subst h;exact good_no rfl
  ·simp at h
 ·exact good_no (binA_no h)
 ·exact good_no (quiet_no h)
 ·exact good_no (convS_no h)
 ·simp only [Option.some.injEq] at h;subst h;exact good_no rfl
 ·exact good_no (makeSliceA_no h)
 ·split at h
  ·split at h
   ·exact good_no (sliceArrA_no h)
   ·simp at h
  ·exact good_no (sliceA_no h)
 ·exact good_no (quiet_no h)
 ·exact good_no (quiet_no h)
 ·exact good_no (indexAddrA_no h)
 ·exact good_no (indexA_no h)
 ·split at h
  ·exact good_no (makeMapA_no h)
  ·simp at h
 ·exact good_no (lookupA_no h)
 ·exact good_no (mapUpdateA_no h)
 ·exact good_no (mapEntryA_no h)
 ·exact good_no (entryStoreA_no h)
 ·split at h
  ·exact good_no (quiet_no h)
  ·simp at h
 ·rcases han with rfl | rfl <;> exact callA_good h
 ·simp at h
theorem runOp_good {inl:FuncId -> Bool} {call:Answer} {n:Nat} {ops:Array Oper} {hot:Nat} {o:Oper} {s s':RS} {an:Option Ans} (han:an = none \/ an = some .keep) (h:runOp P inl call n ops an hot o s = some s') (hs:∀ c ∈ s.calls,GoodC inl call c) :
  ∀ c ∈ s'.calls,GoodC inl call c:=by
 unfold runOp at h
 split at h
 ·simp at h
 ·split at h
  ·simp only [Option.some.injEq] at h;subst h;exact hs
  ·simp at h
 ·split at h
  ·split at h
   ·simp at h
   ·split at h
    ·simp only [Option.some.injEq] at h;subst h;exact hs
    ·simp at h
  ·rename_i r hr
   have hg:=stepA_good han hr
   split at h
   ·simp at h
   ·split at h
    ·simp at h
    ·split at h
     ·simp only [Option.some.injEq] at h;subst h
      intro c hc
      rcases List.mem_append.1 hc with hc | hc
      ·exact hs c hc
      ·exact hg c hc
     ·simp only [Option.some.injEq] at h;subst h
      intro c hc
      rcases List.mem_append.1 hc with hc | hc
      ·exact hs c hc
      ·obtain ⟨c0,h1,rfl⟩:=List.mem_map.1 hc
       exact hg c0 h1
theorem keepAns_or (l:List Nat) (i:Nat):keepAns l i = none \/ keepAns l i = some .keep:=by
 unfold keepAns
 cases l.contains i with
 | true => exact .inr rfl
 | false => exact .inl rfl
theorem runOps_good {inl:FuncId -> Bool} {call:Answer} {n:Nat} {ops:Array Oper} {hot:Nat -> Nat} {ans:Nat -> Option Ans} (hans:∀ i,ans i = none \/ ans i = some .keep):∀ (l:List Nat) {s s':RS},runOps P inl call n ops ans hot l s = some s' -> (∀ c ∈ s.calls,GoodC inl call c) ->
  ∀ c ∈ s'.calls,GoodC inl call c:=by
 intro l
 induction l with
 | nil => intro s s' h hs;simp only [runOps,Option.some.injEq] at h;subst h;exact hs
 | cons i rest ih =>
  intro s s' h hs
  simp only [runOps] at h
  split at h
  ·exact ih h hs
  ·split at h
   ·rename_i s1 h1
    exact ih h (runOp_good (hans _) h1 hs)
   ·simp at h
end
def AnsOk (M:Mach) (call:Answer):Prop:=∀ f args L v o,call f args L = some (v,o) ->
 (M.inl f = true -> Ev M (.own f args L) v (o.getD L)) /\ (M.inl f = false -> o = none /\ Ev M (.pure f args) v [])
def KnownOk (M:Mach) (G:EG):Prop:=∀ k ∈ G.known,Ev M (.pure k.1 k.2.1) k.2.2 []
theorem known_nil {M:Mach} {a b c:List (Nat × List (Nat × List Nat))}:KnownOk M ⟨a,b,[],c⟩:=fun _ hk => nomatch hk
end Go.Av

namespace Go.Av
open Go.RowKit
mutual
def deepA (L:Heap):AV -> Option AV
 | .row r v => match L[r]? with
  | some row => bif row.clean then some (.vec false row.es row.elems) else match pureL L row.elems with
   | some ys => some (.vec false row.es ys)
   | none => none
  | none => none
 | .agg cs => match deepL L cs with
  | some ds => some (.agg ds)
  | none => none
 | .tup cs => match deepL L cs with
  | some ds => some (.tup ds)
  | none => none
 | a => pureA L a
def deepL (L:Heap):List AV -> Option (List AV)
 | [] => some []
 | c :: r => match deepA L c,deepL L r with
  | some d,some ds => some (d :: ds)
  | _,_ => none
end
mutual
def deepV (L:Heap):AV -> List Bool
 | .row r v => verOk L r v :: (match L[r]? with
  | some row => bif row.clean then [] else versL L row.elems
  | none => [])
 | .agg cs => deepVL L cs
 | .tup cs => deepVL L cs
 | a => versA L a
def deepVL (L:Heap):List AV -> List Bool
 | [] => []
 | c :: r => deepV L c ++ deepVL L r
end
theorem deep_get {L:Heap}:∀ {l ds:List AV},pureL L l = some ds -> ds.length = l.length /\ ∀ (i:Nat) d,ds[i]? = some d -> ∃ c,l[i]? = some c /\ pureA L c = some d
 | [],ds,h => by simp only [pureL,Option.some.injEq] at h;subst h;exact ⟨rfl,by simp⟩
 | c :: l,ds,h => by
  simp only [pureL] at h
  split at h
  ·rename_i d ds' hd hds
   simp only [Option.some.injEq] at h;subst h
   obtain ⟨h1,h2⟩:=deep_get hds
   refine ⟨by simp [h1],fun i x hx => ?_⟩
   cases i with
   | zero => simp at hx;subst hx;exact ⟨c,rfl,hd⟩
   | succ i => obtain ⟨y,q1,q2⟩:=h2 i x (by simpa using hx);exact ⟨y,by simpa using q1,q2⟩
  ·simp at h
theorem deep_plain {L:Heap} {c d:AV} (h:pureA L c = some d) (hp:c.plain = true):d.plain = true:=by
 cases c with
 | any => simp [AV.plain] at hp
 | agg cs => simp [AV.plain] at hp
 | tup cs => simp [AV.plain] at hp
 | row r v =>
  simp only [pureA] at h
  repeat' split at h
  all_goals first | (simp only [Option.some.injEq] at h;subst h;rfl) | (simp at h)
 | ref r v lo len =>
  simp only [pureA] at h
  repeat' split at h
  all_goals first | (simp only [Option.some.injEq] at h;subst h;rfl) | (simp at h)
 | ptr r v i j =>
  simp only [pureA] at h
  repeat' split at h
  all_goals first | (simp only [Option.some.injEq] at h;subst h;rfl) | (simp at h)
 | func fn a b =>
  simp only [pureA] at h
  repeat' split at h
  all_goals first | (simp only [Option.some.injEq] at h;subst h;rfl) | (simp at h)
 | mapr r => simp [pureA] at h
 | _ => simp only [pureA,Option.some.injEq] at h;subst h;rfl
theorem cells_one {c:AV} (hp:c.plain = true):c.cells = [c]:=by
 cases c <;> first | rfl | (simp [AV.plain] at hp)
theorem versL_mem {L:Heap}:∀ {l:List AV} {i:Nat} {c:AV} {b:Bool},l[i]? = some c -> b ∈ versA L c -> b ∈ versL L l
 | [],i,c,b,h,_ => by simp at h
 | x :: l,i,c,b,h,hb => by
  simp only [versL,List.mem_append]
  cases i with
  | zero => simp at h;subst h;exact .inl hb
  | succ i => exact .inr (versL_mem (by simpa using h) hb)
theorem deep_cells {L:Heap} {x y:AV} (h:pureA L x = some y) (hp:x.cells.all AV.plain = true) :
  y.cells.length = x.cells.length /\ y.cells.all AV.plain = true /\ ∀ (k:Nat) c,y.cells[k]? = some c -> ∃ c0,x.cells[k]? = some c0 /\ pureA L c0 = some c /\ ∀ b ∈ versA L c0,b ∈ versA L x:=by
 have single:x.plain = true -> y.cells.length = x.cells.length /\ y.cells.all AV.plain = true /\ ∀ (k:Nat) c,y.cells[k]? = some c -> ∃ c0,x.cells[k]? = some c0 /\ pureA L c0 = some c /\ ∀ b ∈ versA L c0,b ∈ versA L x:=by
  intro hx
  have hy:=deep_plain h hx
  rw [cells_one hx,cells_one hy]
  refine ⟨rfl,by simp [hy],fun k c hk => ?_⟩
  cases k with
  | zero => simp at hk;subst hk;exact ⟨x,rfl,h,fun b hb => hb⟩
  | succ k => simp at hk
 cases x with
 | agg cs =>
  simp only [pureA] at h
  split at h
  ·rename_i ds hd
   simp only [Option.some.injEq] at h;subst h
   obtain ⟨h1,h2⟩:=deep_get hd
   simp only [AV.cells] at hp ⊢
   refine ⟨h1,List.all_eq_true.2 fun d hdm => ?_,fun k c hk => ?_⟩
   ·obtain ⟨i,hi⟩:=List.getElem?_of_mem hdm
    obtain ⟨c,q1,q2⟩:=h2 i d hi
    exact deep_plain q2 (List.all_eq_true.1 hp c (List.mem_of_getElem? q1))
   ·obtain ⟨c0,q1,q2⟩:=h2 k c hk
    exact ⟨c0,q1,q2,fun b hb => by simp only [versA];exact versL_mem q1 hb⟩
  ·simp at h
 | any => simp [pureA] at h
 | tup cs => simp [AV.cells,AV.plain] at hp
 | _ => exact single (by simpa [AV.cells] using hp)
theorem row_deep {S S':St} (hS:HeapOk S) (hw:S'.w = S.w) (hi:∀ b off,Imm S b off -> b < S.w.heap.size -> Imm S' b off) {r:Nat} {row:Row} {info:BI} (hr:S.L[r]? = some row) (hb:S.β[r]? = some info) (hmp:info.mp = false)
  (hh:∀ rs,Holds S S' rs) {ys:List AV} (hy:pureL S.L row.elems = some ys) (hv:∀ b ∈ versL S.L row.elems,b = true) (cap:Nat) (hc:row.elems.length <= cap) :
  DRel S' (.vec false row.es ys) (.slice (some ⟨info.blk,info.off,none⟩) row.elems.length cap):=by
 have hes:=(hS.cells r row info hr hb hmp).1
 obtain ⟨hlen,hget⟩:=deep_get hy
 have:=DRel.vec (S:=S') false row.es ys info.blk info.off cap
  (fun i y hyi => by
   obtain ⟨x,q1,q2⟩:=hget i y hyi
   obtain ⟨o1,o2⟩:=hS.elems r row hr i x q1
   obtain ⟨p1,p2,_⟩:=deep_cells q2 o2
   exact ⟨p1.trans o1,p2⟩) (by simp) (by rw [hlen];exact hc)
  (fun i y k c hyi hk => by
   obtain ⟨x,q1,q2⟩:=hget i y hyi
   obtain ⟨o1,o2⟩:=hS.elems r row hr i x q1
   obtain ⟨p1,p2,_⟩:=deep_cells q2 o2
   have hk2:k < info.es:=by rw [hes,<- o1,<- p1];exact lt_of_get hk
   obtain ⟨cv,h3⟩:=row_cell hS hr hb hmp q1 hk2
   rw [hes] at h3
   refine ⟨⟨cv,by rw [hw];exact h3⟩,hh [r] r (by simp) row info hr hb _ (by omega) ?_⟩
   have:=idx_lt (lt_of_get q1) (Nat.le_refl row.elems.length) hk2
   rw [hes] at this ⊢
   omega)
  (fun i y k c cv hyi hk hcv => by
   obtain ⟨x,q1,q2⟩:=hget i y hyi
   obtain ⟨o1,o2⟩:=hS.elems r row hr i x q1
   obtain ⟨p1,p2,p3⟩:=deep_cells q2 o2
   obtain ⟨c0,z1,z2,z3⟩:=p3 k c hk
   rw [hw,<- hes] at hcv
   exact pure_rel hS hw hi c0 (hS.rel r row info i x k c0 cv hr hb q1 z1 hcv) z2 (fun b hb => hv b (versL_mem q1 (z3 b hb))) (hh _))
 rw [hlen] at this
 exact this
mutual
theorem deep_rel {S S':St} (hS:HeapOk S) (hw:S'.w = S.w) (hi:∀ b off,Imm S b off -> b < S.w.heap.size -> Imm S' b off) (hh:∀ rs,Holds S S' rs):∀ (a:AV) {d:AV} {v:Value},Rel S a v -> deepA S.L a = some d ->
  (∀ b ∈ deepV S.L a,b = true) -> DRel S' d v
 | .any,_,_,hr,h,hv => pure_rel hS hw hi _ hr h hv (hh _)
 | .bool b,_,_,hr,h,hv => pure_rel hS hw hi _ hr h hv (hh _)
 | .int k n,_,_,hr,h,hv => pure_rel hS hw hi _ hr h hv (hh _)
 | .str s,_,_,hr,h,hv => pure_rel hS hw hi _ hr h hv (hh _)
 | .flt s,_,_,hr,h,hv => pure_rel hS hw hi _ hr h hv (hh _)
 | .nilp,_,_,hr,h,hv => pure_rel hS hw hi _ hr h hv (hh _)
 | .nilf,_,_,hr,h,hv => pure_rel hS hw hi _ hr h hv (hh _)
 | .nilm,_,_,hr,h,hv => pure_rel hS hw hi _ hr h hv (hh _)
 | .mapr _,_,_,hr,h,hv => pure_rel hS hw hi _ hr h hv (hh _)
 | .vnil,_,_,hr,h,hv => pure_rel hS hw hi _ hr h hv (hh _)
 | .vec f es xs,_,_,hr,h,hv => pure_rel hS hw hi _ hr h hv (hh _)
 | .eptr es xs i j,_,_,hr,h,hv => pure_rel hS hw hi _ hr h hv (hh _)
 | .func fn a b,_,_,hr,h,hv => pure_rel hS hw hi _ hr h hv (hh _)
 | .ptr r ver i j,_,_,hr,h,hv => pure_rel hS hw hi _ hr h hv (hh _)
 | .ref r ver lo len,_,_,hr,h,hv => pure_rel hS hw hi _ hr h hv (hh _)
 | .agg cs,_,_,hr,h,hv => by
  simp only [deepA] at h
  split at h
  ·rename_i ds hd
   simp only [Option.some.injEq] at h;subst h
   obtain ⟨vs,rfl,l1,r1⟩:=rel_agg hr
   obtain ⟨l2,r2⟩:=deep_relL hS hw hi hh cs ⟨l1,r1⟩ hd (by simpa [deepV] using hv)
   exact .agg ds vs l2 r2
  ·simp at h
 | .tup cs,_,_,hr,h,hv => by
  simp only [deepA] at h
  split at h
  ·rename_i ds hd
   simp only [Option.some.injEq] at h;subst h
   obtain ⟨vs,rfl,l1,r1⟩:=rel_tup hr
   obtain ⟨l2,r2⟩:=deep_relL hS hw hi hh cs ⟨l1,r1⟩ hd (by simpa [deepV] using hv)
   exact .tup ds vs l2 r2
  ·simp at h
 | .row r ver,_,_,hr,h,hv => by
  simp only [deepA] at h
  split at h
  ·rename_i row hrow
   cases hcl:row.clean with
   | true =>
    rw [hcl] at h
    exact pure_rel hS hw hi (.row r ver) hr (by simpa [pureA,hrow,hcl] using h) (fun b hb => hv b (by simp only [versA,List.mem_singleton] at hb;simp [deepV,hb])) (hh _)
   | false =>
    rw [hcl] at h
    simp only [cond_false] at h
    split at h
    ·rename_i ys hys
     simp only [Option.some.injEq] at h;subst h
     obtain ⟨row',info,a1,a2,a3,hmp⟩:=rel_row hr
     rw [hrow] at a1
     simp only [Option.some.injEq] at a1;subst a1
     have hver:row.ver = ver:=by
      have:=hv (verOk S.L r ver) (by simp [deepV])
      simpa [verOk,hrow] using this
     rw [a3 hver]
     exact row_deep hS hw hi hrow a2 hmp hh hys (fun b hb => hv b (by simp [deepV,hrow,hcl,hb])) info.cap (hS.cells r row info hrow a2 hmp).2.1
    ·simp at h
  ·simp at h
theorem deep_relL {S S':St} (hS:HeapOk S) (hw:S'.w = S.w) (hi:∀ b off,Imm S b off -> b < S.w.heap.size -> Imm S' b off) (hh:∀ rs,Holds S S' rs):∀ (l:List AV) {ds:List AV} {vs:List Value},RelL S l vs -> deepL S.L l = some ds ->
  (∀ b ∈ deepVL S.L l,b = true) -> ds.length = vs.length /\ ∀ (i:Nat) c v,ds[i]? = some c -> vs[i]? = some v -> DRel S' c v
 | [],_,vs,hr,h,_ => by
  simp only [deepL,Option.some.injEq] at h;subst h
  exact ⟨by simpa using hr.1,by simp⟩
 | c :: l,_,[],hr,h,_ => by have:=hr.1;simp at this
 | c :: l,_,u :: vs,hr,h,hv => by
  simp only [deepL] at h
  split at h
  ·rename_i d ds hd hds
   simp only [Option.some.injEq] at h;subst h
   have h1:=deep_rel hS hw hi hh c hr.head hd (fun b hb => hv b (by simp [deepVL,hb]))
   obtain ⟨l2,r2⟩:=deep_relL hS hw hi hh l hr.tail hds (fun b hb => hv b (by simp [deepVL,hb]))
   refine ⟨by simp [l2],fun i a b ha hb => ?_⟩
   cases i with
   | zero => simp at ha hb;subst ha;subst hb;exact h1
   | succ i => exact r2 i a b (by simpa using ha) (by simpa using hb)
  ·simp at h
end
def DeepQ (d:AV):AV -> Heap -> Prop:=fun v L => ∃ d0,deepA L v = some d0 /\ allB (deepV L v) /\ Weak d0 d
theorem deep_of {L:Heap} {v d:AV} (h1:deepA L v = some d) (h2:allB (deepV L v)):DeepQ d v L:=⟨d,h1,h2,.refl _⟩
theorem deep_pure {M:Mach} (hm:(M.P ()).follows .mixedOrders = true) {f:FuncId} {args:List AV} {d:AV} (h:Wp M (.own f args []) (DeepQ d)):Ev M (.pure f args) d []:=by
 refine .sem ?_
 have h':OwnQ M f args [] (DeepQ d):=wp_sound hm h
 intro base acc w cargs hb hac hr
 have hS:HeapOk ⟨base,acc,[],[],w⟩:=⟨hb,rfl,by simp,by simp,by simp,by simp,by simp,by simp,by simp,by simp,fun b off h => hac b off (Nat.le_trans hb h)⟩
 obtain ⟨k1,k2⟩:=h' ⟨base,acc,[],[],w⟩ cargs hS rfl hr
 refine ⟨k1,Calls.mono k2 fun e w' he => ?_⟩
 cases e with
 | returned cv =>
  obtain ⟨v,L',β',⟨d0,hd,hv,hwk⟩,m1,m2,m3⟩:=he
  exact ⟨d,⟨rfl,rfl⟩,m2.below,weak_rel hwk (deep_rel (S:=⟨base,acc,L',β',w'⟩) (S':=⟨base,acc,[],[],w'⟩) m1 rfl (fun b off hi _ => ⟨hi.1,by simp⟩)
   (fun rs r hr row info q1 q2 off _ _ => ⟨m1.acq r info off q2,by simp⟩) v m3 hd ((allB_iff _).1 hv))⟩
 | panicked c => exact he.elim
 | outgrown => exact he.elim
def ansY (M:Mach) (K:List (Nat × List AV × AV)) (ex:FuncId -> List AV -> Heap -> Option (AV × Heap)):Answer:=fun g args L =>
 match M.inl g with
 | true => match ex g args L with
  | some (v,L') => some (v,some L')
  | none => none
 | false => match knownOf g args K with
  | some d => some (d,none)
  | none => match ex g args [] with
   | some (v,L') => match deepA L' v with
    | some d => bif (deepV L' v).all (fun b => b) then some (d,none) else none
    | none => none
   | none => none
theorem ansY_ok {M:Mach} (hm:(M.P ()).follows .mixedOrders = true) {G:EG} (hK:KnownOk M G) {ex:FuncId -> List AV -> Heap -> Option (AV × Heap)} (h:∀ f args L v L',ex f args L = some (v,L') -> Ev M (.own f args L) v L'):AnsOk M (ansY M G.known ex):=by
 intro f args L v o hc
 unfold ansY at hc
 split at hc
 ·rename_i hi
  refine ⟨fun _ => ?_,fun h2 => by rw [hi] at h2;simp at h2⟩
  split at hc
  ·rename_i w L' he
   simp only [Option.some.injEq,Prod.mk.injEq] at hc
   obtain ⟨rfl,rfl⟩:=hc
   exact h _ _ _ _ _ he
  ·simp at hc
 ·rename_i hi
  refine ⟨fun h2 => by rw [hi] at h2;simp at h2,fun _ => ?_⟩
  split at hc
  ·rename_i d hd
   simp only [Option.some.injEq,Prod.mk.injEq] at hc
   obtain ⟨rfl,rfl⟩:=hc
   exact ⟨rfl,hK _ (known_in hd)⟩
  split at hc
  ·rename_i w L' he
   split at hc
   ·rename_i d hd
    cases hb:(deepV L' w).all (fun b => b) with
    | false => rw [hb] at hc;simp at hc
    | true =>
     rw [hb] at hc
     simp only [cond_true,Option.some.injEq,Prod.mk.injEq] at hc
     obtain ⟨rfl,rfl⟩:=hc
     exact ⟨rfl,deep_pure hm (.mono (h _ _ _ _ _ he) fun x K ⟨e1,e2⟩ => by subst e1;subst e2;exact deep_of hd ((allB_iff _).2 fun b hbm => (List.all_eq_true.1 hb) b hbm))⟩
   ·simp at hc
  ·simp at hc
end Go.Av

namespace Go.Av
open Go.RowKit
theorem freeze_take:∀ (rs:List Nat) (L:Heap) (n:Nat),(∀ r ∈ rs,n <= r) -> (freeze rs L).take n = L.take n
 | [],_,_,_ => rfl
 | r :: rs,L,n,h => by
  have e:freeze (r :: rs) L = freeze rs (match L[r]? with
   | some row => L.set r { row with frozen:=true }
   | none => L):=rfl
  rw [e,freeze_take rs _ n fun q hq => h q (List.mem_cons_of_mem _ hq)]
  have hr:=h r (List.mem_cons_self ..)
  cases L[r]? with
  | none => rfl
  | some row => exact List.take_set_of_le hr
def FrzQ (d:AV) (K:Heap):AV -> Heap -> Prop:=fun v L => pureA L v = some d /\ (∀ b ∈ versA L v,b = true) /\ (∀ r ∈ rowsA v,K.length <= r) /\ L.take K.length = K
theorem freeze_sound {M:Mach} {f:FuncId} {args:List AV} {L:Heap} {d:AV} {K:Heap} (hKl:K.length = L.length) (hK:∀ row ∈ K,∀ r ∈ rowRefs row,r < L.length) (hdc:rowsA d = []) (ih:OwnQ M f args L (FrzQ d K)):OwnQ M f args L (isR d K):=by
 intro S cargs h1 h2 h3
 subst h2
 have hrows:=getRows_all S.L
 have hnd:(List.range S.L.length).Nodup:=List.nodup_range
 have hin:=refs_in h1
 have hcl:∀ row ∈ S.L,∀ r ∈ rowRefs row,r ∈ List.range S.L.length:=fun row hr r hrr => by simpa using hin row hr r hrr
 obtain ⟨hSc,_,hrelc⟩:=sub_ok h1 hrows hnd hcl
 have hself:S.L.map (renRow (posOf (List.range S.L.length))) = S.L:=by
  have:S.L.map (renRow (posOf (List.range S.L.length))) = S.L.map id:=List.map_congr_left fun row hr => by
   rw [renRow_self fun r hrr => posOf_range (hin row hr r hrr)];rfl
  rw [this,List.map_id]
 have hrel':RelL ⟨S.base,accOf S (List.range S.L.length),S.L.map (renRow (posOf (List.range S.L.length))),subβ S.β (List.range S.L.length),S.w⟩ args cargs:=by
  refine ⟨h3.1,fun i c cv hc hcv => ?_⟩
  have hri:=rel_in (h3.2 i c cv hc hcv)
  have:=hrelc c cv (h3.2 i c cv hc hcv) fun r hr => by simpa using hri r hr
  rwa [renA_self fun r hr => posOf_range (hri r hr)] at this
 obtain ⟨m1,m2⟩:=ih _ cargs hSc hself hrel'
 refine ⟨m1,Calls.mono m2 fun e w' he => ?_⟩
 cases e with
 | panicked c => exact he.elim
 | outgrown => exact he.elim
 | returned cv =>
  obtain ⟨v',L1,β1,⟨hd,hvs,hge,hq⟩,n1,n2,n3⟩:=he
  have fr:=freeze_ok (S:=⟨S.base,accOf S (List.range S.L.length),L1,β1,w'⟩) (rowsA v') n1
  have n1':HeapOk ⟨S.base,accOf S (List.range S.L.length),freeze (rowsA v') L1,β1,w'⟩:=fr.1
  have n2':Ext ⟨S.base,accOf S (List.range S.L.length),S.L.map (renRow (posOf (List.range S.L.length))),subβ S.β (List.range S.L.length),S.w⟩ ⟨S.base,accOf S (List.range S.L.length),freeze (rowsA v') L1,β1,w'⟩:=n2.trans fr.2
  have hD:DRel ⟨S.base,accOf S (List.range S.L.length),freeze (rowsA v') L1,β1,w'⟩ d cv:=pure_rel (S:=⟨S.base,accOf S (List.range S.L.length),L1,β1,w'⟩) (S':=⟨S.base,accOf S (List.range S.L.length),freeze (rowsA v') L1,β1,w'⟩) n1 rfl (fun b off hi hb => (fr.2.imm b off hi hb).1) v' n3 hd hvs (freeze_holds (S:=⟨S.base,accOf S (List.range S.L.length),L1,β1,w'⟩) n1 _)
  have hq':(freeze (rowsA v') L1).take K.length = K:=(freeze_take _ _ _ hge).trans hq
  generalize freeze (rowsA v') L1 = L2 at n1' n2' hD hq'
  rw [hKl] at hq'
  have hlen:(List.range S.L.length).length = S.L.length:=List.length_range
  have hle:S.L.length <= L2.length:=by
   have:=congrArg List.length hq'
   rw [List.length_take,hKl] at this
   omega
  have ho:getRows L2 (List.range (List.range S.L.length).length) = some K:=by
   rw [hlen,<- hq']
   have:=getRows_take L2 S.L.length hle
   rw [hq'] at this ⊢
   exact this
  obtain ⟨k1,k2,k3⟩:=back_ok (S1:=⟨S.base,accOf S (List.range S.L.length),L2,β1,w'⟩) (ns:=[]) (new:=[]) h1 hrows hnd hcl n1' n2' List.nodup_nil (by simp) ho rfl
   (fun row hr r hrr => .inl (by rw [hlen];exact hK row (by simpa using hr) r hrr))
  have hb:∀ r,r < S.L.length -> backOf S.L.length (List.range S.L.length) [] r = r:=by
   intro r hr
   rw [back_lt (by rw [hlen];exact hr)];simp
  have hKK:backL S.L (List.range S.L.length) [] K [] = K:=by
   unfold backL
   rw [List.map_nil,List.append_nil]
   have:K.map (renRow (backOf S.L.length (List.range S.L.length) [])) = K.map id:=List.map_congr_left fun row hr => by
    rw [renRow_self fun r hrr => hb r (hK row hr r hrr)];rfl
   rw [this,List.map_id,put_all _ _ hKl]
  have k3':=k3 d cv (.data _ _ hD) fun r hr => by rw [hdc] at hr;cases hr
  rw [renA_self fun r hr => by rw [hdc] at hr;cases hr] at k3'
  rw [hKK] at k1 k2 k3'
  exact ⟨d,K,_,⟨rfl,rfl⟩,k1,k2,k3'⟩
def frzOk (n:Nat) (K:Heap):Bool:=Nat.beq K.length n && K.all fun row => (rowRefs row).all fun r => Nat.blt r n
theorem own_freeze {M:Mach} (hm:(M.P ()).follows .mixedOrders = true) {f:FuncId} {args:List AV} {L:Heap} {d:AV} {K:Heap} (hk:frzOk L.length K = true) (hdc:rowsA d = []) (h:Wp M (.own f args L) (FrzQ d K)):Ev M (.own f args L) d K:=by
 unfold frzOk at hk
 simp only [Bool.and_eq_true,List.all_eq_true,Nat.blt_eq,Nat.beq_eq] at hk
 exact .sem (freeze_sound hk.1 hk.2 hdc (wp_sound hm (c:=.own f args L) h))
end Go.Av

namespace Go.Av
open Go.RowKit
def tryHot (P:Unit -> Program) (inl:FuncId -> Bool) (call:Answer) (n:Nat) (ops:Array Oper) (an:Option Ans) (i:Nat) (o:Oper) (s:RS):List (List Nat) -> Option (List Nat × RS)
 | [] => none
 | c :: cs => match runOp P inl call n ops an (hotOf ops c i) o s with
  | some s' => some (c,s')
  | none => tryHot P inl call n ops an i o s cs
def hotCands (ρ:Operand -> AV) (L:Heap) (i:Nat) (o:Oper):List (List Nat):=
 (match readsA ρ o with
  | some [r] => [[i + 1000 * (r + 2)]]
  | some [] => [[i + 502000]]
  | _ => []) ++ (match writesA ρ L o with
  | some [r] => [[i + 1000 * (r + 2)],[i,i + 1000 * (r + 2)]]
  | _ => []) ++ [[],[i + 1000],[i]]
def autoHot (P:Unit -> Program) (inl:FuncId -> Bool) (call:Answer) (n:Nat) (ops:Array Oper) (ans:Nat -> Option Ans):List Nat -> RS -> List Nat
 | [],_ => []
 | i :: rest,s => match ops[i]? with
  | none => autoHot P inl call n ops ans rest s
  | some o => match tryHot P inl call n ops (ans i) i o s (hotCands (ev s.env []) s.L i o) with
   | some (c,s') => c ++ autoHot P inl call n ops ans rest s'
   | none => []
def layOps (P:Unit -> Program) (inl:FuncId -> Bool) (call:Answer) (n:Nat) (ops:Array Oper) (ans:Nat -> Option Ans):List Nat -> RS -> List Nat
 | [],_ => []
 | i :: rest,s => match ops[i]? with
  | none => layOps P inl call n ops ans rest s
  | some o => match runOp P inl call n ops (ans i) 2 o s with
   | some s' => bif Nat.blt s.L.length s'.L.length then i :: layOps P inl call n ops ans rest s' else layOps P inl call n ops ans rest s'
   | none => []
def readyO (ops:Array Oper) (done:List Nat) (i:Nat):Bool:=match ops[i]? with
 | some o => o.after.toList.all fun e => !Region.binds .any e || done.contains e.on
 | none => true
def ordGo (ops:Array Oper) (C:List Nat):Nat -> List Nat -> List Nat -> List Nat -> List Nat
 | 0,_,_,_ => []
 | n + 1,σ,rest,done => match rest.find? (fun i => readyO ops done i && (!C.contains i || (match σ with
   | c :: _ => Nat.beq c i
   | [] => false))) with
  | some i => i :: ordGo ops C n (bif C.contains i then σ.tail else σ) (rest.erase i) (i :: done)
  | none => []
def hotX (M:Mach) (call:Answer) (n:Nat) (ops:Array Oper) (ans:Nat -> Option Ans) (C:List Nat) (env:Vars) (L:Heap) (σ:List Nat):Nat -> Nat:=
 hotOf ops (autoHot M.P M.inl call n ops ans (ordGo ops C ops.size σ (List.range ops.size) []) ⟨lift env,L,[],[],[]⟩)
def rsX (M:Mach) (call:Answer) (n:Nat) (ops:Array Oper) (ans:Nat -> Option Ans) (C:List Nat) (env:Vars) (L:Heap) (σ:List Nat):List Nat:=
 List.range L.length ++ (match C with
  | [] => (match runOps M.P M.inl call n ops ans (hotX M call n ops ans C env L σ) (ordGo ops C ops.size σ (List.range ops.size) []) ⟨lift env,L,[],[],[]⟩ with
   | some s => List.range' L.length (s.L.length - L.length)
   | none => [])
  | _ => C.map fun c => L.length + posOf σ c)
def ordX (M:Mach) (call:Answer) (n:Nat) (ops:Array Oper) (ans:Nat -> Option Ans) (keep C:List Nat) (env:Vars) (L:Heap) (σ:List Nat):Option (Vars × Heap × List Bool × List Prop × List CF):=
 ordRun M call n ops ans (hotX M call n ops ans C env L σ) keep C σ (ordGo ops C ops.size σ (List.range ops.size) []) (rsX M call n ops ans C env L σ) env L
mutual
def beqB:AV -> AV -> Bool
 | .any,.any => true
 | .bool a,.bool b => a == b
 | .int k n,.int j m => decide (k = j) && n == m
 | .str a,.str b => a == b
 | .flt a,.flt b => a == b
 | .agg a,.agg b => beqBL a b
 | .tup a,.tup b => beqBL a b
 | .vec f es a,.vec g fs b => f == g && (es == fs && beqBL a b)
 | .eptr es a i j,.eptr fs b k l => es == fs && (beqBL a b && (i == k && j == l))
 | .ptr r v i j,.ptr s u k l => r == s && (v == u && (i == k && j == l))
 | .row r v,.row s u => r == s && v == u
 | .ref r v i j,.ref s u k l => r == s && (v == u && (i == k && j == l))
 | .nilp,.nilp => true
 | .vnil,.vnil => true
 | .nilf,.nilf => true
 | .nilm,.nilm => true
 | .mapr r,.mapr s => r == s
 | _,_ => false
def beqBL:List AV -> List AV -> Bool
 | [],[] => true
 | a :: l,b :: m => beqB a b && beqBL l m
 | _,_ => false
end
mutual
theorem beqB_eq:∀ (a b:AV),beqB a b = true -> a = b
 | .any,b,h => by cases b <;> simp [beqB] at h;rfl
 | .bool a,b,h => by cases b <;> simp [beqB] at h;rw [h]
 | .int k n,b,h => by cases b <;> simp [beqB] at h;rw [h.1,h.2]
 | .str a,b,h => by cases b <;> simp [beqB] at h;rw [h]
 | .flt a,b,h => by cases b <;> simp [beqB] at h;rw [h]
 | .agg a,b,h => by cases b <;> simp [beqB] at h;rw [beqBL_eq a _ h]
 | .tup a,b,h => by cases b <;> simp [beqB] at h;rw [beqBL_eq a _ h]
 | .vec f es a,b,h => by cases b <;> simp [beqB] at h;rw [h.1,h.2.1,beqBL_eq a _ h.2.2]
 | .eptr es a i j,b,h => by cases b <;> simp [beqB] at h;rw [h.1,beqBL_eq a _ h.2.1,h.2.2.1,h.2.2.2]
 | .ptr r v i j,b,h => by cases b <;> simp [beqB] at h;rw [h.1,h.2.1,h.2.2.1,h.2.2.2]
 | .row r v,b,h => by cases b <;> simp [beqB] at h;rw [h.1,h.2]
 | .ref r v i j,b,h => by cases b <;> simp [beqB] at h;rw [h.1,h.2.1,h.2.2.1,h.2.2.2]
 | .nilp,b,h => by cases b <;> simp [beqB] at h;rfl
 | .vnil,b,h => by cases b <;> simp [beqB] at h;rfl
 | .nilf,b,h => by cases b <;> simp [beqB] at h;rfl
 | .nilm,b,h => by cases b <;> simp [beqB] at h;rfl
 | .mapr r,b,h => by cases b <;> simp [beqB] at h;rw [h]
 | .func ..,b,h => by cases b <;> simp [beqB] at h
theorem beqBL_eq:∀ (a b:List AV),beqBL a b = true -> a = b
 | [],b,h => by cases b <;> simp [beqBL] at h;rfl
 | a :: l,b,h => by
  cases b with
  | nil => simp [beqBL] at h
  | cons b m => simp [beqBL] at h;rw [beqB_eq a b h.1,beqBL_eq l m h.2]
end
def beqVars:Vars -> Vars -> Bool
 | [],[] => true
 | (t,a) :: l,(u,b) :: m => Nat.beq t u && (beqB a b && beqVars l m)
 | _,_ => false
def beqHeap:Heap -> Heap -> Bool
 | [],[] => true
 | a :: l,b :: m => beqBL a.elems b.elems && (Nat.beq a.es b.es && (Nat.beq a.ver b.ver && (a.frozen == b.frozen && (a.clean == b.clean && beqHeap l m))))
 | _,_ => false
theorem beqVars_eq:∀ (a b:Vars),beqVars a b = true -> a = b
 | [],b,h => by cases b <;> simp [beqVars] at h;rfl
 | (t,a) :: l,b,h => by
  match b,h with
  | [],h => simp [beqVars] at h
  | (u,b) :: m,h =>
   simp only [beqVars,Bool.and_eq_true,Nat.beq_eq] at h
   rw [h.1,beqB_eq a b h.2.1,beqVars_eq l m h.2.2]
theorem beqHeap_eq:∀ (a b:Heap),beqHeap a b = true -> a = b
 | [],b,h => by cases b <;> simp [beqHeap] at h;rfl
 | a :: l,b,h => by
  match b,h with
  | [],h => simp [beqHeap] at h
  | b :: m,h =>
   simp only [beqHeap,Bool.and_eq_true,Nat.beq_eq,beq_iff_eq] at h
   obtain ⟨h1,h2,h3,h4,h5,h6⟩:=h
   rw [beqHeap_eq l m h6]
   obtain ⟨ae,a2,a3,a4,a5⟩:=a
   obtain ⟨be,b2,b3,b4,b5⟩:=b
   simp only at h1 h2 h3 h4 h5
   rw [beqBL_eq _ _ h1,h2,h3,h4,h5]
def anyX (M:Mach) (call:Answer) (n:Nat) (ops:Array Oper) (ans:Nat -> Option Ans) (keep:List Nat) (env:Vars) (L:Heap) (C:List Nat):Option (Vars × Heap):=
 match ordX M call n ops ans keep C env L C with
 | some (e,K,_,_,_) => bif noDup C && (perms C).all (fun σ => match ordX M call n ops ans keep C env L σ with
   | some (e',K',asm,[],_) => (asm.all fun b => b) && (beqVars e' e && beqHeap K' K)
   | _ => false) then some (e,K) else none
 | none => none
theorem good_snd {M:Mach} (hm:(M.P ()).follows .mixedOrders = true) {call:Answer} (hc:AnsOk M call) {cs:List CF} (h:∀ c ∈ cs,GoodC M.inl call c):∀ c ∈ cs,c.cond = true -> CFSnd M c:=by
 intro c hcm _
 unfold CFSnd
 cases hown:c.own with
 | true =>
  refine OwnQ.snd (wp_sound hm (c:=.own c.f c.args c.L) ?_)
  rcases h c hcm with ⟨_,h2,o,h3,h4⟩ | ⟨h2,L1,h3⟩ | ⟨h2,_⟩
  ·rw [h4];exact (hc _ _ _ _ _ h3).1 h2
  ·have:=((hc _ _ _ _ _ h3).2 h2).1;simp at this
  ·rw [hown] at h2;simp at h2
 | false =>
  refine PureR.snd (wp_sound hm (c:=.pure c.f c.args) ?_)
  rcases h c hcm with ⟨h2,_⟩ | ⟨h2,L1,h3⟩ | ⟨_,h2,h3⟩
  ·rw [hown] at h2;simp at h2
  ·have:=((hc _ _ _ _ _ h3).2 h2).1;simp at this
  ·exact ((hc _ _ _ _ _ h3).2 h2).2
theorem ordRun_good {M:Mach} {call:Answer} {n:Nat} {ops:Array Oper} {ans:Nat -> Option Ans} (hans:∀ i,ans i = none \/ ans i = some .keep) {hot:Nat -> Nat} {keep C σ l rs:List Nat} {env:Vars} {L:Heap} {e:Vars} {K:Heap} {asm:List Bool} {qs:List Prop} {cs:List CF}
  (h:ordRun M call n ops ans hot keep C σ l rs env L = some (e,K,asm,qs,cs)):∀ c ∈ cs,GoodC M.inl call c:=by
 unfold ordRun at h
 split at h
 ·rename_i s _ hs
  split at h
  ·simp only [Option.some.injEq,Prod.mk.injEq] at h
   obtain ⟨_,_,_,_,rfl⟩:=h
   exact runOps_good hans _ hs (by intro c hc;cases hc)
  ·simp at h
 ·simp at h
theorem anyX_sound {M:Mach} (hm:(M.P ()).follows .mixedOrders = true) {call:Answer} (hc:AnsOk M call) {fi:Fi} {id:Nat} {ops:Array Oper} {ans:Nat -> Option Ans} (hans:∀ i,ans i = none \/ ans i = some .keep) {keep C:List Nat} {env e1:Vars} {L L1:Heap} {k:List Item} {Q:AV -> Heap -> Prop}
  (h:anyX M call fi.n ops ans keep env L C = some (e1,L1)) (hk:Wp M (.run fi k e1 L1) Q):Wp M (.run fi (.code (.region id ops true) :: k) env L) Q:=by
 unfold anyX at h
 split at h
 ·rename_i e K _ _ _ he
  cases hb:(noDup C && (perms C).all (fun σ => match ordX M call fi.n ops ans keep C env L σ with
   | some (e',K',asm,[],_) => (asm.all fun b => b) && (beqVars e' e && beqHeap K' K)
   | _ => false)) with
  | false => rw [hb] at h;simp at h
  | true =>
   rw [hb] at h
   simp only [cond_true,Option.some.injEq,Prod.mk.injEq] at h
   obtain ⟨rfl,rfl⟩:=h
   simp only [Bool.and_eq_true,List.all_eq_true] at hb
   obtain ⟨b1,b2⟩:=hb
   refine .sem (RunSnd.after fun S a h5 h6 h7 h8 b k2 cs hbb => ?_)
   obtain ⟨a',w',⟨S',e0,n1,n2,n3,n4,n5,n6⟩,hs⟩:=any_sound hm (id:=id) (fi:=fi) (ops:=ops) (env:=env) (L:=L) (call:=call) (ans:=ans) (keep:=keep) (C:=C)
    (hot:=hotX M call fi.n ops ans C env L) (l:=fun σ => ordGo ops C ops.size σ (List.range ops.size) []) (rs:=rsX M call fi.n ops ans C env L) (e1:=e) (L1:=K) ((noDup_iff C).1 b1) (fun σ hσ => by
      have:=b2 σ hσ
      split at this
      ·rename_i e' K' asm cs' ho
       simp only [Bool.and_eq_true,List.all_eq_true] at this
       obtain ⟨t1,t2,t3⟩:=this
       have:=beqVars_eq _ _ t2;subst this
       have:=beqHeap_eq _ _ t3;subst this
       exact ⟨asm,[],cs',ho,t1,by simp,good_snd hm hc (ordRun_good hans ho)⟩
      ·simp at this) h5 h6 h7 h8 b k2 cs hbb
   exact ⟨a',w',⟨S',e,e0,n1,n2,n3.symm ▸ wp_sound hm hk,n4,n5,n6⟩,hs⟩
 ·simp at h
def anyXX (M:Mach) (call:Answer) (n:Nat) (ops:Array Oper) (ans:Nat -> Option Ans) (keep:List Nat) (env:Vars) (L:Heap):Option (Vars × Heap):=
 match anyX M call n ops ans keep env L [] with
 | some r => some r
 | none => anyX M call n ops ans keep env L (layOps M.P M.inl call n ops ans (List.range ops.size) ⟨lift env,L,[],[],[]⟩)
def toI:AV -> Int
 | .int _ n => n
 | _ => 0
def roundsZ (M:Mach) (n:Nat) (p0 p1:Tmp) (opsA:Array Oper) (keepA:List Nat) (env:Vars) (run:Vars -> Heap -> Option (AV × Heap)):List (AV × AV) -> Heap -> Option Heap
 | [],L => some L
 | x :: xs,L => match runOps M.P M.inl (fun _ _ _ => none) n opsA (fun _ => none) (fun _ => 2) (List.range opsA.size) ⟨lift ((p1,x.2) :: (p0,x.1) :: env),L,[],[],[]⟩ with
  | some ⟨e,K,[],[],[]⟩ => bif beqHeap K L then (match run (forget keepA e) L with
   | some (_,L1) => roundsZ M n p0 p1 opsA keepA env run xs L1
   | none => none) else none
  | _ => none
def isIt:Option FuncId -> Nat -> Bool
 | some j,it => Nat.beq it j
 | none,_ => false
theorem isIt_eq {o:Option FuncId} {it:Nat} (h:isIt o it = true):o = some it:=by
 cases o with
 | none => simp [isIt] at h
 | some j => simp [isIt] at h;rw [h]
def runZ (M:Mach) (itf:Option FuncId) (fi:Fi) (kp kr:List (Nat × List Nat)) (call:Answer):Nat -> List Item -> Vars -> Heap -> Option (AV × Heap)
 | 0,_,_,_ => none
 | n + 1,todo,env,L =>
  match todo with
  | [] => match finish M.P fi env L with
   | some v => some (v,L)
   | none => none
  | .inBlock _ :: k => runZ M itf fi kp kr call n k env L
  | .inLoop b :: k => runZ M itf fi kp kr call n (.code b :: .inLoop b :: k) env L
  | .code c :: k =>
   match c with
   | .skip => runZ M itf fi kp kr call n k env L
   | .seq a b => runZ M itf fi kp kr call n (.code a :: .code b :: k) env L
   | .cond c a b => match evV env c with
    | .bool t => runZ M itf fi kp kr call n (.code (bif t then a else b) :: k) env L
    | _ => none
   | .block id b => runZ M itf fi kp kr call n (.code b :: .inBlock id :: k) env L
   | .loop b => runZ M itf fi kp kr call n (.code b :: .inLoop b :: k) env L
   | .exit id => match exitTo id k with
    | some k' => runZ M itf fi kp kr call n k' env L
    | none => none
   | .region id ops true => match anyXX M call fi.n ops (keepAns (hotCalls kr id)) (hotCalls kp id) env L with
    | some (e,K) => runZ M itf fi kp kr call n k e K
    | none => none
   | .region id ops false =>
    match runOps M.P M.inl call fi.n ops (keepAns (hotCalls kr id)) (fun _ => 2) (List.range ops.size) ⟨lift env,L,[],[],[]⟩ with
    | some s => match s.asm.all (fun b => b),s.eqs with
     | true,[] => runZ M itf fi kp kr call n k (forget (hotCalls kp id) s.env) s.L
     | _,_ => none
    | none => none
   | .rangeFunc g ps (.region ida opsA false) body =>
    match evV env g,ps with
    | .func (.func it) [] [.eptr 1 [.vec f 1 xs] 0 0],⟨[p0,p1]⟩ =>
     bif isIt itf it && (beqBL xs ((xs.map toI).map (.int .i64)) && (Nat.blt xs.length 4611686018427387904 && (noDefer opsA && (tameC body && (Nat.blt p0 fi.n && Nat.blt p1 fi.n))))) then
      match roundsZ M fi.n p0 p1 opsA (hotCalls kp ida) env (fun e K => runZ M itf fi kp kr call n [.code body] e K) (bkX (xs.map toI)) L with
      | some L1 => runZ M itf fi kp kr call n k env L1
      | none => none
     else none
    | _,_ => none
   | .ret => match finish M.P fi env L with
    | some v => some (v,L)
    | none => none
   | _ => none
  | _ => none
theorem roundsZ_sound {M:Mach} (hm:(M.P ()).follows .mixedOrders = true) {fi:Fi} {p0 p1:Tmp} {opsA:Array Oper} {keepA:List Nat} {env:Vars} {body:Code} {run:Vars -> Heap -> Option (AV × Heap)} (hrun:∀ e K v K',run e K = some (v,K') -> Ev M (.run fi [.code body] e K) v K') :
  ∀ (xs:List (AV × AV)) (L L2:Heap),roundsZ M fi.n p0 p1 opsA keepA env run xs L = some L2 -> Rounds M fi p0 p1 opsA body env keepA xs L L2
 | [],L,L2,h => by simp only [roundsZ,Option.some.injEq] at h;subst h;exact .nil L
 | x :: xs,L,L2,h => by
  simp only [roundsZ] at h
  split at h
  ·rename_i e K hr
   cases hb:beqHeap K L with
   | false => rw [hb] at h;simp at h
   | true =>
    rw [hb] at h
    have:=beqHeap_eq _ _ hb;subst this
    simp only [cond_true] at h
    split at h
    ·rename_i v L1 hr2
     exact .cons e hr (wp_sound hm (.mono (hrun _ _ _ _ hr2) fun _ _ h => h.2)) (roundsZ_sound hm hrun xs L1 L2 h)
    ·simp at h
  ·simp at h
theorem runZ_sound {M:Mach} (hm:(M.P ()).follows .mixedOrders = true) {itf:Option FuncId} (hI:∀ it,itf = some it -> (∀ args w,(callFunc it args).run (M.P ()) w = .ok (.enter it args) w) /\ ∀ (f:Bool) (X:List Int),X.length < 4611686018427387904 -> IterSnd M it (.eptr 1 [.vec f 1 (X.map (.int .i64))] 0 0) (bkX X))
  {fi:Fi} {kp kr:List (Nat × List Nat)} {call:Answer} (hc:AnsOk M call):∀ (n:Nat) {todo:List Item} {env:Vars} {L L':Heap} {v:AV},runZ M itf fi kp kr call n todo env L = some (v,L') -> Ev M (.run fi todo env L) v L':=by
 intro n
 induction n with
 | zero => intro todo env L L' v h;simp [runZ] at h
 | succ n ih =>
  intro todo env L L' v h
  unfold runZ at h
  split at h
  ·split at h
   ·rename_i w hf
    simp only [Option.some.injEq,Prod.mk.injEq] at h
    obtain ⟨rfl,rfl⟩:=h
    exact .done hf ⟨rfl,rfl⟩
   ·simp at h
  ·exact .inBlock (ih h)
  ·exact .inLoop (ih h)
  ·split at h
   ·exact .skip (ih h)
   ·exact .seq (ih h)
   ·split at h
    ·rename_i t ht
     exact .cond t ht (ih h)
    ·simp at h
   ·exact .block (ih h)
   ·exact .loop (ih h)
   ·split at h
    ·rename_i k' hk
     exact .exit hk (ih h)
    ·simp at h
   ·rename_i id ops
    split at h
    ·rename_i e K ha
     unfold anyXX at ha
     split at ha
     ·rename_i r hr
      simp only [Option.some.injEq] at ha;subst ha
      exact anyX_sound hm hc (keepAns_or _) hr (ih h)
     ·exact anyX_sound hm hc (keepAns_or _) ha (ih h)
    ·simp at h
   ·split at h
    ·rename_i id ops _ s hr
     split at h
     ·rename_i ha he
      have hg:=runOps_good (keepAns_or _) _ hr (by intro c hc;cases hc)
      refine .region call (keepAns (hotCalls kr _)) _ _ s (fun h1 => by cases h1) hr (fun b hb => ?_) (fun p hp => ?_) (fun c hcm _ ho => ?_) (fun c hcm _ ho => ?_) (ih h)
      ·exact (List.all_eq_true.1 ha) b hb
      ·rw [he] at hp;cases hp
      ·rcases hg c hcm with ⟨_,h2,o,h3,h4⟩ | ⟨h2,L1,h3⟩ | ⟨h2,_⟩
       ·rw [h4];exact (hc _ _ _ _ _ h3).1 h2
       ·have:=((hc _ _ _ _ _ h3).2 h2).1;simp at this
       ·rw [ho] at h2;simp at h2
      ·rcases hg c hcm with ⟨h2,_⟩ | ⟨h2,L1,h3⟩ | ⟨_,h2,h3⟩
       ·rw [ho] at h2;simp at h2
       ·have:=((hc _ _ _ _ _ h3).2 h2).1;simp at this
       ·exact ((hc _ _ _ _ _ h3).2 h2).2
     ·simp at h
    ·simp at h
   ·rename_i g ps ida opsA body
    split at h
    ·rename_i it f xs p0 p1 hg
     cases hb:(isIt itf it && (beqBL xs ((xs.map toI).map (.int .i64)) && (Nat.blt xs.length 4611686018427387904 && (noDefer opsA && (tameC body && (Nat.blt p0 fi.n && Nat.blt p1 fi.n)))))) with
     | false => rw [hb] at h;simp at h
     | true =>
      rw [hb] at h
      simp only [cond_true] at h
      simp only [Bool.and_eq_true,Nat.beq_eq,Nat.blt_eq] at hb
      obtain ⟨b1,b2,b3,b4,b5,b6,b7⟩:=hb
      obtain ⟨hit,hI⟩:=hI _ (isIt_eq b1)
      split at h
      ·rename_i L1 hr
       have h2:=hI f (xs.map toI) (by rw [List.length_map];exact b3)
       rw [<- beqBL_eq _ _ b2] at h2
       exact .sem (range_rounds hg hit h2 b4 b5 b6 b7 (roundsZ_sound hm (fun e K v K' hrun => ih hrun) _ _ _ hr) (wp_sound hm (ih h)))
      ·simp at h
    ·simp at h
   ·split at h
    ·rename_i w hf
     simp only [Option.some.injEq,Prod.mk.injEq] at h
     obtain ⟨rfl,rfl⟩:=h
     exact .ret hf ⟨rfl,rfl⟩
    ·simp at h
   ·simp at h
  ·simp at h
def trimZ (L L':Heap) (v:AV):Heap:=bif keepOk L.length v (L'.take L.length) then L'.take L.length else L'
theorem trimZ_ok {M:Mach} {f:FuncId} {args:List AV} {L L':Heap} {v:AV} (h:Ev M (.own f args L) v L'):Ev M (.own f args L) v (trimZ L L' v):=by
 unfold trimZ
 cases hk:keepOk L.length v (L'.take L.length) with
 | false => exact h
 | true =>
  simp only [cond_true]
  refine .drop hk (.mono h fun x K ⟨e1,e2⟩ => ?_)
  subst e1;subst e2
  refine ⟨rfl,?_⟩
  unfold keepOk at hk
  simp only [Bool.and_eq_true,Nat.beq_eq] at hk
  rw [hk.1]
def frzZ (L:Heap) (v:AV) (L':Heap):Option (AV × Heap):=match pureA L' v with
 | some d => bif (versA L' v).all (fun b => b) && ((rowsA v).all (fun r => Nat.ble L.length r) && ((rowsA d).isEmpty && frzOk L.length (L'.take L.length))) then some (d,L'.take L.length) else none
 | none => none
theorem frzZ_ok {M:Mach} (hm:(M.P ()).follows .mixedOrders = true) {f:FuncId} {args:List AV} {L L' K:Heap} {v d:AV} (h:Ev M (.own f args L) v L') (hz:frzZ L v L' = some (d,K)):Ev M (.own f args L) d K:=by
 unfold frzZ at hz
 split at hz
 ·rename_i d0 hd
  cases hb:((versA L' v).all (fun b => b) && ((rowsA v).all (fun r => Nat.ble L.length r) && ((rowsA d0).isEmpty && frzOk L.length (L'.take L.length)))) with
  | false => rw [hb] at hz;simp at hz
  | true =>
   rw [hb] at hz
   simp only [cond_true,Option.some.injEq,Prod.mk.injEq] at hz
   obtain ⟨rfl,rfl⟩:=hz
   simp only [Bool.and_eq_true,List.all_eq_true,List.isEmpty_iff,Nat.ble_eq] at hb
   obtain ⟨b1,b2,b3,b4⟩:=hb
   have hl:(L'.take L.length).length = L.length:=by
    unfold frzOk at b4
    simp only [Bool.and_eq_true,Nat.beq_eq] at b4
    exact b4.1
   exact own_freeze hm b4 b3 (.mono h fun x K ⟨e1,e2⟩ => by
    subst e1;subst e2
    exact ⟨hd,b1,fun r hr => by rw [hl];exact b2 r hr,by rw [hl]⟩)
 ·simp at hz
def outZ (fz:Bool) (L:Heap) (v:AV) (L':Heap):AV × Option Heap:=
 match (bif fz then frzZ L v L' else none) with
 | some (d,K) => bif beqHeap K L then (d,none) else (d,some K)
 | none => bif beqHeap (trimZ L L' v) L then (v,none) else (v,some (trimZ L L' v))
def ansZ (M:Mach) (fz:Nat -> Bool) (K:List (Nat × List AV × AV)) (ex:FuncId -> List AV -> Heap -> Option (AV × Heap)):Answer:=fun g args L =>
 match M.inl g with
 | true => match ex g args L with
  | some (v,L') => some (outZ (fz g) L v L')
  | none => none
 | false => ansY M K ex g args L
theorem outZ_ok {M:Mach} (hm:(M.P ()).follows .mixedOrders = true) {fz:Bool} {f:FuncId} {args:List AV} {L L':Heap} {v:AV} (h:Ev M (.own f args L) v L'):Ev M (.own f args L) (outZ fz L v L').1 ((outZ fz L v L').2.getD L):=by
 have one:∀ {w:AV} {K:Heap},Ev M (.own f args L) w K -> Ev M (.own f args L) (bif beqHeap K L then (w,none) else (w,some K):AV × Option Heap).1 ((bif beqHeap K L then (w,none) else (w,some K):AV × Option Heap).2.getD L):=by
  intro w K h1
  cases hb:beqHeap K L with
  | true => rw [beqHeap_eq _ _ hb] at h1;exact h1
  | false => exact h1
 unfold outZ
 split
 ·rename_i d K hz
  cases fz with
  | false => simp at hz
  | true => exact one (frzZ_ok hm h hz)
 ·exact one (trimZ_ok h)
theorem ansZ_ok {M:Mach} (hm:(M.P ()).follows .mixedOrders = true) {fz:Nat -> Bool} {G:EG} (hK:KnownOk M G) {ex:FuncId -> List AV -> Heap -> Option (AV × Heap)} (h:∀ f args L v L',ex f args L = some (v,L') -> Ev M (.own f args L) v L'):AnsOk M (ansZ M fz G.known ex):=by
 intro f args L v o hc
 unfold ansZ at hc
 split at hc
 ·rename_i hi
  refine ⟨fun _ => ?_,fun h2 => by rw [hi] at h2;simp at h2⟩
  split at hc
  ·rename_i w L' he
   have h1:=outZ_ok hm (fz:=fz f) (h _ _ _ _ _ he)
   simp only [Option.some.injEq] at hc
   rw [hc] at h1
   exact h1
  ·simp at hc
 ·exact ansY_ok hm hK h f args L v o hc
def fzOf (l:List (Nat × List (Nat × List Nat))) (f:Nat):Bool:=l.any fun e => Nat.beq e.1 f
def execZ (M:Mach) (itf:Option FuncId) (G:EG):Nat -> FuncId -> List AV -> Heap -> Option (AV × Heap)
 | 0 => fun _ _ _ => none
 | n + 1 => fun f args L =>
  match (M.P ()).funcs[f]? with
  | some fn => match fn.body,fn.name == "runtime.NumGoroutine" with
   | some c,false => runZ M itf ⟨fn.ntmps,fn.results.toList⟩ (ofFn G.keep f) (ofFn G.rows f) (ansZ M (fzOf G.hot) G.known (execZ M itf G n)) 100000 [.code c] (argVars 0 args) L
   | _,_ => none
  | none => none
theorem execZ_sound {M:Mach} (hm:(M.P ()).follows .mixedOrders = true) {itf:Option FuncId} (hI:∀ it,itf = some it -> (∀ args w,(callFunc it args).run (M.P ()) w = .ok (.enter it args) w) /\ ∀ (f:Bool) (X:List Int),X.length < 4611686018427387904 -> IterSnd M it (.eptr 1 [.vec f 1 (X.map (.int .i64))] 0 0) (bkX X))
  {G:EG} (hK:KnownOk M G):∀ (n:Nat) (f:FuncId) (args:List AV) (L:Heap) (v:AV) (L':Heap),execZ M itf G n f args L = some (v,L') -> Ev M (.own f args L) v L':=by
 intro n
 induction n with
 | zero => intro f args L v L' h;simp [execZ] at h
 | succ n ih =>
  intro f args L v L' h
  unfold execZ at h
  split at h
  ·rename_i fn hf
   split at h
   ·rename_i c hb hn
    exact .own fn c hf hb hn (runZ_sound hm hI (ansZ_ok hm hK fun f args L v L' h => ih f args L v L' h) _ h)
   ·simp at h
  ·simp at h
def execP2 (M:Mach) (itf:Option FuncId) (G:EG) (n:Nat) (f:FuncId) (args:List AV):Option AV:=
 match execZ M itf G n f args [] with
 | some (v,L') => match deepA L' v with
  | some d => bif (deepV L' v).all (fun b => b) then some d else none
  | none => none
 | none => none
theorem exec_all {M:Mach} (hm:(M.P ()).follows .mixedOrders = true) {itf:Option FuncId} (hI:∀ it,itf = some it -> (∀ args w,(callFunc it args).run (M.P ()) w = .ok (.enter it args) w) /\ ∀ (f:Bool) (X:List Int),X.length < 4611686018427387904 -> IterSnd M it (.eptr 1 [.vec f 1 (X.map (.int .i64))] 0 0) (bkX X))
  {G:EG} (hK:KnownOk M G) (n:Nat) {f:FuncId} {args:List AV} {d:AV} (h:execP2 M itf G n f args = some d):Ev M (.pure f args) d []:=by
 unfold execP2 at h
 split at h
 ·rename_i v L' he
  split at h
  ·rename_i d0 hd
   cases hb:(deepV L' v).all (fun b => b) with
   | false => rw [hb] at h;simp at h
   | true =>
    rw [hb] at h
    simp only [cond_true,Option.some.injEq] at h
    subst h
    exact deep_pure hm (.mono (execZ_sound hm hI hK n _ _ _ _ _ he) fun x K ⟨e1,e2⟩ => by subst e1;subst e2;exact deep_of hd ((allB_iff _).2 fun b hbm => (List.all_eq_true.1 hb) b hbm))
  ·simp at h
 ·simp at h
end Go.Av

namespace Go.Av
abbrev vi:Int -> AV:=AV.int .i64
abbrev us (l:List Int):List AV:=List.map (AV.int .u32) l
abbrev wi (x:Int):Int:=IntKind.i64.wrap x
abbrev vf (l:List AV):AV:=.vec false 1 l
abbrev ag (l:List AV):AV:=.agg l
abbrev tu (l:List AV):AV:=.tup l
abbrev vb (b:Bool):AV:=.bool b
abbrev gi {α:Type} (l:List α) (i:Nat):Option α:=l.get?Internal i
theorem b0:allB []:=trivial
theorem bc {b:Bool} {l:List Bool} (h:b = true) (r:allB l):allB (b :: l):=⟨h,r⟩
theorem q0:allP []:=trivial
theorem qc {p:Prop} {l:List Prop} (h:p) (r:allP l):allP (p :: l):=⟨h,r⟩
theorem c0 {M:Mach}:allC M []:=trivial
theorem cc {M:Mach} {c:CF} {l:List CF} (h:c.cond = true -> c.ok M) (r:allC M l):allC M (c :: l):=⟨h,r⟩
theorem xm (p:Prop):p \/ ¬p:=Classical.em p
abbrev pc (f:Nat) (args:List AV) (v:AV):CF:=⟨true,false,f,args,[],v,[]⟩
theorem ce {M:Mach} {f:Nat} {args:List AV} {v:AV} {l:List CF} (h:Ev M (.pure f args) v []) (r:allC M l):allC M (pc f args v :: l):=⟨fun _ => h,r⟩
def retP (M:Mach) (fi:Fi) (G:Given) (n:Nat) (ds:List Bool) (todo:List Item) (env:Vars) (L:Heap):Option (AV × List Bool × List Prop × List CF):=
 match path M fi G n ds ⟨todo,env,L,[],[],[]⟩ with
 | some ⟨.code .ret :: _,env',L',asm,eqs,calls⟩ => match finish M.P fi env' L' with
  | some v => match pureA L' v with
   | some d => bif (versA L' v).all id && d.clean then some (d,asm,eqs,calls) else none
   | none => none
  | none => none
 | _ => none
theorem path_rq {M:Mach} {fi:Fi} {G:Given} (n:Nat) (ds:List Bool) {todo:List Item} {env:Vars} {L:Heap} {asm:List Bool} {eqs:List Prop} {calls:List CF} (d:AV) {dq:AV}
  (h:retP M fi G n ds todo env L = some (d,asm,eqs,calls)) (hA:allB asm) (hQ:allP eqs) (hC:allC M calls) (w:Weak d dq):Wp M (.run fi todo env L) (PureQ dq):=by
 unfold retP at h
 split at h
 ·rename_i k env' L' asm' eqs' calls' hp
  split at h
  ·rename_i v hf
   split at h
   ·rename_i d' hd
    cases hb:((versA L' v).all id && d'.clean) with
    | false => rw [hb] at h;simp at h
    | true =>
     rw [hb] at h
     simp only [cond_true,Option.some.injEq,Prod.mk.injEq] at h
     obtain ⟨rfl,rfl,rfl,rfl⟩:=h
     rw [Bool.and_eq_true,List.all_eq_true] at hb
     exact path_wp n ds _ hp hA hQ hC (.ret hf ⟨_,hd,(allB_iff _).2 hb.1,hb.2,w⟩)
   ·simp at h
  ·simp at h
 ·simp at h
theorem path_re {M:Mach} {fi:Fi} {G:Given} (n:Nat) (ds:List Bool) {todo:List Item} {env:Vars} {L:Heap} {asm:List Bool} {eqs:List Prop} {calls:List CF} (d:AV) {dq:AV}
  (h:retP M fi G n ds todo env L = some (d,asm,eqs,calls)) (hA:allB asm) (hQ:allP eqs) (hC:allC M calls) (w:d = dq):Wp M (.run fi todo env L) (PureQ dq):=
 path_rq n ds d h hA hQ hC (by rw [w];exact .refl _)
theorem pcl {M:Mach} {f:FuncId} {args:List AV} {d:AV} (fn:Func) (fi:Fi) (h0:((M.P ()).funcs[f]?,fn.body,fn.name == "runtime.NumGoroutine",(⟨fn.ntmps,fn.results.toList⟩:Fi)) = (some fn,some (cd fn),false,fi)) (h:Wp M (.run fi [.code (cd fn)] (argVars 0 args) []) (PureQ d)):Ev M (.pure f args) d []:=
 pure_pq fn fi (congrArg (fun x => x.1) h0) (congrArg (fun x => x.2.1) h0) (congrArg (fun x => x.2.2.1) h0) (congrArg (fun x => x.2.2.2) h0) h
abbrev wc (M:Mach) (fi:Fi) (fn:Func) (args:List AV) (d:AV):Prop:=Wp M (.run fi [.code (cd fn)] (argVars 0 args) []) (PureQ d)
end Go.Av

namespace Go.Av
open Go.Proofs
noncomputable def M1:Mach:=⟨fun _ => Try.prog,fun f => [46,72,84,71,45,49].contains f⟩
noncomputable def M0:Mach:=⟨fun _ => Try.prog,fun f => [34,16].contains f || M1.inl f⟩
theorem hm1:(M1.P ()).follows .mixedOrders = true:=by kernel_rfl
theorem hm0:(M0.P ()).follows .mixedOrders = true:=by kernel_rfl
theorem ev_M0 {f:FuncId} {args:List AV} {d:AV} (h:Ev M0 (.pure f args) d []):Ev M1 (.pure f args) d []:=.sem (wp_sound hm0 (c:=.pure f args) h)
end Go.Av

namespace Go.Av
open Go.Proofs
def suTt:List (Nat × List (Nat × List Nat)):=[(11,[(0,[]),(1,[1,2,3]),(2,[1,2,3,4]),(3,[1,2,3,4,5]),(4,[1,2,3,4,6,7]),(5,[1,2,3,4,6,7,8,9]),(6,[1,2,3,4,6,73]),(7,[0]),(8,[1,2,3,4,6]),(9,[1,2,3,4,11]),(10,[3,4,11,12,13]),(11,[3,4,11,12,13,14]),(12,[0])]),
 (13,[(0,[1]),(1,[1,16]),(2,[2,3,4,5]),(3,[1,6]),(4,[1,6,7,8,9]),(5,[6,7,8,9,19,20,21]),(6,[6,7,8,9,19,20,21,22]),(7,[6,7,8,9,11,19,20,21]),(8,[6,7,8,9,11,19,20,21]),(9,[6,7,8,9,11,12,13,19,20,21]),(10,[6,7,8,9,12,13,19,20,21,37]),(11,[6,7,8,9,19,20,21]),(12,[6,7,8,9,12,13,19,20,21,37,38]),(13,[6,7,8,9,19,20,21]),(14,[6,7,8,9,12,13,19,20,21,37,45]),(15,[6,7,8,9,19,20,21]),(16,[6,7,8,9,19,20,21,37,52]),(17,[6,7,8,9,19,20,21,52]),(18,[6,7,8,9,19,20,21]),(19,[7,8,77]),(20,[2,3,4,5]),(21,[2,3,4,5])]),
 (16,[(0,[1]),(1,[1,4,6]),(2,[1,4,6,17]),(3,[2,3]),(4,[1,4,7]),(5,[7,22,23,24]),(6,[7,22,23,24,25]),(7,[7,9,22,23,24]),(8,[7,9,22,23,24]),(9,[7,22,23,24]),(10,[7,22,23,24]),(11,[2,3])]),
 (18,[(0,[0,1]),(1,[0,1,10]),(2,[4]),(3,[0,1,5]),(4,[0,1,5,14]),(5,[0,1,5]),(6,[0,1,5,26]),(7,[4]),(8,[4])]),
 (20,[(0,[0]),(1,[0,3]),(2,[0,3,9,10,11]),(3,[0,3,9,10,11,12]),(4,[0,3,5,9,10,11]),(5,[0,3,9,10,11]),(6,[0,3,9,10,11,20]),(7,[0,3,9,10,11]),(8,[0,3,9,10,11]),(9,[0,6]),(10,[6,25,26,27]),(11,[6,25,26,27,28]),(12,[6,8,25,26,27]),(13,[6,25,26,27]),(14,[6,25,26,27]),(15,[2])]),
 (21,[(0,[0,1,2,6]),(1,[0,1,2,6,20]),(2,[6,7]),(3,[0,1,2,6,8]),(4,[0,1,2,6,8,26]),(5,[0,1,2,6,8]),(6,[0,1,2,6,8,31]),(7,[6,7]),(8,[0,1,2,6,8,9]),(9,[0,1,2,6,8,9,10]),(10,[0,1,2,6,8,9,10,38]),(11,[0,1,2,6,8,9,10,51]),(12,[0,1,2,6,8,9,10]),(13,[0,1,2,6,8,9,10]),(14,[0,1,2,6,8,9,10]),(15,[0,1,2,6,8,9,10]),(16,[6,7])]),
 (22,[(0,[0]),(1,[0,4]),(2,[2]),(3,[2])]),
 (27,[(0,[0,1]),(1,[4])]),
 (32,[(0,[0,2]),(1,[2])]),
 (33,[(0,[0,1,4]),(1,[4])]),
 (34,[(0,[0,2]),(1,[0,2,4]),(2,[0,2,4,13]),(3,[2,3]),(4,[0,2,4,5]),(5,[2,5,6]),(6,[2,5,6,27]),(7,[2,5,6,7,8]),(8,[2,5,6,7,8,9]),(9,[2,5,6,7,9,42]),(10,[2,3]),(11,[2,5,6,9]),(12,[2,5,6]),(13,[2,5,61]),(14,[2,3]),(15,[2,5,65]),(16,[2,3]),(17,[2,3])]),
 (40,[(0,[1,2,3]),(1,[6])]),
 (41,[(0,[0]),(1,[0,4]),(2,[2,3])]),
 (45,[(0,[1]),(1,[1,5,6]),(2,[1,5,6,15]),(3,[2,3,4]),(4,[5,7,8]),(5,[5,8,29]),(6,[2,3,4]),(7,[2,3,4])]),
 (46,[(0,[0,1]),(1,[0,1,5]),(2,[0,5,14,15,16]),(3,[0,5,14,15,16,17]),(4,[0,5,7,14,15,16]),(5,[0,5,7,8,9,10,14,15,16]),(6,[0,5,7,8,9,14,15,16,28]),(7,[0,5,14,15,16]),(8,[0,5,8,9,12,13,14,15,16]),(9,[0,5,8,9,12,14,15,16,43]),(10,[0,5,8,9,12,14,15,16]),(11,[0,5,9,12,14,15,16]),(12,[0,5,9,12,14,15,16,60]),(13,[0,5,12,14,15,16,61,62]),(14,[0,5,12,14,15,16,61,62,63]),(15,[0,5,12,14,15,16,61,62]),(16,[0,5,12,14,15,16,61,62]),(17,[0,5,14,15,16]),(18,[4])]),
 (47,[(0,[0]),(1,[0,4]),(2,[2]),(3,[2])]),
 (48,[(0,[2,3]),(1,[2,3,26]),(2,[4]),(3,[2,3,5]),(4,[2,3,5,31]),(5,[2,3,5]),(6,[2,3,5,44]),(7,[4]),(8,[4])]),
 (49,[(0,[0,1]),(1,[0,1,6]),(2,[0,1]),(3,[0,1]),(4,[0,1,16]),(5,[0]),(6,[4])]),
 (50,[(0,[0,1]),(1,[0,1,5]),(2,[0,1,5,14]),(3,[0,1,5]),(4,[0,1,5,6]),(5,[0,1,5,6,25]),(6,[0,1,5,6]),(7,[0,1,5,6,32]),(8,[4]),(9,[4])]),
 (51,[(0,[0,1,2,3]),(1,[0,1,2,10,11]),(2,[0,1,2,10,11,12]),(3,[0,1,2,9,10,11]),(4,[0,1,2,10,11,37]),(5,[8]),(6,[0,1,2,10,11]),(7,[8])]),
 (56,[(0,[0,1]),(1,[0,1,7,8]),(2,[0,1,7,8,9]),(3,[0,1,5,7,8]),(4,[0,1,5,7,8,16]),(5,[4]),(6,[0,1,7,8]),(7,[4])]),
 (58,[(0,[1]),(1,[2])]),
 (59,[(0,[1]),(1,[1,14]),(2,[2,3]),(3,[2,3])]),
 (60,[(0,[1]),(1,[2])]),
 (61,[(0,[1]),(1,[2])]),
 (62,[(0,[1]),(1,[1,3]),(2,[1,43]),(3,[2]),(4,[2])]),
 (63,[(0,[0]),(1,[0,5,6,7]),(2,[0,5,6,7,8]),(3,[0,3,4,5,6,7]),(4,[0,5,6,7,16]),(5,[2]),(6,[0,5,6,7]),(7,[2])]),
 (69,[(0,[0,1]),(1,[4])]),
 (70,[(0,[1,2]),(1,[1,2,5]),(2,[1,5,9,10,11]),(3,[1,5,9,10,11,12]),(4,[1,5,7,9,10,11]),(5,[1,5,7,9,10,11,18]),(6,[1,5,9,10,11]),(7,[1,5,9,10,11]),(8,[4])]),
 (71,[(0,[1]),(1,[1,23]),(2,[2,3]),(3,[1,4]),(4,[1,4,5]),(5,[1,4,5,35,36,37]),(6,[1,4,5,35,36,37,38]),(7,[1,4,5,7,35,36,37]),(8,[1,4,5,7,35,36,37]),(9,[1,4,5,35,36,37]),(10,[1,4,5,35,36,37]),(11,[1,4,5,8]),(12,[1,4,8,56,57,58]),(13,[1,4,8,56,57,58,59]),(14,[1,4,8,10,56,57,58]),(15,[1,4,8,11,13,14,56,57,58]),(16,[1,4,8,11,13,14,56,57,58,70]),(17,[2,3]),(18,[1,4,8,11,56,57,58,72]),(19,[1,4,8,56,57,58]),(20,[1,4,8,56,57,58]),(21,[1,4,78,79,80]),(22,[1,4,78,79,80,81]),(23,[1,4,16,78,79,80]),(24,[1,4,18,78,79,80]),(25,[1,4,78,79,80,94]),(26,[2,3]),(27,[1,4,78,79,80]),(28,[4,97,98,99]),(29,[4,97,98,99,100]),(30,[4,20,97,98,99]),(31,[4,97,98,99,107]),(32,[2,3]),(33,[4,97,98,99]),(34,[2,3])]),
 (72,[(0,[0,1]),(1,[0,1,6,7]),(2,[0,6,7,14,15,16]),(3,[0,6,7,14,15,16,17]),(4,[0,6,7,9,14,15,16]),(5,[0,6,7,10,11,12,14,15,16]),(6,[0,6,7,10,11,14,15,16,28]),(7,[0,6,7,14,15,16]),(8,[0,6,7,10,11,14,15,16]),(9,[0,6,7,14,15,16]),(10,[0,6,7,14,15,16]),(11,[0,6,7,14,15,16]),(12,[4,5])]),
 (73,[(0,[1]),(1,[2])]),
 (74,[(0,[2,3]),(1,[4])]),
 (77,[(0,[1]),(1,[2])]),
 (78,[(0,[0,1]),(1,[4])]),
 (79,[(0,[1]),(1,[2])]),
 (80,[(0,[1,2]),(1,[3])]),
 (82,[(0,[0,1]),(1,[0,1,7,8]),(2,[0,1,7,8,9]),(3,[0,1,5,7,8]),(4,[0,1,5,7,8,16]),(5,[4]),(6,[0,1,7,8]),(7,[4])]),
 (83,[(0,[1]),(1,[1,6,7,8]),(2,[1,6,7,8,9]),(3,[1,4,6,7,8]),(4,[1,6,7,8,19]),(5,[2]),(6,[1,6,7,8]),(7,[2])]),
 (84,[(0,[0,1]),(1,[0,1,16]),(2,[0,1,16,17]),(3,[4]),(4,[0,1,19]),(5,[4]),(6,[0,1]),(7,[0,1,31,32,33]),(8,[0,1,31,32,33,34]),(9,[0,1,6,31,32,33]),(10,[0,1,7,9,31,32,33]),(11,[0,1,31,32,33,50]),(12,[4]),(13,[0,1,31,32,33]),(14,[0,1]),(15,[]),(16,[4])]),
 (85,[(0,[0,1]),(1,[0,1,10]),(2,[4]),(3,[0,1,12,13]),(4,[0,1,12,13,14]),(5,[0,1,5,12,13]),(6,[0,1,12,13,24]),(7,[4]),(8,[0,1,12,13]),(9,[4])]),
 (86,[(0,[0,1]),(1,[0,1,7,8]),(2,[0,1,7,8,9]),(3,[0,1,5,7,8]),(4,[0,1,5,7,8,16]),(5,[4]),(6,[0,1,7,8]),(7,[4])])]
end Go.Av

namespace Go.Av
open Go.Proofs
def suGt:EG:=⟨suTt,[(46,[])],[],[]⟩
set_option maxRecDepth 1000000 in
theorem ev11:Ev M1 (.pure 11 []) (.bool true) []:=ev_M0 (exec_all hm0 (itf:=none) (fun _ h => nomatch h) (G:=suGt) known_nil 30 (by kernel_rfl))
end Go.Av

namespace Go.Av
open Go.Proofs
structure Wo where
 l:Int
 v:Int
 deriving Inhabited,DecidableEq
def Wo.a (w:Wo):AV:=.agg [.int .u8 w.l,.int .i64 w.v]
structure Bk where
 sk:Bool
 f:Bool
 ws:List Wo
 cm:List UInt8
 deriving Inhabited
def Bk.a (b:Bk):AV:=.agg [.bool b.sk,.vec b.f 2 (b.ws.map Wo.a),.str b.cm]
structure Sb where
 n:Int
 f:Bool
 bl:List Bk
 deriving Inhabited
def Sb.a (s:Sb):AV:=.agg [.int .i64 s.n,.vec s.f 3 (s.bl.map Bk.a)]
end Go.Av

namespace Go.Av
open Go.Proofs
theorem pack5 (x:AV):packA Try.prog 5 [x] = x:=by
 simp [packA,aggT,Try.underlying5]
theorem pack4 (x:AV):packA Try.prog 4 [x] = x:=by
 simp [packA,aggT,Try.underlying4]
theorem laidOut:laidOutB Try.prog = true:=by kernel_rfl
theorem ownGo:ownKnob Try.prog.godebug = none:=by kernel_rfl
end Go.Av

namespace Go.Av
open Go.Proofs
set_option maxRecDepth 100000
def fi41:Fi:=⟨19,[.tmp 2,.tmp 3]⟩
def kp41:List (Nat × List Nat):=[(0,[0]),(1,[0,4]),(2,[2,3])]
def fi70:Fi:=⟨26,[.tmp 4]⟩
def kp70:List (Nat × List Nat):=[(0,[1,2]),(1,[1,2,5]),(2,[1,5,9,10,11]),(3,[1,5,9,10,11,12]),(4,[1,5,7,9,10,11]),(5,[1,5,7,9,10,11,18]),(6,[1,5,9,10,11]),(7,[1,5,9,10,11]),(8,[4])]
def fi82:Fi:=⟨19,[.tmp 4]⟩
def kp82:List (Nat × List Nat):=[(0,[0,1]),(1,[0,1,7,8]),(2,[0,1,7,8,9]),(3,[0,1,5,7,8]),(4,[0,1,5,7,8,16]),(5,[4]),(6,[0,1,7,8]),(7,[4])]
def suC_at (sk f:Bool) (ws:List Wo) (cm:List UInt8) (c:Int) (Q:AV -> Heap -> Prop):Prop:=Wp M1 (.run fi70 (atC (cd Try.f70) []) [(0,.agg [.bool sk,.vec f 2 (ws.map Wo.a),.str cm]),(1,.int .u8 c)] []) Q
def suCz_at (f:Bool) (ws:List Wo) (c n i:Int) (Q:AV -> Heap -> Prop):Prop:=Wp M1 (.run fi70 (atC (cd Try.f70) [1,1,0,1,0,0]) [(1,.int .u8 c),(5,.vnil),(9,.vec f 2 (ws.map Wo.a)),(10,.int .i64 n),(11,.int .i64 i)] []) Q
def suCa_at (f:Bool) (ws:List Wo) (c n i:Int) (o:List Int) (v:Nat) (Q:AV -> Heap -> Prop):Prop:=Wp M1 (.run fi70 (atC (cd Try.f70) [1,1,0,1,0,0]) [(1,.int .u8 c),(5,.row 0 v),(9,.vec f 2 (ws.map Wo.a)),(10,.int .i64 n),(11,.int .i64 i)] [⟨o.map (.int .i64),1,v,false,true⟩]) Q
def suX_at (f:Bool) (o:List Int) (x:Int) (Q:AV -> Heap -> Prop):Prop:=Wp M1 (.run fi82 (atC (cd Try.f82) []) [(0,.vec f 1 (o.map (.int .i64))),(1,.int .i64 x)] []) Q
def suXa_at (f:Bool) (o:List Int) (x n i:Int) (Q:AV -> Heap -> Prop):Prop:=Wp M1 (.run fi82 (atC (cd Try.f82) [1,0,1,0,0]) [(0,.vec f 1 (o.map (.int .i64))),(1,.int .i64 x),(7,.int .i64 n),(8,.int .i64 i)] []) Q
def suW_at (x:Int) (Q:AV -> Heap -> Prop):Prop:=Wp M1 (.run fi41 (atC (cd Try.f41) []) [(0,.int .i64 x)] []) Q
theorem call41 {args:List AV} {d:AV} (h:wc M1 fi41 Try.f41 args d):Ev M1 (.pure 41 args) d []:=pcl _ _ (by kernel_rfl) h
theorem call70 {args:List AV} {d:AV} (h:wc M1 fi70 Try.f70 args d):Ev M1 (.pure 70 args) d []:=pcl _ _ (by kernel_rfl) h
theorem call82 {args:List AV} {d:AV} (h:wc M1 fi82 Try.f82 args d):Ev M1 (.pure 82 args) d []:=pcl _ _ (by kernel_rfl) h
theorem suC (sk f:Bool) (ws:List Wo) (cm:List UInt8) (c:Int)  (dq:AV) (H :
  suCz_at (f) (ws) (c) ((↑ws.length:Int)) (0) (PureQ dq)) :
 suC_at sk f ws cm c (PureQ dq):=by
 unfold suC_at
 have w1:(List.map Wo.a ws).length = ws.length:=List.length_map ..
 exact path_wp (G:=given kp70 [] []) 1000 [] ⟨(atC (cd Try.f70) [1,1,0,1,0,0]),[(1,AV.int IntKind.u8 c),(5,AV.vnil),(9,AV.vec f 2 (List.map Wo.a ws)),(10,vi (↑(List.map Wo.a ws).length:Int)),(11,vi 0)],[⟨[ag [vb sk,AV.vec f 2 (List.map Wo.a ws),AV.str cm]],3,0,false,false⟩],_,[],_⟩ (by kernel_rfl) (bc rfl b0) q0 c0 (by (try rw [w1]);all_goals exact wp_narrow [] (by kernel_rfl) H)
noncomputable abbrev zSpA1 (ws:List Wo) (i:Int):=ag [AV.int IntKind.u8 (ws.getD i.toNat default).l,vi (ws.getD i.toNat default).v]
theorem suCz (f:Bool) (ws:List Wo) (c n i:Int)  (dq:AV) (H :
  ((i < n) -> (0 <= i) /\
   (i.toNat < ws.length) /\
   (((ws.getD i.toNat default).l = c) -> (-9223372036854775808 <= i + 1 /\ i + 1 <= 9223372036854775807) /\
    suCa_at (f) (ws) (c) (n) (i + 1) ([(ws.getD i.toNat default).v]) (0) (PureQ dq)) /\
   (¬((ws.getD i.toNat default).l = c) -> (-9223372036854775808 <= i + 1 /\ i + 1 <= 9223372036854775807) /\
    suCz_at (f) (ws) (c) (n) (i + 1) (PureQ dq))) /\
  (¬(i < n) -> Weak (AV.vnil) dq)) :
 suCz_at f ws c n i (PureQ dq):=by
 unfold suCz_at
 rcases xm (i < n) with d2 | d2
 ·have H:=H.1 d2
  obtain ⟨k4,H⟩:=H
  have w5:(List.map Wo.a ws).length = ws.length:=List.length_map ..
  have i6:(decide (i.toNat < (List.map Wo.a ws).length)) = true ↔ (i.toNat < ws.length):=(by (try rw [w5]);all_goals exact i_dec)
  obtain ⟨k7,H⟩:=H
  refine path_wp (G:=given kp70 [(4,1,.elem ((zSpA1 ws i)))] []) 11 [true] ⟨(atC (cd Try.f70) [1,1,0,1,0,0,1,1,0,0,1,1]),[(1,AV.int IntKind.u8 c),(5,AV.vnil),(7,AV.ptr 0 0 0 0),(9,AV.vec f 2 (List.map Wo.a ws)),(10,vi n),(11,vi i),(18,vb ((ws.getD i.toNat default).l == c))],[⟨[(zSpA1 ws i)],2,0,false,false⟩],_,[((List.map Wo.a ws).get?Internal i.toNat = some ((zSpA1 ws i)))],_⟩ (by kernel_rfl) (bc (beq_t (i_dec.2 d2)) (bc (i_dec.2 k4) (bc (i6.2 k7) (bc rfl (bc rfl b0))))) (qc (el_map k7) q0) c0 ?_
  rcases xm ((ws.getD i.toNat default).l = c) with d9 | d9
  ·have H:=H.1 d9
   obtain ⟨k10,H⟩:=H
   have w11:wi (i + 1) = i + 1:=wI64 k10
   have w12:[vi (ws.getD i.toNat default).v] = List.map (vi) [(ws.getD i.toNat default).v]:=rfl
   exact path_wp (G:=given kp70 [] []) 1000 [true] ⟨(atC (cd Try.f70) [1,1,0,1,0,0]),[(1,AV.int IntKind.u8 c),(5,AV.row 1 0),(9,AV.vec f 2 (List.map Wo.a ws)),(10,vi n),(11,vi (wi (i + 1)))],[⟨[(zSpA1 ws i)],2,0,false,false⟩,⟨[vi (ws.getD i.toNat default).v],1,0,false,true⟩],_,[],_⟩ (by kernel_rfl) (bc (beq_t (i_eq.2 d9)) (bc rfl (bc rfl b0))) q0 c0 (by (try rw [w11]);(try rw [w12]);all_goals exact wp_narrow [1] (by kernel_rfl) H)
  ·have H:=H.2 d9
   obtain ⟨k13,H⟩:=H
   have w14:wi (i + 1) = i + 1:=wI64 k13
   exact path_wp (G:=given kp70 [] []) 1000 [false] ⟨(atC (cd Try.f70) [1,1,0,1,0,0]),[(1,AV.int IntKind.u8 c),(5,AV.vnil),(9,AV.vec f 2 (List.map Wo.a ws)),(10,vi n),(11,vi (wi (i + 1)))],[⟨[(zSpA1 ws i)],2,0,false,false⟩],_,[],_⟩ (by kernel_rfl) (bc (beq_f (fun h => d9 (i_eq.1 h))) b0) q0 c0 (by (try rw [w14]);all_goals exact wp_narrow [] (by kernel_rfl) H)
 ·have H:=H.2 d2
  exact path_rq (G:=given kp70 [] []) 1000 [false] (AV.vnil) (by kernel_rfl) (bc (beq_f (fun h => d2 (i_dec.1 h))) b0) q0 c0 H
noncomputable abbrev zSpA2 (ws:List Wo) (i:Int):=ag [AV.int IntKind.u8 (ws.getD i.toNat default).l,vi (ws.getD i.toNat default).v]
theorem suCa (f:Bool) (ws:List Wo) (c n i:Int) (o:List Int) (v:Nat)  (dq:AV) (H :
  ((i < n) -> (0 <= i) /\
   (i.toNat < ws.length) /\
   (((ws.getD i.toNat default).l = c) -> ((o.length + 1) * 8 <= 1099511627776) /\
    (-9223372036854775808 <= i + 1 /\ i + 1 <= 9223372036854775807) /\
    suCa_at (f) (ws) (c) (n) (i + 1) (o ++ [(ws.getD i.toNat default).v]) (v + 1) (PureQ dq)) /\
   (¬((ws.getD i.toNat default).l = c) -> (-9223372036854775808 <= i + 1 /\ i + 1 <= 9223372036854775807) /\
    suCa_at (f) (ws) (c) (n) (i + 1) (o) (v) (PureQ dq))) /\
  (¬(i < n) -> Weak (vf (List.map (vi) o)) dq)) :
 suCa_at f ws c n i o v (PureQ dq):=by
 unfold suCa_at
 rcases xm (i < n) with d2 | d2
 ·have H:=H.1 d2
  obtain ⟨k4,H⟩:=H
  have w5:(List.map Wo.a ws).length = ws.length:=List.length_map ..
  have i6:(decide (i.toNat < (List.map Wo.a ws).length)) = true ↔ (i.toNat < ws.length):=(by (try rw [w5]);all_goals exact i_dec)
  obtain ⟨k7,H⟩:=H
  refine path_wp (G:=given kp70 [(4,1,.elem ((zSpA2 ws i)))] []) 11 [true] ⟨(atC (cd Try.f70) [1,1,0,1,0,0,1,1,0,0,1,1]),[(1,AV.int IntKind.u8 c),(5,AV.row 0 v),(7,AV.ptr 1 0 0 0),(9,AV.vec f 2 (List.map Wo.a ws)),(10,vi n),(11,vi i),(18,vb ((ws.getD i.toNat default).l == c))],[⟨List.map (vi) o,1,v,false,true⟩,⟨[(zSpA2 ws i)],2,0,false,false⟩],_,[((List.map Wo.a ws).get?Internal i.toNat = some ((zSpA2 ws i)))],_⟩ (by kernel_rfl) (bc (beq_t (i_dec.2 d2)) (bc (i_dec.2 k4) (bc (i6.2 k7) (bc rfl (bc rfl b0))))) (qc (el_map k7) q0) c0 ?_
  rcases xm ((ws.getD i.toNat default).l = c) with d9 | d9
  ·have H:=H.1 d9
   have w10:(List.map (vi) o).length = o.length:=List.length_map ..
   have i11:(decide (((List.map (vi) o).length + 1) * 8 <= 1099511627776)) = true ↔ ((o.length + 1) * 8 <= 1099511627776):=(by (try rw [w10]);all_goals exact i_dec)
   obtain ⟨k12,H⟩:=H
   have w13:List.map (vi) o ++ [vi (ws.getD i.toNat default).v] = List.map (vi) (o ++ [(ws.getD i.toNat default).v]):=(lm_app rfl rfl)
   obtain ⟨k14,H⟩:=H
   have w15:wi (i + 1) = i + 1:=wI64 k14
   exact path_wp (G:=given kp70 [] []) 1000 [true] ⟨(atC (cd Try.f70) [1,1,0,1,0,0]),[(1,AV.int IntKind.u8 c),(5,AV.row 0 (v + 1)),(9,AV.vec f 2 (List.map Wo.a ws)),(10,vi n),(11,vi (wi (i + 1)))],[⟨List.map (vi) o ++ [vi (ws.getD i.toNat default).v],1,v + 1,false,true⟩,⟨[(zSpA2 ws i)],2,0,false,false⟩],[((ws.getD i.toNat default).l == c) == true,true,v == v,decide (((List.map (vi) o).length + 1) * 8 <= 1099511627776)],[],_⟩ (by kernel_rfl) (bc (beq_t (i_eq.2 d9)) (bc rfl (bc (beq_self_eq_true _) (bc (i11.2 k12) b0)))) q0 c0 (by (try rw [w13]);(try rw [w15]);all_goals exact wp_narrow [0] (by kernel_rfl) H)
  ·have H:=H.2 d9
   obtain ⟨k16,H⟩:=H
   have w17:wi (i + 1) = i + 1:=wI64 k16
   exact path_wp (G:=given kp70 [] []) 1000 [false] ⟨(atC (cd Try.f70) [1,1,0,1,0,0]),[(1,AV.int IntKind.u8 c),(5,AV.row 0 v),(9,AV.vec f 2 (List.map Wo.a ws)),(10,vi n),(11,vi (wi (i + 1)))],[⟨List.map (vi) o,1,v,false,true⟩,⟨[(zSpA2 ws i)],2,0,false,false⟩],_,[],_⟩ (by kernel_rfl) (bc (beq_f (fun h => d9 (i_eq.1 h))) b0) q0 c0 (by (try rw [w17]);all_goals exact wp_narrow [0] (by kernel_rfl) H)
 ·have H:=H.2 d2
  exact path_ret (G:=given kp70 [] []) 1000 [false] (k:=((atC (cd Try.f70) [1,1,1,1])).tail) (env':=[(4,AV.row 0 v)]) (L':=[⟨List.map (vi) o,1,v,false,true⟩]) (asm:=[(decide (i < n)) == false]) (eqs:=[]) (calls:=[]) (AV.row 0 v) (by kernel_rfl) (by kernel_rfl) (allB_cons (beq_f (fun h => d2 (i_dec.1 h))) allB_nil) allP_nil allC_nil (pq_weak (d:=(vf (List.map (vi) o))) (bs:=[v == v]) (by kernel_rfl) (by kernel_rfl) (allB_cons (beq_self_eq_true _) allB_nil) (by kernel_rfl) H)
theorem suX (f:Bool) (o:List Int) (x:Int)  (dq:AV) (H :
  suXa_at (f) (o) (x) ((↑o.length:Int)) (0) (PureQ dq)) :
 suX_at f o x (PureQ dq):=by
 unfold suX_at
 have w1:(List.map (vi) o).length = o.length:=List.length_map ..
 exact path_wp (G:=given kp82 [] []) 1000 [] ⟨(atC (cd Try.f82) [1,0,1,0,0]),[(0,AV.vec f 1 (List.map (vi) o)),(1,vi x),(7,vi (↑(List.map (vi) o).length:Int)),(8,vi 0)],[],_,[],_⟩ (by kernel_rfl) b0 q0 c0 (by (try rw [w1]);all_goals exact H)
theorem suXa (f:Bool) (o:List Int) (x n i:Int)  (dq:AV) (H :
  ((i < n) -> (0 <= i) /\
   (i.toNat < o.length) /\
   ((x = o.getD i.toNat default) -> vi i = dq) /\
   (¬(x = o.getD i.toNat default) -> (-9223372036854775808 <= i + 1 /\ i + 1 <= 9223372036854775807) /\
    suXa_at (f) (o) (x) (n) (i + 1) (PureQ dq))) /\
  (¬(i < n) -> vi (-1) = dq)) :
 suXa_at f o x n i (PureQ dq):=by
 unfold suXa_at
 rcases xm (i < n) with d2 | d2
 ·have H:=H.1 d2
  obtain ⟨k4,H⟩:=H
  have w5:(List.map (vi) o).length = o.length:=List.length_map ..
  have i6:(decide (i.toNat < (List.map (vi) o).length)) = true ↔ (i.toNat < o.length):=(by (try rw [w5]);all_goals exact i_dec)
  obtain ⟨k7,H⟩:=H
  refine path_wp (G:=given kp82 [(4,4,.elem (vi (o.getD i.toNat default)))] []) 11 [true] ⟨(atC (cd Try.f82) [1,0,1,0,0,1,1,0,0,1,1]),[(0,AV.vec f 1 (List.map (vi) o)),(1,vi x),(5,vi i),(7,vi n),(8,vi i),(16,vb (x == o.getD i.toNat default))],[],_,[((List.map (vi) o).get?Internal i.toNat = some (vi (o.getD i.toNat default)))],_⟩ (by kernel_rfl) (bc (beq_t (i_dec.2 d2)) (bc (i_dec.2 k4) (bc (i6.2 k7) b0))) (qc (el_map k7) q0) c0 ?_
  rcases xm (x = o.getD i.toNat default) with d9 | d9
  ·have H:=H.1 d9
   exact path_re (G:=given kp82 [] []) 1000 [true] (vi i) (by kernel_rfl) (bc (beq_t (i_eq.2 d9)) b0) q0 c0 H
  ·have H:=H.2 d9
   obtain ⟨k10,H⟩:=H
   have w11:wi (i + 1) = i + 1:=wI64 k10
   exact path_wp (G:=given kp82 [] []) 1000 [false] ⟨(atC (cd Try.f82) [1,0,1,0,0]),[(0,AV.vec f 1 (List.map (vi) o)),(1,vi x),(7,vi n),(8,vi (wi (i + 1)))],[],_,[],_⟩ (by kernel_rfl) (bc (beq_f (fun h => d9 (i_eq.1 h))) b0) q0 c0 (by (try rw [w11]);all_goals exact H)
 ·have H:=H.2 d2
  exact path_re (G:=given kp82 [] []) 1000 [false] (vi (-1)) (by kernel_rfl) (bc (beq_f (fun h => d2 (i_dec.1 h))) b0) q0 c0 H
theorem suW (x:Int)  (dq:AV) (H :
  (-9223372036854775808 <= x.tdiv 1000 /\ x.tdiv 1000 <= 9223372036854775807) /\
  tu [vi (x.tdiv 1000),vb (bif bif x.tmod 1000 == 0 then decide (x.tdiv 1000 >= 1) else false then decide (x.tdiv 1000 <= 9999) else false)] = dq) :
 suW_at x (PureQ dq):=by
 unfold suW_at
 obtain ⟨k1,H⟩:=H
 have w2:wi (x.tdiv 1000) = x.tdiv 1000:=wI64 k1
 exact path_re (G:=given kp41 [] []) 1000 [] (tu [vi (wi (x.tdiv 1000)),vb (bif bif x.tmod 1000 == 0 then decide (wi (x.tdiv 1000) >= 1) else false then decide (wi (x.tdiv 1000) <= 9999) else false)]) (by kernel_rfl) (bc rfl (bc rfl b0)) q0 c0 (by (try rw [w2]);all_goals exact H)
end Go.Av

namespace Go.Av
open Go.Proofs
abbrev inA (f:Bool) (l:List Int):AV:=.vec f 1 (l.map (.int .i64))
abbrev bkA (sk f:Bool) (ws:List Wo) (cm:List UInt8):AV:=.agg [.bool sk,.vec f 2 (ws.map Wo.a),.str cm]
abbrev bsA (g:Bool) (l:List Bk):AV:=.vec g 3 (l.map Bk.a)
namespace Sp
def few6 (n:Nat):Prop:=n <= 1000000
def codes (ws:List Wo) (c:Int):List Int:=(ws.filter fun w => decide (w.l = c)).map (·.v)
def hasW (ws:List Wo) (c x:Int):Bool:=decide (x ∈ codes ws c)
def idx (o:List Int) (x:Int):Int:=if x ∈ o then (o.idxOf x:Nat) else -1
def isIn (o:List Int) (x:Int):Bool:=decide (x ∈ o)
def whV (x:Int):Int:=x.tdiv 1000
def whB (x:Int):Bool:=decide (x.tmod 1000 = 0 /\ 1 <= x.tdiv 1000 /\ x.tdiv 1000 <= 9999)
end Sp
theorem codes_cons (w:Wo) (ws:List Wo) (c:Int):Sp.codes (w :: ws) c = if w.l = c then w.v :: Sp.codes ws c else Sp.codes ws c:=by
 unfold Sp.codes
 by_cases h:w.l = c
 ·rw [List.filter_cons_of_pos (by simpa using h),if_pos h];rfl
 ·rw [List.filter_cons_of_neg (by simpa using h),if_neg h]
theorem codes_nil (c:Int):Sp.codes [] c = []:=rfl
theorem codes_len (ws:List Wo) (c:Int):(Sp.codes ws c).length <= ws.length:=by
 unfold Sp.codes
 rw [List.length_map]
 exact List.length_filter_le ..
theorem suCa_loop {f:Bool} {ws:List Wo} {c:Int} {dq:AV} (hl:ws.length <= 1000000):∀ (k i:Nat) (o:List Int) (v:Nat),i + k = ws.length -> o.length <= i -> inA false (o ++ Sp.codes (ws.drop i) c) = dq -> suCa_at f ws c ws.length i o v (PureQ dq):=by
 intro k
 induction k with
 | zero =>
  intro i o v hi ho hq
  rw [List.drop_eq_nil_of_le (by omega),codes_nil,List.append_nil] at hq
  exact suCa _ _ _ _ _ _ _ _ ⟨fun h => by omega,fun _ => by rw [<- hq];exact .refl _⟩
 | succ k ih =>
  intro i o v hi ho hq
  rw [drop_getD (show i < ws.length by omega),codes_cons] at hq
  refine suCa _ _ _ _ _ _ _ _ ⟨fun _ => ?_,fun h => by omega⟩
  rw [Int.toNat_natCast]
  refine ⟨by omega,by omega,fun h => ⟨by omega,by omega,?_⟩,fun h => ⟨by omega,?_⟩⟩
  ·rw [if_pos h] at hq
   exact ih (i + 1) _ _ (by omega) (by simp;omega) (by rw [List.append_assoc];exact hq)
  ·rw [if_neg h] at hq
   exact ih (i + 1) _ _ (by omega) (by omega) hq
theorem suCz_loop {f:Bool} {ws:List Wo} {c:Int} {dq:AV} (hl:ws.length <= 1000000):∀ (k i:Nat),i + k = ws.length -> inA false (Sp.codes (ws.drop i) c) = dq -> suCz_at f ws c ws.length i (PureQ dq):=by
 intro k
 induction k with
 | zero =>
  intro i hi hq
  rw [List.drop_eq_nil_of_le (by omega),codes_nil] at hq
  exact suCz _ _ _ _ _ _ ⟨fun h => by omega,fun _ => by rw [<- hq];exact .vnil 1⟩
 | succ k ih =>
  intro i hi hq
  rw [drop_getD (show i < ws.length by omega),codes_cons] at hq
  refine suCz _ _ _ _ _ _ ⟨fun _ => ?_,fun h => by omega⟩
  rw [Int.toNat_natCast]
  refine ⟨by omega,by omega,fun h => ⟨by omega,?_⟩,fun h => ⟨by omega,?_⟩⟩
  ·rw [if_pos h] at hq
   exact suCa_loop hl k (i + 1) _ _ (by omega) (by simp) hq
  ·rw [if_neg h] at hq
   exact ih (i + 1) (by omega) hq
theorem ev70 (sk f:Bool) (ws:List Wo) (cm:List UInt8) (c:Int) (h:Sp.few6 ws.length):Ev M1 (.pure 70 [bkA sk f ws cm,.int .u8 c]) (inA false (Sp.codes ws c)) []:=
 call70 (suC sk f ws cm c _ (suCz_loop h ws.length 0 (by omega) rfl))
theorem suX_loop {f:Bool} {o:List Int} {x:Int} {dq:AV} (hl:o.length <= 1000000):∀ (k i:Nat),i + k = o.length -> AV.int .i64 (if x ∈ o.drop i then (i + (o.drop i).idxOf x:Nat) else -1) = dq -> suXa_at f o x o.length i (PureQ dq):=by
 intro k
 induction k with
 | zero =>
  intro i hi hq
  rw [List.drop_eq_nil_of_le (by omega),if_neg (by simp)] at hq
  exact suXa _ _ _ _ _ _ ⟨fun h => by omega,fun _ => hq⟩
 | succ k ih =>
  intro i hi hq
  refine suXa _ _ _ _ _ _ ⟨fun _ => ⟨by omega,by omega,?_⟩,fun h => by omega⟩
  rw [Int.toNat_natCast]
  rw [drop_getD (show i < o.length by omega)] at hq
  generalize o.getD i default = p at hq
  refine ⟨fun h => ?_,fun h => ⟨by omega,ih (i + 1) (by omega) ?_⟩⟩
  ·rw [<- hq,if_pos (by simp [<- h]),h,List.idxOf_cons_self];rfl
  ·rw [<- hq]
   congr 1
   by_cases hm:x ∈ o.drop (i + 1)
   ·have e:(p == x) = false:=by simpa using Ne.symm h
    rw [if_pos hm,if_pos (by simp [hm]),List.idxOf_cons,e,cond_false];congr 1;omega
   ·rw [if_neg hm,if_neg (by simpa [hm] using h)]
theorem ev82 (f:Bool) (o:List Int) (x:Int) (h:Sp.few6 o.length):Ev M1 (.pure 82 [inA f o,.int .i64 x]) (.int .i64 (Sp.idx o x)) []:=
 call82 (suX f o x _ (suX_loop h o.length 0 (by omega) (by rw [List.drop_zero,Nat.zero_add];rfl)))
def Sp.okV (x:Int):Prop:=-9000000000000000000 <= x /\ x <= 9000000000000000000
theorem tdiv_k {x:Int} (h:Sp.okV x):-9000000000000000000 <= x.tdiv 1000 /\ x.tdiv 1000 <= 9000000000000000000:=by
 unfold Sp.okV at h
 by_cases h0:0 <= x
 ·rw [Int.tdiv_eq_ediv_of_nonneg h0];omega
 ·have:x.tdiv 1000 = -((-x).tdiv 1000):=by rw [Int.neg_tdiv,Int.neg_neg]
  rw [this,Int.tdiv_eq_ediv_of_nonneg (by omega)];omega
theorem ev41 (x:Int) (h:Sp.okV x):Ev M1 (.pure 41 [.int .i64 x]) (.tup [.int .i64 (Sp.whV x),.bool (Sp.whB x)]) []:=by
 have k:=tdiv_k h
 refine call41 (suW x _ ⟨by omega,?_⟩)
 show AV.tup [_,_] = AV.tup [_,_]
 congr 3
 unfold Sp.whB
 by_cases h1:x.tmod 1000 = 0 <;> by_cases h2:x.tdiv 1000 >= 1 <;> by_cases h3:x.tdiv 1000 <= 9999 <;> simp [h1,h2,h3]
end Go.Av

namespace Go.Av
open Go.Proofs
set_option maxRecDepth 100000
def fi69:Fi:=⟨9,[.tmp 4]⟩
def kp69:List (Nat × List Nat):=[(0,[0,1]),(1,[4])]
def suY_at (f:Bool) (o:List Int) (x:Int) (Q:AV -> Heap -> Prop):Prop:=Wp M1 (.run fi69 (atC (cd Try.f69) []) [(0,.vec f 1 (o.map (.int .i64))),(1,.int .i64 x)] []) Q
theorem call69 {args:List AV} {d:AV} (h:wc M1 fi69 Try.f69 args d):Ev M1 (.pure 69 args) d []:=pcl _ _ (by kernel_rfl) h
theorem suY (f:Bool) (o:List Int) (x:Int)  (dq:AV) (H :
  (Sp.few6 o.length) /\
  vb (decide (Sp.idx o x >= 0)) = dq) :
 suY_at f o x (PureQ dq):=by
 unfold suY_at
 obtain ⟨k1,H⟩:=H
 exact path_re (G:=given kp69 [(1,2,.call (vi (Sp.idx o x)) none)] []) 1000 [] (vb (decide (Sp.idx o x >= 0))) (by kernel_rfl) b0 q0 (ce (@ev82 (f) (o) (x) k1) c0) H
end Go.Av

namespace Go.Av
open Go.Proofs
theorem ev69 (f:Bool) (o:List Int) (x:Int) (h:Sp.few6 o.length):Ev M1 (.pure 69 [inA f o,.int .i64 x]) (.bool (Sp.isIn o x)) []:=by
 refine call69 (suY f o x _ ⟨h,?_⟩)
 congr 1
 unfold Sp.isIn Sp.idx
 by_cases hx:x ∈ o
 ·rw [if_pos hx];simp [hx]
 ·rw [if_neg hx];simp [hx]
namespace Sp
end Sp
end Go.Av

namespace Go.Av
open Go.Proofs
set_option maxRecDepth 100000
def fi40:Fi:=⟨12,[.tmp 6]⟩
def kp40:List (Nat × List Nat):=[(0,[1,2,3]),(1,[6])]
def suB_at (sk f:Bool) (ws:List Wo) (cm:List UInt8) (c x:Int) (Q:AV -> Heap -> Prop):Prop:=Wp M1 (.run fi40 (atC (cd Try.f40) []) [(0,.agg [.bool sk,.vec f 2 (ws.map Wo.a),.str cm]),(1,.int .u8 c),(2,.int .i64 x)] []) Q
theorem call40 {args:List AV} {d:AV} (h:wc M1 fi40 Try.f40 args d):Ev M1 (.pure 40 args) d []:=pcl _ _ (by kernel_rfl) h
theorem suB (sk f:Bool) (ws:List Wo) (cm:List UInt8) (c x:Int)  (dq:AV) (H :
  (Sp.few6 ws.length) /\
  (Sp.few6 (Sp.codes ws c).length) /\
  vb (Sp.isIn (Sp.codes ws c) x) = dq) :
 suB_at sk f ws cm c x (PureQ dq):=by
 unfold suB_at
 obtain ⟨k1,H⟩:=H
 obtain ⟨k2,H⟩:=H
 exact path_re (G:=given kp40 [(1,2,.call (vf (List.map (vi) (Sp.codes ws c))) none),(1,4,.call (vb (Sp.isIn (Sp.codes ws c) x)) none)] []) 1000 [] (vb (Sp.isIn (Sp.codes ws c) x)) (by kernel_rfl) (bc rfl b0) q0 (ce (@ev70 (sk) (f) (ws) (cm) (c) k1) (ce (@ev69 (false) (Sp.codes ws c) (x) k2) c0)) H
end Go.Av

namespace Go.Av
open Go.Proofs
theorem ev40 (sk f:Bool) (ws:List Wo) (cm:List UInt8) (c x:Int) (h:Sp.few6 ws.length):Ev M1 (.pure 40 [bkA sk f ws cm,.int .u8 c,.int .i64 x]) (.bool (Sp.hasW ws c x)) []:=
 call40 (suB sk f ws cm c x _ ⟨h,Nat.le_trans (codes_len ws c) h,rfl⟩)
end Go.Av

namespace Go.Av
open Go.Proofs
set_option maxRecDepth 100000
def fi13:Fi:=⟨80,[.tmp 2,.tmp 3,.tmp 4,.tmp 5]⟩
def kp13:List (Nat × List Nat):=[(0,[1]),(1,[1,16]),(2,[2,3,4,5]),(3,[1,6]),(4,[1,6,7,8,9]),(5,[6,7,8,9,19,20,21]),(6,[6,7,8,9,19,20,21,22]),(7,[6,7,8,9,11,19,20,21]),(8,[6,7,8,9,11,19,20,21]),(9,[6,7,8,9,11,12,13,19,20,21]),(10,[6,7,8,9,12,13,19,20,21,37]),(11,[6,7,8,9,19,20,21]),(12,[6,7,8,9,12,13,19,20,21,37,38]),(13,[6,7,8,9,19,20,21]),(14,[6,7,8,9,12,13,19,20,21,37,45]),(15,[6,7,8,9,19,20,21]),(16,[6,7,8,9,19,20,21,37,52]),(17,[6,7,8,9,19,20,21,52]),(18,[6,7,8,9,19,20,21]),(19,[7,8,77]),(20,[2,3,4,5]),(21,[2,3,4,5])]
def suK_at (sk f:Bool) (ws:List Wo) (cm:List UInt8) (Q:AV -> Heap -> Prop):Prop:=Wp M1 (.run fi13 (atC (cd Try.f13) []) [(0,.agg [.bool sk,.vec f 2 (ws.map Wo.a),.str cm])] []) Q
def suKa_at (f:Bool) (ws:List Wo) (ms:List AV) (p t n i:Int) (ok:Bool) (Q:AV -> Heap -> Prop):Prop:=Wp M1 (.run fi13 (atC (cd Try.f13) [1,1,1,1,0,1,0,0]) [(6,.mapr 0),(7,.int .i64 p),(8,.int .i64 t),(9,.bool ok),(19,.vec f 2 (ws.map Wo.a)),(20,.int .i64 n),(21,.int .i64 i)] [⟨ms,2,0,false,true⟩]) Q
theorem call13 {args:List AV} {d:AV} (h:wc M1 fi13 Try.f13 args d):Ev M1 (.pure 13 args) d []:=pcl _ _ (by kernel_rfl) h
theorem suK (sk f:Bool) (ws:List Wo) (cm:List UInt8)  (dq:AV) (H :
  (Sp.few6 ws.length) /\
  ((¬(Sp.hasW ws 77 98000 = true)) -> tu [vi 0,vi 0,vb false,vi 0] = dq) /\
  (¬(¬(Sp.hasW ws 77 98000 = true)) -> suKa_at (f) (ws) ([]) (0) (1) ((↑ws.length:Int)) (0) (true) (PureQ dq))) :
 suK_at sk f ws cm (PureQ dq):=by
 unfold suK_at
 obtain ⟨k1,H⟩:=H
 refine path_wp (G:=given kp13 [(1,1,.call (vb (Sp.hasW ws 77 98000)) none)] []) 5 [] ⟨(atC (cd Try.f13) [1,0,1]),[(1,AV.ptr 0 0 0 0),(16,vb !Sp.hasW ws 77 98000)],[⟨[ag [vb sk,AV.vec f 2 (List.map Wo.a ws),AV.str cm]],3,0,false,false⟩],_,[],_⟩ (by kernel_rfl) (bc rfl b0) q0 (ce (@ev40 (sk) (f) (ws) (cm) (77) (98000) k1) c0) ?_
 rcases xm (¬(Sp.hasW ws 77 98000 = true)) with d3 | d3
 ·have H:=H.1 d3
  exact path_re (G:=given kp13 [] []) 1000 [true] (asm:=[(!Sp.hasW ws 77 98000) == true]) (tu [vi 0,vi 0,vb false,vi 0]) (by kernel_rfl) (bc (beq_t ((i_not (i_var _)).2 d3)) b0) q0 c0 H
 ·have H:=H.2 d3
  have w4:(List.map Wo.a ws).length = ws.length:=List.length_map ..
  exact path_wp (G:=given kp13 [] []) 1000 [false] ⟨(atC (cd Try.f13) [1,1,1,1,0,1,0,0]),[(6,AV.mapr 1),(7,vi 0),(8,vi 1),(9,vb true),(19,AV.vec f 2 (List.map Wo.a ws)),(20,vi (↑(List.map Wo.a ws).length:Int)),(21,vi 0)],[⟨[ag [vb sk,AV.vec f 2 (List.map Wo.a ws),AV.str cm]],3,0,false,false⟩,⟨[],2,0,false,true⟩],[(!Sp.hasW ws 77 98000) == false,true],[],_⟩ (by kernel_rfl) (bc (beq_f (fun h => d3 ((i_not (i_var _)).1 h))) (bc rfl b0)) q0 c0 (by (try rw [w4]);all_goals exact wp_narrow [1] (by kernel_rfl) H)
noncomputable abbrev zSpD1 (ws:List Wo) (i:Int):=ag [AV.int IntKind.u8 (ws.getD i.toNat default).l,vi (ws.getD i.toNat default).v]
theorem suKa (f:Bool) (ws:List Wo) (ms:List AV) (p t n i:Int) (ok:Bool)  (dq:AV) (H :
  ((i < n) -> (0 <= i) /\
   (i.toNat < ws.length) /\
   (mapKeys IntKind.u8 ms = true) /\
   (mapIs IntKind.i64 ms = true) /\
   (-9223372036854775808 <= mapI (ws.getD i.toNat default).l ms + 1 /\ mapI (ws.getD i.toNat default).l ms + 1 <= 9223372036854775807) /\
   (Sp.okV (ws.getD i.toNat default).v) /\
   (((ws.getD i.toNat default).l = 80) -> (-9223372036854775808 <= i + 1 /\ i + 1 <= 9223372036854775807) /\
    suKa_at (f) (ws) (mapPut IntKind.u8 (ws.getD i.toNat default).l (vi (mapI (ws.getD i.toNat default).l ms + 1)) ms) (Sp.whV (ws.getD i.toNat default).v) (t) (n) (i + 1) (bif ok then Sp.whB (ws.getD i.toNat default).v else false) (PureQ dq)) /\
   (¬((ws.getD i.toNat default).l = 80) -> (((ws.getD i.toNat default).l = 76) -> (-9223372036854775808 <= i + 1 /\ i + 1 <= 9223372036854775807) /\
     suKa_at (f) (ws) (mapPut IntKind.u8 (ws.getD i.toNat default).l (vi (mapI (ws.getD i.toNat default).l ms + 1)) ms) (p) (Sp.whV (ws.getD i.toNat default).v) (n) (i + 1) (bif ok then Sp.whB (ws.getD i.toNat default).v else false) (PureQ dq)) /\
    (¬((ws.getD i.toNat default).l = 76) -> (((ws.getD i.toNat default).l = 77) -> (-9223372036854775808 <= i + 1 /\ i + 1 <= 9223372036854775807) /\
      suKa_at (f) (ws) (mapPut IntKind.u8 (ws.getD i.toNat default).l (vi (mapI (ws.getD i.toNat default).l ms + 1)) ms) (p) (t) (n) (i + 1) (ok) (PureQ dq)) /\
     (¬((ws.getD i.toNat default).l = 77) -> (((ws.getD i.toNat default).l = 78) -> (-9223372036854775808 <= i + 1 /\ i + 1 <= 9223372036854775807) /\
       suKa_at (f) (ws) (mapPut IntKind.u8 (ws.getD i.toNat default).l (vi (mapI (ws.getD i.toNat default).l ms + 1)) ms) (p) (t) (n) (i + 1) (ok) (PureQ dq)) /\
      (¬((ws.getD i.toNat default).l = 78) -> (-9223372036854775808 <= i + 1 /\ i + 1 <= 9223372036854775807) /\
       suKa_at (f) (ws) (mapPut IntKind.u8 (ws.getD i.toNat default).l (vi (mapI (ws.getD i.toNat default).l ms + 1)) ms) (p) (t) (n) (i + 1) (false) (PureQ dq)))))) /\
  (¬(i < n) -> ((¬(¬(ok = true))) -> (mapKeys IntKind.u8 ms = true)) /\
   ((¬(¬(ok = true))) -> (mapIs IntKind.i64 ms = true)) /\
   ((¬((¬(ok = true)) \/ (¬mapI 77 ms = 1))) -> (mapKeys IntKind.u8 ms = true)) /\
   ((¬((¬(ok = true)) \/ (¬mapI 77 ms = 1))) -> (mapIs IntKind.i64 ms = true)) /\
   ((¬(((¬(ok = true)) \/ (¬mapI 77 ms = 1)) \/ (¬mapI 80 ms = 1))) -> (mapKeys IntKind.u8 ms = true)) /\
   ((¬(((¬(ok = true)) \/ (¬mapI 77 ms = 1)) \/ (¬mapI 80 ms = 1))) -> (mapIs IntKind.i64 ms = true)) /\
   ((¬((((¬(ok = true)) \/ (¬mapI 77 ms = 1)) \/ (¬mapI 80 ms = 1)) \/ (mapI 76 ms > 1))) -> (mapKeys IntKind.u8 ms = true)) /\
   ((¬((((¬(ok = true)) \/ (¬mapI 77 ms = 1)) \/ (¬mapI 80 ms = 1)) \/ (mapI 76 ms > 1))) -> (mapIs IntKind.i64 ms = true)) /\
   ((((((¬(ok = true)) \/ (¬mapI 77 ms = 1)) \/ (¬mapI 80 ms = 1)) \/ (mapI 76 ms > 1)) \/ (mapI 78 ms > 1)) -> tu [vi 0,vi 0,vb false,vi 1] = dq) /\
   (¬(((((¬(ok = true)) \/ (¬mapI 77 ms = 1)) \/ (¬mapI 80 ms = 1)) \/ (mapI 76 ms > 1)) \/ (mapI 78 ms > 1)) -> tu [vi p,vi t,vb true,vi 0] = dq))) :
 suKa_at f ws ms p t n i ok (PureQ dq):=by
 unfold suKa_at
 rcases xm (i < n) with d2 | d2
 ·have H:=H.1 d2
  obtain ⟨k4,H⟩:=H
  have w5:(List.map Wo.a ws).length = ws.length:=List.length_map ..
  have i6:(decide (i.toNat < (List.map Wo.a ws).length)) = true ↔ (i.toNat < ws.length):=(by (try rw [w5]);all_goals exact i_dec)
  obtain ⟨k7,H⟩:=H
  obtain ⟨k9,H⟩:=H
  obtain ⟨k11,H⟩:=H
  obtain ⟨k13,H⟩:=H
  have w14:wi (mapI (ws.getD i.toNat default).l ms + 1) = mapI (ws.getD i.toNat default).l ms + 1:=wI64 k13
  obtain ⟨k15,H⟩:=H
  refine path_wp (G:=given kp13 [(7,1,.elem ((zSpD1 ws i))),(9,2,.call (tu [vi (Sp.whV (ws.getD i.toNat default).v),vb (Sp.whB (ws.getD i.toNat default).v)]) none)] []) 18 [true] ⟨(atC (cd Try.f13) [1,1,1,1,0,1,0,0,1,1,0,0,1,1,1,1,0,1]),[(6,AV.mapr 0),(7,vi p),(8,vi t),(9,vb ok),(12,vi (Sp.whV (ws.getD i.toNat default).v)),(13,vb (Sp.whB (ws.getD i.toNat default).v)),(19,AV.vec f 2 (List.map Wo.a ws)),(20,vi n),(21,vi i),(37,AV.int IntKind.u8 (ws.getD i.toNat default).l),(38,vb ((ws.getD i.toNat default).l == 80))],[⟨mapPut IntKind.u8 (ws.getD i.toNat default).l (vi (wi (mapI (ws.getD i.toNat default).l ms + 1))) ms,2,0,false,true⟩,⟨[(zSpD1 ws i)],2,0,false,false⟩],[(decide (i < n)) == true,decide (0 <= i),decide (i.toNat < (List.map Wo.a ws).length),true,true,mapKeys IntKind.u8 ms,mapIs IntKind.i64 ms,mapKeys IntKind.u8 ms,true,0 == 0],[((List.map Wo.a ws).get?Internal i.toNat = some ((zSpD1 ws i)))],_⟩ (by kernel_rfl) (bc (beq_t (i_dec.2 d2)) (bc (i_dec.2 k4) (bc (i6.2 k7) (bc rfl (bc rfl (bc ((i_var _).2 k9) (bc ((i_var _).2 k11) (bc ((i_var _).2 k9) (bc rfl (bc (beq_self_eq_true _) b0)))))))))) (qc (el_map k7) q0) (ce (@ev41 ((ws.getD i.toNat default).v) k15) c0) ?_
  rcases xm ((ws.getD i.toNat default).l = 80) with d17 | d17
  ·have H:=H.1 d17
   obtain ⟨k18,H⟩:=H
   have w19:wi (i + 1) = i + 1:=wI64 k18
   exact path_wp (G:=given kp13 [] []) 1000 [true] ⟨(atC (cd Try.f13) [1,1,1,1,0,1,0,0]),[(6,AV.mapr 0),(7,vi (Sp.whV (ws.getD i.toNat default).v)),(8,vi t),(9,vb (bif ok then Sp.whB (ws.getD i.toNat default).v else false)),(19,AV.vec f 2 (List.map Wo.a ws)),(20,vi n),(21,vi (wi (i + 1)))],[⟨mapPut IntKind.u8 (ws.getD i.toNat default).l (vi (wi (mapI (ws.getD i.toNat default).l ms + 1))) ms,2,0,false,true⟩,⟨[(zSpD1 ws i)],2,0,false,false⟩],_,[],_⟩ (by kernel_rfl) (bc (beq_t (i_eq.2 d17)) b0) q0 c0 (by (try rw [w14]);(try rw [w19]);all_goals exact wp_narrow [0] (by kernel_rfl) H)
  ·have H:=H.2 d17
   rcases xm ((ws.getD i.toNat default).l = 76) with d21 | d21
   ·have H:=H.1 d21
    obtain ⟨k22,H⟩:=H
    have w23:wi (i + 1) = i + 1:=wI64 k22
    exact path_wp (G:=given kp13 [] []) 1000 [false,true] ⟨(atC (cd Try.f13) [1,1,1,1,0,1,0,0]),[(6,AV.mapr 0),(7,vi p),(8,vi (Sp.whV (ws.getD i.toNat default).v)),(9,vb (bif ok then Sp.whB (ws.getD i.toNat default).v else false)),(19,AV.vec f 2 (List.map Wo.a ws)),(20,vi n),(21,vi (wi (i + 1)))],[⟨mapPut IntKind.u8 (ws.getD i.toNat default).l (vi (wi (mapI (ws.getD i.toNat default).l ms + 1))) ms,2,0,false,true⟩,⟨[(zSpD1 ws i)],2,0,false,false⟩],_,[],_⟩ (by kernel_rfl) (bc (beq_f (fun h => d17 (i_eq.1 h))) (bc (beq_t (i_eq.2 d21)) b0)) q0 c0 (by (try rw [w14]);(try rw [w23]);all_goals exact wp_narrow [0] (by kernel_rfl) H)
   ·have H:=H.2 d21
    rcases xm ((ws.getD i.toNat default).l = 77) with d25 | d25
    ·have H:=H.1 d25
     obtain ⟨k27,H⟩:=H
     have w28:wi (i + 1) = i + 1:=wI64 k27
     exact path_wp (G:=given kp13 [] []) 1000 [false,false,true,true] ⟨(atC (cd Try.f13) [1,1,1,1,0,1,0,0]),[(6,AV.mapr 0),(7,vi p),(8,vi t),(9,vb ok),(19,AV.vec f 2 (List.map Wo.a ws)),(20,vi n),(21,vi (wi (i + 1)))],[⟨mapPut IntKind.u8 (ws.getD i.toNat default).l (vi (wi (mapI (ws.getD i.toNat default).l ms + 1))) ms,2,0,false,true⟩,⟨[(zSpD1 ws i)],2,0,false,false⟩],_,[],_⟩ (by kernel_rfl) (bc (beq_f (fun h => d17 (i_eq.1 h))) (bc (beq_f (fun h => d21 (i_eq.1 h))) (bc (beq_t (i_eq.2 d25)) (bc (beq_t (i_eq.2 d25)) b0)))) q0 c0 (by (try rw [w14]);(try rw [w28]);all_goals exact wp_narrow [0] (by kernel_rfl) H)
    ·have H:=H.2 d25
     rcases xm ((ws.getD i.toNat default).l = 78) with d30 | d30
     ·have H:=H.1 d30
      obtain ⟨k31,H⟩:=H
      have w32:wi (i + 1) = i + 1:=wI64 k31
      exact path_wp (G:=given kp13 [] []) 1000 [false,false,false,true] ⟨(atC (cd Try.f13) [1,1,1,1,0,1,0,0]),[(6,AV.mapr 0),(7,vi p),(8,vi t),(9,vb ok),(19,AV.vec f 2 (List.map Wo.a ws)),(20,vi n),(21,vi (wi (i + 1)))],[⟨mapPut IntKind.u8 (ws.getD i.toNat default).l (vi (wi (mapI (ws.getD i.toNat default).l ms + 1))) ms,2,0,false,true⟩,⟨[(zSpD1 ws i)],2,0,false,false⟩],_,[],_⟩ (by kernel_rfl) (bc (beq_f (fun h => d17 (i_eq.1 h))) (bc (beq_f (fun h => d21 (i_eq.1 h))) (bc (beq_f (fun h => d25 (i_eq.1 h))) (bc (beq_t (i_eq.2 d30)) b0)))) q0 c0 (by (try rw [w14]);(try rw [w32]);all_goals exact wp_narrow [0] (by kernel_rfl) H)
     ·have H:=H.2 d30
      obtain ⟨k33,H⟩:=H
      have w34:wi (i + 1) = i + 1:=wI64 k33
      exact path_wp (G:=given kp13 [] []) 1000 [false,false,false,false] ⟨(atC (cd Try.f13) [1,1,1,1,0,1,0,0]),[(6,AV.mapr 0),(7,vi p),(8,vi t),(9,vb false),(19,AV.vec f 2 (List.map Wo.a ws)),(20,vi n),(21,vi (wi (i + 1)))],[⟨mapPut IntKind.u8 (ws.getD i.toNat default).l (vi (wi (mapI (ws.getD i.toNat default).l ms + 1))) ms,2,0,false,true⟩,⟨[(zSpD1 ws i)],2,0,false,false⟩],_,[],_⟩ (by kernel_rfl) (bc (beq_f (fun h => d17 (i_eq.1 h))) (bc (beq_f (fun h => d21 (i_eq.1 h))) (bc (beq_f (fun h => d25 (i_eq.1 h))) (bc (beq_f (fun h => d30 (i_eq.1 h))) b0)))) q0 c0 (by (try rw [w14]);(try rw [w34]);all_goals exact wp_narrow [0] (by kernel_rfl) H)
 ·have H:=H.2 d2
  obtain ⟨k36,H⟩:=H
  obtain ⟨k38,H⟩:=H
  obtain ⟨k40,H⟩:=H
  obtain ⟨k42,H⟩:=H
  obtain ⟨k44,H⟩:=H
  obtain ⟨k46,H⟩:=H
  obtain ⟨k48,H⟩:=H
  obtain ⟨k50,H⟩:=H
  rcases xm (((((¬(ok = true)) \/ (¬mapI 77 ms = 1)) \/ (¬mapI 80 ms = 1)) \/ (mapI 76 ms > 1)) \/ (mapI 78 ms > 1)) with d52 | d52
  ·have H:=H.1 d52
   exact path_re (G:=given kp13 [] []) 1000 [false,true] (asm:=[(decide (i < n)) == false,!((!ok) == false && true) || mapKeys IntKind.u8 ms,!((!ok) == false && true) || mapIs IntKind.i64 ms,!((bif !ok then true else mapI 77 ms != 1) == false && true) || mapKeys IntKind.u8 ms,!((bif !ok then true else mapI 77 ms != 1) == false && true) || mapIs IntKind.i64 ms,!((bif bif !ok then true else mapI 77 ms != 1 then true else mapI 80 ms != 1) == false && true) || mapKeys IntKind.u8 ms,!((bif bif !ok then true else mapI 77 ms != 1 then true else mapI 80 ms != 1) == false && true) || mapIs IntKind.i64 ms,!((bif bif bif !ok then true else mapI 77 ms != 1 then true else mapI 80 ms != 1 then true else decide (mapI 76 ms > 1)) == false && true) || mapKeys IntKind.u8 ms,!((bif bif bif !ok then true else mapI 77 ms != 1 then true else mapI 80 ms != 1 then true else decide (mapI 76 ms > 1)) == false && true) || mapIs IntKind.i64 ms,(bif bif bif bif !ok then true else mapI 77 ms != 1 then true else mapI 80 ms != 1 then true else decide (mapI 76 ms > 1) then true else decide (mapI 78 ms > 1)) == true]) (tu [vi 0,vi 0,vb false,vi 1]) (by kernel_rfl) (bc (beq_f (fun h => d2 (i_dec.1 h))) (bc ((i_imp (i_at (i_bf (i_not (i_var _)))) (i_var _)).2 k36) (bc ((i_imp (i_at (i_bf (i_not (i_var _)))) (i_var _)).2 k38) (bc ((i_imp (i_at (i_bf (i_bor (i_not (i_var _)) i_ne))) (i_var _)).2 k40) (bc ((i_imp (i_at (i_bf (i_bor (i_not (i_var _)) i_ne))) (i_var _)).2 k42) (bc ((i_imp (i_at (i_bf (i_bor (i_bor (i_not (i_var _)) i_ne) i_ne))) (i_var _)).2 k44) (bc ((i_imp (i_at (i_bf (i_bor (i_bor (i_not (i_var _)) i_ne) i_ne))) (i_var _)).2 k46) (bc ((i_imp (i_at (i_bf (i_bor (i_bor (i_bor (i_not (i_var _)) i_ne) i_ne) i_dec))) (i_var _)).2 k48) (bc ((i_imp (i_at (i_bf (i_bor (i_bor (i_bor (i_not (i_var _)) i_ne) i_ne) i_dec))) (i_var _)).2 k50) (bc (beq_t ((i_bor (i_bor (i_bor (i_bor (i_not (i_var _)) i_ne) i_ne) i_dec) i_dec).2 d52)) b0)))))))))) q0 c0 H
  ·have H:=H.2 d52
   exact path_re (G:=given kp13 [] []) 1000 [false,false] (asm:=[(decide (i < n)) == false,!((!ok) == false && true) || mapKeys IntKind.u8 ms,!((!ok) == false && true) || mapIs IntKind.i64 ms,!((bif !ok then true else mapI 77 ms != 1) == false && true) || mapKeys IntKind.u8 ms,!((bif !ok then true else mapI 77 ms != 1) == false && true) || mapIs IntKind.i64 ms,!((bif bif !ok then true else mapI 77 ms != 1 then true else mapI 80 ms != 1) == false && true) || mapKeys IntKind.u8 ms,!((bif bif !ok then true else mapI 77 ms != 1 then true else mapI 80 ms != 1) == false && true) || mapIs IntKind.i64 ms,!((bif bif bif !ok then true else mapI 77 ms != 1 then true else mapI 80 ms != 1 then true else decide (mapI 76 ms > 1)) == false && true) || mapKeys IntKind.u8 ms,!((bif bif bif !ok then true else mapI 77 ms != 1 then true else mapI 80 ms != 1 then true else decide (mapI 76 ms > 1)) == false && true) || mapIs IntKind.i64 ms,(bif bif bif bif !ok then true else mapI 77 ms != 1 then true else mapI 80 ms != 1 then true else decide (mapI 76 ms > 1) then true else decide (mapI 78 ms > 1)) == false]) (tu [vi p,vi t,vb true,vi 0]) (by kernel_rfl) (bc (beq_f (fun h => d2 (i_dec.1 h))) (bc ((i_imp (i_at (i_bf (i_not (i_var _)))) (i_var _)).2 k36) (bc ((i_imp (i_at (i_bf (i_not (i_var _)))) (i_var _)).2 k38) (bc ((i_imp (i_at (i_bf (i_bor (i_not (i_var _)) i_ne))) (i_var _)).2 k40) (bc ((i_imp (i_at (i_bf (i_bor (i_not (i_var _)) i_ne))) (i_var _)).2 k42) (bc ((i_imp (i_at (i_bf (i_bor (i_bor (i_not (i_var _)) i_ne) i_ne))) (i_var _)).2 k44) (bc ((i_imp (i_at (i_bf (i_bor (i_bor (i_not (i_var _)) i_ne) i_ne))) (i_var _)).2 k46) (bc ((i_imp (i_at (i_bf (i_bor (i_bor (i_bor (i_not (i_var _)) i_ne) i_ne) i_dec))) (i_var _)).2 k48) (bc ((i_imp (i_at (i_bf (i_bor (i_bor (i_bor (i_not (i_var _)) i_ne) i_ne) i_dec))) (i_var _)).2 k50) (bc (beq_f (fun h => d52 ((i_bor (i_bor (i_bor (i_bor (i_not (i_var _)) i_ne) i_ne) i_dec) i_dec).1 h))) b0)))))))))) q0 c0 H
end Go.Av

namespace Go.Av
open Go.Proofs
namespace Sp
def cnt (ws:List Wo) (c:Int):Int:=(codes ws c).length
def lastD (l:List Int) (d:Int):Int:=l.foldl (fun _ x => x) d
def lp (ws:List Wo):Int:=whV (lastD (codes ws 80) 0)
def lt (ws:List Wo):Int:=whV (lastD (codes ws 76) 1000)
def okL (w:Wo):Bool:=if w.l = 80 \/ w.l = 76 then whB w.v else decide (w.l = 77 \/ w.l = 78)
def okC (ws:List Wo):Bool:=ws.all okL && decide (cnt ws 77 = 1 /\ cnt ws 80 = 1 /\ cnt ws 76 <= 1 /\ cnt ws 78 <= 1)
def cIs (ws:List Wo):Bool:=hasW ws 77 98000 && okC ws
def cN (ws:List Wo):Int:=if cIs ws = true then lp ws else 0
def cT (ws:List Wo):Int:=if cIs ws = true then lt ws else 0
def cE (ws:List Wo):Int:=if (hasW ws 77 98000 && !okC ws) = true then 1 else 0
def okW (ws:List Wo):Prop:=ws.length <= 1000000 /\ ∀ w ∈ ws,okV w.v
end Sp
theorem codes_snoc (pre:List Wo) (w:Wo) (c:Int):Sp.codes (pre ++ [w]) c = if w.l = c then Sp.codes pre c ++ [w.v] else Sp.codes pre c:=by
 unfold Sp.codes
 rw [List.filter_append,List.map_append]
 by_cases h:w.l = c
 ·rw [List.filter_cons_of_pos (by simpa using h),if_pos h];rfl
 ·rw [List.filter_cons_of_neg (by simpa using h),if_neg h];simp
theorem last_snoc (l:List Int) (x d:Int):Sp.lastD (l ++ [x]) d = x:=by unfold Sp.lastD;rw [List.foldl_append];rfl
theorem cnt_snoc (pre:List Wo) (w:Wo) (c:Int):Sp.cnt (pre ++ [w]) c = if w.l = c then Sp.cnt pre c + 1 else Sp.cnt pre c:=by
 unfold Sp.cnt
 rw [codes_snoc]
 split
 ·simp
 ·rfl
theorem lp_snoc (pre:List Wo) (w:Wo):Sp.lp (pre ++ [w]) = if w.l = 80 then Sp.whV w.v else Sp.lp pre:=by
 unfold Sp.lp
 rw [codes_snoc]
 split
 ·rw [last_snoc]
 ·rfl
theorem lt_snoc (pre:List Wo) (w:Wo):Sp.lt (pre ++ [w]) = if w.l = 76 then Sp.whV w.v else Sp.lt pre:=by
 unfold Sp.lt
 rw [codes_snoc]
 split
 ·rw [last_snoc]
 ·rfl
theorem cnt_le (ws:List Wo) (c:Int):0 <= Sp.cnt ws c /\ Sp.cnt ws c <= ws.length:=by
 have:=codes_len ws c
 unfold Sp.cnt
 omega
theorem takeW {ws:List Wo} {i:Nat} (h:i < ws.length):ws.take (i + 1) = ws.take i ++ [ws.getD i default]:=by
 rw [List.take_succ_eq_append_getElem h,List.getD_eq_getElem?_getD,List.getElem?_eq_getElem h];rfl
theorem all_take {ws:List Wo} {i:Nat} (h:i < ws.length):(ws.take (i + 1)).all Sp.okL = ((ws.take i).all Sp.okL && Sp.okL (ws.getD i default)):=by
 rw [takeW h,List.all_append];simp
def NumM (ms:List AV):Prop:=mapKeys .u8 ms = true /\ mapIs .i64 ms = true
theorem numM_put {n x:Int}:∀ {ms:List AV},NumM ms -> NumM (mapPut .u8 n (.int .i64 x) ms) /\ ∀ c,mapI c (mapPut .u8 n (.int .i64 x) ms) = if c = n then x else mapI c ms
 | [],_ => ⟨⟨by simp [mapPut,mapKeys],by simp [mapPut,mapIs]⟩,fun c => by
   simp only [mapPut,mapI]
   by_cases h:c = n
   ·subst h;simp
   ·rw [if_neg h,show (c == n) = false by simpa using h];rfl⟩
 | y :: l,h => by
  obtain ⟨h1,h2⟩:=h
  unfold mapIs at h2
  split at h2
  ·rename_i e;cases e
  ·rename_i k' m j b l' e
   simp only [List.cons.injEq] at e
   obtain ⟨rfl,rfl⟩:=e
   simp only [mapKeys,Bool.and_eq_true,decide_eq_true_eq] at h1
   obtain ⟨rfl,h1⟩:=h1
   simp only [Bool.and_eq_true,decide_eq_true_eq] at h2
   obtain ⟨rfl,h2⟩:=h2
   simp only [mapPut]
   by_cases hn:n = m
   ·subst hn
    simp only [beq_self_eq_true,cond_true]
    refine ⟨⟨by simp [mapKeys,h1],by simp [mapIs,h2]⟩,fun c => ?_⟩
    simp only [mapI]
    by_cases h:c = n
    ·subst h;simp
    ·rw [if_neg h,show (c == n) = false by simpa using h];rfl
   ·have e:(n == m) = false:=by simpa using hn
    rw [e,cond_false]
    obtain ⟨⟨q1,q2⟩,q3⟩:=numM_put (n:=n) (x:=x) ⟨h1,h2⟩
    refine ⟨⟨by simp [mapKeys,q1],by simp [mapIs,q2]⟩,fun c => ?_⟩
    simp only [mapI]
    by_cases h:c = m
    ·subst h
     have:(c == c) = true:=by simp
     rw [this,cond_true,cond_true,if_neg (fun e => hn e.symm)]
    ·have:(c == m) = false:=by simpa using h
     rw [this,cond_false,cond_false,q3]
  ·cases h2
theorem whV_0:Sp.whV 0 = 0:=by decide
theorem whV_1:Sp.whV 1000 = 1:=by decide
theorem okV_at {ws:List Wo} (h:Sp.okW ws) {i:Nat} (hi:i < ws.length):Sp.okV (ws.getD i default).v:=h.2 _ (getD_mem hi)
theorem suKa_loop {f:Bool} {ws:List Wo} {dq:AV} (hl:Sp.okW ws) (hq:AV.tup [.int .i64 (if Sp.okC ws = true then Sp.lp ws else 0),.int .i64 (if Sp.okC ws = true then Sp.lt ws else 0),.bool (Sp.okC ws),.int .i64 (if Sp.okC ws = true then 0 else 1)] = dq) :
  ∀ (k i:Nat) (ms:List AV),i + k = ws.length -> NumM ms -> (∀ c,mapI c ms = Sp.cnt (ws.take i) c) -> suKa_at f ws ms (Sp.lp (ws.take i)) (Sp.lt (ws.take i)) ws.length i ((ws.take i).all Sp.okL) (PureQ dq):=by
 have hlen:=hl.1
 intro k
 induction k with
 | zero =>
  intro i ms hi hm hc
  rw [List.take_of_length_le (show ws.length <= i by omega)] at hc ⊢
  have e:Sp.okC ws = (ws.all Sp.okL && decide (Sp.cnt ws 77 = 1 /\ Sp.cnt ws 80 = 1 /\ Sp.cnt ws 76 <= 1 /\ Sp.cnt ws 78 <= 1)):=rfl
  refine suKa _ _ _ _ _ _ _ _ _ ⟨fun h => by omega,fun _ => ⟨fun _ => hm.1,fun _ => hm.2,fun _ => hm.1,fun _ => hm.2,fun _ => hm.1,fun _ => hm.2,fun _ => hm.1,fun _ => hm.2,fun h => ?_,fun h => ?_⟩⟩
  ·simp only [hc] at h
   have hn:Sp.okC ws = false:=by
    cases ha:ws.all Sp.okL with
    | false => rw [e,ha,Bool.false_and]
    | true => rw [e,ha,Bool.true_and];rw [ha] at h;exact decide_eq_false (by simp at h;omega)
   rw [hn] at hq
   exact hq
  ·simp only [hc] at h
   have hn:Sp.okC ws = true:=by
    cases ha:ws.all Sp.okL with
    | false => rw [ha] at h;simp at h
    | true => rw [e,ha,Bool.true_and];rw [ha] at h;exact decide_eq_true (by simp at h;omega)
   rw [hn] at hq
   exact hq
 | succ k ih =>
  intro i ms hi hm hc
  have hil:i < ws.length:=by omega
  have hv:=okV_at hl hil
  have ha:=all_take hil
  have hp:=lp_snoc (ws.take i) (ws.getD i default)
  have ht:=lt_snoc (ws.take i) (ws.getD i default)
  have hn:∀ c,Sp.cnt (ws.take (i + 1)) c = if (ws.getD i default).l = c then Sp.cnt (ws.take i) c + 1 else Sp.cnt (ws.take i) c:=fun c => by rw [takeW hil,cnt_snoc]
  rw [<- takeW hil] at hp ht
  refine suKa _ _ _ _ _ _ _ _ _ ⟨fun _ => ?_,fun h => by omega⟩
  rw [Int.toNat_natCast]
  generalize ws.getD i default = w at hv ha hp ht hn ⊢
  obtain ⟨n1,n2⟩:=numM_put (n:=w.l) (x:=mapI w.l ms + 1) hm
  have hc':∀ c,mapI c (mapPut .u8 w.l (.int .i64 (mapI w.l ms + 1)) ms) = Sp.cnt (ws.take (i + 1)) c:=by
   intro c
   rw [n2,hn]
   by_cases h:c = w.l
   ·subst h;rw [if_pos rfl,if_pos rfl,hc]
   ·rw [if_neg h,if_neg (fun e => h e.symm),hc]
  have cb:=cnt_le (ws.take i) w.l
  have cl:(ws.take i).length <= ws.length:=by rw [List.length_take];omega
  have next:=ih (i + 1) _ (by omega) n1 hc'
  rw [hp,ht,ha] at next
  have eb:∀ a b:Bool,(bif a then b else false) = (a && b):=fun a b => by cases a <;> rfl
  refine ⟨by omega,by omega,hm.1,hm.2,by rw [hc];omega,hv,fun h => ⟨by omega,?_⟩,fun h1 => ⟨fun h => ⟨by omega,?_⟩,fun h2 => ⟨fun h => ⟨by omega,?_⟩,fun h3 => ⟨fun h => ⟨by omega,?_⟩,fun h4 => ⟨by omega,?_⟩⟩⟩⟩⟩
  ·rw [if_pos h,if_neg (by omega),show Sp.okL w = Sp.whB w.v by unfold Sp.okL;rw [if_pos (.inl h)]] at next
   rw [eb];exact next
  ·rw [if_neg h1,if_pos h,show Sp.okL w = Sp.whB w.v by unfold Sp.okL;rw [if_pos (.inr h)]] at next
   rw [eb];exact next
  ·rw [if_neg h1,if_neg h2,show Sp.okL w = true by unfold Sp.okL;rw [if_neg (by omega)];exact decide_eq_true (.inl h),Bool.and_true] at next
   exact next
  ·rw [if_neg h1,if_neg h2,show Sp.okL w = true by unfold Sp.okL;rw [if_neg (by omega)];exact decide_eq_true (.inr h),Bool.and_true] at next
   exact next
  ·rw [if_neg h1,if_neg h2,show Sp.okL w = false by unfold Sp.okL;rw [if_neg (by omega)];exact decide_eq_false (by omega),Bool.and_false] at next
   exact next
theorem ev13 (sk f:Bool) (ws:List Wo) (cm:List UInt8) (h:Sp.okW ws):Ev M1 (.pure 13 [bkA sk f ws cm]) (.tup [.int .i64 (Sp.cN ws),.int .i64 (Sp.cT ws),.bool (Sp.cIs ws),.int .i64 (Sp.cE ws)]) []:=by
 unfold Sp.cN Sp.cT Sp.cE Sp.cIs
 refine call13 (suK sk f ws cm _ ⟨h.1,fun k => ?_,fun k => ?_⟩)
 ·have k:Sp.hasW ws 77 98000 = false:=by simpa using k
  simp only [k,Bool.false_and]
  rfl
 ·have k:Sp.hasW ws 77 98000 = true:=by simpa using k
  simp only [k,Bool.true_and]
  have:=suKa_loop (f:=f) h rfl ws.length 0 [] (by omega) ⟨rfl,rfl⟩ (fun c => rfl)
  rw [List.take_zero,show Sp.lp [] = 0 from whV_0,show Sp.lt [] = 1 from whV_1] at this
  cases hc:Sp.okC ws with
  | true => rw [hc] at this;exact this
  | false => rw [hc] at this;exact this
def Sp.lets (ws:List Wo):Bool:=ws.all fun w => decide (w.l = 77 \/ w.l = 80 \/ w.l = 76 \/ w.l = 78)
end Go.Av

namespace Go.Av
open Go.Proofs
set_option maxRecDepth 100000
end Go.Av

namespace Go.Av
open Go.Proofs
end Go.Av

namespace Go.Av
open Go.Proofs
set_option maxRecDepth 100000
def fi77:Fi:=⟨15,[.tmp 2]⟩
def kp77:List (Nat × List Nat):=[(0,[1]),(1,[2])]
def suMk_at (sk f:Bool) (ws:List Wo) (cm:List UInt8) (Q:AV -> Heap -> Prop):Prop:=Wp M1 (.run fi77 (atC (cd Try.f77) []) [(0,.agg [.bool sk,.vec f 2 (ws.map Wo.a),.str cm])] []) Q
theorem call77 {args:List AV} {d:AV} (h:wc M1 fi77 Try.f77 args d):Ev M1 (.pure 77 args) d []:=pcl _ _ (by kernel_rfl) h
theorem suMk (sk f:Bool) (ws:List Wo) (cm:List UInt8)  (dq:AV) (H :
  (Sp.few6 ws.length) /\
  vb (bif bif decide ((↑(Sp.codes ws 79).length:Int) > 0) then true else Sp.hasW ws 77 30000 then true else Sp.hasW ws 77 99000) = dq) :
 suMk_at sk f ws cm (PureQ dq):=by
 unfold suMk_at
 obtain ⟨k1,H⟩:=H
 have w2:(List.map (vi) (Sp.codes ws 79)).length = (Sp.codes ws 79).length:=List.length_map ..
 have i3:(decide ((↑(List.map (vi) (Sp.codes ws 79)).length:Int) > 0) == false && true && true) = true ↔ (¬((↑(Sp.codes ws 79).length:Int) > 0)):=(by (try rw [w2]);all_goals exact (i_at (i_at (i_bf i_dec))))
 have i4:((bif decide ((↑(List.map (vi) (Sp.codes ws 79)).length:Int) > 0) then true else Sp.hasW ws 77 30000) == false && true && true) = true ↔ (¬(((↑(Sp.codes ws 79).length:Int) > 0) \/ (Sp.hasW ws 77 30000 = true))):=(by (try rw [w2]);all_goals exact (i_at (i_at (i_bf (i_bor i_dec (i_var _))))))
 exact path_re (G:=given kp77 [(1,1,.call (vf (List.map (vi) (Sp.codes ws 79))) none),(1,6,.call (vb (Sp.hasW ws 77 30000)) none),(1,10,.call (vb (Sp.hasW ws 77 99000)) none)] []) 1000 [] (asm:=[true,!(decide ((↑(List.map (vi) (Sp.codes ws 79)).length:Int) > 0) == false && true) || true,!((bif decide ((↑(List.map (vi) (Sp.codes ws 79)).length:Int) > 0) then true else Sp.hasW ws 77 30000) == false && true) || true]) (calls:=[⟨true,false,70,[ag [vb sk,AV.vec f 2 (List.map Wo.a ws),AV.str cm],AV.int IntKind.u8 79],[],vf (List.map (vi) (Sp.codes ws 79)),[]⟩,⟨decide ((↑(List.map (vi) (Sp.codes ws 79)).length:Int) > 0) == false && true && true,false,40,[ag [vb sk,AV.vec f 2 (List.map Wo.a ws),AV.str cm],AV.int IntKind.u8 77,vi 30000],[],vb (Sp.hasW ws 77 30000),[]⟩,⟨(bif decide ((↑(List.map (vi) (Sp.codes ws 79)).length:Int) > 0) then true else Sp.hasW ws 77 30000) == false && true && true,false,40,[ag [vb sk,AV.vec f 2 (List.map Wo.a ws),AV.str cm],AV.int IntKind.u8 77,vi 99000],[],vb (Sp.hasW ws 77 99000),[]⟩]) (vb (bif bif decide ((↑(List.map (vi) (Sp.codes ws 79)).length:Int) > 0) then true else Sp.hasW ws 77 30000 then true else Sp.hasW ws 77 99000)) (by kernel_rfl) (bc rfl (bc (Bool.or_true _) (bc (Bool.or_true _) b0))) q0 (cc (fun _ => (@ev70 (sk) (f) (ws) (cm) (79) k1)) (cc (fun hc => ((@ev40 (sk) (f) (ws) (cm) (77) (30000) k1):Ev M1 (Conf.pure 40 [ag [vb sk,AV.vec f 2 (List.map Wo.a ws),AV.str cm],AV.int IntKind.u8 77,vi 30000]) (vb (Sp.hasW ws 77 30000)) [])) (cc (fun hc => ((@ev40 (sk) (f) (ws) (cm) (77) (99000) k1):Ev M1 (Conf.pure 40 [ag [vb sk,AV.vec f 2 (List.map Wo.a ws),AV.str cm],AV.int IntKind.u8 77,vi 99000]) (vb (Sp.hasW ws 77 99000)) [])) c0))) (by (try rw [w2]);all_goals exact H)
end Go.Av

namespace Go.Av
open Go.Proofs
namespace Sp
def letB (ws:List Wo) (c:Int):Bool:=decide (0 < (codes ws c).length)
def endB (ws:List Wo):Bool:=hasW ws 77 30000
def backB (ws:List Wo):Bool:=hasW ws 77 99000
def mkB (ws:List Wo):Bool:=letB ws 79 || (endB ws || backB ws)
def plB (sk:Bool) (ws:List Wo) (cm:List UInt8):Bool:=decide (ws.length = 1 /\ sk = false /\ cm = [])
def eqB (sk tk:Bool) (ws vs:List Wo) (cm dm:List UInt8):Bool:=decide (sk = tk /\ cm = dm /\ ws = vs)
end Sp
theorem gt_pos (n:Nat):decide ((n:Int) > 0) = decide (0 < n):=decide_eq_decide.2 (by omega)
theorem ev77 (sk f:Bool) (ws:List Wo) (cm:List UInt8) (h:Sp.few6 ws.length):Ev M1 (.pure 77 [bkA sk f ws cm]) (.bool (Sp.mkB ws)) []:=by
 refine call77 (suMk sk f ws cm _ ⟨h,?_⟩)
 unfold Sp.mkB Sp.letB Sp.endB Sp.backB
 rw [gt_pos]
 cases decide (0 < (Sp.codes ws 79).length) <;> cases Sp.hasW ws 77 30000 <;> rfl
end Go.Av

namespace Go.Av
open Go.Proofs
set_option maxRecDepth 100000
end Go.Av

namespace Go.Av
open Go.Proofs
def Bk.key (b:Bk):Bool × List Wo × List UInt8:=(b.sk,b.ws,b.cm)
namespace Sp
def foldB (ws:List Wo):Bool:=!(mkB ws) && (!(letB ws 78) && !(hasW ws 77 98000))
def bgV (sk:Bool) (ws:List Wo) (cm:List UInt8):Int:=if plB sk ws cm = true /\ (ws.getD 0 default).l = 79 then whV (ws.getD 0 default).v else 0
def bgB (sk:Bool) (ws:List Wo) (cm:List UInt8):Bool:=if plB sk ws cm = true /\ (ws.getD 0 default).l = 79 then whB (ws.getD 0 default).v else false
def same (b c:Bk):Bool:=eqB b.sk c.sk b.ws c.ws b.cm c.cm
def okBs (l:List Bk):Prop:=l.length <= 1000000 /\ ∀ b ∈ l,okW b.ws
end Sp
end Go.Av

namespace Go.Av
open Go.Proofs
set_option maxRecDepth 100000
end Go.Av

namespace Go.Av
open Go.Proofs
namespace Sp
def rn (l:List Bk) (i k:Nat) (j:Nat):Bool:=foldB (l.getD (i + j) default).ws && same (l.getD (i + j) default) (l.getD (k + j) default)
def runB (l:List Bk) (i k n:Int):Bool:=(List.range' 0 n.toNat).all (rn l i.toNat k.toNat)
def runR (l:List Bk) (i k n:Int):Bool:=if k + n > (l.length:Int) then false else runB l i k n
end Sp
end Go.Av

namespace Go.Av
open Go.Proofs
set_option maxRecDepth 100000
end Go.Av

namespace Go.Av
open Go.Proofs
namespace Sp
def hasRun (l:List Bk) (n i:Nat):Nat -> Nat -> Bool
 | 0,_ => false
 | c + 1,k => runB l i k n || hasRun l n i c (k + 1)
def findF (l:List Bk) (n:Nat):Nat -> Nat -> Int
 | 0,_ => -1
 | c + 1,i => if hasRun l n i (l.length + 1 - (i + 2 * n)) (i + n) = true then i else findF l n c (i + 1)
def fst (l:List Bk) (n:Int):Int:=findF l n.toNat (l.length + 1 - 2 * n.toNat) 0
end Sp
end Go.Av

namespace Go.Av
open Go.Proofs
set_option maxRecDepth 100000
end Go.Av

namespace Go.Av
open Go.Proofs
abbrev sbA (g:Bool) (s:List Sb):AV:=.vec g 2 (s.map Sb.a)
namespace Sp
def callB (m:Int):Bk:=⟨false,true,[⟨77,98000⟩,⟨80,1000 * m⟩],[]⟩
def build (l:List Bk) (m:Int) (n a:Nat):Nat -> Nat -> List Bk
 | 0,_ => []
 | f + 1,i => if i < l.length then (if runR l a i n = true then callB m :: build l m n a f (i + n) else l.getD i default :: build l m n a f (i + 1)) else []
end Sp
theorem weak_tup2' {a a' b:AV} (h:Weak a a'):Weak (.tup [a,b]) (.tup [a',b]):=by
 refine .tup _ _ rfl fun i x y hx hy => ?_
 match i with
 | 0 => simp at hx hy;subst hx;subst hy;exact h
 | 1 => simp at hx hy;subst hx;subst hy;exact .refl _
 | i + 2 => simp at hx
end Go.Av

namespace Go.Av
open Go.Proofs
set_option maxRecDepth 100000
def fi23:Fi:=⟨106,[.cell 6 34,.tmp 7]⟩
end Go.Av

namespace Go.Av
open Go.RowKit
mutual
def meltA (L:Heap) (fs:List Nat):AV -> AV
 | .row r v => bif fs.contains r then (match L[r]? with
  | some row => bif row.clean then .vec false row.es row.elems else .row r v
  | none => .row r v) else .row r v
 | .agg cs => .agg (meltL L fs cs)
 | .tup cs => .tup (meltL L fs cs)
 | .any => .any | .bool b => .bool b | .int k n => .int k n | .str s => .str s | .flt b => .flt b | .nilp => .nilp | .vnil => .vnil | .nilf => .nilf | .nilm => .nilm
 | .ptr r v i j => .ptr r v i j | .eptr es xs i j => .eptr es xs i j | .vec f es xs => .vec f es xs | .ref r v lo len => .ref r v lo len | .func fn a b => .func fn a b | .mapr r => .mapr r
def meltL (L:Heap) (fs:List Nat):List AV -> List AV
 | [] => []
 | c :: r => meltA L fs c :: meltL L fs r
end
mutual
def meltT (L:Heap) (fs:List Nat):AV -> List Bool
 | .row r v => bif fs.contains r then (match L[r]? with
  | some row => [row.ver == v]
  | none => []) else []
 | .agg cs => meltTL L fs cs
 | .tup cs => meltTL L fs cs
 | _ => []
def meltTL (L:Heap) (fs:List Nat):List AV -> List Bool
 | [] => []
 | c :: r => meltT L fs c ++ meltTL L fs r
end
def meltR (L:Heap) (fs:List Nat) (row:Row):Row:=bif row.clean then row else { row with elems:=meltL L fs row.elems,clean:=cleanL (meltL L fs row.elems) }
def meltH (L:Heap) (fs:List Nat):Heap:=(freeze fs L).map (meltR L fs)
def meltV (L:Heap) (fs:List Nat) (env:Vars):Vars:=env.map fun e => (e.1,meltA L fs e.2)
def rowT (L:Heap) (fs:List Nat) (row:Row):List Bool:=bif row.clean then [] else meltTL L fs row.elems
def meltB (L:Heap) (fs:List Nat) (env:Vars):List Bool:=meltTL L fs (env.map (·.2)) ++ L.flatMap (rowT L fs)
theorem meltL_len (L:Heap) (fs:List Nat):∀ l,(meltL L fs l).length = l.length
 | [] => rfl
 | c :: l => by simp only [meltL,List.length_cons,meltL_len L fs l]
theorem meltL_get (L:Heap) (fs:List Nat):∀ (l:List AV) (i:Nat),(meltL L fs l)[i]? = l[i]?.map (meltA L fs)
 | [],i => by simp [meltL]
 | c :: l,0 => by simp [meltL]
 | c :: l,i + 1 => by simp only [meltL,List.getElem?_cons_succ];exact meltL_get L fs l i
theorem meltTL_mem {L:Heap} {fs:List Nat}:∀ {l:List AV} {i:Nat} {c:AV} {b:Bool},l[i]? = some c -> b ∈ meltT L fs c -> b ∈ meltTL L fs l
 | [],i,c,b,h,_ => by simp at h
 | x :: l,i,c,b,h,hb => by
  simp only [meltTL,List.mem_append]
  cases i with
  | zero => simp at h;subst h;exact .inl hb
  | succ i => exact .inr (meltTL_mem (by simpa using h) hb)
theorem melt_plain {L:Heap} {fs:List Nat} {a:AV} (h:a.plain = true):(meltA L fs a).plain = true:=by
 cases a with
 | row r v =>
  unfold meltA
  cases fs.contains r with
  | false => rfl
  | true =>
   simp only [cond_true]
   split
   ·rename_i row _
    cases row.clean <;> rfl
   ·rfl
 | any => exact h
 | agg cs => simp [AV.plain] at h
 | tup cs => simp [AV.plain] at h
 | _ => rfl
theorem melt_cells {L:Heap} {fs:List Nat} {x:AV} (h:x.cells.all AV.plain = true):(meltA L fs x).cells = meltL L fs x.cells:=by
 cases x with
 | agg cs => rfl
 | row r v =>
  have:(meltA L fs (.row r v)).cells = [meltA L fs (.row r v)]:=by
   unfold meltA
   cases fs.contains r with
   | false => rfl
   | true =>
    simp only [cond_true]
    split
    ·rename_i row _
     cases row.clean <;> rfl
    ·rfl
  rw [this];rfl
 | tup cs => simp [AV.cells,AV.plain] at h
 | _ => rfl
theorem drel_melt {S:St} {a:AV} {v:Value} (h:DRel S a v) (L:Heap) (fs:List Nat):meltA L fs a = a:=by
 have key:∀ (cs:List AV) (vs:List Value),cs.length = vs.length -> (∀ (i:Nat) c v,cs[i]? = some c -> vs[i]? = some v -> meltA L fs c = c) -> meltL L fs cs = cs:=by
  intro cs vs hl ih
  apply List.ext_getElem?
  intro i
  rw [meltL_get]
  cases hc:cs[i]? with
  | none => rfl
  | some c =>
   have hlt:i < vs.length:=by rw [<- hl];exact lt_of_get hc
   rw [Option.map_some,ih i c vs[i] hc (List.getElem?_eq_getElem hlt)]
 induction h with
 | agg cs vs hl _ ih => show AV.agg (meltL L fs cs) = _;rw [key cs vs hl ih]
 | tup cs vs hl _ ih => show AV.tup (meltL L fs cs) = _;rw [key cs vs hl ih]
 | _ => rfl
theorem melt_rel {S:St} (hS:HeapOk S) (fs:List Nat) {a:AV} {v:Value} (h:Rel S a v):(∀ b ∈ meltT S.L fs a,b = true) -> Rel ⟨S.base,S.acc,freeze fs S.L,S.β,S.w⟩ (meltA S.L fs a) v:=by
 have hex:=(freeze_ok fs hS).2
 induction h with
 | any v => exact fun _ => .any v
 | data a v h => 
  intro _
  rw [drel_melt h];exact .data _ _ (h.mono hex)
 | agg cs vs hl _ ih =>
  intro hb
  exact .agg _ vs (by rw [meltL_len];exact hl) fun i c v hc hv => by
   rw [meltL_get] at hc
   obtain ⟨c0,h1,rfl⟩:=Option.map_eq_some_iff.1 hc
   exact ih i c0 v h1 hv fun b hbm => hb b (meltTL_mem h1 hbm)
 | tup cs vs hl _ ih =>
  intro hb
  exact .tup _ vs (by rw [meltL_len];exact hl) fun i c v hc hv => by
   rw [meltL_get] at hc
   obtain ⟨c0,h1,rfl⟩:=Option.map_eq_some_iff.1 hc
   exact ih i c0 v h1 hv fun b hbm => hb b (meltTL_mem h1 hbm)
 | func fn a b va vb ha hb k1 k2 _ _ => exact fun _ => (Rel.func fn a b va vb ha hb k1 k2).mono hex
 | mapr r row info v h0 h3 h1 h2 => exact fun _ => (Rel.mapr r row info v h0 h3 h1 h2).mono hex
 | ptr r ver i j row info v h0 h1 h2 h3 h4 => exact fun _ => (Rel.ptr r ver i j row info v h0 h1 h2 h3 h4).mono hex
 | ref r ver lo len row info v h0 h1 h2 h3 h4 => exact fun _ => (Rel.ref r ver lo len row info v h0 h1 h2 h3 h4).mono hex
 | row r ver row info v h0 h1 h2 h3 h4 =>
  intro hb
  have same:=(Rel.row r ver row info v h0 h1 h2 h3 h4).mono hex
  unfold meltA
  cases hf:fs.contains r with
  | false => exact same
  | true =>
   simp only [cond_true,h1]
   cases hc:row.clean with
   | false => exact same
   | true =>
    simp only [cond_true]
    have hv:row.ver = ver:=by
     have:=hb (row.ver == ver) (by unfold meltT;rw [hf];simp only [cond_true,h1,List.mem_singleton])
     simpa using this
    have hm:=h0.2
    have hcap:=(hS.cells r row info h1 h2 hm).2.1
    rw [h4 hv]
    have hr:r ∈ fs:=by simpa using hf
    have:=row_data (S:=S) (S':=⟨S.base,S.acc,freeze fs S.L,S.β,S.w⟩) hS rfl (fun b off hi hb => (hex.imm b off hi hb).1) h1 h2 hm hc ((freeze_holds hS fs).sub fun q hq => by simp only [List.mem_singleton] at hq;rw [hq];exact hr) 0 row.elems.length info.cap (by omega) hcap
    simp only [Nat.zero_mul,Nat.add_zero,List.drop_zero,List.take_length] at this
    exact .data _ _ this
theorem relabel {S:St} (hS:HeapOk S) {K:Heap} (hl:K.length = S.L.length) (hK:∀ (r:Nat) row,S.L[r]? = some row -> ∃ row',K[r]? = some row' /\ row'.ver = row.ver /\ row'.elems.length = row.elems.length /\ row'.frozen = row.frozen):Ext S ⟨S.base,S.acc,K,S.β,S.w⟩:=by
 refine ⟨rfl,rfl,fun b off hi _ => ⟨⟨hi.1,fun q info hq he => ?_⟩,rfl⟩,fun q x y h1 h2 => ?_,Below.refl _ _,fun q x h => .inl ⟨q,x,h,rfl⟩,fun _ _ _ _ => rfl⟩
 ·obtain ⟨x0,a1,a2,a3,a4⟩:=hi.2 q info hq he
  obtain ⟨x,b1,_,b3,b4⟩:=hK q x0 a1
  exact ⟨x,b1,b4.trans a2,a3,by rw [b3];exact a4⟩
 ·obtain ⟨x',b1,b2,b3,_⟩:=hK q x h1
  exact ⟨x',y,b1,h2,Nat.le_of_eq b2.symm,fun _ => ⟨rfl,fun _ => b3⟩,rfl,fun _ => rfl⟩
theorem melt_ok {S:St} (hS:HeapOk S) (fs:List Nat) (hb:∀ row ∈ S.L,∀ b ∈ rowT S.L fs row,b = true):HeapOk ⟨S.base,S.acc,meltH S.L fs,S.β,S.w⟩ /\ Ext S ⟨S.base,S.acc,meltH S.L fs,S.β,S.w⟩ /\
  ∀ a v,Rel S a v -> (∀ b ∈ meltT S.L fs a,b = true) -> Rel ⟨S.base,S.acc,meltH S.L fs,S.β,S.w⟩ (meltA S.L fs a) v:=by
 obtain ⟨hF,hE⟩:=freeze_ok fs hS
 have hX:Ext ⟨S.base,S.acc,freeze fs S.L,S.β,S.w⟩ ⟨S.base,S.acc,meltH S.L fs,S.β,S.w⟩:=relabel (S:=⟨S.base,S.acc,freeze fs S.L,S.β,S.w⟩) hF (by simp [meltH]) fun r row h => by
  refine ⟨meltR S.L fs row,by simp only at h;simp [meltH,h],?_⟩
  unfold meltR
  cases row.clean with
  | true => exact ⟨rfl,rfl,rfl⟩
  | false => exact ⟨rfl,meltL_len ..,rfl⟩
 have hrel:∀ a v,Rel S a v -> (∀ b ∈ meltT S.L fs a,b = true) -> Rel ⟨S.base,S.acc,meltH S.L fs,S.β,S.w⟩ (meltA S.L fs a) v:=fun a v h hb => (melt_rel hS fs h hb).mono hX
 have back:∀ (r:Nat) row,(meltH S.L fs)[r]? = some row -> ∃ row0 f,S.L[r]? = some row0 /\ row = meltR S.L fs { row0 with frozen:=f }:=by
  intro r row h
  unfold meltH at h
  rw [List.getElem?_map] at h
  obtain ⟨x,h1,rfl⟩:=Option.map_eq_some_iff.1 h
  have hlt:r < S.L.length:=by
   have:=(List.getElem?_eq_some_iff.1 h1).1
   have hl:(freeze fs S.L).length = S.L.length:=by rw [hF.len.trans hS.len.symm]
   omega
  obtain ⟨f,g1,_⟩:=freeze_get fs S.L r _ (List.getElem?_eq_getElem hlt)
  rw [h1] at g1
  simp only [Option.some.injEq] at g1
  exact ⟨_,f,List.getElem?_eq_getElem hlt,by rw [g1]⟩
 have hboth:Ext S ⟨S.base,S.acc,meltH S.L fs,S.β,S.w⟩:=hE.trans hX
 have cell:∀ (r:Nat) row0 f,S.L[r]? = some row0 -> ∀ (i:Nat) x,(meltR S.L fs { row0 with frozen:=f }).elems[i]? = some x ->
   ∃ x0,row0.elems[i]? = some x0 /\ x.cells.length = x0.cells.length /\ x.cells.all AV.plain = true /\ ((row0.clean = true /\ x = x0) \/ (row0.clean = false /\ x = meltA S.L fs x0 /\ ∀ b ∈ meltT S.L fs x0,b = true)):=by
  intro r row0 f h0 i x hx
  unfold meltR at hx
  cases hc:row0.clean with
  | true =>
   simp only [hc,cond_true] at hx
   obtain ⟨o1,o2⟩:=hS.elems r row0 h0 i x hx
   exact ⟨x,hx,rfl,o2,.inl ⟨rfl,rfl⟩⟩
  | false =>
   simp only [hc,cond_false] at hx
   rw [meltL_get] at hx
   obtain ⟨x0,h1,rfl⟩:=Option.map_eq_some_iff.1 hx
   obtain ⟨o1,o2⟩:=hS.elems r row0 h0 i x0 h1
   refine ⟨x0,h1,by rw [melt_cells o2,meltL_len],?_,.inr ⟨rfl,rfl,fun b hbm => hb row0 (List.mem_of_getElem? h0) b (by unfold rowT;rw [hc];exact meltTL_mem h1 hbm)⟩⟩
   rw [melt_cells o2]
   refine List.all_eq_true.2 fun c hcm => ?_
   obtain ⟨k,hk⟩:=List.getElem?_of_mem hcm
   rw [meltL_get] at hk
   obtain ⟨c0,q1,rfl⟩:=Option.map_eq_some_iff.1 hk
   exact melt_plain (List.all_eq_true.1 o2 c0 (List.mem_of_getElem? q1))
 have cellr:∀ (r:Nat) row0 f info,S.L[r]? = some row0 -> S.β[r]? = some info -> ∀ (i:Nat) x (k:Nat) c cv,(meltR S.L fs { row0 with frozen:=f }).elems[i]? = some x -> x.cells[k]? = some c -> S.w.cell? ⟨info.blk,info.off + i * info.es + k,none⟩ = some cv ->
   Rel ⟨S.base,S.acc,meltH S.L fs,S.β,S.w⟩ c cv /\ ((meltR S.L fs { row0 with frozen:=f }).clean = true -> DRel ⟨S.base,S.acc,meltH S.L fs,S.β,S.w⟩ c cv):=by
  intro r row0 f info h0 hi i x k c cv hx hk hcv
  obtain ⟨x0,e1,e2,e3,e4⟩:=cell r row0 f h0 i x hx
  rcases e4 with ⟨hc,rfl⟩ | ⟨hc,rfl,hbb⟩
  ·exact ⟨(hS.rel r row0 info i x k c cv h0 hi e1 hk hcv).mono hboth,fun _ => (hS.clean r row0 info i x k c cv h0 hi hc e1 hk hcv).mono hboth⟩
  ·have o2:=(hS.elems r row0 h0 i x0 e1).2
   rw [melt_cells o2,meltL_get] at hk
   obtain ⟨c0,q1,rfl⟩:=Option.map_eq_some_iff.1 hk
   have hr:=hrel c0 cv (hS.rel r row0 info i x0 k c0 cv h0 hi e1 q1 hcv) fun b hbm => hbb b (by
    cases x0 with
    | agg cs => exact meltTL_mem q1 hbm
    | tup cs => simp [AV.cells,AV.plain] at o2
    | _ => 
     cases k with
     | zero => simp [AV.cells] at q1;subst q1;exact hbm
     | succ k => simp [AV.cells] at q1)
   refine ⟨hr,fun hcl => rel_clean hr ?_⟩
   unfold meltR at hcl hx
   simp only [hc,cond_false] at hcl hx
   have hx2:=cleanL_get hcl i _ hx
   have hc2:(meltA S.L fs x0).cells[k]? = some (meltA S.L fs c0):=by rw [melt_cells o2,meltL_get,q1];rfl
   generalize meltA S.L fs x0 = y at hx2 hc2
   cases y with
   | agg cs => exact cleanL_get (show cleanL cs = true by simpa [AV.clean] using hx2) k _ hc2
   | _ =>
    cases k with
    | zero => simp [AV.cells] at hc2;rw [<- hc2];exact hx2
    | succ k => simp [AV.cells] at hc2
 refine ⟨⟨hS.base,by simp [meltH];exact hF.len,hS.blk,hS.inj,fun r row info h h' hm => ?_,fun r row info h h' hm => ?_,fun r row h => ?_,fun r row info i x k c cv h h' hx hk hcv => ?_,fun r row info i x k c cv h h' hcl hx hk hcv => ?_,hS.acq,hS.anew⟩,hboth,hrel⟩
 ·obtain ⟨row0,f,h0,rfl⟩:=back r row h
  obtain ⟨es,c1,c2,c3,c4⟩:=hS.maps r row0 info h0 h' hm
  have hlen:(meltR S.L fs { row0 with frozen:=f }).elems.length = row0.elems.length /\ (meltR S.L fs { row0 with frozen:=f }).es = row0.es:=by
   unfold meltR
   cases row0.clean with
   | true => exact ⟨rfl,rfl⟩
   | false => exact ⟨meltL_len ..,rfl⟩
  refine ⟨es,c1,by rw [hlen.1];exact c2,by rw [hlen.2];exact c3,fun i e x he hx => ?_⟩
  obtain ⟨x0,e1,_,_,e4⟩:=cell r row0 f h0 i x hx
  obtain ⟨p1,kk,n,v,rfl,p3,p4,p5,p6⟩:=c4 i e x0 he e1
  rcases e4 with ⟨hc,rfl⟩ | ⟨hc,rfl,hbb⟩
  ·exact ⟨p1,kk,n,v,rfl,p3,p4,p5.mono hboth,fun _ => (p6 hc).mono hboth⟩
  ·have hr:=hrel v e.val p5 (fun b hbm => hbb b (meltTL_mem (l:=[.int kk n,v]) (i:=1) rfl hbm))
   refine ⟨p1,kk,n,meltA S.L fs v,rfl,p3,melt_plain p4,hr,fun hcl => rel_clean hr ?_⟩
   unfold meltR at hcl hx
   simp only [hc,cond_false] at hcl hx
   have:=cleanL_get hcl i _ hx
   simpa [meltA,meltL,AV.clean,cleanL] using this
 ·obtain ⟨row0,f,h0,rfl⟩:=back r row h
  have hlen:(meltR S.L fs { row0 with frozen:=f }).elems.length = row0.elems.length /\ (meltR S.L fs { row0 with frozen:=f }).es = row0.es:=by
   unfold meltR
   cases row0.clean with
   | true => exact ⟨rfl,rfl⟩
   | false => exact ⟨meltL_len ..,rfl⟩
  rw [hlen.1,hlen.2];exact hS.cells r row0 info h0 h' hm
 ·obtain ⟨row0,f,h0,rfl⟩:=back r row h
  intro i x hx
  obtain ⟨x0,e1,e2,e3,_⟩:=cell r row0 f h0 i x hx
  have o1:=(hS.elems r row0 h0 i x0 e1).1
  refine ⟨?_,e3⟩
  have:(meltR S.L fs { row0 with frozen:=f }).es = row0.es:=by
   unfold meltR
   cases row0.clean <;> rfl
  rw [this,e2];exact o1
 ·obtain ⟨row0,f,h0,rfl⟩:=back r row h
  exact (cellr r row0 f info h0 h' i x k c cv hx hk hcv).1
 ·obtain ⟨row0,f,h0,rfl⟩:=back r row h
  exact (cellr r row0 f info h0 h' i x k c cv hx hk hcv).2 hcl
theorem meltV_get (L:Heap) (fs:List Nat) (env:Vars) (t:Nat):(meltV L fs env).get t = meltA L fs (env.get t):=by
 induction env with
 | nil => rfl
 | cons e env ih =>
  obtain ⟨k,v⟩:=e
  simp only [meltV,List.map_cons,Vars.get]
  cases k == t with
  | true => rfl
  | false => exact ih
theorem wp_melt {M:Mach} (hm:(M.P ()).follows .mixedOrders = true) {fi:Fi} {k:List Item} {env env':Vars} {L L':Heap} {Q:AV -> Heap -> Prop} (fs:List Nat) {bs:List Bool} (he:meltV L fs env = env') (hl:meltH L fs = L') (hb:meltB L fs env = bs) (ha:allB bs)
  (h:Wp M (.run fi k env' L') Q):Wp M (.run fi k env L) Q:=by
 refine .sem fun S b a cs fn h1 h2 h3 h4 h5 h6 h7 h8 => ?_
 subst h6;subst he;subst hl;subst hb
 have ha:=(allB_iff _).1 ha
 obtain ⟨m1,m2,m3⟩:=melt_ok h5 fs fun row hr b hbm => ha b (by unfold meltB;exact List.mem_append_right _ (List.mem_flatMap.2 ⟨row,hr,hbm⟩))
 have hV:VRel ⟨S.base,S.acc,meltH S.L fs,S.β,S.w⟩ (meltV S.L fs env) a.tmps:=by
  intro t
  rw [meltV_get]
  refine m3 _ _ (h7 t) fun b hbm => ha b ?_
  unfold meltB
  refine List.mem_append_left _ ?_
  have key:∀ env:Vars,b ∈ meltT S.L fs (env.get t) -> b ∈ meltTL S.L fs (env.map (·.2)):=by
   intro env
   induction env with
   | nil => intro h;simp [Vars.get,meltT] at h
   | cons e env ih =>
    obtain ⟨k,v⟩:=e
    simp only [Vars.get,List.map_cons,meltTL,List.mem_append]
    cases k == t with
    | true => exact fun h => .inl h
    | false => exact fun h => .inr (ih h)
  exact key env hbm
 obtain ⟨a',todo',Ds,w',β',v,L1,q1,q2,q3,q4,q5,q6,q7,q8,q9⟩:=(wp_sound hm (c:=.run fi k _ _) h:RunSnd M fi k _ _ Q) ⟨S.base,S.acc,meltH S.L fs,S.β,S.w⟩ b a cs fn h1 h2 h3 h4 m1 rfl hV h8
 exact ⟨a',todo',Ds,w',β',v,L1,q1,q2,q3,q4,q5,q6,q7,q8,m2.trans q9⟩
end Go.Av

namespace Go.Av
open Go.Proofs
noncomputable def ops20:Array Oper:=match atC (cd Try.f23) [1,1,0,1,0,0,1,0,0,1,1,1,1,1,0] with
 | .code (.region _ ops _) :: _ => ops
 | _ => #[]
noncomputable def st20 (g:Bool) (l:List AV) (m n i j:Int) (b:Bool) (q:List AV) (v:Nat):RS:=⟨lift [(0,AV.vec g 3 l),(1,.int .i64 m),(2,.int .i64 n),(6,AV.ptr 0 0 0 0),(8,.int .i64 i),(11,AV.ptr 1 0 0 0),(12,.int .i64 j),(57,AV.bool b)],[{ elems:=[AV.agg [AV.vnil,AV.vnil]],es:=2,ver:=0,frozen:=false,clean:=false },{ elems:=[AV.agg [AV.row 2 v,AV.vnil]],es:=2,ver:=0,frozen:=false,clean:=false },{ elems:=q,es:=3,ver:=v,frozen:=false,clean:=true }],[],[],[]⟩
noncomputable def s20 (g:Bool) (l:List AV) (m n i j:Int) (b:Bool) (q:List AV) (v:Nat):RS:=(runOps M1.P M1.inl (fun _ _ _ => none) fi23.n ops20 (keepAns [10]) (fun _ => 2) (List.range 8) (st20 g l m n i j b q v)).getD ⟨[],[],[],[],[]⟩
noncomputable def r20 (g:Bool) (l:List AV) (m n i j:Int) (b:Bool) (q:List AV) (v:Nat) (D:List AV):Option RS:=runOps M1.P M1.inl (fun _ _ _ => none) fi23.n ops20 (keepAns [10]) (fun _ => 2) [8,9,10,11,12] ⟨(96,[],.vec (g && false) 3 D) :: (s20 g l m n i j b q v).env.tail,(s20 g l m n i j b q v).L,(s20 g l m n i j b q v).asm,[],[]⟩
noncomputable def f20 (g:Bool) (l:List AV) (m n i j:Int) (b:Bool) (q:List AV) (v:Nat) (y:AV) (ys:List AV):RS:=(r20 g l m n i j b q v (y :: ys)).getD ⟨[],[],[],[],[]⟩
end Go.Av

namespace Go.Av
open Go.Proofs
end Go.Av

namespace Go.Av
open Go.Proofs
set_option maxRecDepth 100000
end Go.Av

namespace Go.Av
open Go.Proofs
abbrev pgA (g h:Bool) (l:List Bk) (s:List Sb):AV:=.agg [bsA g l,sbA h s]
def Sb.key (s:Sb):Int × List (Bool × List Wo × List UInt8):=(s.n,s.bl.map Bk.key)
namespace Sp
end Sp
end Go.Av

namespace Go.Av
open Go.Proofs
set_option maxRecDepth 100000
end Go.Av

namespace Go.Av
open Go.Proofs
theorem okBs_sub {l:List Bk} (h:Sp.okBs l) (a b:Nat):Sp.okBs ((l.take b).drop a):=by
 obtain ⟨h1,h2⟩:=h
 refine ⟨by simp;omega,fun x hx => h2 x (List.mem_of_mem_take (List.mem_of_mem_drop hx))⟩
end Go.Av

namespace Go.Av
open Go.Proofs
set_option maxRecDepth 100000
end Go.Av

namespace Go.Av
open Go.Proofs
namespace Sp
def pEnd (b:Bk):Bool:=endB b.ws
def pStop (b:Bk):Bool:=plB b.sk b.ws b.cm && backB b.ws
def pMk (b:Bk):Bool:=mkB b.ws
def idxF {α:Type} (p:α -> Bool):List α -> Int -> Int
 | [],_ => -1
 | b :: r,i => if p b = true then i else idxF p r (i + 1)
def idxP {α:Type} (p:α -> Bool) (l:List α):Int:=idxF p l 0
def anyP {α:Type} (p:α -> Bool) (l:List α):Bool:=l.any p
end Sp
theorem idxF_ge {α:Type} (p:α -> Bool):∀ (l:List α) (i:Int),0 <= i -> (Sp.idxF p l i = -1 /\ l.any p = false) \/ (i <= Sp.idxF p l i /\ Sp.idxF p l i < i + l.length /\ l.any p = true)
 | [],i,_ => .inl ⟨rfl,rfl⟩
 | b :: r,i,hi => by
  rw [Sp.idxF,List.any_cons]
  cases hb:p b with
  | true => right;simp;omega
  | false =>
   rw [if_neg (by simp),Bool.false_or]
   rcases idxF_ge p r (i + 1) (by omega) with ⟨h1,h2⟩ | ⟨h1,h2,h3⟩
   ·exact .inl ⟨h1,h2⟩
   ·right;simp only [List.length_cons];exact ⟨by omega,by omega,h3⟩
end Go.Av

namespace Go.Av
open Go.Proofs
set_option maxRecDepth 100000
def fi56:Fi:=⟨19,[.tmp 4]⟩
def kp56:List (Nat × List Nat):=[(0,[0,1]),(1,[0,1,7,8]),(2,[0,1,7,8,9]),(3,[0,1,5,7,8]),(4,[0,1,5,7,8,16]),(5,[4]),(6,[0,1,7,8]),(7,[4])]
def svIm_at (g:Bool) (l:List Bk) (Q:AV -> Heap -> Prop):Prop:=Wp M1 (.run fi56 (atC (cd Try.f56) []) [(0,.vec g 3 (l.map Bk.a)),(1,.func (.func 77) [] [])] []) Q
def svIma_at (g:Bool) (l:List Bk) (n i:Int) (Q:AV -> Heap -> Prop):Prop:=Wp M1 (.run fi56 (atC (cd Try.f56) [1,0,1,0,0]) [(0,.vec g 3 (l.map Bk.a)),(1,.func (.func 77) [] []),(7,.int .i64 n),(8,.int .i64 i)] []) Q
theorem call56 {args:List AV} {d:AV} (h:wc M1 fi56 Try.f56 args d):Ev M1 (.pure 56 args) d []:=pcl _ _ (by kernel_rfl) h
theorem svIm (g:Bool) (l:List Bk)  (dq:AV) (H :
  svIma_at (g) (l) ((↑l.length:Int)) (0) (PureQ dq)) :
 svIm_at g l (PureQ dq):=by
 unfold svIm_at
 have w1:(List.map Bk.a l).length = l.length:=List.length_map ..
 exact path_wp (G:=given kp56 [] []) 1000 [] ⟨(atC (cd Try.f56) [1,0,1,0,0]),[(0,AV.vec g 3 (List.map Bk.a l)),(1,AV.func (Fn.func 77) [] []),(7,vi (↑(List.map Bk.a l).length:Int)),(8,vi 0)],[],_,[],_⟩ (by kernel_rfl) b0 q0 c0 (by (try rw [w1]);all_goals exact H)
theorem svIma (g:Bool) (l:List Bk) (n i:Int)  (dq:AV) (H :
  ((i < n) -> (Sp.few6 (l.getD i.toNat default).3.length) /\
   (0 <= i) /\
   (i.toNat < l.length) /\
   ((Sp.mkB (l.getD i.toNat default).3 = true) -> vi i = dq) /\
   (¬(Sp.mkB (l.getD i.toNat default).3 = true) -> (-9223372036854775808 <= i + 1 /\ i + 1 <= 9223372036854775807) /\
    svIma_at (g) (l) (n) (i + 1) (PureQ dq))) /\
  (¬(i < n) -> vi (-1) = dq)) :
 svIma_at g l n i (PureQ dq):=by
 unfold svIma_at
 rcases xm (i < n) with d2 | d2
 ·have H:=H.1 d2
  obtain ⟨k3,H⟩:=H
  obtain ⟨k5,H⟩:=H
  have w6:(List.map Bk.a l).length = l.length:=List.length_map ..
  have i7:(decide (i.toNat < (List.map Bk.a l).length)) = true ↔ (i.toNat < l.length):=(by (try rw [w6]);all_goals exact i_dec)
  obtain ⟨k8,H⟩:=H
  refine path_wp (G:=given kp56 [(4,4,.elem (ag [vb (l.getD i.toNat default).1,AV.vec (l.getD i.toNat default).2 2 (List.map Wo.a (l.getD i.toNat default).3),AV.str (l.getD i.toNat default).4])),(4,5,.call (vb (Sp.mkB (l.getD i.toNat default).3)) none)] []) 11 [true] ⟨(atC (cd Try.f56) [1,0,1,0,0,1,1,0,0,1,1]),[(0,AV.vec g 3 (List.map Bk.a l)),(1,AV.func (Fn.func 77) [] []),(5,vi i),(7,vi n),(8,vi i),(16,vb (Sp.mkB (l.getD i.toNat default).3))],[],_,[((List.map Bk.a l).get?Internal i.toNat = some (ag [vb (l.getD i.toNat default).1,AV.vec (l.getD i.toNat default).2 2 (List.map Wo.a (l.getD i.toNat default).3),AV.str (l.getD i.toNat default).4]))],_⟩ (by kernel_rfl) (bc (beq_t (i_dec.2 d2)) (bc (i_dec.2 k5) (bc (i7.2 k8) b0))) (qc (el_map k8) q0) (ce (@ev77 ((l.getD i.toNat default).1) ((l.getD i.toNat default).2) ((l.getD i.toNat default).3) ((l.getD i.toNat default).4) k3) c0) ?_
  rcases xm (Sp.mkB (l.getD i.toNat default).3 = true) with d10 | d10
  ·have H:=H.1 d10
   exact path_re (G:=given kp56 [] []) 1000 [true] (asm:=[(Sp.mkB (l.getD i.toNat default).3) == true]) (vi i) (by kernel_rfl) (bc (beq_t ((i_var _).2 d10)) b0) q0 c0 H
  ·have H:=H.2 d10
   obtain ⟨k11,H⟩:=H
   have w12:wi (i + 1) = i + 1:=wI64 k11
   exact path_wp (G:=given kp56 [] []) 1000 [false] ⟨(atC (cd Try.f56) [1,0,1,0,0]),[(0,AV.vec g 3 (List.map Bk.a l)),(1,AV.func (Fn.func 77) [] []),(7,vi n),(8,vi (wi (i + 1)))],[],[(Sp.mkB (l.getD i.toNat default).3) == false],[],_⟩ (by kernel_rfl) (bc (beq_f (fun h => d10 ((i_var _).1 h))) b0) q0 c0 (by (try rw [w12]);all_goals exact H)
 ·have H:=H.2 d2
  exact path_re (G:=given kp56 [] []) 1000 [false] (vi (-1)) (by kernel_rfl) (bc (beq_f (fun h => d2 (i_dec.1 h))) b0) q0 c0 H
end Go.Av

namespace Go.Av
open Go.Proofs
theorem svIm_loop {g:Bool} {l:List Bk} {dq:AV} (hk:Sp.okBs l):∀ (c i:Nat),i + c = l.length -> AV.int .i64 (Sp.idxF Sp.pMk (l.drop i) i) = dq -> svIma_at g l l.length i (PureQ dq):=by
 have hl:=hk.1
 intro c
 induction c with
 | zero =>
  intro i hi hq
  rw [List.drop_eq_nil_of_le (by omega)] at hq
  exact svIma _ _ _ _ _ ⟨fun h => by omega,fun _ => hq⟩
 | succ c ih =>
  intro i hi hq
  have hm:=hk.2 _ (getD_mem (show i < l.length by omega))
  rw [drop_getD (show i < l.length by omega),Sp.idxF] at hq
  refine svIma _ _ _ _ _ ⟨fun _ => ?_,fun h => by omega⟩
  rw [Int.toNat_natCast]
  refine ⟨hm.1,by omega,by omega,fun h => ?_,fun h => ⟨by omega,ih (i + 1) (by omega) ?_⟩⟩
  ·rw [if_pos (show Sp.pMk (l.getD i default) = true from h)] at hq
   exact hq
  ·rw [if_neg (show ¬Sp.pMk (l.getD i default) = true from h)] at hq
   exact hq
theorem ev56_c (g:Bool) (l:List Bk) (hk:Sp.okBs l):Ev M1 (.pure 56 [bsA g l,.func (.func 77) [] []]) (.int .i64 (Sp.idxP Sp.pMk l)) []:=
 call56 (svIm g l _ (svIm_loop hk l.length 0 (by omega) rfl))
end Go.Av

namespace Go.Av
open Go.Proofs
set_option maxRecDepth 100000
def fi27:Fi:=⟨9,[.tmp 4]⟩
def kp27:List (Nat × List Nat):=[(0,[0,1]),(1,[4])]
def svXm_at (g:Bool) (l:List Bk) (Q:AV -> Heap -> Prop):Prop:=Wp M1 (.run fi27 (atC (cd Try.f27) []) [(0,.vec g 3 (l.map Bk.a)),(1,.func (.func 77) [] [])] []) Q
theorem call27 {args:List AV} {d:AV} (h:wc M1 fi27 Try.f27 args d):Ev M1 (.pure 27 args) d []:=pcl _ _ (by kernel_rfl) h
theorem svXm (g:Bool) (l:List Bk)  (dq:AV) (H :
  (Sp.okBs l) /\
  vb (decide (Sp.idxP Sp.pMk l >= 0)) = dq) :
 svXm_at g l (PureQ dq):=by
 unfold svXm_at
 obtain ⟨k1,H⟩:=H
 exact path_re (G:=given kp27 [(1,2,.call (vi (Sp.idxP Sp.pMk l)) none)] []) 1000 [] (vb (decide (Sp.idxP Sp.pMk l >= 0))) (by kernel_rfl) b0 q0 (ce (@ev56_c (g) (l) k1) c0) H
end Go.Av

namespace Go.Av
open Go.Proofs
theorem any_idx {α:Type} (p:α -> Bool) (l:List α):decide (Sp.idxP p l >= 0) = Sp.anyP p l:=by
 unfold Sp.idxP Sp.anyP
 rcases idxF_ge p l 0 (by omega) with ⟨h1,h2⟩ | ⟨h1,h2,h3⟩
 ·rw [h1,h2];rfl
 ·rw [h3];exact decide_eq_true h1
theorem ev27_a (g:Bool) (l:List Bk) (hk:Sp.okBs l):Ev M1 (.pure 27 [bsA g l,.func (.func 77) [] []]) (.bool (Sp.anyP Sp.pMk l)) []:=
 call27 (svXm g l _ ⟨hk,congrArg AV.bool (any_idx ..)⟩)
end Go.Av

namespace Go.Av
open Go.Proofs
set_option maxRecDepth 100000
def fi79:Fi:=⟨6,[.tmp 2]⟩
def kp79:List (Nat × List Nat):=[(0,[1]),(1,[2])]
def fi80:Fi:=⟨9,[.tmp 3]⟩
def kp80:List (Nat × List Nat):=[(0,[1,2]),(1,[3])]
def svO1_at (n:Int) (f:Bool) (l:List Bk) (Q:AV -> Heap -> Prop):Prop:=Wp M1 (.run fi79 (atC (cd Try.f79) []) [(0,.agg [.int .i64 n,.vec f 3 (l.map Bk.a)])] []) Q
def svR1_at (n m:Int) (f g:Bool) (l q:List Bk) (Q:AV -> Heap -> Prop):Prop:=Wp M1 (.run fi80 (atC (cd Try.f80) []) [(0,.agg [.int .i64 n,.vec f 3 (l.map Bk.a)]),(1,.eptr 2 [.agg [.int .i64 m,.vec g 3 (q.map Bk.a)]] 0 0)] []) Q
theorem call79 {args:List AV} {d:AV} (h:wc M1 fi79 Try.f79 args d):Ev M1 (.pure 79 args) d []:=pcl _ _ (by kernel_rfl) h
theorem call80 {args:List AV} {d:AV} (h:wc M1 fi80 Try.f80 args d):Ev M1 (.pure 80 args) d []:=pcl _ _ (by kernel_rfl) h
theorem svO1 (n:Int) (f:Bool) (l:List Bk)  (dq:AV) (H :
  (Sp.okBs l) /\
  vb (Sp.anyP Sp.pMk l) = dq) :
 svO1_at n f l (PureQ dq):=by
 unfold svO1_at
 obtain ⟨k1,H⟩:=H
 exact path_re (G:=given kp79 [(1,2,.call (vb (Sp.anyP Sp.pMk l)) none)] []) 1000 [] (vb (Sp.anyP Sp.pMk l)) (by kernel_rfl) (bc rfl b0) q0 (ce (@ev27_a (f) (l) k1) c0) H
theorem svR1 (n m:Int) (f g:Bool) (l q:List Bk)  (dq:AV) (H :
  vb (m == n) = dq) :
 svR1_at n m f g l q (PureQ dq):=by
 unfold svR1_at
 exact path_re (G:=given kp80 [] []) 1000 [] (vb (m == n)) (by kernel_rfl) (bc rfl b0) q0 c0 H
end Go.Av

namespace Go.Av
open Go.Proofs
namespace Sp
def eqI (m n:Int):Bool:=m == n
def sMk (s:Sb):Bool:=anyP pMk s.bl
def sIs (m:Int) (s:Sb):Bool:=eqI m s.n
end Sp
theorem ev79 (n:Int) (f:Bool) (l:List Bk) (hk:Sp.okBs l):Ev M1 (.pure 79 [.agg [.int .i64 n,.vec f 3 (l.map Bk.a)]]) (.bool (Sp.anyP Sp.pMk l)) []:=
 call79 (svO1 n f l _ ⟨hk,rfl⟩)
theorem ev80 (n m:Int) (f g:Bool) (l q:List Bk):Ev M1 (.pure 80 [.agg [.int .i64 n,.vec f 3 (l.map Bk.a)],.eptr 2 [.agg [.int .i64 m,.vec g 3 (q.map Bk.a)]] 0 0]) (.bool (Sp.eqI m n)) []:=
 call80 (svR1 n m f g l q _ rfl)
end Go.Av
