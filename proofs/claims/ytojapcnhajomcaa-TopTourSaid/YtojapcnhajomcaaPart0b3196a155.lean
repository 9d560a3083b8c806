/- PART 3 of the texts of a claim, joined by a program: what each part shows stands at its head. -/
import Derived.Test.YtojapcnhajomcaaParta10c4d3b83
import Derived.ProofKit
import Derived.OpenShut
import Derived.Test.YtojapcnhajomcaaRows
import Derived.Test.YtojapcnhajomcaaProg

namespace Go.Av
open Go.RowKit
theorem lift_get (env:Vars) (t:Nat):Env.get (lift env) t = ([],env.get t):=by
 induction env with
 | nil => rfl
 | cons e env ih =>
  obtain ⟨k,v⟩:=e
  simp only [lift,List.map_cons,Env.get,Vars.get]
  cases k == t with
  | true => rfl
  | false => exact ih
theorem lift_rel {S:St} {env:Vars} {tm:Array Value} (h:VRel S env tm):TRel S (lift env) tm:=by
 refine ⟨fun t => ?_,fun t _ => ?_,fun t ht => ?_⟩
 ·rw [lift_get];exact .nil
 ·rw [lift_get];exact h t
 ·rw [lift_get] at ht;simp [chainVal] at ht
theorem forget_rel {S:St} {env:Env} {tm:Array Value} (h:TRel S env tm) (keep:List Nat):VRel S (forget keep env) tm:=by
 intro t
 induction keep with
 | nil => exact .any _
 | cons k keep ih =>
  simp only [forget,List.map_cons,Vars.get]
  cases hk:k == t with
  | false => exact ih
  | true =>
   have hk:k = t:=by simpa using hk
   subst hk
   simp only [cond_true]
   split
   ·rename_i v hv
    have:=h.yes k (by rw [hv];rfl)
    rw [hv] at this;exact this
   ·exact .any _
theorem vget_rel {S:St} {env:Vars} {a:Act} (h:VRel S env a.tmps) (x:Operand):Rel S (evV env x) (a.eval x):=by
 cases x with
 | tmp t => exact h t
 | const v => exact rel_ofC S v
 | global g => exact .any _
 | func f => exact .data _ _ (.func _ [] [] [] [] rfl rfl (by simp) (by simp))
theorem args_rel {S:St}:∀ (i:Nat) (args:List AV) (vs:List Value) (t:Nat),RelL S args vs -> Rel S ((argVars i args).get t) (if i <= t then vs.getD (t - i) undef else undef)
 | i,[],vs,t,_ => .any _
 | i,c :: args,[],t,h => by have:=h.1;simp at this
 | i,c :: args,u :: vs,t,h => by
  simp only [argVars,Vars.get]
  cases hk:i == t with
  | true =>
   have hk:i = t:=by simpa using hk
   subst hk
   simp only [cond_true,Nat.le_refl,if_true,Nat.sub_self,List.getD_cons_zero]
   exact h.2 0 c u rfl rfl
  | false =>
   have hk:i ≠ t:=by simpa using hk
   have:=args_rel (S:=S) (i + 1) args vs t ⟨by simpa using h.1,fun j c v hc hv => h.2 (j + 1) c v (by simpa using hc) (by simpa using hv)⟩
   simp only [cond_false]
   by_cases hlt:i + 1 <= t
   ·rw [if_pos hlt] at this
    rw [if_pos (by omega)]
    obtain ⟨m,rfl⟩:∃ m,t = i + 1 + m:=⟨t - (i + 1),by omega⟩
    have e1:i + 1 + m - (i + 1) = m:=by omega
    have e2:i + 1 + m - i = m + 1:=by omega
    rw [e1] at this
    rw [e2];simpa using this
   ·rw [if_neg hlt] at this
    rw [if_neg (by omega)];exact this
theorem enter_rel {S:St} {args:List AV} {vs:List Value} (n:Nat) (h:RelL S args vs):VRel S (argVars 0 args) ((⟨vs⟩:Array Value) ++ Array.replicate n undef):=by
 intro t
 have:=args_rel (S:=S) 0 args vs t h
 simp only [Nat.zero_le,if_true,Nat.sub_zero] at this
 have e:((⟨vs⟩:Array Value) ++ Array.replicate n undef).getD t undef = vs.getD t undef:=by
  simp only [Array.getD_eq_getD_getElem?,List.getD_eq_getElem?_getD,Array.getElem?_append,List.size_toArray,List.getElem?_toArray]
  by_cases ht:t < vs.length
  ·rw [if_pos ht]
  ·rw [if_neg ht,List.getElem?_eq_none (by omega:vs.length <= t)]
   simp only [Array.getElem?_replicate,Option.getD_none]
   split <;> rfl
 rw [e];exact this
def resF (tm:Array Value):ResultVar -> Sem Value
 | .tmp t => pure (tm.getD t undef)
 | .cell a t => do loadVar t (<- asAddr (tm.getD a undef))
theorem resultsA_sound {P:Unit -> Program} {S:St} (hS:HeapOk S) {env:Vars} {tm:Array Value} (hV:VRel S env tm):∀ (l:List ResultVar) {vs:List AV},resultsA P env S.L l = some vs ->
  ∃ cvs:List Value,RelL S vs cvs /\ (l.mapM (resF tm)).run (P ()) S.w = .ok cvs S.w
 | [],vs,h => by
  simp only [resultsA,Option.some.injEq] at h;subst h
  exact ⟨[],.nil S,by simp⟩
 | .tmp t :: r,vs,h => by
  simp only [resultsA] at h
  split at h
  ·rename_i vs' h'
   simp only [Option.some.injEq] at h;subst h
   obtain ⟨cvs,h1,h2⟩:=resultsA_sound hS hV r h'
   have h3:(resF tm (.tmp t)).run (P ()) S.w = .ok (tm.getD t undef) S.w:=rfl
   exact ⟨tm.getD t undef :: cvs,.cons (hV t) h1,by simp only [List.mapM_cons,Sem.run_bind,h3,Result.andThen_ok,h2,Sem.run_pure]⟩
  ·simp at h
 | .cell a T :: r,vs,h => by
  simp only [resultsA] at h
  split at h
  ·rename_i x vs' hx h'
   cases hall:x.asm.all fun b => b with
   | false => simp [hall] at h
   | true =>
    simp only [hall,cond_true,Option.some.injEq] at h;subst h
    obtain ⟨cvs,h1,h2⟩:=resultsA_sound hS hV r h'
    have hel:∀ {xs:List AV} {i:Nat} {x:AV} {q:List Prop},elemA none xs i = some (x,q) -> q = []:=by
     intro xs i x q he
     unfold elemA at he
     simp only at he
     split at he
     ·simp only [Option.some.injEq,Prod.mk.injEq] at he;exact he.2.symm
     ·simp at he
    have hva:=hV a
    have key:x.eqs = [] /\ ∃ ad,tm.getD a undef = .pointer (some ad):=by
     unfold loadA at hx
     split at hx
     ·rename_i q ver i j hv
      rw [hv] at hva
      obtain ⟨hp,_⟩:=rel_ptr' hva
      split at hx
      ·split at hx
       ·rename_i he
        split at hx
        ·simp only [Option.some.injEq] at hx;subst hx
         exact ⟨hel he,hp⟩
        ·simp at hx
       ·simp at hx
      ·simp at hx
     ·rename_i es xs i j hv
      rw [hv] at hva
      have hp:∃ ad,tm.getD a undef = .pointer (some ad):=by
       have hd:=rel_eptr hva
       generalize tm.getD a undef = pv at *
       cases hd with
       | eptr _ _ _ _ b off h1 h2 h3 => exact ⟨_,rfl⟩
      split at hx
      ·rename_i he
       split at hx
       ·simp only [Option.some.injEq] at hx;subst hx
        exact ⟨hel he,hp⟩
       ·simp at hx
      ·simp at hx
     ·simp at hx
    obtain ⟨heq,ad,had⟩:=key
    obtain ⟨_,_,cv,k1,k2⟩:=load_sound (P:=P) hS (hV a) hx (by simpa using hall) (by rw [heq];simp)
    have h3:(resF tm (.cell a T)).run (P ()) S.w = .ok cv S.w:=by
     rw [<- k1,had]
     simp [resF,asAddr,Instr.loadAt,Instr.sureAddr,had]
    exact ⟨cv :: cvs,.cons k2 h1,by simp only [List.mapM_cons,Sem.run_bind,h3,Result.andThen_ok,h2,Sem.run_pure]⟩
  ·simp at h
theorem finish_sound {P:Unit -> Program} {S:St} (hS:HeapOk S) {env:Vars} {tm:Array Value} (hV:VRel S env tm) {fi:Fi} {fn:Func} (hfi:fn.results.toList = fi.res) {v:AV} (h:finish P fi env S.L = some v) :
  ∃ cv,(results fn tm).run (P ()) S.w = .ok cv S.w /\ Rel S v cv:=by
 have hrun:∀ {cvs:List Value},(fi.res.mapM (resF tm)).run (P ()) S.w = .ok cvs S.w -> (results fn tm).run (P ()) S.w = .ok (if h:cvs.length = 1 then cvs[0] else .tuple ⟨cvs⟩) S.w:=by
  intro cvs h
  have hm:results fn tm = (do let vs <- fn.results.mapM (resF tm);pure (if h:vs.size = 1 then vs[0] else .tuple vs)):=by
   unfold results
   congr 1
  rw [hm,Array.mapM_eq_mapM_toList,hfi]
  rw [map_eq_pure_bind]
  simp only [Sem.run_bind,h,Result.andThen_ok,Sem.run_pure]
  rfl
 unfold finish at h
 split at h
 ·rename_i u hr
  simp only [Option.some.injEq] at h;subst h
  obtain ⟨cvs,h1,h2⟩:=resultsA_sound hS hV _ hr
  have:=h1.1
  match cvs,this,h1,h2 with
  | [cv],_,h1,h2 => exact ⟨cv,by simpa using hrun h2,h1.head⟩
 ·rename_i vs hne hr
  simp only [Option.some.injEq] at h;subst h
  obtain ⟨cvs,h1,h2⟩:=resultsA_sound hS hV _ hr
  have hl:cvs.length ≠ 1:=by
   rw [<- h1.1]
   intro e
   obtain ⟨x,rfl⟩:=List.length_eq_one_iff.1 e
   exact hne x rfl
  exact ⟨.tuple ⟨cvs⟩,by simpa [hl] using hrun h2,.tup vs cvs h1.1 h1.2⟩
 ·simp at h
theorem call_runs {P:Program} {f:FuncId} {fn:Func} {c:Code} {args:Array Value} (hf:P.funcs[f]? = some fn) (hb:fn.body = some c) (hn:(fn.name == "runtime.NumGoroutine") = false) (w:World) :
  (callFunc f args).run P w = .ok (.enter f args) w:=by
 have hn':fn.name ≠ "runtime.NumGoroutine":=by simpa using hn
 simp [callFunc,hf,hb,hn']
theorem weak_rel {S:St} {a d:AV} (h:Weak a d):∀ {v:Value},DRel S a v -> DRel S d v:=by
 induction h with
 | refl a => exact fun h => h
 | vnil es => intro v h;cases h;exact .vecE false es none 0 (by simp)
 | full es xs =>
  intro v h
  cases h with
  | vecE f es a cap hf => exact .vecE false es a cap (by simp)
  | vec f es xs b off cap ho hf hl hc hr => exact .vec false es xs b off cap ho (by simp) hl hc hr
 | tup xs ys hl _ ih =>
  intro v h
  cases h with
  | tup _ vs h1 h2 =>
   refine .tup ys vs (hl.symm.trans h1) fun i c v hc hv => ?_
   have hi:i < xs.length:=by rw [hl];exact (List.getElem?_eq_some_iff.1 hc).1
   exact ih i xs[i] c (List.getElem?_eq_getElem hi) hc (h2 i xs[i] v (List.getElem?_eq_getElem hi) hv)
 | agg xs ys hl _ ih =>
  intro v h
  cases h with
  | agg _ vs h1 h2 =>
   refine .agg ys vs (hl.symm.trans h1) fun i c v hc hv => ?_
   have hi:i < xs.length:=by rw [hl];exact (List.getElem?_eq_some_iff.1 hc).1
   exact ih i xs[i] c (List.getElem?_eq_getElem hi) hc (h2 i xs[i] v (List.getElem?_eq_getElem hi) hv)
 | cells f es xs ys hl _ hy hx ih =>
  intro v h
  have one:∀ {y:AV} {k:Nat} {c:AV},y.cells = [y] -> y.cells[k]? = some c -> k = 0 /\ c = y:=by
   intro y k c e hk
   rw [e] at hk
   cases k with
   | zero => simp at hk;exact ⟨rfl,hk.symm⟩
   | succ k => simp at hk
  have lk:∀ (i:Nat) y,ys[i]? = some y -> ∃ x,xs[i]? = some x:=fun i y h => by
   have hi:i < xs.length:=by rw [hl];exact (List.getElem?_eq_some_iff.1 h).1
   exact ⟨xs[i],List.getElem?_eq_getElem hi⟩
  have lk':∀ (i:Nat) x,xs[i]? = some x -> ∃ y,ys[i]? = some y:=fun i y h => by
   have hi:i < ys.length:=by rw [<- hl];exact (List.getElem?_eq_some_iff.1 h).1
   exact ⟨ys[i],List.getElem?_eq_getElem hi⟩
  cases h with
  | vecE f es a cap hf =>
   have:ys = []:=List.length_eq_zero_iff.1 (by simpa using hl.symm)
   subst this
   exact .vecE f es a cap hf
  | vec f es xs b off cap ho hf hlc hc hr =>
   have:=DRel.vec (S:=S) f es ys b off cap (fun i y h => by
     obtain ⟨x,hxi⟩:=lk i y h
     obtain ⟨q1,q2⟩:=ho i x hxi
     rw [hx x (List.mem_of_getElem? hxi)] at q1
     obtain ⟨p1,p2⟩:=hy y (List.mem_of_getElem? h)
     rw [p1];exact ⟨q1,by simp [p2]⟩)
    (fun e => by rw [<- hl];exact hf e) (by rw [<- hl];exact hlc)
    (fun i y k c h hk => by
     obtain ⟨x,hxi⟩:=lk i y h
     obtain ⟨rfl,rfl⟩:=one (hy y (List.mem_of_getElem? h)).1 hk
     exact hc i x 0 x hxi (by rw [hx x (List.mem_of_getElem? hxi)];rfl))
    (fun i y k c cv h hk hcv => by
     obtain ⟨x,hxi⟩:=lk i y h
     obtain ⟨rfl,rfl⟩:=one (hy y (List.mem_of_getElem? h)).1 hk
     exact ih i x c hxi h (hr i x 0 x cv hxi (by rw [hx x (List.mem_of_getElem? hxi)];rfl) hcv))
   rw [<- hl] at this
   exact this
theorem OwnQ.snd {M:Mach} {f:FuncId} {args:List AV} {L L':Heap} {v:AV} (h:OwnQ M f args L (isR v L')):OwnSnd M f args L v L':=by
 intro S cargs h1 h2 h3
 obtain ⟨k1,k2⟩:=h S cargs h1 h2 h3
 refine ⟨k1,Calls.mono k2 fun e w' he => ?_⟩
 cases e with
 | returned cv =>
  obtain ⟨v',K,β',⟨rfl,rfl⟩,m1,m2,m3⟩:=he
  exact ⟨β',m1,m2,m3⟩
 | panicked c => exact he.elim
 | outgrown => exact he.elim
theorem PureR.snd {M:Mach} {f:FuncId} {args:List AV} {v:AV} (h:PureR M f args (isR v [])):PureSnd M f args v:=by
 intro base acc w cargs h1 h2 h3
 obtain ⟨k1,k2⟩:=h base acc w cargs h1 h2 h3
 refine ⟨k1,Calls.mono k2 fun e w' he => ?_⟩
 cases e with
 | returned cv =>
  obtain ⟨d,⟨rfl,_⟩,m1,m2⟩:=he
  exact ⟨m1,m2⟩
 | panicked c => exact he.elim
 | outgrown => exact he.elim
theorem RunSnd.step {M:Mach} {fi:Fi} {k k':List Item} {env:Vars} {L:Heap} {Q:AV -> Heap -> Prop} (h:RunSnd M fi k' env L Q) (ht:tameL k = true -> tameL k' = true)
  (hs:∀ (b:Frame) (a:Act) (cs:List Frame) (S:St),VRel S env a.tmps -> step (M.P ()) (lone (b.atR a k) cs S.w) = .next (lone (b.atR a k') cs S.w)):RunSnd M fi k env L Q:=by
 intro S b a cs fn h1 h2 h3 h4 h5 h6 h7 h8
 obtain ⟨a',todo',Ds,w',β',v,L',hq,g1,g2,k1,k2⟩:=h S b a cs fn h1 h2 h3 (h4.imp id ht) h5 h6 h7 h8
 exact ⟨a',todo',Ds,w',β',v,L',hq,g1,g2,.head (hs b a cs S h7) k1,k2⟩
theorem tame_exit {id:Nat}:∀ {k k':List Item},exitTo id k = some k' -> tameL k = true -> tameL k' = true
 | [],k',h,_ => by simp [exitTo] at h
 | x :: k,k',h,ht => by
  have ht':tameI x = true /\ tameL k = true:=by simpa [tameL] using ht
  cases x with
  | inBlock id' =>
   simp only [exitTo] at h
   split at h
   ·simp only [Option.some.injEq] at h;subst h;exact ht'.2
   ·exact tame_exit h ht'.2
  | _ => exact tame_exit (by simpa [exitTo] using h) ht'.2
def onlyN (K:Act -> World -> Prop):Exit -> Act -> World -> Prop:=fun e a w => match e with
 | .normal => K a w
 | _ => False
theorem opsR {P:Program} {ops:Array Oper} {K:Act -> World -> Prop} {b:Frame} {k:List Item} {cs:List Frame} {rest:List Nat} (hb:b.roundOf = none \/ noDefer ops = true):∀ (l:List Nat) (a:Act) (w:World),wpOps P ops (onlyN K) l a w ->
  ∃ a' w',K a' w' /\ Steps P (lone (b.atR a (.inRegion ops (l ++ rest) :: k)) cs w) (lone (b.atR a' (.inRegion ops rest :: k)) cs w'):=by
 intro l
 induction l with
 | nil => exact fun a w h => ⟨a,w,h,Steps.refl _ _⟩
 | cons i l ih =>
  intro a w h
  simp only [wpOps] at h
  simp only [List.cons_append]
  cases ho:ops[i]? with
  | none =>
   simp only [ho] at h
   obtain ⟨a',w',hq,harr⟩:=ih a w h
   have hs:=stepR_op_skip (P:=P) (b:=b) (a:=a) (k:=k) (cs:=cs) (w:=w) (ops:=ops) (i:=i) (rest:=l ++ rest) (by simp [ho])
   simp only [ho,Option.bind_none,Act.put] at hs
   exact ⟨a',w',hq,.head hs harr⟩
  | some o =>
   simp only [ho] at h
   by_cases hw:Region.wanted o (yielded ops a.tmps) = true
   ·simp only [hw,if_true] at h
    have hsem:o.semAt b.roundOf a.eval = execOp a.eval o:=by
     rcases hb with hb | hb
     ·rw [hb];rfl
     ·refine Oper.semAt_eq _ _ _ fun c hc => ?_
      have:=List.all_eq_true.1 hb o (by
       have:=Array.mem_of_getElem? ho
       exact Array.mem_toList_iff.2 this)
      rw [hc] at this;simp at this
    rcases h with h | ⟨_,a0,w0,h⟩
    ·unfold Oper.wp at h
     have hg:=stepGR_op (P:=P) (b:=b) (k:=k) (cs:=cs) (w:=w) (rest:=l ++ rest) ho hw
     rw [hsem] at hg
     have hfin:∀ v,(b.atR a (.inRegion ops (i :: (l ++ rest)) :: k)).finish v = b.atR (a.put o.dst v) (.inRegion ops (l ++ rest) :: k):=by
      intro v;rw [Frame.finish_atR,ho];rfl
     simp only [Oper.upon] at h
     split at h
     ·rename_i v w' hr'
      obtain ⟨a',w'',hq,harr⟩:=ih _ _ h
      refine ⟨a',w'',hq,.head (step_lone_go ?_) harr⟩
      rw [hg,<- hfin];simp [stepG.apply,hr']
     ·rename_i w' hr'
      obtain ⟨a',w'',hq,harr⟩:=ih _ _ h
      refine ⟨a',w'',hq,.head (step_lone_go ?_) harr⟩
      rw [hg,<- hfin];simp [stepG.apply,hr']
     ·rename_i d w' hr'
      obtain ⟨a',w'',hq,harr⟩:=ih _ _ h
      refine ⟨a',w'',hq,.head (step_lone_go ?_) harr⟩
      have:({ b.atR a (.inRegion ops (i :: (l ++ rest)) :: k) with defers:=d :: a.defers }:Frame).finish undef =
        b.atR ({ a with defers:=d :: a.defers }.put o.dst undef) (.inRegion ops (l ++ rest) :: k):=by
       have:=Frame.finish_atR b { a with defers:=d :: a.defers } ops i (l ++ rest) k undef
       rw [ho] at this;exact this
      rw [hg];simp only [stepG.apply,Sem.runT_eq,hr',GStep.bare_after]
      exact congrArg (fun fr => GStep.go { frame:=fr,callers:=cs,status:=.running,dying:=none } w') this
     ·rename_i f args w' hr'
      obtain ⟨e,w'',fr,hR,hsteps,hfn,hleave⟩:=h (b.atR a (.inRegion ops (i :: (l ++ rest)) :: k) :: cs)
      have henter:step P (lone (b.atR a (.inRegion ops (i :: (l ++ rest)) :: k)) cs w) =
        .next (lone (Frame.enter P f args .normal) (b.atR a (.inRegion ops (i :: (l ++ rest)) :: k) :: cs) w'):=
       step_lone_go (by rw [hg];simp [stepG.apply,hr',Frame.atR])
      cases e with
      | returned v =>
       obtain ⟨a',w₃,hq,harr⟩:=ih _ _ hR
       refine ⟨a',w₃,hq,.head henter (Steps.trans hsteps (.head ?_ harr))⟩
       rw [<- hfin];exact step_leave_returned hleave
      | panicked chain => exact hR.elim
      | outgrown => obtain ⟨a₀,w₀,hq⟩:=hR;exact hq.elim
     ·rename_i row args w' hr'
      obtain ⟨v,w'',hR,hsteps⟩:=h (b.atR a (.inRegion ops (i :: (l ++ rest)) :: k)) cs
      have henter:step P (lone (b.atR a (.inRegion ops (i :: (l ++ rest)) :: k)) cs w) =
        .next (lone (Frame.ofRow P row args .normal) (b.atR a (.inRegion ops (i :: (l ++ rest)) :: k) :: cs) w'):=
       step_lone_go (by rw [hg];simp [stepG.apply,hr',Frame.atR])
      obtain ⟨a',w₃,hq,harr⟩:=ih _ _ hR
      refine ⟨a',w₃,hq,.head henter (Steps.trans hsteps ?_)⟩
      rw [hfin];exact harr
     ·exact h.elim
     ·exact h.elim
    ·exact h.elim
   ·simp only [hw,if_false,Bool.false_eq_true] at h
    obtain ⟨a',w',hq,harr⟩:=ih _ _ h
    have hs:=stepR_op_skip (P:=P) (b:=b) (a:=a) (k:=k) (cs:=cs) (w:=w) (ops:=ops) (i:=i) (rest:=l ++ rest)
     (by simp [ho];simpa using hw)
    simp only [ho,Option.bind_some] at hs
    exact ⟨a',w',hq,.head hs harr⟩
def RegR (P:Program) (id:Nat) (ops:Array Oper) (draw:Bool) (K:Act -> World -> Prop) (a:Act) (w:World):Prop:=
 ∀ (b:Frame) (k:List Item) (cs:List Frame),(b.roundOf = none \/ noDefer ops = true) ->
  ∃ a' w',K a' w' /\ Steps P (lone (b.atR a (.code (.region id ops draw) :: k)) cs w) (lone (b.atR a' k) cs w')
theorem regR_text {P:Program} {id:Nat} {ops:Array Oper} {K:Act -> World -> Prop} {a:Act} {w:World} (h:wpOps P ops (onlyN K) (List.range ops.size) a w):RegR P id ops false K a w:=by
 intro b k cs hb
 obtain ⟨a',w',h1,h2⟩:=opsR (k:=k) (cs:=cs) (rest:=[]) hb _ a w h
 rw [List.append_nil] at h2
 exact ⟨a',w',h1,.head stepR_region (Steps.trans h2 (.one stepR_region_end))⟩
theorem regR_any {P:Program} {id:Nat} {ops:Array Oper} {K:Act -> World -> Prop} {a:Act} {w:World} (hm:P.follows .mixedOrders = true)
  (h:wpAny P .any ops (onlyN K) ops.size (Array.replicate ops.size false) a { w with drawn:=w.drawn + 1 }):RegR P id ops true K a w:=by
 intro b k cs hb
 have h':wpOps P ops (onlyN K) (Region.schedule (P.follows .mixedOrders) ops (w.tape w.drawn (.order b.fn id))) a { w with drawn:=w.drawn + 1 }:=by
  simp only [Region.schedule,hm,Bool.true_or,if_true]
  exact wpAny_sound ops.size _ _ a _ h
 obtain ⟨a',w',h1,h2⟩:=opsR (k:=k) (cs:=cs) (rest:=[]) hb _ a _ h'
 rw [List.append_nil] at h2
 exact ⟨a',w',h1,.head stepR_region_draw (Steps.trans h2 (.one stepR_region_end))⟩
theorem RunSnd.after {M:Mach} {fi:Fi} {id:Nat} {ops:Array Oper} {draw:Bool} {k:List Item} {env:Vars} {L:Heap} {Q:AV -> Heap -> Prop}
  (h:∀ (S:St) (a:Act),HeapOk S -> S.L = L -> VRel S env a.tmps -> fi.n <= a.tmps.size -> RegR (M.P ()) id ops draw (fun a' w' => ∃ (S':St) (env':Vars),S'.w = w' /\ HeapOk S' /\ Ext S S' /\ RunSnd M fi k env' S'.L Q /\ VRel S' env' a'.tmps /\ a'.tmps.size = a.tmps.size /\ a'.defers = a.defers) a S.w) :
  RunSnd M fi (.code (.region id ops draw) :: k) env L Q:=by
 intro S b a cs fn h1 h2 h3 h4 h5 h6 h7 h8
 have ht:b.roundOf = none \/ (noDefer ops = true /\ tameL k = true):=h4.imp (fun h => h) fun h => by simpa [tameL,tameI,tameC] using h
 obtain ⟨a',w',⟨S',env',rfl,k1,k2,k3,k4,k5,k6⟩,hs⟩:=h S a h5 h6 h7 h8 b k cs (ht.imp (fun h => h) And.left)
 obtain ⟨a2,todo',Ds,w2,β',v,L',hq,g1,g2,m1,m2,m3,m4,m5,m6⟩:=k3 S' b a' cs fn h1 h2 h3 (ht.imp (fun h => h) And.right) k1 rfl k4 (by rw [k5];exact h8)
 rw [k2.base,k2.acc] at m5 m6
 exact ⟨a2,todo',Ds,w2,β',v,L',hq,g1,g2,Steps.trans hs m1,by rw [m2,k6],⟨m3.1,fun D hD => ⟨Nat.le_trans k2.below.size (m3.2 D hD).1,(m3.2 D hD).2⟩⟩,fun w'' hn => by obtain ⟨cv,z1,z2⟩:=m4 w'' hn;rw [k2.base,k2.acc] at z2;exact ⟨cv,z1,z2⟩,m5,k2.trans m6⟩
theorem run_eq_nil {P:Unit -> Program} {d:Nat} {T e:TypeId} (hu:(P ()).underlying T = some (.slice e)) (a:Option Addr) (c:Nat) (w:World) :
  (Op.equalIn (d + 1) T (.slice a 0 c) (.slice none 0 0)).run (P ()) w = .ok a.isNone w /\ (Op.equalIn (d + 1) T (.slice none 0 0) (.slice a 0 c)).run (P ()) w = .ok a.isNone w:=by
 constructor <;> cases a <;> simp [Op.equalIn,run_underlying hu]
theorem nilTest_runs {P:Unit -> Program} {env:Env} {o:Oper} {d:Nat} (h:nilTest P env o = some d) {S:St} {ρ:Operand -> Value} (hρ:∀ x,Rel S (ev env [] x) (ρ x)) :
  o.guard = none /\ o.dst = some d /\ ∃ b,(execOp ρ o).run (P ()) S.w = .ok (.value (.bool b)) S.w:=by
 unfold nilTest at h
 split at h
 ·rename_i d' op T x y yT hg hd ho
  have hx:=hρ x
  have hy:=hρ y
  have emp:∀ {f:Bool} {es:Nat} {v:Value},Rel S (.vec f es []) v -> ∃ a c,v = .slice a 0 c:=by
   intro f es v hv
   have:=rel_vec hv
   cases this with
   | vecE f es a cap _ => exact ⟨a,cap,rfl⟩
   | vec f es xs b off cap => exact ⟨_,_,rfl⟩
  refine ⟨hg,?_⟩
  have eqn':∀ {e:TypeId},(P ()).underlying T = some (.slice e) -> ∀ (a:Option Addr) (c:Nat),(Op.equalIn Op.maxDepth T (.slice a 0 c) (.slice none 0 0)).run (P ()) S.w = .ok a.isNone S.w /\ (Op.equalIn Op.maxDepth T (.slice none 0 0) (.slice a 0 c)).run (P ()) S.w = .ok a.isNone S.w:=
   fun hu a c => run_eq_nil (d:=Op.maxDepth - 1) hu a c S.w
  split at h
  ·rename_i e f es hu hvx hvy
   have eqn:=eqn' hu
   simp only [Option.some.injEq] at h;subst h
   rw [hvx] at hx;rw [hvy] at hy
   obtain ⟨a,c,ex⟩:=emp hx
   exact ⟨hd,a.isNone,by simp [execOp,ho,ex,rel_vnil hy,eqGuard,binOp,Op.equal,(eqn a c).1]⟩
  ·rename_i e f es hu hvx hvy
   have eqn:=eqn' hu
   simp only [Option.some.injEq] at h;subst h
   rw [hvx] at hx;rw [hvy] at hy
   obtain ⟨a,c,ey⟩:=emp hy
   exact ⟨hd,a.isNone,by simp [execOp,ho,ey,rel_vnil hx,eqGuard,binOp,Op.equal,(eqn a c).2]⟩
  ·rename_i e f es hu hvx hvy
   have eqn:=eqn' hu
   simp only [Option.some.injEq] at h;subst h
   rw [hvx] at hx;rw [hvy] at hy
   obtain ⟨a,c,ex⟩:=emp hx
   exact ⟨hd,!a.isNone,by simp [execOp,ho,ex,rel_vnil hy,eqGuard,binOp,Op.equal,(eqn a c).1]⟩
  ·rename_i e f es hu hvx hvy
   have eqn:=eqn' hu
   simp only [Option.some.injEq] at h;subst h
   rw [hvx] at hx;rw [hvy] at hy
   obtain ⟨a,c,ey⟩:=emp hy
   exact ⟨hd,!a.isNone,by simp [execOp,ho,ey,rel_vnil hx,eqGuard,binOp,Op.equal,(eqn a c).2]⟩
  ·simp at h
 ·simp at h
theorem rel_in {S:St} {a:AV} {v:Value} (h:Rel S a v):∀ r ∈ rowsA a,r < S.L.length:=by
 have lt:∀ {r:Nat} {row:Row},S.L[r]? = some row -> r < S.L.length:=fun h => (List.getElem?_eq_some_iff.1 h).1
 have all:∀ {cs:List AV} {vs:List Value},cs.length = vs.length -> (∀ (i:Nat) c v,cs[i]? = some c -> vs[i]? = some v -> ∀ r ∈ rowsA c,r < S.L.length) -> ∀ r ∈ rowsL cs,r < S.L.length:=by
  intro cs
  induction cs with
  | nil => intro vs _ _ r hr;simp [rowsL] at hr
  | cons c cs ih =>
   intro vs hl h r hr
   cases vs with
   | nil => simp at hl
   | cons u vs =>
    simp only [rowsL,List.mem_append] at hr
    rcases hr with hr | hr
    ·exact h 0 c u rfl rfl r hr
    ·exact ih (vs:=vs) (by simpa using hl) (fun i c v hc hv => h (i + 1) c v (by simpa using hc) (by simpa using hv)) r hr
 induction h with
 | any v => intro r hr;simp [rowsA] at hr
 | data a v h =>
  intro r hr
  have h1:=rowsA_ren (fun _ => S.L.length) a
  have h2:=dren h (fun _ => S.L.length)
  have h3:=dren h (fun _ => S.L.length + 1)
  have h4:=rowsA_ren (fun _ => S.L.length + 1) a
  rw [h2] at h1
  rw [h3,h1] at h4
  cases hra:rowsA a with
  | nil => rw [hra] at hr;simp at hr
  | cons q l => rw [hra] at h4;simp at h4
 | agg cs vs hl _ ih => exact all hl ih
 | tup cs vs hl _ ih => exact all hl ih
 | func fn a b va vb ha hb _ _ ih1 ih2 =>
  intro r hr
  simp only [rowsA,List.mem_append] at hr
  rcases hr with hr | hr
  ·exact all ha ih1 r hr
  ·exact all hb ih2 r hr
 | mapr r0 row info v _ _ h1 => intro r hr;simp only [rowsA,List.mem_singleton] at hr;subst hr;exact lt h1
 | ptr r0 ver i j row info v _ h1 => intro r hr;simp only [rowsA,List.mem_singleton] at hr;subst hr;exact lt h1
 | row r0 ver row info v _ h1 => intro r hr;simp only [rowsA,List.mem_singleton] at hr;subst hr;exact lt h1
 | ref r0 ver lo len row info v _ h1 => intro r hr;simp only [rowsA,List.mem_singleton] at hr;subst hr;exact lt h1
theorem refs_in {S:St} (hS:HeapOk S):∀ row ∈ S.L,∀ r ∈ rowRefs row,r < S.L.length:=by
 intro row hm r hr
 obtain ⟨q,hq⟩:=List.getElem?_of_mem hm
 have hlt:q < S.β.length:=by rw [<- hS.len];exact (List.getElem?_eq_some_iff.1 hq).1
 obtain ⟨info,hi⟩:∃ info,S.β[q]? = some info:=⟨_,List.getElem?_eq_getElem hlt⟩
 unfold rowRefs at hr
 cases hc:row.clean with
 | true => rw [hc] at hr;simp at hr
 | false =>
  rw [hc] at hr
  simp only [cond_false] at hr
  obtain ⟨i,x,h1,h2⟩:=rowsL_at hr
  have hcell:∃ (k:Nat) (c:AV),x.cells[k]? = some c /\ r ∈ rowsA c:=by
   cases x with
   | agg cs => exact rowsL_at h2
   | _ => exact ⟨0,_,rfl,h2⟩
  obtain ⟨k,c,h3,h4⟩:=hcell
  cases hmp:info.mp with
  | false =>
   obtain ⟨cv,_,hcr⟩:=row_cells hS hq hi hmp h1 k c h3
   exact rel_in hcr r h4
  | true =>
   obtain ⟨es,b1,b2,b3,b4⟩:=hS.maps q row info hq hi hmp
   have hil:i < es.size:=by have:=(List.getElem?_eq_some_iff.1 h1).1;omega
   obtain ⟨_,kk,n,v,rfl,_,_,g5,_⟩:=b4 i es[i] x (Array.getElem?_eq_getElem hil) h1
   match k with
   | 0 => simp [AV.cells] at h3;subst h3;simp [rowsA] at h4
   | 1 => simp [AV.cells] at h3;subst h3;exact rel_in g5 r h4
   | k + 2 => simp [AV.cells] at h3
theorem get_renV (f:Nat -> Nat) (env:Vars) (t:Nat):(renV f env).get t = renA f (env.get t):=by
 induction env with
 | nil => rfl
 | cons e env ih =>
  obtain ⟨k,v⟩:=e
  simp only [renV,List.map_cons,Vars.get]
  cases k == t with
  | true => rfl
  | false => exact ih
theorem rows_get {env:Vars} {t r:Nat} (h:r ∈ rowsA (env.get t)):r ∈ rowsL (env.map (·.2)):=by
 induction env with
 | nil => simp [Vars.get,rowsA] at h
 | cons e env ih =>
  obtain ⟨k,v⟩:=e
  simp only [Vars.get] at h
  simp only [List.map_cons,rowsL,List.mem_append]
  cases hk:k == t with
  | true => rw [hk] at h;exact .inl h
  | false => rw [hk] at h;exact .inr (ih h)
theorem getRows_take (l:List Row):∀ n,n <= l.length -> getRows l (List.range n) = some (l.take n):=by
 intro n hn
 have gen:∀ (k m:Nat),k + m <= l.length -> getRows l (List.range' k m) = some ((l.drop k).take m):=by
  intro k m
  induction m generalizing k with
  | zero => intro _;rfl
  | succ m ih =>
   intro h
   have hk:k < l.length:=by omega
   simp only [List.range'_succ,getRows,List.getElem?_eq_getElem hk,ih (k + 1) (by omega)]
   rw [List.drop_eq_getElem_cons hk];rfl
 have:=gen 0 n (by omega)
 rw [List.range_eq_range'];simpa using this
theorem getRows_drop (l:List Row) (n:Nat) (hn:n <= l.length):getRows l (List.range' n (l.length - n)) = some (l.drop n):=by
 have gen:∀ (k m:Nat),k + m <= l.length -> getRows l (List.range' k m) = some ((l.drop k).take m):=by
  intro k m
  induction m generalizing k with
  | zero => intro _;rfl
  | succ m ih =>
   intro h
   have hk:k < l.length:=by omega
   simp only [List.range'_succ,getRows,List.getElem?_eq_getElem hk,ih (k + 1) (by omega)]
   rw [List.drop_eq_getElem_cons hk];rfl
 rw [gen n _ (by omega),List.take_of_length_le (by simp)]
theorem posOf_range':∀ (m k i:Nat),k <= i -> i < k + m -> posOf (List.range' k m) i = i - k
 | 0,k,i,h1,h2 => by omega
 | m + 1,k,i,h1,h2 => by
  simp only [List.range'_succ,posOf]
  by_cases he:k = i
  ·subst he;simp
  ·have:(k == i) = false:=by simpa using he
   rw [this,posOf_range' m (k + 1) i (by omega) (by omega)]
   simp only [cond_false];omega
theorem DRel.recell {S S':St} (hL:S'.L = S.L) (hβ:S'.β = S.β) (ha:S'.acc = S.acc) (hc:∀ b off,S'.w.cell? ⟨b,off,none⟩ = S.w.cell? ⟨b,off,none⟩) {a:AV} {v:Value} (h:DRel S a v):DRel S' a v:=by
 have hi:∀ b off,Imm S b off -> Imm S' b off:=fun b off ⟨h1,h2⟩ => ⟨by rw [ha];exact h1,fun r info hr hb => by rw [hβ] at hr;rw [hL];exact h2 r info hr hb⟩
 induction h with
 | bool b => exact .bool b
 | int k n => exact .int k n
 | str s => exact .str s
 | flt s => exact .flt s
 | nilp => exact .nilp
 | nilf => exact .nilf
 | nilm => exact .nilm
 | agg cs vs hl _ ih => exact .agg cs vs hl ih
 | tup cs vs hl _ ih => exact .tup cs vs hl ih
 | func fn a b va vb ha hb _ _ ih1 ih2 => exact .func fn a b va vb ha hb ih1 ih2
 | eptr es xs i j b off ho hk _ ih => exact .eptr es xs i j b off ho (fun i x k c hx hk' => by obtain ⟨⟨cv,q1⟩,q2⟩:=hk i x k c hx hk';exact ⟨⟨cv,by rw [hc];exact q1⟩,hi _ _ q2⟩) (fun i x k c cv hx hk' hcv => ih i x k c cv hx hk' (by rw [<- hc];exact hcv))
 | vnil => exact .vnil
 | vecE f es a cap hf => exact .vecE f es a cap hf
 | vec f es xs b off cap ho hf hl hk _ ih => exact .vec f es xs b off cap ho hf hl (fun i x k c hx hk' => by obtain ⟨⟨cv,q1⟩,q2⟩:=hk i x k c hx hk';exact ⟨⟨cv,by rw [hc];exact q1⟩,hi _ _ q2⟩) (fun i x k c cv hx hk' hcv => ih i x k c cv hx hk' (by rw [<- hc];exact hcv))
theorem Rel.recell {S S':St} (hL:S'.L = S.L) (hβ:S'.β = S.β) (ha:S'.acc = S.acc) (hc:∀ b off,S'.w.cell? ⟨b,off,none⟩ = S.w.cell? ⟨b,off,none⟩) {a:AV} {v:Value} (h:Rel S a v):Rel S' a v:=by
 induction h with
 | any v => exact .any v
 | data a v h => exact .data a v (h.recell hL hβ ha hc)
 | agg cs vs hl _ ih => exact .agg cs vs hl ih
 | tup cs vs hl _ ih => exact .tup cs vs hl ih
 | func fn a b va vb ha hb _ _ ih1 ih2 => exact .func fn a b va vb ha hb ih1 ih2
 | mapr r row info v h0 h3 h1 h2 => exact .mapr r row info v h0 h3 (hL ▸ h1) (hβ ▸ h2)
 | ptr r ver i j row info v h0 h1 h2 h3 h4 => exact .ptr r ver i j row info v h0 (hL ▸ h1) (hβ ▸ h2) h3 h4
 | row r ver row info v h0 h1 h2 h3 h4 => exact .row r ver row info v h0 (hL ▸ h1) (hβ ▸ h2) h3 h4
 | ref r ver lo len row info v h0 h1 h2 h3 h4 => exact .ref r ver lo len row info v h0 (hL ▸ h1) (hβ ▸ h2) h3 h4
theorem other_blk {S:St} (hS:HeapOk S) {D:Nat} {o:Obj} (ho:S.w.heap[D]? = some o) (hk:isOther o = true):∀ (r:Nat) info,S.β[r]? = some info -> info.blk ≠ D:=by
 intro r info hi e
 have hlt:r < S.L.length:=by rw [hS.len];exact (List.getElem?_eq_some_iff.1 hi).1
 obtain ⟨row,hr⟩:∃ row,S.L[r]? = some row:=⟨_,List.getElem?_eq_getElem hlt⟩
 cases hmp:info.mp with
 | true =>
  obtain ⟨es,h1,_⟩:=hS.maps r row info hr hi hmp
  rw [e,ho] at h1;simp only [Option.some.injEq] at h1;subst h1;simp [isOther] at hk
 | false =>
  obtain ⟨_,_,cs,T,h1,_⟩:=hS.cells r row info hr hi hmp
  rw [e,ho] at h1;simp only [Option.some.injEq] at h1;subst h1;simp [isOther] at hk
theorem Rel.at {base:Nat} {acc:Nat -> Nat -> Prop} {L:Heap} {β:List BI} {w w':World} (hc:∀ b off,w'.cell? ⟨b,off,none⟩ = w.cell? ⟨b,off,none⟩) {a:AV} {v:Value} (h:Rel ⟨base,acc,L,β,w⟩ a v):Rel ⟨base,acc,L,β,w'⟩ a v:=
 Rel.recell (S:=⟨base,acc,L,β,w⟩) (S':=⟨base,acc,L,β,w'⟩) rfl rfl rfl hc h
theorem cell_other {w:World} {D:Nat} {o:Obj} (ho:w.heap[D]? = some o) (hk:isOther o = true) (off:Nat):w.cell? ⟨D,off,none⟩ = none:=by
 unfold World.cell?
 simp only [ho]
 cases o <;> first | rfl | (simp [isOther] at hk;done)
theorem cell_put {w:World} {D:Nat} {o o':Obj} (ho:w.heap[D]? = some o) (hk:isOther o = true) (hk':isOther o' = true) (b off:Nat):(w.putObj D o').cell? ⟨b,off,none⟩ = w.cell? ⟨b,off,none⟩:=by
 by_cases e:b = D
 ·subst e
  rw [cell_other ho hk,cell_other (World.putObj_heap_same (w:=w) (o:=o') (Array.getElem?_eq_some_iff.1 ho).1) hk']
 ·exact cell_of_heap (World.putObj_heap_other e)
theorem put_heap {S:St} (hS:HeapOk S) {D:Nat} {o o':Obj} (ho:S.w.heap[D]? = some o) (hk:isOther o = true) (hk':isOther o' = true) :
  HeapOk ⟨S.base,S.acc,S.L,S.β,S.w.putObj D o'⟩ /\ ∀ a v,Rel S a v -> Rel ⟨S.base,S.acc,S.L,S.β,S.w.putObj D o'⟩ a v:=by
 have hne:=other_blk hS ho hk
 have hcell:=cell_put ho hk hk'
 have hh:∀ b,b ≠ D -> (S.w.putObj D o').heap[b]? = S.w.heap[b]?:=fun b h => World.putObj_heap_other h
 have hrel:∀ a v,Rel S a v -> Rel ⟨S.base,S.acc,S.L,S.β,S.w.putObj D o'⟩ a v:=fun a v h => Rel.recell (S:=S) (S':=⟨S.base,S.acc,S.L,S.β,S.w.putObj D o'⟩) rfl rfl rfl hcell h
 have hdrel:∀ a v,DRel S a v -> DRel ⟨S.base,S.acc,S.L,S.β,S.w.putObj D o'⟩ a v:=fun a v h => DRel.recell (S:=S) (S':=⟨S.base,S.acc,S.L,S.β,S.w.putObj D o'⟩) rfl rfl rfl hcell h
 refine ⟨⟨by simpa using hS.base,hS.len,fun r info h => by simpa using hS.blk r info h,hS.inj,fun r row info h1 h2 h3 => ?_,fun r row info h1 h2 h3 => ?_,hS.elems,fun r row info i x k c cv h1 h2 h3 h4 h5 => ?_,fun r row info i x k c cv h1 h2 h0 h3 h4 h5 => ?_,hS.acq,fun b off h => hS.anew b off (by simpa using h)⟩,hrel⟩
 ·obtain ⟨es,q1,q2,q3,q4⟩:=hS.maps r row info h1 h2 h3
  refine ⟨es,(hh _ (hne r info h2)).trans q1,q2,q3,fun i e x he hx => ?_⟩
  obtain ⟨z1,kk,n,v,z2,z3,z4,z5,z6⟩:=q4 i e x he hx
  exact ⟨z1,kk,n,v,z2,z3,z4,hrel _ _ z5,fun hc => hdrel _ _ (z6 hc)⟩
 ·obtain ⟨q1,q2,cs,T,q3,q4⟩:=hS.cells r row info h1 h2 h3
  exact ⟨q1,q2,cs,T,(hh _ (hne r info h2)).trans q3,q4⟩
 ·exact hrel _ _ (hS.rel r row info i x k c cv h1 h2 h3 h4 (by rw [<- hcell];exact h5))
 ·exact hdrel _ _ (hS.clean r row info i x k c cv h1 h2 h0 h3 h4 (by rw [<- hcell];exact h5))
theorem put_ext {S0 S:St} {D:Nat} {o o':Obj} (ho:S.w.heap[D]? = some o) (hk:isOther o = true) (hk':isOther o' = true) (hD:S0.base <= S0.w.heap.size) (hD0:S0.w.heap.size <= D) (he:Ext S0 S):Ext S0 ⟨S.base,S.acc,S.L,S.β,S.w.putObj D o'⟩:=by
 have hcell:=cell_put ho hk hk'
 have hh:∀ b,b ≠ D -> (S.w.putObj D o').heap[b]? = S.w.heap[b]?:=fun b h => World.putObj_heap_other h
 refine ⟨he.base,he.acc,fun b off hi hlt => ?_,he.rows,?_,he.fresh,fun b h1 h2 h3 => (hh b (by omega)).trans (he.other b h1 h2 h3)⟩
 ·obtain ⟨q1,q2⟩:=he.imm b off hi hlt
  exact ⟨q1,(hcell b off).trans q2⟩
 ·have hb:=he.below
  exact ⟨hb.os,hb.tape,hb.output,by simpa using hb.size,fun k hk => (hh k (by omega)).trans (hb.block k hk)⟩
theorem near_cell {w w':World} (h:Near w w'):∀ b off,w'.cell? ⟨b,off,none⟩ = w.cell? ⟨b,off,none⟩:=by
 induction h with
 | refl => exact fun _ _ => rfl
 | put o' _ h1 h2 h3 ih => exact fun b off => (cell_put h1 h2 h3 b off).trans (ih b off)
theorem near_ok {base:Nat} {acc:Nat -> Nat -> Prop} {L:Heap} {β:List BI} {w w':World} (hn:Near w w'):HeapOk ⟨base,acc,L,β,w⟩ -> HeapOk ⟨base,acc,L,β,w'⟩:=by
 induction hn with
 | refl => exact fun h => h
 | put o' _ h1 h2 h3 ih => exact fun h => (put_heap (ih h) h1 h2 h3).1
theorem narrow_sound {M:Mach} {fi:Fi} {k:List Item} {env env':Vars} {L Lc:Heap} {Q:AV -> Heap -> Prop} {rs:List Nat} (hn:narrowIn L rs env = some (env',Lc))
  (ih:RunSnd M fi k env' Lc fun v L1 => Q (renA (backAt L.length rs) v) (backAll L rs L1)):RunSnd M fi k env L Q:=by
 unfold narrowIn at hn
 split at hn
 ·rename_i rows hrows
  split at hn
  ·rename_i hc
   simp only [Option.some.injEq,Prod.mk.injEq] at hn
   obtain ⟨rfl,rfl⟩:=hn
   simp only [Bool.and_eq_true,List.all_eq_true,List.contains_iff_mem] at hc
   obtain ⟨hnd,ha,hcl⟩:=hc
   have hnd:=(noDup_iff rs).1 hnd
   intro S b a cs fn h1 h2 h3 h4 h5 h6 h7 h8
   subst h6
   obtain ⟨hSc,_,hrelc⟩:=sub_ok h5 hrows hnd hcl
   obtain ⟨gl,_⟩:=getRows_spec hrows
   have hV:VRel ⟨S.base,accOf S rs,rows.map (renRow (posOf rs)),subβ S.β rs,S.w⟩ (renV (posOf rs) env) a.tmps:=by
    intro t
    rw [get_renV]
    exact hrelc _ _ (h7 t) fun r hr => ha r (rows_get hr)
   obtain ⟨a',todo',Ds,w',β',v,L1,hq,g1,g2,k1,k2,k3,k3',k4,k5⟩:=ih _ b a cs fn h1 h2 h3 h4 hSc rfl hV h8
   have hle:rs.length <= L1.length:=by
    by_cases hz:rs.length = 0
    ·omega
    ·have hlt:rs.length - 1 < (rows.map (renRow (posOf rs))).length:=by simp;omega
     have hβ:rs.length - 1 < (subβ S.β rs).length:=by simp [subβ];omega
     obtain ⟨row',info',q1,_⟩:=k5.rows (rs.length - 1) _ _ (List.getElem?_eq_getElem hlt) (List.getElem?_eq_getElem hβ)
     have:=(List.getElem?_eq_some_iff.1 q1).1
     simp only at this;omega
   let ns:=List.range' rs.length (L1.length - rs.length)
   have hmem:∀ i,i ∈ ns ↔ rs.length <= i /\ i < L1.length:=by
    intro i;simp only [ns,List.mem_range'_1];omega
   have hrefs:=refs_in k4
   obtain ⟨m1,m2,m3⟩:=back_ok (S1:=⟨S.base,accOf S rs,L1,β',w'⟩) (ns:=ns) (old:=L1.take rs.length) (new:=L1.drop rs.length) h5 hrows hnd hcl k4 k5 List.nodup_range' (fun i hi => ((hmem i).1 hi).1)
    (getRows_take L1 _ hle) (getRows_drop L1 _ hle) (fun row hr r hrr => by
     have hm:row ∈ L1:=by
      rcases List.mem_append.1 hr with h | h
      ·exact List.mem_of_mem_take h
      ·exact List.mem_of_mem_drop h
     have:=hrefs row hm r hrr
     by_cases hlt:r < rs.length
     ·exact .inl hlt
     ·exact .inr ((hmem r).2 ⟨by omega,this⟩))
   have heq:∀ r,r < L1.length -> backOf S.L.length rs ns r = backAt S.L.length rs r:=by
    intro r hr
    unfold backOf backAt
    cases hb:Nat.blt r rs.length with
    | true => rfl
    | false =>
     have hge:rs.length <= r:=by
      rcases Nat.lt_or_ge r rs.length with h | h
      ·rw [Nat.blt_eq.mpr h] at hb;simp at hb
      ·exact h
     simp only [cond_false,ns]
     rw [posOf_range' _ _ _ hge (by omega)]
   have hrow:∀ row ∈ L1,renRow (backOf S.L.length rs ns) row = renRow (backAt S.L.length rs) row:=by
    intro row hm
    unfold renRow
    cases hcr:row.clean with
    | true => rfl
    | false =>
     simp only [cond_false]
     rw [renL_ext _ fun r hr => heq r (hrefs row hm r (by unfold rowRefs;rw [hcr];exact hr))]
   have hLL:backL S.L rs ns (L1.take rs.length) (L1.drop rs.length) = backAll S.L rs L1:=by
    unfold backL backAll
    rw [List.map_congr_left fun row hm => hrow row (List.mem_of_mem_take hm),List.map_congr_left fun row hm => hrow row (List.mem_of_mem_drop hm)]
   rw [hLL] at m1 m2 m3
   refine ⟨a',todo',Ds,w',_,_,_,hq,g1,g2,k1,k2,k3,fun w'' hne => ?_,m1,m2⟩
   obtain ⟨cv,z1,z2⟩:=k3' w'' hne
   have hcell:=near_cell hne
   have k6:Rel ⟨S.base,accOf S rs,L1,β',w'⟩ v cv:=Rel.at (fun b off => (hcell b off).symm) z2
   have hin:=rel_in k6
   have m3':=m3 v cv k6 fun r hr => by
    have:=hin r hr
    by_cases hlt:r < rs.length
    ·exact .inl hlt
    ·exact .inr ((hmem r).2 ⟨by omega,this⟩)
   rw [renA_ext v fun r hr => heq r (hin r hr)] at m3'
   exact ⟨cv,z1,Rel.at hcell m3'⟩
  ·simp at hn
 ·simp at hn
theorem posOf_range {n i:Nat} (h:i < n):posOf (List.range n) i = i:=by
 rw [List.range_eq_range',posOf_range' n 0 i (Nat.zero_le _) (by omega)];rfl
theorem renRow_self {f:Nat -> Nat} {row:Row} (h:∀ r ∈ rowRefs row,f r = r):renRow f row = row:=by
 unfold renRow
 cases hc:row.clean with
 | true => rfl
 | false =>
  simp only [cond_false]
  rw [renL_ext (g:=fun r => r) row.elems (fun r hr => h r (by unfold rowRefs;rw [hc];exact hr)),renL_id,<- hc]
theorem renA_self {f:Nat -> Nat} {a:AV} (h:∀ r ∈ rowsA a,f r = r):renA f a = a:=by
 rw [renA_ext (g:=fun r => r) a h,renA_id]
theorem put_all {α:Type} (l xs:List α) (h:xs.length = l.length):putAt l (List.range l.length) xs = xs:=by
 apply List.ext_getElem?
 intro i
 by_cases hi:i < l.length
 ·rw [putAt_at (List.range l.length) l xs List.nodup_range i i xs[i] (by simp [hi]) (List.getElem?_eq_getElem (by omega)) hi,List.getElem?_eq_getElem (by omega)]
 ·rw [List.getElem?_eq_none (by rw [putAt_len];omega),List.getElem?_eq_none (by omega)]
theorem keepV_rel {S:St} {env:Vars} {tm:Array Value} (h:VRel S env tm) (ks:List Nat):VRel S (keepV ks env) tm:=by
 intro t
 have key:∀ ks:List Nat,Vars.get (keepV ks env) t = env.get t \/ Vars.get (keepV ks env) t = .any:=by
  intro ks
  induction ks with
  | nil => exact .inr rfl
  | cons x ks ih =>
   show (bif x == t then env.get x else Vars.get (keepV ks env) t) = _ \/ (bif x == t then env.get x else Vars.get (keepV ks env) t) = _
   cases hx:x == t with
   | true =>
    have:x = t:=by simpa using hx
    subst this;exact .inl rfl
   | false => exact ih
 rcases key ks with e | e
 ·rw [e];exact h t
 ·rw [e];exact .any _
theorem drop_sound {M:Mach} {f:FuncId} {args:List AV} {L:Heap} {v:AV} {K:Heap} (hk:keepOk L.length v K = true) (ih:OwnQ M f args L (KeepQ v K)):OwnQ M f args L (isR v K):=by
 unfold keepOk at hk
 simp only [Bool.and_eq_true,List.all_eq_true,Nat.blt_eq,Nat.beq_eq] at hk
 obtain ⟨hKl,hv,hK⟩:=hk
 intro S cargs h1 h2 h3
 subst h2
 have hrows:=getRows_all S.L
 have hnd:(List.range S.L.length).Nodup:=List.nodup_range
 have hin:=refs_in h1
 have hcl:∀ row ∈ S.L,∀ r ∈ rowRefs row,r ∈ List.range S.L.length:=fun row hr r hrr => by simpa using hin row hr r hrr
 obtain ⟨hSc,_,hrelc⟩:=sub_ok h1 hrows hnd hcl
 have hself:S.L.map (renRow (posOf (List.range S.L.length))) = S.L:=by
  have:S.L.map (renRow (posOf (List.range S.L.length))) = S.L.map id:=List.map_congr_left fun row hr => by
   rw [renRow_self fun r hrr => posOf_range (hin row hr r hrr)];rfl
  rw [this,List.map_id]
 have hrel':RelL ⟨S.base,accOf S (List.range S.L.length),S.L.map (renRow (posOf (List.range S.L.length))),subβ S.β (List.range S.L.length),S.w⟩ args cargs:=by
  refine ⟨h3.1,fun i c cv hc hcv => ?_⟩
  have hri:=rel_in (h3.2 i c cv hc hcv)
  have:=hrelc c cv (h3.2 i c cv hc hcv) fun r hr => by simpa using hri r hr
  rwa [renA_self fun r hr => posOf_range (hri r hr)] at this
 obtain ⟨m1,m2⟩:=ih _ cargs hSc hself hrel'
 refine ⟨m1,Calls.mono m2 fun e w' he => ?_⟩
 cases e with
 | panicked c => exact he.elim
 | outgrown => exact he.elim
 | returned cv =>
  obtain ⟨v',L1,β1,⟨rfl,hq⟩,n1,n2,n3⟩:=he
  rw [hKl] at hq
  have hlen:(List.range S.L.length).length = S.L.length:=List.length_range
  have hle:S.L.length <= L1.length:=by
   have:=congrArg List.length hq
   rw [List.length_take,hKl] at this
   omega
  have ho:getRows L1 (List.range (List.range S.L.length).length) = some K:=by
   rw [hlen,<- hq]
   have:=getRows_take L1 S.L.length hle
   rw [hq] at this ⊢
   exact this
  obtain ⟨k1,k2,k3⟩:=back_ok (S1:=⟨S.base,accOf S (List.range S.L.length),L1,β1,w'⟩) (ns:=[]) (new:=[]) h1 hrows hnd hcl n1 n2 List.nodup_nil (by simp) ho rfl
   (fun row hr r hrr => .inl (by rw [hlen];exact hK row (by simpa using hr) r hrr))
  have hb:∀ r,r < S.L.length -> backOf S.L.length (List.range S.L.length) [] r = r:=by
   intro r hr
   rw [back_lt (by rw [hlen];exact hr)];simp
  have hKK:backL S.L (List.range S.L.length) [] K [] = K:=by
   unfold backL
   rw [List.map_nil,List.append_nil]
   have:K.map (renRow (backOf S.L.length (List.range S.L.length) [])) = K.map id:=List.map_congr_left fun row hr => by
    rw [renRow_self fun r hrr => hb r (hK row hr r hrr)];rfl
   rw [this,List.map_id,put_all _ _ hKl]
  have k3':=k3 v' cv n3 fun r hr => .inl (by rw [hlen];exact hv r hr)
  rw [renA_self fun r hr => hb r (hv r hr)] at k3'
  rw [hKK] at k1 k2 k3'
  exact ⟨v',K,_,⟨rfl,rfl⟩,k1,k2,k3'⟩
theorem text_app {M:Mach} {call:Answer} {n:Nat} {ops:Array Oper} {ans:Nat -> Option Ans} {hot:Nat -> Nat} {Q:Exit -> Act -> World -> Prop} (l2:List Nat):∀ (l:List Nat) {s sf:RS} {S:St} {a:Act},runOps M.P M.inl call n ops ans hot l s = some sf ->
  (∀ b ∈ sf.asm,b = true) -> (∀ q ∈ sf.eqs,q) -> (∀ c ∈ sf.calls,c.cond = true -> CFSnd M c) ->
  HeapOk S -> S.L = s.L -> TRel S s.env a.tmps -> n <= a.tmps.size ->
  (∀ S' a',HeapOk S' -> Ext S S' -> S'.L = sf.L -> TRel S' sf.env a'.tmps -> a'.tmps.size = a.tmps.size -> a'.defers = a.defers -> wpOps (M.P ()) ops Q l2 a' S'.w) ->
  wpOps (M.P ()) ops Q (l ++ l2) a S.w
 | [],s,sf,S,a,h,_,_,_,hS,hL,hT,_,hK => by
  simp only [runOps,Option.some.injEq] at h;subst h
  exact hK S a hS (Ext.refl S) hL hT rfl rfl
 | i :: rest,s,sf,S,a,h,hA,hQ,hC,hS,hL,hT,hn,hK => by
  rw [List.cons_append,wpOps_cons]
  simp only [runOps] at h
  cases ho:ops[i]? with
  | none =>
   rw [ho] at h
   unfold wpOp
   simp only [ho]
   exact text_app l2 rest h hA hQ hC hS hL hT hn hK
  | some o =>
   rw [ho] at h
   simp only at h
   cases h1:runOp M.P M.inl call n ops (ans i) (hot i) o s with
   | none => rw [h1] at h;simp at h
   | some s1 =>
    rw [h1] at h
    simp only at h
    obtain ⟨env,L,x,y,z,rfl,_⟩:=runOps_adds _ h
    refine op_sound hS hL hT hn ho h1 (fun b hb => hA b (by simp [hb])) (fun b hb => hQ b (by simp [hb])) (fun b hb => hC b (by simp [hb])) fun S' a' k1 k2 k3 k4 k5 k6 => ?_
    exact text_app l2 rest h hA hQ hC k1 k3 k4 (by rw [k5];exact hn) fun S'' a'' m1 m2 m3 m4 m5 m6 => hK S'' a'' m1 (k2.trans m2) m3 m4 (m5.trans k5) (m6.trans k6)
theorem range_split {n i:Nat} (h:i < n):List.range n = List.range i ++ i :: (List.range n).drop (i + 1):=by
 have h1:List.range i = (List.range n).take i:=by rw [List.take_range,Nat.min_eq_left (by omega)]
 have h2:(List.range n).drop i = i :: (List.range n).drop (i + 1):=by
  have h3:i < (List.range n).length:=by simpa using h
  rw [List.drop_eq_getElem_cons h3];simp
 rw [h1,<- h2,List.take_append_drop]
theorem nil_sound {M:Mach} {fi:Fi} {id i:Nat} {ops:Array Oper} {k:List Item} {env:Vars} {L:Heap} {Q:AV -> Heap -> Prop} {keep:List Nat} {s:Bool -> RS}
  (hr:∀ b,nilRun M.P M.inl fi.n ops i env L b = some (s b)) (hA:∀ b,(∀ x ∈ (s b).asm,x = true) /\ (s b).eqs = [] /\ (s b).calls = [])
  (ih:∀ b,RunSnd M fi k (forget keep (s b).env) (s b).L Q):RunSnd M fi (.code (.region id ops false) :: k) env L Q:=by
 refine RunSnd.after fun S a h5 h6 h7 h8 => ?_
 refine regR_text ?_
 show wpOps (M.P ()) ops _ _ a S.w
 ·have h0:=hr true
  unfold nilRun at h0
  cases ho:ops[i]? with
  | none => simp [ho] at h0
  | some o =>
  cases hs1:runOps M.P M.inl (fun _ _ _ => none) fi.n ops (fun _ => none) (fun _ => 2) (List.range i) ⟨lift env,L,[],[],[]⟩ with
  | none => simp [hs1] at h0
  | some s1 =>
  simp only [ho,hs1] at h0
  cases hd:nilTest M.P s1.env o with
  | none => simp [hd] at h0
  | some d =>
  have hb:∀ t,∃ env1,putE fi.n (some d) [] (.bool t) s1.env = some env1 /\ runOps M.P M.inl (fun _ _ _ => none) fi.n ops (fun _ => none) (fun _ => 2) ((List.range ops.size).drop (i + 1)) ⟨env1,s1.L,s1.asm,s1.eqs,s1.calls⟩ = some (s t):=by
   intro t
   have ht:=hr t
   unfold nilRun at ht
   simp only [ho,hs1,hd] at ht
   split at ht
   ·rename_i env1 he;exact ⟨env1,he,ht⟩
   ·simp at ht
  have hin:(∀ x ∈ s1.asm,x = true) /\ s1.eqs = [] /\ s1.calls = []:=by
   obtain ⟨env1,_,ht⟩:=hb true
   obtain ⟨e2,L2,x,y,z,he,_⟩:=runOps_adds _ ht
   have:=hA true
   rw [he] at this
   simp only [List.append_eq_nil_iff] at this
   exact ⟨fun w hw => this.1 w (by simp [hw]),this.2.1.1,this.2.2.1⟩
  have hlt:i < ops.size:=(Array.getElem?_eq_some_iff.1 ho).1
  rw [range_split hlt]
  refine text_app _ (List.range i) hs1 hin.1 (by rw [hin.2.1];simp) (by rw [hin.2.2];simp) h5 h6 (lift_rel h7) h8 fun S' a' k1 k2 k3 k4 k5 k6 => ?_
  rw [wpOps_cons]
  have hρ:∀ x,Rel S' (ev s1.env [] x) (a'.eval x):=ev_rel k4 (by intro x hx;simp at hx)
  obtain ⟨n1,n2,t,n3⟩:=nilTest_runs hd (S:=S') hρ
  obtain ⟨env1,he,ht⟩:=hb t
  have hc:chainOf ops s1.env o = some (some []):=by unfold chainOf;rw [n1]
  obtain ⟨hco,hw⟩:=chainOf_yes k4 hc
  unfold wpOp
  simp only [ho]
  rw [hw]
  simp only [chainVal,if_true]
  left
  unfold Oper.wp
  rw [n3,Oper.upon_value,n2]
  have hput:=put_rel (cv:=.bool t) k4 (by rw [k5];exact h8) hco he (fun _ => .data _ _ (.bool t)) (fun h => by simp [chainVal] at h)
  obtain ⟨p1,p2,p3⟩:=hA t
  refine text_sound _ ht p1 (by rw [p2];simp) (by rw [p3];simp) k1 k3 hput (by rw [size_put,k5];exact h8) fun S'' a'' m1 m2 m3 m4 m5 m6 => ?_
  exact ⟨S'',forget keep (s t).env,rfl,m1,k2.trans m2,m3.symm ▸ ih t,forget_rel m4 keep,by rw [m5,size_put,k5],by rw [m6];simpa [Act.put] using k6⟩
theorem both_sound {M:Mach} (hm:(M.P ()).follows .mixedOrders = true) {fi:Fi} {id:Nat} {ops:Array Oper} {env:Vars} {L:Heap} {call:Answer} {ans:Nat -> Option Ans} {hot:Bool -> Nat -> Nat} {keep rs:List Nat} {p:Nat} {e1:Vars} {L1:Heap} {asl:List Bool} {qs:List Prop} {cl:List CF}
  (hd:∀ t,drawOk2 (hot t) ops p = true) (hr:∀ t,bothRun M.P M.inl call fi.n ops ans (hot t) keep rs p env L t = some (e1,L1,asl,qs,cl)) (hA:∀ b ∈ asl,b = true) (hQ:∀ q ∈ qs,q) (hC:∀ c ∈ cl,c.cond = true -> CFSnd M c)
  {S:St} {a:Act} (h5:HeapOk S) (h6:S.L = L) (h7:VRel S env a.tmps) (h8:fi.n <= a.tmps.size) :
  RegR (M.P ()) id ops true (fun a' w' => ∃ S':St,S'.w = w' /\ HeapOk S' /\ Ext S S' /\ S'.L = L1 /\ VRel S' e1 a'.tmps /\ a'.tmps.size = a.tmps.size /\ a'.defers = a.defers) a S.w:=by
 refine regR_any hm ?_
 obtain ⟨n1,n2⟩:=more_heap h5 (w':={ S.w with drawn:=S.w.drawn + 1 }) ⟨rfl,rfl,rfl,Nat.le_refl _,fun _ _ => rfl⟩ (fun _ _ => rfl)
 have hf:=hr false
 have ht:=hr true
 unfold bothRun at hf ht
 simp only at hf ht
 have hp1:p + 1 < ops.size:=by
  have hd:=hd false
  unfold drawOk2 at hd
  simp only [Bool.and_eq_true] at hd
  have:=hd.2.1
  cases h:ops[p + 1]? with
  | none => rw [h] at this;simp at this
  | some o => exact (Array.getElem?_eq_some_iff.1 h).1
 split at hf
 ·rename_i s1 hs1
  simp only [Option.some.injEq,Prod.mk.injEq] at hf
  obtain ⟨f1,f2,f3,f4,f5⟩:=hf
  split at ht
  ·rename_i s2 hs2
   split at ht
   ·rename_i e2 K hn hall
    simp only [Option.some.injEq,Prod.mk.injEq] at ht
    obtain ⟨g1,g2,g3,g4,g5⟩:=ht
    subst g1 g2
    have hclosed:∀ (j:Nat) (o:Oper),ops[j]? = some o -> (Array.replicate ops.size false).getD j false = true -> ∀ e ∈ o.after,Region.binds .any e = true -> (Array.replicate ops.size false).getD e.on false = true:=by
     intro j o _ hj
     by_cases hlt:j < ops.size <;> simp [hlt] at hj
    refine draw_two (hd false) (hd true) ops.size (Array.replicate ops.size false) (List.range ops.size) ((List.range ops.size).map (sw p)) (S:=⟨S.base,S.acc,S.L,S.β,{ S.w with drawn:=S.w.drawn + 1 }⟩)
     ⟨by simp,List.pairwise_lt_range,fun i => ?_,hclosed,hs1⟩ ⟨by simp,?_,fun i => ?_,hclosed,hs2⟩ (by simp) (by simp)
     (by rw [f3];exact hA) (by rw [f4];exact hQ) (by rw [f5];exact hC) (by rw [g3];exact hA) (by rw [g4];exact hQ) (by rw [g5];exact hC) n1 h6 ((lift_rel h7).mono n2) h8
     (fun S' a' k1 k2 k3 k4 k5 k6 => ⟨S',rfl,k1,n2.trans k2,k3.trans f2,f1 ▸ forget_rel k4 keep,k5,k6⟩)
     (fun S' a' k1 k2 k3 k4 k5 k6 => ?_)
    ·simp only [List.mem_range]
     constructor
     ·intro h;exact ⟨h,by simp [h]⟩
     ·intro h;exact h.1
    ·rw [List.pairwise_map]
     exact List.pairwise_lt_range.imp fun h => by rw [sw_sw,sw_sw];exact h
    ·simp only [List.mem_map,List.mem_range]
     constructor
     ·rintro ⟨j,h,rfl⟩
      have:=(sw_lt (i:=j) hp1).2 h
      exact ⟨this,by simp [this]⟩
     ·intro h;exact ⟨sw p i,(sw_lt hp1).2 h.1,sw_sw p i⟩
    ·unfold narrowIn at hn
     split at hn
     ·rename_i rows hrows
      split at hn
      ·rename_i hc
       simp only [Option.some.injEq,Prod.mk.injEq] at hn
       obtain ⟨rfl,rfl⟩:=hn
       simp only [Bool.and_eq_true,List.all_eq_true,List.contains_iff_mem] at hc
       obtain ⟨hnd,ha,hcl⟩:=hc
       have hnd:=(noDup_iff rs).1 hnd
       simp only [Bool.and_eq_true,List.all_eq_true,List.mem_range] at hall
       rw [<- k3] at hrows
       obtain ⟨p1,p2,p3⟩:=perm_ok k1 n1 k2 hrows hnd hcl (fun r hr => by
        have:=hall.2 r (by rw [<- h6];exact hr)
        cases h:rs[r]? with
        | none => rw [h] at this;simp at this
        | some q => rw [h] at this;simp only [Nat.beq_eq] at this;rw [this])
       refine ⟨⟨S'.base,S'.acc,rows.map (renRow (posOf rs)),subβ S'.β rs,S'.w⟩,rfl,p1,n2.trans p2,rfl,fun t => ?_,k5,k6⟩
       rw [get_renV]
       exact p3 _ _ (forget_rel k4 keep t) fun r hr => ha r (rows_get hr)
      ·simp at hn
     ·simp at hn
   ·simp at ht
  ·simp at ht
 ·simp at hf
theorem marks_out {P:Program} {S0:St}:∀ (Ds:List Nat) {S:St} {fr:Frame} {cs:List Frame},HeapOk S -> Ext S0 S -> S0.base <= S0.w.heap.size -> MarksOk S0.w.heap.size S.w Ds ->
  fr.mode = .returning -> fr.defers = Ds.map mkMark ->
  ∃ w',Steps P (lone fr cs S.w) (lone { fr with defers:=[] } cs w') /\ Near S.w w' /\ HeapOk ⟨S.base,S.acc,S.L,S.β,w'⟩ /\ Ext S0 ⟨S.base,S.acc,S.L,S.β,w'⟩
 | [],S,fr,cs,hS,he,_,_,h1,h2 => by
  have:({ fr with defers:=[] }:Frame) = fr:=by cases fr;simp at h2;subst h2;rfl
  rw [this]
  exact ⟨S.w,Steps.refl _ _,.refl _,hS,he⟩
 | D :: Ds,S,fr,cs,hS,he,hb,hm,h1,h2 => by
  obtain ⟨hnd,hD⟩:=hm
  obtain ⟨d1,d2⟩:=hD D (List.mem_cons_self ..)
  obtain ⟨p1,p3⟩:=put_heap (o':=.deferred none) hS d2 rfl rfl
  have p2:=put_ext (o':=.deferred none) d2 rfl rfl hb d1 he
  have hstep:=step_collected (P:=P) (fr:=fr) (cs:=cs) (w:=S.w) (d:=mkMark D) (r:=D) (ds:=Ds.map mkMark) (by rw [h1];simp) (by rw [h2];rfl) rfl (run_takeDeferred d2)
  obtain ⟨w',s1,s2,s3,s4⟩:=marks_out Ds (S:=⟨S.base,S.acc,S.L,S.β,S.w.putObj D (.deferred none)⟩) (fr:={ fr with defers:=[] ++ Ds.map mkMark }) (cs:=cs) p1 p2 hb
   ⟨(List.nodup_cons.1 hnd).2,fun D' h' => by
    obtain ⟨e1,e2⟩:=hD D' (List.mem_cons_of_mem _ h')
    have hne:D' ≠ D:=fun e => (List.nodup_cons.1 hnd).1 (e ▸ h')
    exact ⟨e1,(World.putObj_heap_other hne).trans e2⟩⟩ h1 rfl
  have near:∀ {w1 w2:World},Near w1 w2 -> ∀ {w0:World},Near w0 w1 -> Near w0 w2:=by
   intro w1 w2 h
   induction h with
   | refl => exact fun h => h
   | put o' _ q1 q2 q3 ih => exact fun h => .put o' (ih h) q1 q2 q3
  exact ⟨w',.head hstep s1,near s2 (.put _ (.refl _) d2 rfl rfl),s3,s4⟩
theorem own_of_run {M:Mach} {f:FuncId} {args:List AV} {L:Heap} {Q:AV -> Heap -> Prop} {fn:Func} {c:Code} (hf:(M.P ()).funcs[f]? = some fn) (hb:fn.body = some c) (hn:(fn.name == "runtime.NumGoroutine") = false)
  (ih:RunSnd M ⟨fn.ntmps,fn.results.toList⟩ [.code c] (argVars 0 args) L Q):OwnQ M f args L Q:=by
 intro S cargs hS hL hr
 refine ⟨call_runs hf hb hn,fun cs => ?_⟩
 let b:Frame:={ (default:Frame) with fn:=f,kind:=.normal,roundOf:=none }
 let a:Act:={ tmps:=⟨cargs⟩ ++ Array.replicate (fn.ntmps - (⟨cargs⟩:Array Value).size) undef,defers:=[] }
 have henter:Frame.enter (M.P ()) f ⟨cargs⟩ .normal = b.atR a [.code c]:=by
  simp [Frame.enter,Frame.atR,hf,hb,b,a]
 obtain ⟨a',todo',Ds,w',β',v,L',hq,g1,g2,k1,k2,k3,k4,k5,k6⟩:=ih S b a cs fn hf rfl rfl (.inl rfl) hS hL (enter_rel _ hr) (by simp [a];omega)
 have hout:step (M.P ()) (lone (b.atR a' todo') cs w') = .next (lone { b.atR a' todo' with mode:=.returning } cs w'):=by
  rcases g1 with rfl | ⟨k,rfl⟩
  ·exact stepR_end rfl
  ·exact stepR_ret rfl
 have hd:a'.defers = Ds.map mkMark:=by rw [k2];simp [a]
 obtain ⟨w2,s1,s2,s3,s4⟩:=marks_out (P:=M.P ()) (S0:=S) Ds (S:=⟨S.base,S.acc,L',β',w'⟩) (fr:={ b.atR a' todo' with mode:=.returning }) (cs:=cs) k5 k6 hS.base k3 rfl hd
 obtain ⟨cv,z1,z2⟩:=k4 w2 s2
 rw [<- henter] at k1
 exact ⟨.returned cv,w2,_,⟨v,L',β',hq,s3,s4,z2⟩,Steps.trans k1 (.head hout s1),rfl,rfl,rfl,rfl,fn,hf,z1⟩
theorem wp_sound {M:Mach} (hm:(M.P ()).follows .mixedOrders = true) {c:Conf} {Q:AV -> Heap -> Prop} (h:Wp M c Q):Means M c Q:=by
 induction h with
 | skip _ ih => exact RunSnd.step ih (fun h => by simpa [tameL,tameI,tameC] using h) fun b a cs S _ => stepR_skip
 | seq _ ih => exact RunSnd.step ih (fun h => by simp only [tameL,List.all_cons,tameI,tameC,Bool.and_eq_true] at h ⊢;exact ⟨h.1.1,h.1.2,h.2⟩) fun b a cs S _ => stepR_seq
 | @cond fi c x y k env L Q t ht _ ih =>
  refine RunSnd.step ih (fun h => ?_) fun b a cs S hV => ?_
  ·simp only [tameL,List.all_cons,tameI,tameC,Bool.and_eq_true] at h ⊢
   cases t with
   | true => exact ⟨h.1.1,h.2⟩
   | false => exact ⟨h.1.2,h.2⟩
  have:=vget_rel (a:=a) hV c
  rw [ht] at this
  have hc:=rel_bool this
  cases t with
  | true => exact stepR_cond (t:=true) hc
  | false => exact stepR_cond (t:=false) hc
 | block _ ih => exact RunSnd.step ih (fun h => by simpa [tameL,tameI,tameC] using h) fun b a cs S _ => stepR_block
 | inBlock _ ih => exact RunSnd.step ih (fun h => by simpa [tameL,tameI,tameC] using h) fun b a cs S _ => stepR_inBlock
 | loop _ ih => exact RunSnd.step ih (fun h => by simp only [tameL,List.all_cons,tameI,tameC,Bool.and_eq_true] at h ⊢;exact ⟨h.1,h.1,h.2⟩) fun b a cs S _ => stepR_loop
 | inLoop _ ih => exact RunSnd.step ih (fun h => by simp only [tameL,List.all_cons,tameI,tameC,Bool.and_eq_true] at h ⊢;exact ⟨h.1,h.1,h.2⟩) fun b a cs S _ => stepR_inLoop
 | exit he _ ih => exact RunSnd.step ih (fun h => tame_exit he (by simpa [tameL,tameI,tameC] using h)) fun b a cs S _ => stepR_exit he
 | @region fi id ops draw k env L Q0 call ans hot keep s hd hr hA hQ ho hp _ iho ihp ih =>
  have hC:∀ c ∈ s.calls,c.cond = true -> CFSnd M c:=by
   intro c hc hcc
   unfold CFSnd
   cases hown:c.own with
   | true => exact OwnQ.snd (iho c hc hcc hown)
   | false => exact PureR.snd (ihp c hc hcc hown)
  refine RunSnd.after fun S a h5 h6 h7 h8 => ?_
  cases draw with
  | false =>
   exact regR_text (text_sound _ hr hA hQ hC h5 h6 (lift_rel h7) h8 fun S' a' k1 k2 k3 k4 k5 k6 => ⟨S',_,rfl,k1,k2,k3.symm ▸ ih,forget_rel k4 keep,k5,k6⟩)
  | true =>
   refine regR_any hm ?_
   obtain ⟨n1,n2⟩:=more_heap h5 (w':={ S.w with drawn:=S.w.drawn + 1 }) ⟨rfl,rfl,rfl,Nat.le_refl _,fun _ _ => rfl⟩ (fun _ _ => rfl)
   refine draw_sound (hd rfl) ops.size (Array.replicate ops.size false) (List.range ops.size) (S:=⟨S.base,S.acc,S.L,S.β,{ S.w with drawn:=S.w.drawn + 1 }⟩) (by simp) List.pairwise_lt_range (fun i => ?_) (fun j o _ hj => ?_) (by simp) hr hA hQ hC n1 h6 ((lift_rel h7).mono n2) h8 fun S' a' k1 k2 k3 k4 k5 k6 => ⟨S',_,rfl,k1,n2.trans k2,k3.symm ▸ ih,forget_rel k4 keep,k5,k6⟩
   ·simp only [List.mem_range]
    constructor
    ·intro h;exact ⟨h,by simp [h]⟩
    ·intro h;exact h.1
   ·by_cases hlt:j < ops.size <;> simp [hlt] at hj
 | @both fi id ops k env L Q0 call ans hot keep rs p e1 L1 asl qs cl hd hr hA hQ ho hp _ iho ihp ih =>
  have hC:∀ c ∈ cl,c.cond = true -> CFSnd M c:=by
   intro c hc hcc
   unfold CFSnd
   cases hown:c.own with
   | true => exact OwnQ.snd (iho c hc hcc hown)
   | false => exact PureR.snd (ihp c hc hcc hown)
  refine RunSnd.after fun S a h5 h6 h7 h8 b k2 cs hb => ?_
  obtain ⟨a',w',⟨S',e0,n1,n2,n3,n4,n5,n6⟩,hs⟩:=both_sound hm hd hr hA hQ hC h5 h6 h7 h8 b k2 cs hb
  exact ⟨a',w',⟨S',e1,e0,n1,n2,n3.symm ▸ ih,n4,n5,n6⟩,hs⟩
 | @ret fi k env L v Q hf hq =>
  intro S b a cs fn h1 h2 h3 h4 h5 h6 h7 h8
  subst h6
  have hn:b.roundOf = none:=by
   rcases h4 with h | h
   ·exact h
   ·simp [tameL,tameI,tameC] at h
  exact ⟨a,_,[],S.w,S.β,v,_,hq,.inr ⟨k,rfl⟩,.inl hn,Steps.refl _ _,rfl,⟨.nil,by simp⟩,fun w'' hne => finish_sound (S:=⟨S.base,S.acc,S.L,S.β,w''⟩) (near_ok hne h5) (fun t => Rel.at (near_cell hne) (h7 t)) h2 hf,h5,Ext.refl S⟩
 | @done fi env L v Q hf hq =>
  intro S b a cs fn h1 h2 h3 h4 h5 h6 h7 h8
  subst h6
  exact ⟨a,_,[],S.w,S.β,v,_,hq,.inl rfl,.inr ⟨rfl,rfl⟩,Steps.refl _ _,rfl,⟨.nil,by simp⟩,fun w'' hne => finish_sound (S:=⟨S.base,S.acc,S.L,S.β,w''⟩) (near_ok hne h5) (fun t => Rel.at (near_cell hne) (h7 t)) h2 hf,h5,Ext.refl S⟩
 | @own f args L Q fn c hf hb hn _ ih => exact own_of_run hf hb hn ih
 | @pure f args Q _ ih =>
  intro base acc w cargs hb hac hr
  have hS:HeapOk ⟨base,acc,[],[],w⟩:=⟨hb,rfl,by simp,by simp,by simp,by simp,by simp,by simp,by simp,by simp,fun b off h => hac b off (Nat.le_trans hb h)⟩
  obtain ⟨k1,k2⟩:=ih ⟨base,acc,[],[],w⟩ cargs hS rfl hr
  refine ⟨k1,Calls.mono k2 fun e w' he => ?_⟩
  cases e with
  | returned cv =>
   obtain ⟨v,L',β',⟨d,d',hd,hv,hcl,hw,hq⟩,m1,m2,m3⟩:=he
   refine ⟨d',hq,m2.below,weak_rel hw (pure_rel (S:=⟨base,acc,L',β',w'⟩) (S':=⟨base,acc,[],[],w'⟩) m1 rfl (fun b off hi _ => ?_) v m3 hd hv fun r hr row info q1 q2 off _ _ => ?_)⟩
   ·exact ⟨hi.1,by simp⟩
   ·exact ⟨m1.acq r info off q2,by simp⟩
  | panicked c => exact he.elim
  | outgrown => exact he.elim
 | @narrow fi k env L Q rs env' Lc hn _ ih => exact narrow_sound hn ih
 | @drop f args L v K hk _ ih => exact drop_sound hk ih
 | @less fi k env L Q ks _ ih => exact fun S b a cs fn h1 h2 h3 h4 h5 h6 h7 h8 => ih S b a cs fn h1 h2 h3 h4 h5 h6 (keepV_rel h7 ks) h8
 | @nilq fi id ops k env L Q i keep s hr hA _ ih => exact nil_sound hr hA ih
 | sem h => exact h
 | @mono c Q Q' _ hq ih =>
  cases c with
  | run fi todo env L =>
   intro S b a cs fn h1 h2 h3 h4 h5 h6 h7 h8
   obtain ⟨a',todo',Ds,w',β',v,L',hqq,k⟩:=ih S b a cs fn h1 h2 h3 h4 h5 h6 h7 h8
   exact ⟨a',todo',Ds,w',β',v,L',hq v L' hqq,k⟩
  | own f args L =>
   intro S cargs h1 h2 h3
   obtain ⟨k1,k2⟩:=ih S cargs h1 h2 h3
   refine ⟨k1,Calls.mono k2 fun e w' he => ?_⟩
   cases e with
   | returned cv =>
    obtain ⟨v,L',β',hqq,m⟩:=he
    exact ⟨v,L',β',hq v L' hqq,m⟩
   | panicked c => exact he.elim
   | outgrown => exact he.elim
  | pure f args =>
   intro base acc w cargs h1 h2 h3
   obtain ⟨k1,k2⟩:=ih base acc w cargs h1 h2 h3
   refine ⟨k1,Calls.mono k2 fun e w' he => ?_⟩
   cases e with
   | returned cv =>
    obtain ⟨d,hqq,m⟩:=he
    exact ⟨d,hq d [] hqq,m⟩
   | panicked c => exact he.elim
   | outgrown => exact he.elim
 | @weak f args v d _ hw ih =>
  intro base acc w cargs hb hac hr
  obtain ⟨k1,k2⟩:=ih base acc w cargs hb hac hr
  refine ⟨k1,Calls.mono k2 fun e w' he => ?_⟩
  cases e with
  | returned cv =>
   obtain ⟨d0,⟨rfl,_⟩,m1,m2⟩:=he
   exact ⟨d,⟨rfl,rfl⟩,m1,weak_rel hw m2⟩
  | panicked c => exact he.elim
  | outgrown => exact he.elim
theorem ev_sound {M:Mach} (hm:(M.P ()).follows .mixedOrders = true) {f:FuncId} {args:List AV} {v:AV} (h:Ev M (.pure f args) v []):PureSnd M f args v:=
 PureR.snd (wp_sound hm h)
end Go.Av

namespace Go.Av
open Go.RowKit Go.WideShapes Go.ChangeShapes
def TyL (R:TypeId -> List AV -> Prop):List TypeId -> List AV -> Prop
 | [],cs => cs = []
 | t :: ts,cs => ∃ a b,cs = a ++ b /\ R t a /\ TyL R ts b
def aggT (P:Program) (t:TypeId):Bool:=
 match P.underlying t with
 | some (.struct _) | some (.array _ _) => true
 | _ => false
def packA (P:Program) (t:TypeId) (cs:List AV):AV:=if aggT P t = true then .agg cs else cs.headD .any
def Ty (P:Program):Nat -> TypeId -> List AV -> Prop
 | 0,_,_ => False
 | n + 1,t,cs =>
  match P.underlying t with
  | some .bool => ∃ b,cs = [.bool b]
  | some (.int k) => ∃ m,cs = [.int k m] /\ k.min <= m /\ m <= k.max
  | some .string => ∃ s,cs = [.str s] /\ s.length <= maxLen
  | some (.slice e) => ∃ xs,cs = [.vec false (P.cellsOf e) xs] /\ xs.length <= maxLen /\ ∀ x ∈ xs,∃ ys,Ty P n e ys /\ x = packA P e ys
  | some (.struct fs) => TyL (Ty P n) (fs.toList.map (·.type)) cs
  | some (.array m e) => TyL (Ty P n) (List.replicate m e) cs
  | _ => False
def laidFrom (P:Program):Nat -> List Field -> Nat -> Bool
 | off,[],n => off == n
 | off,f :: fs,n => f.offset == off && laidFrom P (off + P.cellsOf f.type) fs n
def served (P:Program):Nat -> TypeId -> Bool
 | 0,_ => false
 | n + 1,t =>
  match P.underlying t with
  | some .bool | some (.int _) | some .string => P.cellsOf t == 1
  | some (.slice e) => P.cellsOf t == 1 && served P n e && Nat.blt 0 (P.cellsOf e)
  | some (.struct fs) => (fs.toList.all fun f => served P n f.type) && laidFrom P 0 fs.toList (P.cellsOf t)
  | some (.array m e) => served P n e && P.cellsOf t == m * P.cellsOf e
  | _ => false
def S0 (w:World):St:=⟨w.heap.size,fun _ _ => True,[],[],w⟩
structure RelD (w:World) (axs:List AV) (cs:List Value):Prop where
 len:axs.length = cs.length
 plain:axs.all AV.plain = true
 rel:∀ (i:Nat) a c,axs[i]? = some a -> cs[i]? = some c -> DRel (S0 w) a c
theorem RelD.append {w:World} {axs bs:List AV} {cs ds:List Value} (h:RelD w axs cs) (k:RelD w bs ds):RelD w (axs ++ bs) (cs ++ ds):=by
 refine ⟨by simp [h.len,k.len],by simp [List.all_append,h.plain,k.plain],fun i a c ha hc => ?_⟩
 by_cases hi:i < axs.length
 ·rw [List.getElem?_append_left hi] at ha
  rw [List.getElem?_append_left (by rw [<- h.len];exact hi)] at hc
  exact h.rel i a c ha hc
 ·rw [List.getElem?_append_right (by omega)] at ha
  rw [List.getElem?_append_right (by have:=h.len;omega),<- h.len] at hc
  exact k.rel _ a c ha hc
theorem RelD.one {w:World} {a:AV} {c:Value} (hp:a.plain = true) (h:DRel (S0 w) a c):RelD w [a] [c]:=
 ⟨rfl,by simp [hp],fun i x y hx hy => by cases i with
  | zero => simp at hx hy;subst hx;subst hy;exact h
  | succ i => simp at hx⟩
theorem list_of {α:Type} {R:Nat -> α -> Prop}:∀ (n:Nat),(∀ i,i < n -> ∃ x,R i x) -> ∃ xs:List α,xs.length = n /\ ∀ (i:Nat) x,xs[i]? = some x -> R i x
 | 0,_ => ⟨[],rfl,by simp⟩
 | n + 1,h => by
  obtain ⟨xs,h1,h2⟩:=list_of n (fun i hi => h i (by omega))
  obtain ⟨x,hx⟩:=h n (by omega)
  refine ⟨xs ++ [x],by simp [h1],fun i y hy => ?_⟩
  by_cases hi:i < xs.length
  ·rw [List.getElem?_append_left hi] at hy;exact h2 i y hy
  ·rw [List.getElem?_append_right (by omega)] at hy
   have:i = n:=by
    have:=(List.getElem?_eq_some_iff.1 hy).1
    simp at this;omega
   subst this
   rw [h1] at hy
   simp at hy;subst hy;exact hx
section
variable {H:Type} {enc:TypeId × Value -> H} {P:Program} {w:World} {sp:Nat -> Bool} {held:Bool}
theorem read_parts {R:TypeId -> List AV -> Prop}:∀ (fs:List Field) (off:Nat) (cs:List Value),laidFrom P off fs cs.length = true ->
  (∀ f ∈ fs,∃ axs,R f.type axs /\ RelD w axs ((cs.drop f.offset).take (P.cellsOf f.type)) /\ ((cs.drop f.offset).take (P.cellsOf f.type)).length = P.cellsOf f.type) ->
  ∃ axs,TyL R (fs.map (·.type)) axs /\ RelD w axs (cs.drop off)
 | [],off,cs,hl,_ => by
  simp only [laidFrom,beq_iff_eq] at hl
  refine ⟨[],rfl,?_⟩
  rw [List.drop_eq_nil_of_le (by omega)]
  exact ⟨rfl,rfl,by simp⟩
 | f :: fs,off,cs,hl,h => by
  simp only [laidFrom,Bool.and_eq_true,beq_iff_eq] at hl
  obtain ⟨rfl,hl⟩:=hl
  obtain ⟨axs,h1,h2,h3⟩:=h f (List.mem_cons_self ..)
  obtain ⟨bs,k1,k2⟩:=read_parts fs _ cs hl (fun g hg => h g (List.mem_cons_of_mem _ hg))
  refine ⟨axs ++ bs,⟨axs,bs,rfl,h1,k1⟩,?_⟩
  have:=h2.append k2
  rwa [<- List.drop_drop,List.take_append_drop] at this
theorem read_same {R:TypeId -> List AV -> Prop} {e:TypeId} {z:Nat}:∀ (m:Nat) (cs:List Value),cs.length = m * z ->
  (∀ i,i < m -> ∃ axs,R e axs /\ RelD w axs ((cs.drop (i * z)).take z)) -> ∃ axs,TyL R (List.replicate m e) axs /\ RelD w axs cs
 | 0,cs,hl,_ => by
  have:cs = []:=List.length_eq_zero_iff.1 (by simpa using hl)
  subst this
  exact ⟨[],rfl,rfl,rfl,by simp⟩
 | m + 1,cs,hl,h => by
  obtain ⟨axs,h1,h2⟩:=h 0 (by omega)
  simp only [Nat.zero_mul,List.drop_zero] at h2
  obtain ⟨bs,k1,k2⟩:=read_same (R:=R) (e:=e) (z:=z) m (cs.drop z) (by simp [hl,Nat.add_mul]) fun i hi => by
   obtain ⟨axs,q1,q2⟩:=h (i + 1) (by omega)
   refine ⟨axs,q1,?_⟩
   rw [List.drop_drop]
   have:z + i * z = (i + 1) * z:=by rw [Nat.add_mul];omega
   rw [this];exact q2
  refine ⟨axs ++ bs,⟨axs,bs,rfl,h1,k1⟩,?_⟩
  have:=h2.append k2
  rwa [List.take_append_drop] at this
theorem read_cells:∀ (n:Nat) (t:TypeId) (cs:List Value) (x:DataW H × List MemPlace) (fuel:Nat),served P n t = true -> DataW.trod enc P w 0 sp held fuel t cs = some x ->
  ∃ axs,Ty P n t axs /\ RelD w axs cs /\ cs.length = P.cellsOf t
 | 0,t,cs,x,fuel,hs,_ => by simp [served] at hs
 | n + 1,t,cs,x,fuel,hs,hx => by
  unfold served at hs
  unfold Ty
  split at hs
  ·rename_i hu
   try simp only [hu]
   obtain ⟨b,rfl,_⟩:=DataW.trod_bool hu hx
   exact ⟨[.bool b],⟨b,rfl⟩,.one rfl (.bool b),by simp only [beq_iff_eq] at hs;exact hs.symm⟩
  ·rename_i k hu
   try simp only [hu]
   obtain ⟨m,rfl,_,hw⟩:=DataW.trod_int hu hx
   simp only [Lit.wf,Bool.and_eq_true,decide_eq_true_eq] at hw
   exact ⟨[.int k m],⟨m,rfl,hw.1,hw.2⟩,.one rfl (.int k m),by simp only [beq_iff_eq] at hs;exact hs.symm⟩
  ·rename_i hu
   try simp only [hu]
   obtain ⟨s,rfl,_,hw⟩:=DataW.trod_string hu hx
   obtain ⟨⟨l⟩⟩:=s
   exact ⟨[.str l],⟨l,rfl,hw⟩,.one rfl (.str l),by simp only [beq_iff_eq] at hs;exact hs.symm⟩
  ·rename_i e hu
   try simp only [hu]
   simp only [Bool.and_eq_true,beq_iff_eq,Nat.blt_eq] at hs
   obtain ⟨⟨hs1,hs2⟩,hs3⟩:=hs
   rcases DataW.trod_slice hu hx with ⟨rfl,_⟩ | ⟨a,len,cap,elems,rest,m,_,rfl,_,_,hlc,hcm,hel,hall,_,_⟩
   ·exact ⟨[.vec false (P.cellsOf e) []],⟨[],rfl,by simp,by simp⟩,.one rfl (.vecE _ _ _ _ (by simp)),hs1.symm⟩
   ·have hget:∀ i,i < len -> ∃ x:AV,∃ ys cs',Ty P n e ys /\ x = packA P e ys /\ RelD w ys cs' /\ cs'.length = P.cellsOf e /\ w.cells? 0 (a.add (i * P.cellsOf e)) (P.cellsOf e) = some cs':=by
     intro i hi
     have h1:=hall i hi
     rw [List.getElem?_eq_getElem (by omega)] at h1
     obtain ⟨cs',h2,h3⟩:=Option.bind_eq_some_iff.1 h1
     obtain ⟨ys,k1,k2,k3⟩:=read_cells n e cs' _ m hs2 h3
     exact ⟨_,ys,cs',k1,rfl,k2,k3,h2⟩
    obtain ⟨xs,hxl,hxs⟩:=list_of len hget
    have hpack:∀ {ys:List AV} {cs':List Value},Ty P n e ys -> RelD w ys cs' -> cs'.length = P.cellsOf e -> (packA P e ys).cells = ys:=by
     intro ys cs' hty hrd hl
     unfold packA
     split
     ·rfl
     ·rename_i hagg
      have h1:∃ y,ys = [y]:=by
       cases n with
       | zero => simp [served] at hs2
       | succ n =>
        unfold Ty at hty
        unfold aggT at hagg
        split at hty
        ·obtain ⟨b,rfl⟩:=hty;exact ⟨_,rfl⟩
        ·obtain ⟨b,rfl,_⟩:=hty;exact ⟨_,rfl⟩
        ·obtain ⟨b,rfl,_⟩:=hty;exact ⟨_,rfl⟩
        ·obtain ⟨b,rfl,_⟩:=hty;exact ⟨_,rfl⟩
        ·rename_i hu';simp [hu'] at hagg
        ·rename_i hu';simp [hu'] at hagg
        ·exact hty.elim
      obtain ⟨y,rfl⟩:=h1
      have:=hrd.plain
      simp only [List.all_cons,List.all_nil,Bool.and_true] at this
      simp only [List.headD_cons]
      cases y <;> first | rfl | simp [AV.plain] at this
    have hok:okElems (P.cellsOf e) xs:=by
     intro i x hix
     obtain ⟨ys,cs',k1,rfl,k3,k4,_⟩:=hxs i x hix
     rw [hpack k1 k3 k4]
     exact ⟨k3.len.trans k4,k3.plain⟩
    refine ⟨[.vec false (P.cellsOf e) xs],⟨xs,rfl,by omega,fun x hx => ?_⟩,.one rfl ?_,hs1.symm⟩
    ·obtain ⟨i,hi⟩:=List.getElem?_of_mem hx
     obtain ⟨ys,cs',k1,k2,_⟩:=hxs i x hi
     exact ⟨ys,k1,k2⟩
    ·subst hxl
     cases hxe:xs with
     | nil => exact .vecE _ _ _ _ (by simp)
     | cons x0 xs0 =>
      obtain ⟨b,off,spot⟩:=a
      have hlen0:0 < xs.length:=by rw [hxe];simp
      obtain ⟨ys0,cs0,_,_,_,z4,z5⟩:=hxs 0 xs[0] (List.getElem?_eq_getElem hlen0)
      obtain ⟨_,_,z6⟩:=World.cells?_some z5
      have z7:=z6 0 hs3
      rw [List.getElem?_eq_getElem (by omega)] at z7
      have hspot:spot = none:=by simpa [Addr.add] using World.cell?_spot z7
      subst hspot
      have hcell:∀ (i:Nat) x (k:Nat) c,xs[i]? = some x -> x.cells[k]? = some c -> ∃ cv,w.cell? ⟨b,off + i * P.cellsOf e + k,none⟩ = some cv /\ DRel (S0 w) c cv:=by
       intro i x k c hix hk
       obtain ⟨ys,cs',k1,rfl,k3,k4,k5⟩:=hxs i x hix
       rw [hpack k1 k3 k4] at hk
       obtain ⟨_,_,k6⟩:=World.cells?_some k5
       have hkl:k < ys.length:=(List.getElem?_eq_some_iff.1 hk).1
       have hkc:k < cs'.length:=by rw [<- k3.len];exact hkl
       have h1:=k6 k (by omega)
       rw [List.getElem?_eq_getElem hkc] at h1
       rw [addr_add,addr_add] at h1
       exact ⟨_,h1,k3.rel k c _ hk (List.getElem?_eq_getElem hkc)⟩
      rw [<- hxe]
      refine .vec false (P.cellsOf e) xs b off cap hok (by simp) hlc (fun i x k c hix hk => ?_) (fun i x k c cv hix hk hcv => ?_)
      ·obtain ⟨cv,h1,_⟩:=hcell i x k c hix hk
       exact ⟨⟨cv,h1⟩,⟨trivial,by simp [S0]⟩⟩
      ·obtain ⟨cv',h1,h2⟩:=hcell i x k c hix hk
       have:cv' = cv:=by
        have h3:w.cell? ⟨b,off + i * P.cellsOf e + k,none⟩ = some cv:=hcv
        rw [h1] at h3;exact Option.some.inj h3
       subst this;exact h2
  ·rename_i fs hu
   try simp only [hu]
   simp only [Bool.and_eq_true,List.all_eq_true] at hs
   obtain ⟨hs1,hs2⟩:=hs
   obtain ⟨xs,m,_,_,hl,hxl,hf⟩:=DataW.trod_struct hu hx
   obtain ⟨axs,k1,k2⟩:=read_parts (P:=P) (w:=w) (R:=Ty P n) fs.toList 0 cs (by rw [hl];exact hs2) fun f hfm => by
    obtain ⟨i,hi⟩:=List.getElem?_of_mem hfm
    have hi':fs[i]? = some f:=by simpa using hi
    have h1:=hf i f hi'
    have hilt:i < xs.length:=by rw [hxl];exact (Array.getElem?_eq_some_iff.1 hi').1
    rw [List.getElem?_eq_getElem hilt] at h1
    obtain ⟨axs,q1,q2,q3⟩:=read_cells n f.type _ _ m (hs1 f hfm) h1
    exact ⟨axs,q1,q2,q3⟩
   exact ⟨axs,k1,by simpa using k2,hl⟩
  ·rename_i m e hu
   try simp only [hu]
   simp only [Bool.and_eq_true,beq_iff_eq] at hs
   obtain ⟨hs1,hs2⟩:=hs
   obtain ⟨xs,q,_,_,hl,hxl,hf⟩:=DataW.trod_array hu hx
   obtain ⟨axs,k1,k2⟩:=read_same (w:=w) (R:=Ty P n) (e:=e) (z:=P.cellsOf e) m cs (by rw [hl,hs2]) fun i hi => by
    have h1:=hf i hi
    rw [List.getElem?_eq_getElem (by omega)] at h1
    obtain ⟨axs,q1,q2,_⟩:=read_cells n e _ _ q hs1 h1
    exact ⟨axs,q1,q2⟩
   exact ⟨axs,k1,k2,hl⟩
  ·simp at hs
theorem read_arg {n:Nat} {t:TypeId} {v:Value} {d:DataW H} {ps:List MemPlace} {r:Reach} {b0:Nat} (hs:served P n t = true) (hval:Value.okWide P w r b0 t v) (hd:DataW.Trod enc P w 0 sp held t v d ps) :
  ∃ axs,Ty P n t axs /\ DRel (S0 w) (packA P t axs) v:=by
 obtain ⟨fuel,hf⟩:=hd
 obtain ⟨axs,h1,h2,h3⟩:=read_cells n t _ _ fuel hs hf
 refine ⟨axs,h1,?_⟩
 unfold packA
 cases n with
 | zero => simp [served] at hs
 | succ n =>
  have one:v.cells = #[v] -> (∃ a,axs = [a]) -> DRel (S0 w) (axs.headD .any) v:=by
   rintro hc ⟨a,rfl⟩
   exact h2.rel 0 a v rfl (by rw [hc];rfl)
  unfold Ty at h1
  unfold aggT
  split at h1
  ·rename_i hu
   obtain ⟨b,rfl⟩:=h1
   obtain ⟨b',rfl⟩:=okWide_bool hu hval
   simp only [hu,Bool.false_eq_true,if_false]
   exact one rfl ⟨_,rfl⟩
  ·rename_i hu
   obtain ⟨b,rfl,_⟩:=h1
   obtain ⟨b',rfl⟩:=okWide_int hu hval
   simp only [hu,Bool.false_eq_true,if_false]
   exact one rfl ⟨_,rfl⟩
  ·rename_i hu
   obtain ⟨b,rfl,_⟩:=h1
   obtain ⟨b',rfl⟩:=okWide_string hu hval
   simp only [hu,Bool.false_eq_true,if_false]
   exact one rfl ⟨_,rfl⟩
  ·rename_i hu
   obtain ⟨b,rfl,_⟩:=h1
   obtain ⟨b1,b2,b3,rfl⟩:=okWide_slice hu hval
   simp only [hu,Bool.false_eq_true,if_false]
   exact one rfl ⟨_,rfl⟩
  ·rename_i fs hu
   obtain ⟨cs,rfl,_⟩:=okWide_struct hu hval
   simp only [hu,if_true]
   obtain ⟨cs⟩:=cs
   exact .agg axs cs h2.len h2.rel
  ·rename_i m e hu
   have:∃ cs,v = .agg cs:=by
    unfold Value.okWide at hval
    rw [hu] at hval
    obtain ⟨cs,rfl,_⟩:=hval
    exact ⟨cs,rfl⟩
   obtain ⟨⟨cs⟩,rfl⟩:=this
   simp only [hu,if_true]
   exact .agg axs cs h2.len h2.rel
  ·exact h1.elim
end
theorem ty_struct {P:Program} {n:Nat} {t:TypeId} {fs:Array Field} {cs:List AV} (hu:P.underlying t = some (.struct fs)) (h:Ty P (n + 1) t cs):TyL (Ty P n) (fs.toList.map (·.type)) cs:=by
 unfold Ty at h;rw [hu] at h;exact h
theorem ty_int {P:Program} {n:Nat} {t:TypeId} {k:IntKind} {cs:List AV} (hu:P.underlying t = some (.int k)) (h:Ty P (n + 1) t cs):∃ m,cs = [.int k m] /\ k.min <= m /\ m <= k.max:=by
 unfold Ty at h;rw [hu] at h;exact h
theorem list_form {τ:Type} {enc:τ -> AV}:∀ (xs:List AV),(∀ x ∈ xs,∃ a,x = enc a) -> ∃ X:List τ,xs = X.map enc
 | [],_ => ⟨[],rfl⟩
 | x :: xs,h => by
  obtain ⟨a,rfl⟩:=h x (List.mem_cons_self ..)
  obtain ⟨X,rfl⟩:=list_form xs fun y hy => h y (List.mem_cons_of_mem _ hy)
  exact ⟨a :: X,rfl⟩
theorem ty_list {P:Program} {τ:Type} {enc:τ -> AV} {n:Nat} {t e:TypeId} {cs:List AV} (hu:P.underlying t = some (.slice e)) (he:∀ ys,Ty P n e ys -> ∃ a,packA P e ys = enc a) (h:Ty P (n + 1) t cs) :
  ∃ X:List τ,cs = [.vec false (P.cellsOf e) (X.map enc)] /\ X.length <= maxLen:=by
 simp only [Ty,hu] at h
 obtain ⟨xs,rfl,hl,hx⟩:=h
 obtain ⟨X,rfl⟩:=list_form (enc:=enc) xs fun x hxm => by
  obtain ⟨ys,h1,rfl⟩:=hx x hxm
  obtain ⟨a,ha⟩:=he ys h1
  exact ⟨a,ha⟩
 exact ⟨X,rfl,by simpa using hl⟩
end Go.Av

namespace Go.Av
open Go.RowKit Go.WideShapes Go.ChangeShapes
section
variable {H:Type} {enc:TypeId × Value -> H} {P:Program}
theorem all_stays (hl:laidOutB P = true) {W W':World} {sp:Nat -> Bool} (hb:Below W.heap.size W W'):∀ (ts:List TypeId) (vs:List Value) (ds:List (DataW H)) (ps:List MemPlace),
  (∀ t ∈ ts,P.readableRec t = true /\ t < P.types.size) -> (∀ x ∈ ps,x.block < W.heap.size) -> (∀ x ∈ ps,sp x.block = true) -> DataW.TrodAll enc P W 0 (fun _ => true) true ts vs ds ps -> DataW.TrodAll enc P W' 0 sp true ts vs ds ps
 | [],vs,ds,ps,_,_,_,h => by
  obtain ⟨rfl,rfl,rfl⟩:=trodAll_nil h
  rfl
 | t :: ts,vs,ds,ps,ht,hlt,hsp,h => by
  obtain ⟨v,vs,d,ds,p,q,rfl,rfl,rfl,h1,h2⟩:=trodAll_cons h
  obtain ⟨r1,r2⟩:=ht t (List.mem_cons_self ..)
  exact ⟨p,q,WideElems.Trod_stays hl r1 r2 h1 (fun x hx => hb.same (hlt x (by simp [hx]))) (fun x hx => hsp x (by simp [hx])),
   all_stays hl hb ts vs ds q (fun t ht' => ht t (List.mem_cons_of_mem _ ht')) (fun x hx => hlt x (by simp [hx])) (fun x hx => hsp x (by simp [hx])) h2,rfl⟩
theorem args_read {W:World} {n base:Nat}:∀ (ts:List TypeId) (vs:List Value) (ds:List (DataW H)) (ps:List MemPlace),(∀ t ∈ ts,served P n t = true) ->
  (∀ (j:Nat) t v,ts[j]? = some t -> vs[j]? = some v -> Value.okWide P W .any base t v) -> DataW.TrodAll enc P W 0 (fun _ => true) true ts vs ds ps ->
  ∃ ass:List (List AV),ass.length = ts.length /\ (∀ (j:Nat) t bs,ts[j]? = some t -> ass[j]? = some bs -> Ty P n t bs) /\ RelL (S0 W) ((ts.zip ass).map fun x => packA P x.1 x.2) vs /\ ds.length = ts.length
 | [],vs,ds,ps,_,_,h => by
  obtain ⟨rfl,rfl,rfl⟩:=trodAll_nil h
  exact ⟨[],rfl,by simp,.nil _,rfl⟩
 | t :: ts,vs,ds,ps,hs,hv,h => by
  obtain ⟨v,vs,d,ds,p,q,rfl,rfl,rfl,h1,h2⟩:=trodAll_cons h
  obtain ⟨bs,k1,k2⟩:=read_arg (hs t (List.mem_cons_self ..)) (hv 0 t v rfl rfl) h1
  obtain ⟨ass,m1,m2,m3,m4⟩:=args_read ts vs ds q (fun t ht => hs t (List.mem_cons_of_mem _ ht)) (fun j t v hj hv' => hv (j + 1) t v (by simpa using hj) (by simpa using hv')) h2
  refine ⟨bs :: ass,by simp [m1],fun j t' bs' hj ha => ?_,.cons (.data _ _ k2) m3,by simp [m4]⟩
  cases j with
  | zero => simp at hj ha;subst hj;subst ha;exact k1
  | succ j => exact m2 j t' bs' (by simpa using hj) (by simpa using ha)
theorem law_post {M:Mach} (hP:M.P () = P) (hm:P.follows .mixedOrders = true) (hl:laidOutB P = true) {f:FuncId} {F:Func} {s:ChangeSpec} {n:Nat} {tb:TypeId} (hvars:s.vars = []) (hrt:F.resultTypes = #[tb]) (htb:P.underlying tb = some .bool)
  (hserved:∀ t ∈ F.params.toList,served P n t = true /\ P.readableRec t = true /\ t < P.types.size)
  (hs:∀ (ds:List (DataW H)),ds.length = F.params.toList.length -> s.fn H ds = { results:=[.lit (.bool true)],args:=ds })
  (hev:∀ ass:List (List AV),ass.length = F.params.toList.length -> (∀ (j:Nat) t bs,F.params.toList[j]? = some t -> ass[j]? = some bs -> Ty P n t bs) ->
   Ev M (.pure f ((F.params.toList.zip ass).map fun x => packA P x.1 x.2)) (.bool true) [])
  {apart handsOn:Bool} {W:World} {base:Nat} {args:Array Value} {ds gs:List (DataW H)} {before:List MemPlace}
  (hval:∀ (j:Nat) t v,F.params[j]? = some t -> args[j]? = some v -> Value.okWide P W .any base t v) (hW:DataW.Whole enc P F.params.toList s.vars apart W args.toList ds gs before) :
  Calls P f args W fun e W' => ∃ v,e = .returned v /\ s.post enc P F apart true handsOn false W args v W':=by
 have hW':=hW
 obtain ⟨p,q,hA,hV,rfl,hfz,hnd⟩:=hW
 rw [hvars] at hV
 obtain ⟨rfl,rfl⟩:=trodVars_none hV
 obtain ⟨ass,k1,k2,k3,k4⟩:=args_read F.params.toList args.toList ds p (fun t ht => (hserved t ht).1) (fun j t v hj hv => hval j t v (by simpa using hj) (by simpa using hv)) hA
 have hlt:∀ x ∈ p,x.block < W.heap.size:=fun x hx => by simpa using hW'.lt x (by simpa using hx)
 obtain ⟨_,h2⟩:=(ev_sound (M:=M) (by rw [hP];exact hm) (hev ass k1 k2):PureSnd M f _ _) W.heap.size (fun _ _ => True) W args.toList (Nat.le_refl _) (fun _ _ _ => trivial) k3
 rw [hP] at h2
 refine Calls.mono h2 fun e W' he => ?_
 cases e with
 | returned cv =>
  obtain ⟨hb,hd⟩:=he
  cases hd
  have hpl:∀ x ∈ p,decide (x.block < W.heap.size) = true:=fun x hx => by simpa using hlt x hx
  refine ⟨_,rfl,ds,[],p ++ [],[],p,[],hW',?_,?_,?_,hb.frame _,fun h => by simp at h⟩
  ·rw [List.append_nil,hs ds k4,hrt]
   exact trodAll_mk1 (shut_bool htb true)
  ·rw [List.append_nil,hs ds k4]
   exact all_stays hl hb _ _ _ _ (fun t ht => (hserved t ht).2) hlt hpl hA
  ·rw [List.append_nil,hs ds k4,hvars];rfl
 | panicked c => exact he.elim
 | outgrown => exact he.elim
end
end Go.Av

namespace Go.Av
def PureQ (d:AV):AV -> Heap -> Prop:=fun v L => ∃ d0,pureA L v = some d0 /\ allB (versA L v) /\ d0.clean = true /\ Weak d0 d
theorem pq_of {L:Heap} {v d dq:AV} {bs:List Bool} (h1:pureA L v = some d) (h2:versA L v = bs) (h3:allB bs) (h4:d.clean = true) (h:d = dq):PureQ dq v L:=⟨d,h1,by rw [h2];exact h3,h4,by rw [h];exact .refl _⟩
theorem pq_weak {L:Heap} {v d dq:AV} {bs:List Bool} (h1:pureA L v = some d) (h2:versA L v = bs) (h3:allB bs) (h4:d.clean = true) (h:Weak d dq):PureQ dq v L:=⟨d,h1,by rw [h2];exact h3,h4,h⟩
theorem pure_pq {M:Mach} {f:FuncId} {args:List AV} {d:AV} (fn:Func) (fi:Fi) (hf:(M.P ()).funcs[f]? = some fn) (hb:fn.body = some (cd fn)) (hn:(fn.name == "runtime.NumGoroutine") = false)
  (hi:(⟨fn.ntmps,fn.results.toList⟩:Fi) = fi) (h:Wp M (.run fi [.code (cd fn)] (argVars 0 args) []) (PureQ d)):Ev M (.pure f args) d []:=
 .pure (.mono (own_wp fn fi hf hb hn hi h) fun _ _ ⟨d0,h1,h2,h3,h4⟩ => ⟨d0,d,h1,(allB_iff _).1 h2,h3,h4,rfl,rfl⟩)
mutual
theorem clean_ren (f:Nat -> Nat):∀ (a:AV),a.clean = true -> renA f a = a
 | .any,h => by simp [AV.clean] at h
 | .bool _,_ => rfl
 | .int _ _,_ => rfl
 | .str _,_ => rfl
 | .flt _,_ => rfl
 | .nilp,_ => rfl
 | .nilf,_ => rfl
 | .nilm,_ => rfl
 | .mapr _,h => by simp [AV.clean] at h
 | .vnil,_ => rfl
 | .eptr ..,_ => rfl
 | .vec ..,_ => rfl
 | .ptr ..,h => by simp [AV.clean] at h
 | .row ..,h => by simp [AV.clean] at h
 | .ref ..,h => by simp [AV.clean] at h
 | .agg cs,h => by simp only [renA,cleanL_ren f cs (by simpa [AV.clean] using h)]
 | .tup cs,h => by simp only [renA,cleanL_ren f cs (by simpa [AV.clean] using h)]
 | .func fn a b,h => by
  simp only [AV.clean,Bool.and_eq_true] at h
  simp only [renA,cleanL_ren f a h.1,cleanL_ren f b h.2]
theorem cleanL_ren (f:Nat -> Nat):∀ (l:List AV),cleanL l = true -> renL f l = l
 | [],_ => rfl
 | c :: l,h => by
  simp only [cleanL,Bool.and_eq_true] at h
  simp only [renL,clean_ren f c h.1,cleanL_ren f l h.2]
end
mutual
theorem pureA_ren {L K:Heap} {f:Nat -> Nat} (hb:∀ (r:Nat) row,L[r]? = some row -> K[f r]? = some (renRow f row)):∀ (a:AV) {d:AV},pureA L a = some d -> pureA K (renA f a) = some d /\ versA K (renA f a) = versA L a
 | .any,_,h => by simp [pureA] at h
 | .bool b,_,h => ⟨h,rfl⟩
 | .int k n,_,h => ⟨h,rfl⟩
 | .str s,_,h => ⟨h,rfl⟩
 | .flt s,_,h => ⟨h,rfl⟩
 | .nilp,_,h => ⟨h,rfl⟩
 | .nilf,_,h => ⟨h,rfl⟩
 | .nilm,_,h => ⟨h,rfl⟩
 | .mapr _,_,h => by simp [pureA] at h
 | .vnil,_,h => ⟨h,rfl⟩
 | .eptr ..,_,h => ⟨h,rfl⟩
 | .vec ..,_,h => ⟨h,rfl⟩
 | .row r v,_,h => by
  cases hr:L[r]? with
  | none => simp [pureA,hr] at h
  | some row =>
   have h2:=hb r row hr
   obtain ⟨_,s2,_,_,_⟩:=renRow_spec f row
   simp only [pureA,hr] at h
   split at h
   ·rename_i hc
    have e:renRow f row = row:=by simp [renRow,hc]
    exact ⟨by simp only [renA,pureA,h2,e,hc,if_true];exact h,by simp only [renA,versA,verOk,h2,hr,s2]⟩
   ·simp at h
 | .ref r v lo len,_,h => by
  cases hr:L[r]? with
  | none => simp [pureA,hr] at h
  | some row =>
   have h2:=hb r row hr
   obtain ⟨_,s2,_,_,_⟩:=renRow_spec f row
   simp only [pureA,hr] at h
   split at h
   ·rename_i hc
    have e:renRow f row = row:=by simp [renRow,hc]
    exact ⟨by simp only [renA,pureA,h2,e,hc,if_true];exact h,by simp only [renA,versA,verOk,h2,hr,s2]⟩
   ·simp at h
 | .ptr r v i j,_,h => by
  cases hr:L[r]? with
  | none => simp [pureA,hr] at h
  | some row =>
   have h2:=hb r row hr
   obtain ⟨s1,s2,_,_,_⟩:=renRow_spec f row
   simp only [pureA,hr] at h
   split at h
   ·rename_i x hx
    split at h
    ·rename_i hcx
     have e:(renRow f row).elems = [x]:=by
      unfold renRow
      cases hc:row.clean with
      | true => simpa using hx
      | false => simp only [cond_false,hx,renL,clean_ren f x hcx]
     exact ⟨by simp only [renA,pureA,h2,e,hcx,s1,if_true];exact h,by simp only [renA,versA,verOk,h2,hr,s2]⟩
    ·simp at h
   ·simp at h
 | .agg cs,_,h => by
  cases hr:pureL L cs with
  | none => simp [pureA,hr] at h
  | some ds =>
   obtain ⟨h1,h2⟩:=pureL_ren hb cs hr
   exact ⟨by simpa only [renA,pureA,h1,hr] using h,by simp only [renA,versA,h2]⟩
 | .tup cs,_,h => by
  cases hr:pureL L cs with
  | none => simp [pureA,hr] at h
  | some ds =>
   obtain ⟨h1,h2⟩:=pureL_ren hb cs hr
   exact ⟨by simpa only [renA,pureA,h1,hr] using h,by simp only [renA,versA,h2]⟩
 | .func fn a b,_,h => by
  cases hr:pureL L a with
  | none => simp [pureA,hr] at h
  | some ds =>
   cases hr2:pureL L b with
   | none => simp [pureA,hr,hr2] at h
   | some ds2 =>
    obtain ⟨h1,h2⟩:=pureL_ren hb a hr
    obtain ⟨h3,h4⟩:=pureL_ren hb b hr2
    exact ⟨by simpa only [renA,pureA,h1,h3,hr,hr2] using h,by simp only [renA,versA,h2,h4]⟩
theorem pureL_ren {L K:Heap} {f:Nat -> Nat} (hb:∀ (r:Nat) row,L[r]? = some row -> K[f r]? = some (renRow f row)):∀ (l:List AV) {ds:List AV},pureL L l = some ds -> pureL K (renL f l) = some ds /\ versL K (renL f l) = versL L l
 | [],_,h => ⟨h,rfl⟩
 | c :: l,_,h => by
  cases hr:pureA L c with
  | none => simp [pureL,hr] at h
  | some d =>
   cases hr2:pureL L l with
   | none => simp [pureL,hr,hr2] at h
   | some ds2 =>
    obtain ⟨h1,h2⟩:=pureA_ren hb c hr
    obtain ⟨h3,h4⟩:=pureL_ren hb l hr2
    exact ⟨by simpa only [renL,pureL,h1,h3,hr,hr2] using h,by simp only [renL,versL,h2,h4]⟩
end
theorem back_at {L L1:Heap} {rs:List Nat} {rows:List Row} (hrows:getRows L rs = some rows) (hnd:rs.Nodup) (r:Nat) (row:Row) (h:L1[r]? = some row) :
  (backAll L rs L1)[backAt L.length rs r]? = some (renRow (backAt L.length rs) row):=by
 obtain ⟨g1,g2⟩:=getRows_spec hrows
 unfold backAll
 by_cases hlt:r < rs.length
 ·have hb:Nat.blt r rs.length = true:=Nat.blt_eq.mpr hlt
  have e:backAt L.length rs r = rs[r]:=by simp [backAt,hb,hlt]
  obtain ⟨row0,k1,_⟩:=g2 r _ (List.getElem?_eq_getElem hlt)
  have hin:rs[r] < L.length:=(List.getElem?_eq_some_iff.1 k1).1
  rw [e,List.getElem?_append_left (by rw [putAt_len];exact hin)]
  exact putAt_at rs _ _ hnd r _ _ (List.getElem?_eq_getElem hlt) (by rw [List.getElem?_map,List.getElem?_take_of_lt hlt,h];rfl) hin
 ·have hb:Nat.blt r rs.length = false:=by
   cases hb:Nat.blt r rs.length with
   | false => rfl
   | true => have:=Nat.blt_eq.mp hb;omega
  have e:backAt L.length rs r = L.length + (r - rs.length):=by simp [backAt,hb]
  rw [e,List.getElem?_append_right (by rw [putAt_len];omega),putAt_len,List.getElem?_map,List.getElem?_drop]
  have e2:rs.length + (L.length + (r - rs.length) - L.length) = r:=by omega
  rw [e2,h];rfl
theorem wp_narrow {M:Mach} {fi:Fi} {k:List Item} {env env':Vars} {L Lc:Heap} {d:AV} (rs:List Nat) (hn:narrowIn L rs env = some (env',Lc)) (h:Wp M (.run fi k env' Lc) (PureQ d)):Wp M (.run fi k env L) (PureQ d):=by
 refine .narrow rs env' Lc hn (.mono h fun v L1 ⟨d0,hq1,hq2,hq3,hq4⟩ => ?_)
 unfold narrowIn at hn
 split at hn
 ·rename_i rows hrows
  split at hn
  ·rename_i hc
   simp only [Bool.and_eq_true] at hc
   obtain ⟨p1,p2⟩:=pureA_ren (back_at (L1:=L1) hrows ((noDup_iff rs).1 hc.1)) v hq1
   exact ⟨d0,p1,by rw [p2];exact hq2,hq3,hq4⟩
  ·simp at hn
 ·simp at hn
theorem keep_spec {n:Nat} {v:AV} {K:Heap} (h:keepOk n v K = true):K.length = n /\ (∀ r ∈ rowsA v,r < n) /\ ∀ row ∈ K,∀ r ∈ rowRefs row,r < n:=by
 unfold keepOk at h
 simp only [Bool.and_eq_true,List.all_eq_true,Nat.blt_eq,Nat.beq_eq] at h
 exact ⟨h.1,h.2.1,h.2.2⟩
theorem renRow_same {f:Nat -> Nat} {row:Row} (h:∀ r ∈ rowRefs row,f r = r):renRow f row = row:=by
 unfold renRow
 cases hc:row.clean with
 | true => rfl
 | false =>
  simp only [cond_false]
  rw [renL_ext (g:=fun r => r) row.elems (fun r hr => h r (by unfold rowRefs;rw [hc];exact hr)),renL_id,<- hc]
theorem put_first {α:Type} (n:Nat) (l xs:List α) (h:xs.length = n) (hn:n <= l.length):(putAt l (List.range n) xs).take n = xs:=by
 apply List.ext_getElem?
 intro i
 by_cases hi:i < n
 ·rw [List.getElem?_take_of_lt hi,putAt_at (List.range n) l xs List.nodup_range i i xs[i] (by simp [hi]) (List.getElem?_eq_getElem (by omega)) (by omega),List.getElem?_eq_getElem (by omega)]
 ·rw [List.getElem?_eq_none (by rw [List.length_take];omega),List.getElem?_eq_none (by omega)]
theorem wp_narrow_keep {M:Mach} {fi:Fi} {k:List Item} {env env':Vars} {L Lc:Heap} {v:AV} {K:Heap} (n:Nat) (hk:keepOk n v K = true) (hn:narrowIn L (List.range n) env = some (env',Lc)) (h:Wp M (.run fi k env' Lc) (KeepQ v K)) :
  Wp M (.run fi k env L) (KeepQ v K):=by
 obtain ⟨k1,k2,k3⟩:=keep_spec hk
 have hle:n <= L.length:=by
  unfold narrowIn at hn
  split at hn
  ·rename_i rows hr
   by_cases h0:n = 0
   ·omega
   ·obtain ⟨row,q,_⟩:=(getRows_spec hr).2 (n - 1) (n - 1) (by rw [List.getElem?_range (by omega)])
    have:=(List.getElem?_eq_some_iff.1 q).1
    omega
  ·simp at hn
 refine .narrow _ env' Lc hn (.mono h fun x L1 ⟨e,hq⟩ => ?_)
 subst e
 have hb:∀ r,r < n -> backAt L.length (List.range n) r = r:=by
  intro r hr
  unfold backAt
  rw [show Nat.blt r (List.range n).length = true from Nat.blt_eq.mpr (by simpa using hr),cond_true]
  simp [hr]
 refine ⟨by rw [renA_ext (g:=fun r => r) x (fun r hr => hb r (k2 r hr)),renA_id],?_⟩
 rw [k1] at hq ⊢
 unfold backAll
 rw [List.length_range,hq]
 have e2:K.map (renRow (backAt L.length (List.range n))) = K.map id:=List.map_congr_left fun row hr => by
  rw [renRow_same fun r hrr => hb r (k3 row hr r hrr)];rfl
 rw [e2,List.map_id,List.take_append_of_le_length (by rw [putAt_len];exact hle)]
 exact put_first n L K k1 hle
theorem own_keep {M:Mach} {f:FuncId} {args:List AV} {L:Heap} {v:AV} {K:Heap} (fn:Func) (fi:Fi) (hf:(M.P ()).funcs[f]? = some fn) (hb:fn.body = some (cd fn)) (hn:(fn.name == "runtime.NumGoroutine") = false)
  (hi:(⟨fn.ntmps,fn.results.toList⟩:Fi) = fi) (hk:keepOk L.length v K = true) (h:Wp M (.run fi [.code (cd fn)] (argVars 0 args) L) (KeepQ v K)):Ev M (.own f args L) v K:=
 .drop hk (own_wp fn fi hf hb hn hi h)
end Go.Av

namespace Go.Av
abbrev vi:Int -> AV:=AV.int .i64
abbrev us (l:List Int):List AV:=List.map (AV.int .u32) l
abbrev ag (l:List AV):AV:=.agg l
abbrev vb (b:Bool):AV:=.bool b
abbrev gi {α:Type} (l:List α) (i:Nat):Option α:=l.get?Internal i
theorem b0:allB []:=trivial
theorem q0:allP []:=trivial
theorem c0 {M:Mach}:allC M []:=trivial
theorem pcl {M:Mach} {f:FuncId} {args:List AV} {d:AV} (fn:Func) (fi:Fi) (h0:((M.P ()).funcs[f]?,fn.body,fn.name == "runtime.NumGoroutine",(⟨fn.ntmps,fn.results.toList⟩:Fi)) = (some fn,some (cd fn),false,fi)) (h:Wp M (.run fi [.code (cd fn)] (argVars 0 args) []) (PureQ d)):Ev M (.pure f args) d []:=
 pure_pq fn fi (congrArg (fun x => x.1) h0) (congrArg (fun x => x.2.1) h0) (congrArg (fun x => x.2.2.1) h0) (congrArg (fun x => x.2.2.2) h0) h
abbrev wc (M:Mach) (fi:Fi) (fn:Func) (args:List AV) (d:AV):Prop:=Wp M (.run fi [.code (cd fn)] (argVars 0 args) []) (PureQ d)
end Go.Av

namespace Go.Av
open Go.Proofs
noncomputable def M1:Mach:=⟨fun _ => Try.prog,fun f => [67,66,116,117,119,121].contains f⟩
structure G2 where
 x:Int
 y:Int
 deriving Inhabited,DecidableEq
def G2.a (g:G2):AV:=.agg [.int .i64 g.x,.int .i64 g.y]
abbrev gsA (fl:Bool) (gs:List G2):AV:=.vec fl 2 (gs.map G2.a)
abbrev isA (fl:Bool) (l:List Int):AV:=.vec fl 1 (l.map (.int .i64))
namespace Sp
def inM (n:Int):Prop:=-10000000 <= n /\ n <= 10000000
def gap (a b:Int):Int:=if a < b then b - a else a - b
def dist (ax ay bx by_:Int):Int:=if gap ay by_ > gap ax bx then gap ay by_ else gap ax bx
end Sp
end Go.Av

namespace Go.Av
open Go.Proofs
theorem pack69 (cs:List AV):packA Try.prog 69 cs = .agg cs:=by
 simp [packA,aggT,Try.underlying69]
theorem pack78 (x:AV):packA Try.prog 78 [x] = x:=by
 simp [packA,aggT,Try.underlying78]
theorem pack5 (x:AV):packA Try.prog 5 [x] = x:=by
 simp [packA,aggT,Try.underlying5]
theorem cells69:Try.prog.cellsOf 69 = 2:=by kernel_rfl
set_option maxRecDepth 100000 in
theorem trgrids_ty {n:Nat} {cs:List AV} (h:Ty Try.prog (n + 1 + 1 + 1) 78 cs):∃ gs:List G2,cs = [.vec false 2 (gs.map G2.a)]:=by
 obtain ⟨gs,rfl,_⟩:=ty_list (τ:=G2) (enc:=G2.a) Try.underlying78 (fun ys hy => by
  have h:=ty_struct Try.underlying69 hy
  obtain ⟨a0,b0,rfl,h0,a1,b1,rfl,h1,rfl⟩:=h
  obtain ⟨x0,rfl,_⟩:=ty_int Try.underlying2 h0
  obtain ⟨x1,rfl,_⟩:=ty_int Try.underlying2 h1
  exact ⟨⟨x0,x1⟩,by rw [pack69];rfl⟩) h
 rw [cells69];exact ⟨gs,rfl⟩
theorem laidOut:laidOutB Try.prog = true:=by kernel_rfl
theorem ownGo:ownKnob Try.prog.godebug = none:=by kernel_rfl
end Go.Av

namespace Go.Av
open Go.Proofs
set_option maxRecDepth 100000
def fi31:Fi:=⟨46,[.tmp 4]⟩
def kp31:List (Nat × List Nat):=[(0,[0,1]),(1,[0,9]),(2,[4]),(3,[0,5]),(4,[0,5,13]),(5,[0,5]),(6,[0,5,45]),(7,[4]),(8,[4])]
def fi61:Fi:=⟨26,[.tmp 4]⟩
def kp61:List (Nat × List Nat):=[(0,[2,3]),(1,[4])]
def fi62:Fi:=⟨32,[.tmp 4]⟩
def kp62:List (Nat × List Nat):=[(0,[0,1]),(1,[0,10]),(2,[4]),(3,[11,12,13]),(4,[11,12,13,14]),(5,[6,11,12,13]),(6,[11,12,13,30]),(7,[4]),(8,[11,12,13]),(9,[4])]
def fi63:Fi:=⟨47,[.tmp 4]⟩
def kp63:List (Nat × List Nat):=[(0,[0,1]),(1,[0,1,21]),(2,[4]),(3,[0,1,5]),(4,[1,5,24,25,26]),(5,[1,5,24,25,26,27]),(6,[1,5,7,24,25,26]),(7,[1,5,7,24,25,26,42]),(8,[4]),(9,[1,5,24,25,26]),(10,[1,5,24,25,26]),(11,[4])]
def tv15_at (ax ay bx by_:Int) (Q:AV -> Heap -> Prop):Prop:=Wp M1 (.run fi61 (atC (cd Try.f61) []) [(0,.agg [.int .i64 ax,.int .i64 ay]),(1,.agg [.int .i64 bx,.int .i64 by_])] []) Q
def tv28_at (fl:Bool) (gs:List G2) (m:Int) (Q:AV -> Heap -> Prop):Prop:=Wp M1 (.run fi62 (atC (cd Try.f62) []) [(0,.vec fl 2 (gs.map G2.a)),(1,.int .i64 m)] []) Q
def tv28a_at (fl:Bool) (gs:List G2) (n i:Int) (Q:AV -> Heap -> Prop):Prop:=Wp M1 (.run fi62 (atC (cd Try.f62) [1,1,0,1,0,0]) [(11,.vec fl 2 (gs.map G2.a)),(12,.int .i64 n),(13,.int .i64 i)] []) Q
def tv31_at (fl:Bool) (gs:List G2) (m:Int) (Q:AV -> Heap -> Prop):Prop:=Wp M1 (.run fi31 (atC (cd Try.f31) []) [(0,.vec fl 2 (gs.map G2.a)),(1,.int .i64 m)] []) Q
def tv31a_at (fl:Bool) (gs:List G2) (i:Int) (Q:AV -> Heap -> Prop):Prop:=Wp M1 (.run fi31 (atC (cd Try.f31) [1,1,0,1,0,0]) [(0,.vec fl 2 (gs.map G2.a)),(5,.int .i64 i)] []) Q
def tv29_at (fm:Bool) (o:List Int) (n:Int) (Q:AV -> Heap -> Prop):Prop:=Wp M1 (.run fi63 (atC (cd Try.f63) []) [(0,.vec fm 1 (o.map (.int .i64))),(1,.int .i64 n)] []) Q
def tv29a_at (fm:Bool) (o:List Int) (n k i:Int) (sn:List Bool) (v:Nat) (Q:AV -> Heap -> Prop):Prop:=Wp M1 (.run fi63 (atC (cd Try.f63) [1,1,1,0,1,0,0]) [(1,.int .i64 n),(5,.row 0 v),(24,.vec fm 1 (o.map (.int .i64))),(25,.int .i64 k),(26,.int .i64 i)] [⟨sn.map .bool,1,v,false,true⟩]) Q
theorem call31 {args:List AV} {d:AV} (h:wc M1 fi31 Try.f31 args d):Ev M1 (.pure 31 args) d []:=pcl _ _ (by kernel_rfl) h
theorem call61 {args:List AV} {d:AV} (h:wc M1 fi61 Try.f61 args d):Ev M1 (.pure 61 args) d []:=pcl _ _ (by kernel_rfl) h
theorem call62 {args:List AV} {d:AV} (h:wc M1 fi62 Try.f62 args d):Ev M1 (.pure 62 args) d []:=pcl _ _ (by kernel_rfl) h
theorem call63 {args:List AV} {d:AV} (h:wc M1 fi63 Try.f63 args d):Ev M1 (.pure 63 args) d []:=pcl _ _ (by kernel_rfl) h
theorem tv15 (ax ay bx by_:Int)  (dq:AV) (H :
  (-9223372036854775808 <= by_ - ay /\ by_ - ay <= 9223372036854775807) /\
  (-9223372036854775808 <= ay - by_ /\ ay - by_ <= 9223372036854775807) /\
  (-9223372036854775808 <= bx - ax /\ bx - ax <= 9223372036854775807) /\
  (-9223372036854775808 <= ax - bx /\ ax - bx <= 9223372036854775807) /\
  AV.int IntKind.i64 (if by_ - ay > if ay - by_ > if bx - ax > ax - bx then bx - ax else ax - bx then ay - by_ else if bx - ax > ax - bx then bx - ax else ax - bx then by_ - ay else if ay - by_ > if bx - ax > ax - bx then bx - ax else ax - bx then ay - by_ else if bx - ax > ax - bx then bx - ax else ax - bx) = dq) :
 tv15_at ax ay bx by_ (PureQ dq):=by
 unfold tv15_at
 have k1:=H.1;have H:=H.2
 have w2:IntKind.i64.wrap (by_ - ay) = by_ - ay:=wI64 k1
 have k3:=H.1;have H:=H.2
 have w4:IntKind.i64.wrap (ay - by_) = ay - by_:=wI64 k3
 have k5:=H.1;have H:=H.2
 have w6:IntKind.i64.wrap (bx - ax) = bx - ax:=wI64 k5
 have k7:=H.1;have H:=H.2
 have w8:IntKind.i64.wrap (ax - bx) = ax - bx:=wI64 k7
 exact path_ret (G:=given kp61 [] []) 1000 [] (k:=((atC (cd Try.f61) [1,1])).tail) (env':=[(4,AV.int IntKind.i64 (if IntKind.i64.wrap (by_ - ay) > if IntKind.i64.wrap (ay - by_) > if IntKind.i64.wrap (bx - ax) > IntKind.i64.wrap (ax - bx) then IntKind.i64.wrap (bx - ax) else IntKind.i64.wrap (ax - bx) then IntKind.i64.wrap (ay - by_) else if IntKind.i64.wrap (bx - ax) > IntKind.i64.wrap (ax - bx) then IntKind.i64.wrap (bx - ax) else IntKind.i64.wrap (ax - bx) then IntKind.i64.wrap (by_ - ay) else if IntKind.i64.wrap (ay - by_) > if IntKind.i64.wrap (bx - ax) > IntKind.i64.wrap (ax - bx) then IntKind.i64.wrap (bx - ax) else IntKind.i64.wrap (ax - bx) then IntKind.i64.wrap (ay - by_) else if IntKind.i64.wrap (bx - ax) > IntKind.i64.wrap (ax - bx) then IntKind.i64.wrap (bx - ax) else IntKind.i64.wrap (ax - bx)))]) (L':=[{ elems:=[AV.agg [AV.int IntKind.i64 ax,AV.int IntKind.i64 ay]],es:=2,ver:=0,frozen:=false,clean:=false },{ elems:=[AV.agg [AV.int IntKind.i64 bx,AV.int IntKind.i64 by_]],es:=2,ver:=0,frozen:=false,clean:=false }]) (asm:=[true,true,true,true,true,true,true,true]) (eqs:=[]) (calls:=[]) (AV.int IntKind.i64 (if IntKind.i64.wrap (by_ - ay) > if IntKind.i64.wrap (ay - by_) > if IntKind.i64.wrap (bx - ax) > IntKind.i64.wrap (ax - bx) then IntKind.i64.wrap (bx - ax) else IntKind.i64.wrap (ax - bx) then IntKind.i64.wrap (ay - by_) else if IntKind.i64.wrap (bx - ax) > IntKind.i64.wrap (ax - bx) then IntKind.i64.wrap (bx - ax) else IntKind.i64.wrap (ax - bx) then IntKind.i64.wrap (by_ - ay) else if IntKind.i64.wrap (ay - by_) > if IntKind.i64.wrap (bx - ax) > IntKind.i64.wrap (ax - bx) then IntKind.i64.wrap (bx - ax) else IntKind.i64.wrap (ax - bx) then IntKind.i64.wrap (ay - by_) else if IntKind.i64.wrap (bx - ax) > IntKind.i64.wrap (ax - bx) then IntKind.i64.wrap (bx - ax) else IntKind.i64.wrap (ax - bx))) (by kernel_rfl) (by kernel_rfl) (allB_cons rfl (allB_cons rfl (allB_cons rfl (allB_cons rfl (allB_cons rfl (allB_cons rfl (allB_cons rfl (allB_cons rfl allB_nil)))))))) allP_nil allC_nil (pq_of (d:=(AV.int IntKind.i64 (if IntKind.i64.wrap (by_ - ay) > if IntKind.i64.wrap (ay - by_) > if IntKind.i64.wrap (bx - ax) > IntKind.i64.wrap (ax - bx) then IntKind.i64.wrap (bx - ax) else IntKind.i64.wrap (ax - bx) then IntKind.i64.wrap (ay - by_) else if IntKind.i64.wrap (bx - ax) > IntKind.i64.wrap (ax - bx) then IntKind.i64.wrap (bx - ax) else IntKind.i64.wrap (ax - bx) then IntKind.i64.wrap (by_ - ay) else if IntKind.i64.wrap (ay - by_) > if IntKind.i64.wrap (bx - ax) > IntKind.i64.wrap (ax - bx) then IntKind.i64.wrap (bx - ax) else IntKind.i64.wrap (ax - bx) then IntKind.i64.wrap (ay - by_) else if IntKind.i64.wrap (bx - ax) > IntKind.i64.wrap (ax - bx) then IntKind.i64.wrap (bx - ax) else IntKind.i64.wrap (ax - bx)))) (bs:=[]) (by kernel_rfl) (by kernel_rfl) allB_nil (by kernel_rfl) (by (try rw [w2]);(try rw [w4]);(try rw [w6]);(try rw [w8]);all_goals exact H))
theorem tv28 (fl:Bool) (gs:List G2) (m:Int)  (dq:AV) (H :
  (((↑gs.length:Int) > m) -> AV.int IntKind.i64 3 = dq) /\
  (¬((↑gs.length:Int) > m) -> tv28a_at (fl) (gs) ((↑gs.length:Int)) (0) (PureQ dq))) :
 tv28_at fl gs m (PureQ dq):=by
 unfold tv28_at
 have w1:(List.map G2.a gs).length = gs.length:=List.length_map ..
 have i2:(decide ((↑(List.map G2.a gs).length:Int) > m)) = true ↔ ((↑gs.length:Int) > m):=(by (try rw [w1]);all_goals exact i_dec)
 rcases Classical.em ((↑gs.length:Int) > m) with d3 | d3
 ·have H:=H.1 d3
  exact path_ret (G:=given kp62 [] []) 1000 [true] (k:=((atC (cd Try.f62) [1,0,1,0,1])).tail) (env':=[(4,AV.int IntKind.i64 3)]) (L':=[]) (asm:=[(decide ((↑(List.map G2.a gs).length:Int) > m)) == true]) (eqs:=[]) (calls:=[]) (AV.int IntKind.i64 3) (by kernel_rfl) (by kernel_rfl) (allB_cons (beq_t (i2.2 d3)) allB_nil) allP_nil allC_nil (pq_of (d:=(AV.int IntKind.i64 3)) (bs:=[]) (by kernel_rfl) (by kernel_rfl) allB_nil (by kernel_rfl) H)
 ·have H:=H.2 d3
  exact path_wp (G:=given kp62 [] []) 1000 [false] ⟨(atC (cd Try.f62) [1,1,0,1,0,0]),[(11,AV.vec fl 2 (List.map G2.a gs)),(12,AV.int IntKind.i64 (↑(List.map G2.a gs).length:Int)),(13,AV.int IntKind.i64 0)],[],[(decide ((↑(List.map G2.a gs).length:Int) > m)) == false],[],[]⟩ (by kernel_rfl) (allB_cons (beq_f (fun h => d3 (i2.1 h))) allB_nil) allP_nil allC_nil (by (try rw [w1]);all_goals exact H)
theorem tv28a (fl:Bool) (gs:List G2) (n i:Int)  (dq:AV) (H :
  ((i < n) -> (0 <= i) /\
   (i.toNat < gs.length) /\
   ((((if (gs.getD i.toNat default).y > (gs.getD i.toNat default).x then (gs.getD i.toNat default).y else (gs.getD i.toNat default).x) > 10000000) \/ ((if (gs.getD i.toNat default).y < (gs.getD i.toNat default).x then (gs.getD i.toNat default).y else (gs.getD i.toNat default).x) < -10000000)) -> AV.int IntKind.i64 11 = dq) /\
   (¬(((if (gs.getD i.toNat default).y > (gs.getD i.toNat default).x then (gs.getD i.toNat default).y else (gs.getD i.toNat default).x) > 10000000) \/ ((if (gs.getD i.toNat default).y < (gs.getD i.toNat default).x then (gs.getD i.toNat default).y else (gs.getD i.toNat default).x) < -10000000)) -> (-9223372036854775808 <= i + 1 /\ i + 1 <= 9223372036854775807) /\
    tv28a_at (fl) (gs) (n) (i + 1) (PureQ dq))) /\
  (¬(i < n) -> AV.int IntKind.i64 0 = dq)) :
 tv28a_at fl gs n i (PureQ dq):=by
 unfold tv28a_at
 have i1:(decide (i < n)) = true ↔ (i < n):=i_dec
 rcases Classical.em (i < n) with d2 | d2
 ·have H:=H.1 d2
  have i3:(decide (0 <= i)) = true ↔ (0 <= i):=i_dec
  have k4:=H.1;have H:=H.2
  have w5:(List.map G2.a gs).length = gs.length:=List.length_map ..
  have i6:(decide (i.toNat < (List.map G2.a gs).length)) = true ↔ (i.toNat < gs.length):=(by (try rw [w5]);all_goals exact i_dec)
  have k7:=H.1;have H:=H.2
  have i8:(bif decide ((if (gs.getD i.toNat default).y > (gs.getD i.toNat default).x then (gs.getD i.toNat default).y else (gs.getD i.toNat default).x) > 10000000) then true else decide ((if (gs.getD i.toNat default).y < (gs.getD i.toNat default).x then (gs.getD i.toNat default).y else (gs.getD i.toNat default).x) < -10000000)) = true ↔ (((if (gs.getD i.toNat default).y > (gs.getD i.toNat default).x then (gs.getD i.toNat default).y else (gs.getD i.toNat default).x) > 10000000) \/ ((if (gs.getD i.toNat default).y < (gs.getD i.toNat default).x then (gs.getD i.toNat default).y else (gs.getD i.toNat default).x) < -10000000)):=(i_bor i_dec i_dec)
  refine path_wp (G:=given kp62 [(5,1,.elem (AV.agg [AV.int IntKind.i64 (gs.getD i.toNat default).x,AV.int IntKind.i64 (gs.getD i.toNat default).y]))] []) 11 [true] ⟨(atC (cd Try.f62) [1,1,0,1,0,0,1,1,0,0,1,1]),[(11,AV.vec fl 2 (List.map G2.a gs)),(12,AV.int IntKind.i64 n),(13,AV.int IntKind.i64 i),(30,AV.bool (bif decide ((if (gs.getD i.toNat default).y > (gs.getD i.toNat default).x then (gs.getD i.toNat default).y else (gs.getD i.toNat default).x) > 10000000) then true else decide ((if (gs.getD i.toNat default).y < (gs.getD i.toNat default).x then (gs.getD i.toNat default).y else (gs.getD i.toNat default).x) < -10000000)))],[{ elems:=[AV.agg [AV.int IntKind.i64 (gs.getD i.toNat default).x,AV.int IntKind.i64 (gs.getD i.toNat default).y]],es:=2,ver:=0,frozen:=false,clean:=false }],[(decide (i < n)) == true,decide (0 <= i),decide (i.toNat < (List.map G2.a gs).length),true,true,true,!(decide ((if (gs.getD i.toNat default).y > (gs.getD i.toNat default).x then (gs.getD i.toNat default).y else (gs.getD i.toNat default).x) > 10000000) == false && true) || true,!(decide ((if (gs.getD i.toNat default).y > (gs.getD i.toNat default).x then (gs.getD i.toNat default).y else (gs.getD i.toNat default).x) > 10000000) == false && true) || true],[((List.map G2.a gs).get?Internal i.toNat = some (AV.agg [AV.int IntKind.i64 (gs.getD i.toNat default).x,AV.int IntKind.i64 (gs.getD i.toNat default).y]))],[]⟩ (by kernel_rfl) (allB_cons (beq_t (i1.2 d2)) (allB_cons (i3.2 k4) (allB_cons (i6.2 k7) (allB_cons rfl (allB_cons rfl (allB_cons rfl (allB_cons (Bool.or_true _) (allB_cons (Bool.or_true _) allB_nil)))))))) (allP_cons (el_map k7) allP_nil) allC_nil ?_
  rcases Classical.em (((if (gs.getD i.toNat default).y > (gs.getD i.toNat default).x then (gs.getD i.toNat default).y else (gs.getD i.toNat default).x) > 10000000) \/ ((if (gs.getD i.toNat default).y < (gs.getD i.toNat default).x then (gs.getD i.toNat default).y else (gs.getD i.toNat default).x) < -10000000)) with d9 | d9
  ·have H:=H.1 d9
   exact path_ret (G:=given kp62 [] []) 1000 [true] (k:=((atC (cd Try.f62) [1,1,0,1,0,0,1,1,0,0,1,1,0,1])).tail) (env':=[(4,AV.int IntKind.i64 11)]) (L':=[{ elems:=[AV.agg [AV.int IntKind.i64 (gs.getD i.toNat default).x,AV.int IntKind.i64 (gs.getD i.toNat default).y]],es:=2,ver:=0,frozen:=false,clean:=false }]) (asm:=[(bif decide ((if (gs.getD i.toNat default).y > (gs.getD i.toNat default).x then (gs.getD i.toNat default).y else (gs.getD i.toNat default).x) > 10000000) then true else decide ((if (gs.getD i.toNat default).y < (gs.getD i.toNat default).x then (gs.getD i.toNat default).y else (gs.getD i.toNat default).x) < -10000000)) == true]) (eqs:=[]) (calls:=[]) (AV.int IntKind.i64 11) (by kernel_rfl) (by kernel_rfl) (allB_cons (beq_t (i8.2 d9)) allB_nil) allP_nil allC_nil (pq_of (d:=(AV.int IntKind.i64 11)) (bs:=[]) (by kernel_rfl) (by kernel_rfl) allB_nil (by kernel_rfl) H)
  ·have H:=H.2 d9
   have k10:=H.1;have H:=H.2
   have w11:IntKind.i64.wrap (i + 1) = i + 1:=wI64 k10
   exact path_wp (G:=given kp62 [] []) 1000 [false] ⟨(atC (cd Try.f62) [1,1,0,1,0,0]),[(11,AV.vec fl 2 (List.map G2.a gs)),(12,AV.int IntKind.i64 n),(13,AV.int IntKind.i64 (IntKind.i64.wrap (i + 1)))],[{ elems:=[AV.agg [AV.int IntKind.i64 (gs.getD i.toNat default).x,AV.int IntKind.i64 (gs.getD i.toNat default).y]],es:=2,ver:=0,frozen:=false,clean:=false }],[(bif decide ((if (gs.getD i.toNat default).y > (gs.getD i.toNat default).x then (gs.getD i.toNat default).y else (gs.getD i.toNat default).x) > 10000000) then true else decide ((if (gs.getD i.toNat default).y < (gs.getD i.toNat default).x then (gs.getD i.toNat default).y else (gs.getD i.toNat default).x) < -10000000)) == false],[],[]⟩ (by kernel_rfl) (allB_cons (beq_f (fun h => d9 (i8.1 h))) allB_nil) allP_nil allC_nil (by (try rw [w11]);all_goals exact wp_narrow [] (by kernel_rfl) H)
 ·have H:=H.2 d2
  exact path_ret (G:=given kp62 [] []) 1000 [false] (k:=((atC (cd Try.f62) [1,1,1,1])).tail) (env':=[(4,AV.int IntKind.i64 0)]) (L':=[]) (asm:=[(decide (i < n)) == false]) (eqs:=[]) (calls:=[]) (AV.int IntKind.i64 0) (by kernel_rfl) (by kernel_rfl) (allB_cons (beq_f (fun h => d2 (i1.1 h))) allB_nil) allP_nil allC_nil (pq_of (d:=(AV.int IntKind.i64 0)) (bs:=[]) (by kernel_rfl) (by kernel_rfl) allB_nil (by kernel_rfl) H)
theorem tv31 (fl:Bool) (gs:List G2) (m:Int)  (dq:AV) (H :
  (((↑gs.length:Int) > m) -> AV.int IntKind.i64 3 = dq) /\
  (¬((↑gs.length:Int) > m) -> tv31a_at (fl) (gs) (0) (PureQ dq))) :
 tv31_at fl gs m (PureQ dq):=by
 unfold tv31_at
 have w1:(List.map G2.a gs).length = gs.length:=List.length_map ..
 have i2:(decide ((↑(List.map G2.a gs).length:Int) > m)) = true ↔ ((↑gs.length:Int) > m):=(by (try rw [w1]);all_goals exact i_dec)
 rcases Classical.em ((↑gs.length:Int) > m) with d3 | d3
 ·have H:=H.1 d3
  exact path_ret (G:=given kp31 [] []) 1000 [true] (k:=((atC (cd Try.f31) [1,0,1,0,1])).tail) (env':=[(4,AV.int IntKind.i64 3)]) (L':=[]) (asm:=[(decide ((↑(List.map G2.a gs).length:Int) > m)) == true]) (eqs:=[]) (calls:=[]) (AV.int IntKind.i64 3) (by kernel_rfl) (by kernel_rfl) (allB_cons (beq_t (i2.2 d3)) allB_nil) allP_nil allC_nil (pq_of (d:=(AV.int IntKind.i64 3)) (bs:=[]) (by kernel_rfl) (by kernel_rfl) allB_nil (by kernel_rfl) H)
 ·have H:=H.2 d3
  exact path_wp (G:=given kp31 [] []) 1000 [false] ⟨(atC (cd Try.f31) [1,1,0,1,0,0]),[(0,AV.vec fl 2 (List.map G2.a gs)),(5,AV.int IntKind.i64 0)],[],[(decide ((↑(List.map G2.a gs).length:Int) > m)) == false],[],[]⟩ (by kernel_rfl) (allB_cons (beq_f (fun h => d3 (i2.1 h))) allB_nil) allP_nil allC_nil (H)
theorem tv31a (fl:Bool) (gs:List G2) (i:Int)  (dq:AV) (H :
  ((i < (↑gs.length:Int)) -> (0 <= i) /\
   (i.toNat < gs.length) /\
   ((((((gs.getD i.toNat default).x > 10000000) \/ ((gs.getD i.toNat default).x < -10000000)) \/ ((gs.getD i.toNat default).y > 10000000)) \/ ((gs.getD i.toNat default).y < -10000000)) -> AV.int IntKind.i64 11 = dq) /\
   (¬(((((gs.getD i.toNat default).x > 10000000) \/ ((gs.getD i.toNat default).x < -10000000)) \/ ((gs.getD i.toNat default).y > 10000000)) \/ ((gs.getD i.toNat default).y < -10000000)) -> (-9223372036854775808 <= i + 1 /\ i + 1 <= 9223372036854775807) /\
    tv31a_at (fl) (gs) (i + 1) (PureQ dq))) /\
  (¬(i < (↑gs.length:Int)) -> AV.int IntKind.i64 0 = dq)) :
 tv31a_at fl gs i (PureQ dq):=by
 unfold tv31a_at
 have w1:(List.map G2.a gs).length = gs.length:=List.length_map ..
 have i2:(decide (i < (↑(List.map G2.a gs).length:Int))) = true ↔ (i < (↑gs.length:Int)):=(by (try rw [w1]);all_goals exact i_dec)
 rcases Classical.em (i < (↑gs.length:Int)) with d3 | d3
 ·have H:=H.1 d3
  have i4:(decide (0 <= i)) = true ↔ (0 <= i):=i_dec
  have k5:=H.1;have H:=H.2
  have i6:(decide (i.toNat < (List.map G2.a gs).length)) = true ↔ (i.toNat < gs.length):=(by (try rw [w1]);all_goals exact i_dec)
  have k7:=H.1;have H:=H.2
  have i8:(!(decide ((gs.getD i.toNat default).x > 10000000) == false && true) || decide (0 <= i)) = true ↔ ((¬((gs.getD i.toNat default).x > 10000000)) -> (0 <= i)):=(i_imp (i_at (i_bf i_dec)) i_dec)
  have i9:(!(decide ((gs.getD i.toNat default).x > 10000000) == false && true) || decide (i.toNat < (List.map G2.a gs).length)) = true ↔ ((¬((gs.getD i.toNat default).x > 10000000)) -> (i.toNat < gs.length)):=(by (try rw [w1]);all_goals exact (i_imp (i_at (i_bf i_dec)) i_dec))
  have i10:(!((bif decide ((gs.getD i.toNat default).x > 10000000) then true else decide ((gs.getD i.toNat default).x < -10000000)) == false && true) || decide (0 <= i)) = true ↔ ((¬(((gs.getD i.toNat default).x > 10000000) \/ ((gs.getD i.toNat default).x < -10000000))) -> (0 <= i)):=(i_imp (i_at (i_bf (i_bor i_dec i_dec))) i_dec)
  have i11:(!((bif decide ((gs.getD i.toNat default).x > 10000000) then true else decide ((gs.getD i.toNat default).x < -10000000)) == false && true) || decide (i.toNat < (List.map G2.a gs).length)) = true ↔ ((¬(((gs.getD i.toNat default).x > 10000000) \/ ((gs.getD i.toNat default).x < -10000000))) -> (i.toNat < gs.length)):=(by (try rw [w1]);all_goals exact (i_imp (i_at (i_bf (i_bor i_dec i_dec))) i_dec))
  have i12:(!((bif bif decide ((gs.getD i.toNat default).x > 10000000) then true else decide ((gs.getD i.toNat default).x < -10000000) then true else decide ((gs.getD i.toNat default).y > 10000000)) == false && true) || decide (0 <= i)) = true ↔ ((¬((((gs.getD i.toNat default).x > 10000000) \/ ((gs.getD i.toNat default).x < -10000000)) \/ ((gs.getD i.toNat default).y > 10000000))) -> (0 <= i)):=(i_imp (i_at (i_bf (i_bor (i_bor i_dec i_dec) i_dec))) i_dec)
  have i13:(!((bif bif decide ((gs.getD i.toNat default).x > 10000000) then true else decide ((gs.getD i.toNat default).x < -10000000) then true else decide ((gs.getD i.toNat default).y > 10000000)) == false && true) || decide (i.toNat < (List.map G2.a gs).length)) = true ↔ ((¬((((gs.getD i.toNat default).x > 10000000) \/ ((gs.getD i.toNat default).x < -10000000)) \/ ((gs.getD i.toNat default).y > 10000000))) -> (i.toNat < gs.length)):=(by (try rw [w1]);all_goals exact (i_imp (i_at (i_bf (i_bor (i_bor i_dec i_dec) i_dec))) i_dec))
  have i14:(decide ((gs.getD i.toNat default).x > 10000000) == false && true) = true ↔ (¬((gs.getD i.toNat default).x > 10000000)):=(i_at (i_bf i_dec))
  have i15:((bif decide ((gs.getD i.toNat default).x > 10000000) then true else decide ((gs.getD i.toNat default).x < -10000000)) == false && true) = true ↔ (¬(((gs.getD i.toNat default).x > 10000000) \/ ((gs.getD i.toNat default).x < -10000000))):=(i_at (i_bf (i_bor i_dec i_dec)))
  have i16:((bif bif decide ((gs.getD i.toNat default).x > 10000000) then true else decide ((gs.getD i.toNat default).x < -10000000) then true else decide ((gs.getD i.toNat default).y > 10000000)) == false && true) = true ↔ (¬((((gs.getD i.toNat default).x > 10000000) \/ ((gs.getD i.toNat default).x < -10000000)) \/ ((gs.getD i.toNat default).y > 10000000))):=(i_at (i_bf (i_bor (i_bor i_dec i_dec) i_dec)))
  have i17:(bif bif bif decide ((gs.getD i.toNat default).x > 10000000) then true else decide ((gs.getD i.toNat default).x < -10000000) then true else decide ((gs.getD i.toNat default).y > 10000000) then true else decide ((gs.getD i.toNat default).y < -10000000)) = true ↔ (((((gs.getD i.toNat default).x > 10000000) \/ ((gs.getD i.toNat default).x < -10000000)) \/ ((gs.getD i.toNat default).y > 10000000)) \/ ((gs.getD i.toNat default).y < -10000000)):=(i_bor (i_bor (i_bor i_dec i_dec) i_dec) i_dec)
  refine path_wp (G:=given kp31 [(6,4,.elem (AV.agg [AV.int IntKind.i64 (gs.getD i.toNat default).x,AV.int IntKind.i64 (gs.getD i.toNat default).y])),(6,11,.elem (AV.agg [AV.int IntKind.i64 (gs.getD i.toNat default).x,AV.int IntKind.i64 (gs.getD i.toNat default).y])),(6,19,.elem (AV.agg [AV.int IntKind.i64 (gs.getD i.toNat default).x,AV.int IntKind.i64 (gs.getD i.toNat default).y])),(6,27,.elem (AV.agg [AV.int IntKind.i64 (gs.getD i.toNat default).x,AV.int IntKind.i64 (gs.getD i.toNat default).y]))] []) 9 [true] ⟨(atC (cd Try.f31) [1,1,0,1,0,0,1,0,0,1]),[(0,AV.vec fl 2 (List.map G2.a gs)),(5,AV.int IntKind.i64 i),(45,AV.bool (bif bif bif decide ((gs.getD i.toNat default).x > 10000000) then true else decide ((gs.getD i.toNat default).x < -10000000) then true else decide ((gs.getD i.toNat default).y > 10000000) then true else decide ((gs.getD i.toNat default).y < -10000000)))],[],[(decide (i < (↑(List.map G2.a gs).length:Int))) == true,decide (0 <= i),decide (i.toNat < (List.map G2.a gs).length),!(decide ((gs.getD i.toNat default).x > 10000000) == false && true) || decide (0 <= i),!(decide ((gs.getD i.toNat default).x > 10000000) == false && true) || decide (i.toNat < (List.map G2.a gs).length),!((bif decide ((gs.getD i.toNat default).x > 10000000) then true else decide ((gs.getD i.toNat default).x < -10000000)) == false && true) || decide (0 <= i),!((bif decide ((gs.getD i.toNat default).x > 10000000) then true else decide ((gs.getD i.toNat default).x < -10000000)) == false && true) || decide (i.toNat < (List.map G2.a gs).length),!((bif bif decide ((gs.getD i.toNat default).x > 10000000) then true else decide ((gs.getD i.toNat default).x < -10000000) then true else decide ((gs.getD i.toNat default).y > 10000000)) == false && true) || decide (0 <= i),!((bif bif decide ((gs.getD i.toNat default).x > 10000000) then true else decide ((gs.getD i.toNat default).x < -10000000) then true else decide ((gs.getD i.toNat default).y > 10000000)) == false && true) || decide (i.toNat < (List.map G2.a gs).length)],[((List.map G2.a gs).get?Internal i.toNat = some (AV.agg [AV.int IntKind.i64 (gs.getD i.toNat default).x,AV.int IntKind.i64 (gs.getD i.toNat default).y])),((decide ((gs.getD i.toNat default).x > 10000000) == false && true) = true -> (List.map G2.a gs).get?Internal i.toNat = some (AV.agg [AV.int IntKind.i64 (gs.getD i.toNat default).x,AV.int IntKind.i64 (gs.getD i.toNat default).y])),(((bif decide ((gs.getD i.toNat default).x > 10000000) then true else decide ((gs.getD i.toNat default).x < -10000000)) == false && true) = true -> (List.map G2.a gs).get?Internal i.toNat = some (AV.agg [AV.int IntKind.i64 (gs.getD i.toNat default).x,AV.int IntKind.i64 (gs.getD i.toNat default).y])),(((bif bif decide ((gs.getD i.toNat default).x > 10000000) then true else decide ((gs.getD i.toNat default).x < -10000000) then true else decide ((gs.getD i.toNat default).y > 10000000)) == false && true) = true -> (List.map G2.a gs).get?Internal i.toNat = some (AV.agg [AV.int IntKind.i64 (gs.getD i.toNat default).x,AV.int IntKind.i64 (gs.getD i.toNat default).y]))],[]⟩ (by kernel_rfl) (allB_cons (beq_t (i2.2 d3)) (allB_cons (i4.2 k5) (allB_cons (i6.2 k7) (allB_cons (i8.2 (fun _ => k5)) (allB_cons (i9.2 (fun _ => k7)) (allB_cons (i10.2 (fun _ => k5)) (allB_cons (i11.2 (fun _ => k7)) (allB_cons (i12.2 (fun _ => k5)) (allB_cons (i13.2 (fun _ => k7)) allB_nil))))))))) (allP_cons (el_map k7) (allP_cons (fun h => el_map k7) (allP_cons (fun h => el_map k7) (allP_cons (fun h => el_map k7) allP_nil)))) allC_nil ?_
  rcases Classical.em (((((gs.getD i.toNat default).x > 10000000) \/ ((gs.getD i.toNat default).x < -10000000)) \/ ((gs.getD i.toNat default).y > 10000000)) \/ ((gs.getD i.toNat default).y < -10000000)) with d18 | d18
  ·have H:=H.1 d18
   exact path_ret (G:=given kp31 [] []) 1000 [true] (k:=((atC (cd Try.f31) [1,1,0,1,0,0,1,0,0,1,0,1])).tail) (env':=[(4,AV.int IntKind.i64 11)]) (L':=[]) (asm:=[(bif bif bif decide ((gs.getD i.toNat default).x > 10000000) then true else decide ((gs.getD i.toNat default).x < -10000000) then true else decide ((gs.getD i.toNat default).y > 10000000) then true else decide ((gs.getD i.toNat default).y < -10000000)) == true]) (eqs:=[]) (calls:=[]) (AV.int IntKind.i64 11) (by kernel_rfl) (by kernel_rfl) (allB_cons (beq_t (i17.2 d18)) allB_nil) allP_nil allC_nil (pq_of (d:=(AV.int IntKind.i64 11)) (bs:=[]) (by kernel_rfl) (by kernel_rfl) allB_nil (by kernel_rfl) H)
  ·have H:=H.2 d18
   have k19:=H.1;have H:=H.2
   have w20:IntKind.i64.wrap (i + 1) = i + 1:=wI64 k19
   exact path_wp (G:=given kp31 [] []) 1000 [false] ⟨(atC (cd Try.f31) [1,1,0,1,0,0]),[(0,AV.vec fl 2 (List.map G2.a gs)),(5,AV.int IntKind.i64 (IntKind.i64.wrap (i + 1)))],[],[(bif bif bif decide ((gs.getD i.toNat default).x > 10000000) then true else decide ((gs.getD i.toNat default).x < -10000000) then true else decide ((gs.getD i.toNat default).y > 10000000) then true else decide ((gs.getD i.toNat default).y < -10000000)) == false],[],[]⟩ (by kernel_rfl) (allB_cons (beq_f (fun h => d18 (i17.1 h))) allB_nil) allP_nil allC_nil (by (try rw [w20]);all_goals exact H)
 ·have H:=H.2 d3
  exact path_ret (G:=given kp31 [] []) 1000 [false] (k:=((atC (cd Try.f31) [1,1,1,1])).tail) (env':=[(4,AV.int IntKind.i64 0)]) (L':=[]) (asm:=[(decide (i < (↑(List.map G2.a gs).length:Int))) == false]) (eqs:=[]) (calls:=[]) (AV.int IntKind.i64 0) (by kernel_rfl) (by kernel_rfl) (allB_cons (beq_f (fun h => d3 (i2.1 h))) allB_nil) allP_nil allC_nil (pq_of (d:=(AV.int IntKind.i64 0)) (bs:=[]) (by kernel_rfl) (by kernel_rfl) allB_nil (by kernel_rfl) H)
theorem tv29 (fm:Bool) (o:List Int) (n:Int)  (dq:AV) (H :
  (((n > 0) /\ (¬(¬(↑o.length:Int) = n))) -> (0 < o.length)) /\
  (((¬(↑o.length:Int) = n) \/ ((n > 0) /\ (¬o.getD 0 default = 0))) -> AV.bool false = dq) /\
  (¬((¬(↑o.length:Int) = n) \/ ((n > 0) /\ (¬o.getD 0 default = 0))) -> (0 <= n) /\
   (n * 1 <= 1099511627776) /\
   (n <= 1099511627776) /\
   tv29a_at (fm) (o) (n) ((↑o.length:Int)) (0) (List.replicate n.toNat false) (0) (PureQ dq))) :
 tv29_at fm o n (PureQ dq):=by
 unfold tv29_at
 have w1:(List.map (AV.int IntKind.i64) o).length = o.length:=List.length_map ..
 have i2:(!(decide (n > 0) == true && (((↑(List.map (AV.int IntKind.i64) o).length:Int) != n) == false && true)) || decide (0 < (List.map (AV.int IntKind.i64) o).length)) = true ↔ (((n > 0) /\ (¬(¬(↑o.length:Int) = n))) -> (0 < o.length)):=(by (try rw [w1]);all_goals exact (i_imp (i_and (i_bt i_dec) (i_at (i_bf i_ne))) i_dec))
 have k3:=H.1;have H:=H.2
 have i4:(decide (n > 0) == true && (((↑o.length:Int) != n) == false && true)) = true ↔ ((n > 0) /\ (¬(¬(↑o.length:Int) = n))):=(i_and (i_bt i_dec) (i_at (i_bf i_ne)))
 have i5:(bif (↑(List.map (AV.int IntKind.i64) o).length:Int) != n then true else bif decide (n > 0) then o.getD 0 default != 0 else false) = true ↔ ((¬(↑o.length:Int) = n) \/ ((n > 0) /\ (¬o.getD 0 default = 0))):=(by (try rw [w1]);all_goals exact (i_bor i_ne (i_band i_dec i_ne)))
 refine path_wp (G:=given kp63 [(1,10,.elem (AV.int IntKind.i64 (o.getD 0 default)))] []) 5 [] ⟨(atC (cd Try.f63) [1,0,1]),[(0,AV.vec fm 1 (List.map (AV.int IntKind.i64) o)),(1,AV.int IntKind.i64 n),(21,AV.bool (bif (↑(List.map (AV.int IntKind.i64) o).length:Int) != n then true else bif decide (n > 0) then o.getD 0 default != 0 else false))],[],[!(decide (n > 0) == true && (((↑(List.map (AV.int IntKind.i64) o).length:Int) != n) == false && true)) || true,!(decide (n > 0) == true && (((↑(List.map (AV.int IntKind.i64) o).length:Int) != n) == false && true)) || decide (0 < (List.map (AV.int IntKind.i64) o).length)],[((decide (n > 0) == true && (((↑(List.map (AV.int IntKind.i64) o).length:Int) != n) == false && true)) = true -> (List.map (AV.int IntKind.i64) o).get?Internal 0 = some (AV.int IntKind.i64 (o.getD 0 default)))],[]⟩ (by kernel_rfl) (allB_cons (Bool.or_true _) (allB_cons (i2.2 k3) allB_nil)) (allP_cons (by (try rw [w1]);all_goals exact (fun h => el_map (k3 (i4.1 h)))) allP_nil) allC_nil ?_
 rcases Classical.em ((¬(↑o.length:Int) = n) \/ ((n > 0) /\ (¬o.getD 0 default = 0))) with d6 | d6
 ·have H:=H.1 d6
  exact path_ret (G:=given kp63 [] []) 1000 [true] (k:=((atC (cd Try.f63) [1,0,1,0,1])).tail) (env':=[(4,AV.bool false)]) (L':=[]) (asm:=[(bif (↑(List.map (AV.int IntKind.i64) o).length:Int) != n then true else bif decide (n > 0) then o.getD 0 default != 0 else false) == true]) (eqs:=[]) (calls:=[]) (AV.bool false) (by kernel_rfl) (by kernel_rfl) (allB_cons (beq_t (i5.2 d6)) allB_nil) allP_nil allC_nil (pq_of (d:=(AV.bool false)) (bs:=[]) (by kernel_rfl) (by kernel_rfl) allB_nil (by kernel_rfl) H)
 ·have H:=H.2 d6
  have i7:(decide (0 <= n)) = true ↔ (0 <= n):=i_dec
  have k8:=H.1;have H:=H.2
  have i9:(decide (n <= n)) = true ↔ (n <= n):=i_dec
  have i10:(decide (n * 1 <= 1099511627776)) = true ↔ (n * 1 <= 1099511627776):=i_dec
  have k11:=H.1;have H:=H.2
  have i12:(decide (n <= 1099511627776)) = true ↔ (n <= 1099511627776):=i_dec
  have k13:=H.1;have H:=H.2
  have w14:List.replicate n.toNat (AV.bool false) = List.map AV.bool (List.replicate n.toNat false):=(lm_rep rfl)
  exact path_wp (G:=given kp63 [] []) 1000 [false] ⟨(atC (cd Try.f63) [1,1,1,0,1,0,0]),[(1,AV.int IntKind.i64 n),(5,AV.row 0 0),(24,AV.vec fm 1 (List.map (AV.int IntKind.i64) o)),(25,AV.int IntKind.i64 (↑(List.map (AV.int IntKind.i64) o).length:Int)),(26,AV.int IntKind.i64 0)],[{ elems:=List.replicate n.toNat (AV.bool false),es:=1,ver:=0,frozen:=false,clean:=true }],[(bif (↑(List.map (AV.int IntKind.i64) o).length:Int) != n then true else bif decide (n > 0) then o.getD 0 default != 0 else false) == false,decide (0 <= n),decide (n <= n),decide (n * 1 <= 1099511627776),decide (n <= 1099511627776)],[],[]⟩ (by kernel_rfl) (allB_cons (beq_f (fun h => d6 (i5.1 h))) (allB_cons (i7.2 k8) (allB_cons (i9.2 (by omega)) (allB_cons (i10.2 k11) (allB_cons (i12.2 k13) allB_nil))))) allP_nil allC_nil (by (try rw [w1]);(try rw [w14]);all_goals exact H)
theorem tv29a (fm:Bool) (o:List Int) (n k i:Int) (sn:List Bool) (v:Nat)  (dq:AV) (H :
  ((i < k) -> (0 <= i) /\
   (i.toNat < o.length) /\
   ((¬((o.getD i.toNat default < 0) \/ (o.getD i.toNat default >= n))) -> (0 <= o.getD i.toNat default)) /\
   ((¬((o.getD i.toNat default < 0) \/ (o.getD i.toNat default >= n))) -> ((o.getD i.toNat default).toNat < sn.length)) /\
   ((((o.getD i.toNat default < 0) \/ (o.getD i.toNat default >= n)) \/ (sn.getD (o.getD i.toNat default).toNat default = true)) -> AV.bool false = dq) /\
   (¬(((o.getD i.toNat default < 0) \/ (o.getD i.toNat default >= n)) \/ (sn.getD (o.getD i.toNat default).toNat default = true)) -> (0 <= o.getD i.toNat default) /\
    ((o.getD i.toNat default).toNat < sn.length) /\
    (-9223372036854775808 <= i + 1 /\ i + 1 <= 9223372036854775807) /\
    tv29a_at (fm) (o) (n) (k) (i + 1) (sn.set (o.getD i.toNat default).toNat true) (v) (PureQ dq))) /\
  (¬(i < k) -> AV.bool true = dq)) :
 tv29a_at fm o n k i sn v (PureQ dq):=by
 unfold tv29a_at
 have i1:(decide (i < k)) = true ↔ (i < k):=i_dec
 rcases Classical.em (i < k) with d2 | d2
 ·have H:=H.1 d2
  have i3:(decide (0 <= i)) = true ↔ (0 <= i):=i_dec
  have k4:=H.1;have H:=H.2
  have w5:(List.map (AV.int IntKind.i64) o).length = o.length:=List.length_map ..
  have i6:(decide (i.toNat < (List.map (AV.int IntKind.i64) o).length)) = true ↔ (i.toNat < o.length):=(by (try rw [w5]);all_goals exact i_dec)
  have k7:=H.1;have H:=H.2
  have i8:(!((bif decide (o.getD i.toNat default < 0) then true else decide (o.getD i.toNat default >= n)) == false && true) || v == v) = true ↔ ((¬((o.getD i.toNat default < 0) \/ (o.getD i.toNat default >= n))) -> (v = v)):=(i_imp (i_at (i_bf (i_bor i_dec i_dec))) i_eq)
  have i9:(!((bif decide (o.getD i.toNat default < 0) then true else decide (o.getD i.toNat default >= n)) == false && true) || decide (0 <= o.getD i.toNat default)) = true ↔ ((¬((o.getD i.toNat default < 0) \/ (o.getD i.toNat default >= n))) -> (0 <= o.getD i.toNat default)):=(i_imp (i_at (i_bf (i_bor i_dec i_dec))) i_dec)
  have k10:=H.1;have H:=H.2
  have w11:(List.map AV.bool sn).length = sn.length:=List.length_map ..
  have i12:(!((bif decide (o.getD i.toNat default < 0) then true else decide (o.getD i.toNat default >= n)) == false && true) || decide ((o.getD i.toNat default).toNat < (List.map AV.bool sn).length)) = true ↔ ((¬((o.getD i.toNat default < 0) \/ (o.getD i.toNat default >= n))) -> ((o.getD i.toNat default).toNat < sn.length)):=(by (try rw [w11]);all_goals exact (i_imp (i_at (i_bf (i_bor i_dec i_dec))) i_dec))
  have k13:=H.1;have H:=H.2
  have i14:(!((bif decide (o.getD i.toNat default < 0) then true else decide (o.getD i.toNat default >= n)) == false && true) || v == v) = true ↔ ((¬((o.getD i.toNat default < 0) \/ (o.getD i.toNat default >= n))) -> (v = v)):=(i_imp (i_at (i_bf (i_bor i_dec i_dec))) i_eq)
  have i15:((bif decide (o.getD i.toNat default < 0) then true else decide (o.getD i.toNat default >= n)) == false && true) = true ↔ (¬((o.getD i.toNat default < 0) \/ (o.getD i.toNat default >= n))):=(i_at (i_bf (i_bor i_dec i_dec)))
  have i16:(bif bif decide (o.getD i.toNat default < 0) then true else decide (o.getD i.toNat default >= n) then true else sn.getD (o.getD i.toNat default).toNat default) = true ↔ (((o.getD i.toNat default < 0) \/ (o.getD i.toNat default >= n)) \/ (sn.getD (o.getD i.toNat default).toNat default = true)):=(i_bor (i_bor i_dec i_dec) (i_var _))
  refine path_wp (G:=given kp63 [(6,1,.elem (AV.int IntKind.i64 (o.getD i.toNat default))),(7,11,.elem (AV.bool (sn.getD (o.getD i.toNat default).toNat default)))] []) 12 [true] ⟨(atC (cd Try.f63) [1,1,1,0,1,0,0,1,1,0,0,1,0,1]),[(1,AV.int IntKind.i64 n),(5,AV.row 0 v),(7,AV.int IntKind.i64 (o.getD i.toNat default)),(24,AV.vec fm 1 (List.map (AV.int IntKind.i64) o)),(25,AV.int IntKind.i64 k),(26,AV.int IntKind.i64 i),(42,AV.bool (bif bif decide (o.getD i.toNat default < 0) then true else decide (o.getD i.toNat default >= n) then true else sn.getD (o.getD i.toNat default).toNat default))],[{ elems:=List.map AV.bool sn,es:=1,ver:=v,frozen:=false,clean:=true }],[(decide (i < k)) == true,decide (0 <= i),decide (i.toNat < (List.map (AV.int IntKind.i64) o).length),!((bif decide (o.getD i.toNat default < 0) then true else decide (o.getD i.toNat default >= n)) == false && true) || v == v,!((bif decide (o.getD i.toNat default < 0) then true else decide (o.getD i.toNat default >= n)) == false && true) || decide (0 <= o.getD i.toNat default),!((bif decide (o.getD i.toNat default < 0) then true else decide (o.getD i.toNat default >= n)) == false && true) || decide ((o.getD i.toNat default).toNat < (List.map AV.bool sn).length),!((bif decide (o.getD i.toNat default < 0) then true else decide (o.getD i.toNat default >= n)) == false && true) || v == v],[((List.map (AV.int IntKind.i64) o).get?Internal i.toNat = some (AV.int IntKind.i64 (o.getD i.toNat default))),(((bif decide (o.getD i.toNat default < 0) then true else decide (o.getD i.toNat default >= n)) == false && true) = true -> (List.map AV.bool sn).get?Internal (o.getD i.toNat default).toNat = some (AV.bool (sn.getD (o.getD i.toNat default).toNat default)))],[]⟩ (by kernel_rfl) (allB_cons (beq_t (i1.2 d2)) (allB_cons (i3.2 k4) (allB_cons (i6.2 k7) (allB_cons (i8.2 (fun _ => rfl)) (allB_cons (i9.2 k10) (allB_cons (i12.2 k13) (allB_cons (i14.2 (fun _ => rfl)) allB_nil))))))) (allP_cons (el_map k7) (allP_cons (fun h => el_map (k13 (i15.1 h))) allP_nil)) allC_nil ?_
  rcases Classical.em (((o.getD i.toNat default < 0) \/ (o.getD i.toNat default >= n)) \/ (sn.getD (o.getD i.toNat default).toNat default = true)) with d17 | d17
  ·have H:=H.1 d17
   exact path_ret (G:=given kp63 [] []) 1000 [true] (k:=((atC (cd Try.f63) [1,1,1,0,1,0,0,1,1,0,0,1,0,1,0,1])).tail) (env':=[(4,AV.bool false)]) (L':=[{ elems:=List.map AV.bool sn,es:=1,ver:=v,frozen:=false,clean:=true }]) (asm:=[(bif bif decide (o.getD i.toNat default < 0) then true else decide (o.getD i.toNat default >= n) then true else sn.getD (o.getD i.toNat default).toNat default) == true]) (eqs:=[]) (calls:=[]) (AV.bool false) (by kernel_rfl) (by kernel_rfl) (allB_cons (beq_t (i16.2 d17)) allB_nil) allP_nil allC_nil (pq_of (d:=(AV.bool false)) (bs:=[]) (by kernel_rfl) (by kernel_rfl) allB_nil (by kernel_rfl) H)
  ·have H:=H.2 d17
   have i18:(decide (0 <= o.getD i.toNat default)) = true ↔ (0 <= o.getD i.toNat default):=i_dec
   have k19:=H.1;have H:=H.2
   have i20:(decide ((o.getD i.toNat default).toNat < (List.map AV.bool sn).length)) = true ↔ ((o.getD i.toNat default).toNat < sn.length):=(by (try rw [w11]);all_goals exact i_dec)
   have k21:=H.1;have H:=H.2
   have w22:(List.map AV.bool sn).set (o.getD i.toNat default).toNat (AV.bool true) = List.map AV.bool (sn.set (o.getD i.toNat default).toNat true):=(lm_set rfl rfl)
   have k23:=H.1;have H:=H.2
   have w24:IntKind.i64.wrap (i + 1) = i + 1:=wI64 k23
   exact path_wp (G:=given kp63 [(9,3,.elem (AV.bool (sn.getD (o.getD i.toNat default).toNat default)))] []) 1000 [false] ⟨(atC (cd Try.f63) [1,1,1,0,1,0,0]),[(1,AV.int IntKind.i64 n),(5,AV.row 0 v),(24,AV.vec fm 1 (List.map (AV.int IntKind.i64) o)),(25,AV.int IntKind.i64 k),(26,AV.int IntKind.i64 (IntKind.i64.wrap (i + 1)))],[{ elems:=(List.map AV.bool sn).set (o.getD i.toNat default).toNat (AV.bool true),es:=1,ver:=v,frozen:=false,clean:=true }],[(bif bif decide (o.getD i.toNat default < 0) then true else decide (o.getD i.toNat default >= n) then true else sn.getD (o.getD i.toNat default).toNat default) == false,v == v,decide (0 <= o.getD i.toNat default),decide ((o.getD i.toNat default).toNat < (List.map AV.bool sn).length),v == v],[((List.map AV.bool sn).get?Internal (o.getD i.toNat default).toNat = some (AV.bool (sn.getD (o.getD i.toNat default).toNat default)))],[]⟩ (by kernel_rfl) (allB_cons (beq_f (fun h => d17 (i16.1 h))) (allB_cons (beq_self_eq_true _) (allB_cons (i18.2 k19) (allB_cons (i20.2 k21) (allB_cons (beq_self_eq_true _) allB_nil))))) (allP_cons (el_map k21) allP_nil) allC_nil (by (try rw [w22]);(try rw [w24]);all_goals exact H)
 ·have H:=H.2 d2
  exact path_ret (G:=given kp63 [] []) 1000 [false] (k:=((atC (cd Try.f63) [1,1,1,1,1])).tail) (env':=[(4,AV.bool true)]) (L':=[{ elems:=List.map AV.bool sn,es:=1,ver:=v,frozen:=false,clean:=true }]) (asm:=[(decide (i < k)) == false]) (eqs:=[]) (calls:=[]) (AV.bool true) (by kernel_rfl) (by kernel_rfl) (allB_cons (beq_f (fun h => d2 (i1.1 h))) allB_nil) allP_nil allC_nil (pq_of (d:=(AV.bool true)) (bs:=[]) (by kernel_rfl) (by kernel_rfl) allB_nil (by kernel_rfl) H)
end Go.Av

namespace Go.Av
open Go.Proofs
namespace Sp
def badG (g:G2):Bool:=decide (g.x > 10000000) || decide (g.x < -10000000) || decide (g.y > 10000000) || decide (g.y < -10000000)
def mOk (m:Int):Prop:=m <= 1000000
def checkE (gs:List G2) (m:Int):Int:=if (gs.length:Int) > m then 3 else if gs.any badG = true then 11 else 0
def ordFrom (n:Int):List Int -> List Bool -> Bool
 | [],_ => true
 | x :: o,sn => if (x < 0 \/ x >= n) \/ sn.getD x.toNat default = true then false else ordFrom n o (sn.set x.toNat true)
def isOrd (o:List Int) (n:Int):Bool:=
 if (¬(o.length:Int) = n) \/ (n > 0 /\ ¬o.getD 0 default = 0) then false else ordFrom n o (List.replicate n.toNat false)
end Sp
theorem ev61 (ax ay bx by_:Int) (h:Sp.inM ax /\ Sp.inM ay /\ Sp.inM bx /\ Sp.inM by_):Ev M1 (.pure 61 [.agg [.int .i64 ax,.int .i64 ay],.agg [.int .i64 bx,.int .i64 by_]]) (.int .i64 (Sp.dist ax ay bx by_)) []:=by
 simp only [Sp.inM] at h
 refine call61 (tv15 ax ay bx by_ _ ⟨by omega,by omega,by omega,by omega,?_⟩)
 congr 1
 unfold Sp.dist Sp.gap
 (repeat' split) <;> omega
theorem loop28 {fl:Bool} {gs:List G2} {dq:AV} (hl:gs.length <= 1000000):∀ (k i:Nat),i + k = gs.length -> AV.int .i64 (if (gs.drop i).any Sp.badG = true then 11 else 0) = dq -> tv28a_at fl gs gs.length i (PureQ dq):=by
 intro k
 induction k with
 | zero =>
  intro i hi hq
  rw [List.drop_eq_nil_of_le (by omega)] at hq
  exact tv28a _ _ _ _ _ ⟨fun h => by omega,fun _ => hq⟩
 | succ k ih =>
  intro i hi hq
  rw [drop_getD (show i < gs.length by omega),List.any_cons] at hq
  refine tv28a _ _ _ _ _ ⟨fun _ => ⟨by omega,by omega,?_⟩,fun h => by omega⟩
  rw [Int.toNat_natCast]
  generalize gs.getD i default = g at hq
  have e:Sp.badG g = true ↔ (if g.y > g.x then g.y else g.x) > 10000000 \/ (if g.y < g.x then g.y else g.x) < -10000000:=by
   simp only [Sp.badG,Bool.or_eq_true,decide_eq_true_eq]
   (repeat' split) <;> omega
  rw [<- e]
  refine ⟨fun h => ?_,fun h => ⟨by omega,ih (i + 1) (by omega) ?_⟩⟩
  ·rw [h,Bool.true_or,if_pos rfl] at hq;exact hq
  ·rw [Bool.eq_false_iff.2 h,Bool.false_or] at hq;exact hq
theorem ev62 (fl:Bool) (gs:List G2) (m:Int) (hm:Sp.mOk m):Ev M1 (.pure 62 [gsA fl gs,.int .i64 m]) (.int .i64 (Sp.checkE gs m)) []:=by
 refine call62 (tv28 fl gs m _ ⟨fun h => ?_,fun h => loop28 (by unfold Sp.mOk at hm;omega) _ 0 (Nat.zero_add _) ?_⟩)
 ·rw [Sp.checkE,if_pos h]
 ·rw [Sp.checkE,if_neg h];rfl
theorem loop31 {fl:Bool} {gs:List G2} {dq:AV} (hl:gs.length <= 1000000):∀ (k i:Nat),i + k = gs.length -> AV.int .i64 (if (gs.drop i).any Sp.badG = true then 11 else 0) = dq -> tv31a_at fl gs i (PureQ dq):=by
 intro k
 induction k with
 | zero =>
  intro i hi hq
  rw [List.drop_eq_nil_of_le (by omega)] at hq
  exact tv31a _ _ _ _ ⟨fun h => by omega,fun _ => hq⟩
 | succ k ih =>
  intro i hi hq
  rw [drop_getD (show i < gs.length by omega),List.any_cons] at hq
  refine tv31a _ _ _ _ ⟨fun _ => ⟨by omega,by omega,?_⟩,fun h => by omega⟩
  rw [Int.toNat_natCast]
  generalize gs.getD i default = g at hq
  have e:Sp.badG g = true ↔ ((g.x > 10000000 \/ g.x < -10000000) \/ g.y > 10000000) \/ g.y < -10000000:=by
   simp only [Sp.badG,Bool.or_eq_true,decide_eq_true_eq]
  rw [<- e]
  refine ⟨fun h => ?_,fun h => ⟨by omega,ih (i + 1) (by omega) ?_⟩⟩
  ·rw [h,Bool.true_or,if_pos rfl] at hq;exact hq
  ·rw [Bool.eq_false_iff.2 h,Bool.false_or] at hq;exact hq
theorem ev31 (fl:Bool) (gs:List G2) (m:Int) (hm:Sp.mOk m):Ev M1 (.pure 31 [gsA fl gs,.int .i64 m]) (.int .i64 (Sp.checkE gs m)) []:=by
 refine call31 (tv31 fl gs m _ ⟨fun h => ?_,fun h => loop31 (by unfold Sp.mOk at hm;omega) _ 0 (Nat.zero_add _) ?_⟩)
 ·rw [Sp.checkE,if_pos h]
 ·rw [Sp.checkE,if_neg h];rfl
theorem loop29 {fm:Bool} {o:List Int} {n:Int} {dq:AV} (hn:n <= 1000000) (hl:o.length <= 1000000):∀ (k i:Nat) (sn:List Bool) (v:Nat),i + k = o.length -> n <= sn.length -> AV.bool (Sp.ordFrom n (o.drop i) sn) = dq -> tv29a_at fm o n o.length i sn v (PureQ dq):=by
 intro k
 induction k with
 | zero =>
  intro i sn v hi hs hq
  rw [List.drop_eq_nil_of_le (by omega),Sp.ordFrom] at hq
  exact tv29a _ _ _ _ _ _ _ _ ⟨fun h => by omega,fun _ => hq⟩
 | succ k ih =>
  intro i sn v hi hs hq
  rw [drop_getD (show i < o.length by omega),Sp.ordFrom] at hq
  refine tv29a _ _ _ _ _ _ _ _ ⟨fun _ => ⟨by omega,by omega,?_⟩,fun h => by omega⟩
  rw [Int.toNat_natCast]
  generalize o.getD i default = x at hq
  refine ⟨fun h => by omega,fun h => by omega,fun h => ?_,fun h => ⟨by omega,by omega,by omega,ih (i + 1) _ _ (by omega) (by simpa using hs) ?_⟩⟩
  ·rw [if_pos h] at hq;exact hq
  ·rw [if_neg h] at hq;exact hq
theorem ev63 (fm:Bool) (o:List Int) (n:Int) (hn:0 <= n /\ n <= 1000000):Ev M1 (.pure 63 [isA fm o,.int .i64 n]) (.bool (Sp.isOrd o n)) []:=by
 refine call63 (tv29 fm o n _ ⟨fun h => by omega,fun h => ?_,fun h => ⟨by omega,by omega,by omega,?_⟩⟩)
 ·rw [Sp.isOrd,if_pos h]
 ·refine loop29 hn.2 (by omega) _ 0 _ _ (Nat.zero_add _) (by simp;omega) ?_
  rw [Sp.isOrd,if_neg h];rfl
theorem ordFrom_mem {n:Int}:∀ (o:List Int) (sn:List Bool),n <= sn.length -> Sp.ordFrom n o sn = true -> (∀ x ∈ o,0 <= x /\ x < n /\ sn.getD x.toNat default = false) /\ o.Nodup
 | [],_,_,_ => by simp
 | x :: o,sn,hs,h => by
  rw [Sp.ordFrom] at h
  split at h
  ·simp at h
  ·rename_i hx
   obtain ⟨h1,h2⟩:=ordFrom_mem o _ (by simpa using hs) h
   have hx0:0 <= x /\ x < n:=by omega
   refine ⟨fun y hy => ?_,List.nodup_cons.2 ⟨fun hm => ?_,h2⟩⟩
   ·rcases List.mem_cons.1 hy with rfl | hy
    ·refine ⟨hx0.1,hx0.2,?_⟩
     cases hb:sn.getD y.toNat default with
     | false => rfl
     | true => exact absurd (.inr hb) hx
    ·obtain ⟨k1,k2,k3⟩:=h1 y hy
     refine ⟨k1,k2,?_⟩
     rw [List.getD_eq_getElem?_getD,List.getElem?_set] at k3
     split at k3
     ·split at k3
      ·simp at k3
      ·rename_i e1 e2;omega
     ·rwa [List.getD_eq_getElem?_getD]
   ·obtain ⟨k1,k2,k3⟩:=h1 x hm
    rw [List.getD_eq_getElem?_getD,List.getElem?_set_self (by omega)] at k3
    simp at k3
theorem isOrd_facts {o:List Int} {n:Int} (h:Sp.isOrd o n = true):(o.length:Int) = n /\ (∀ x ∈ o,0 <= x /\ x < n) /\ o.Nodup /\ (n > 0 -> o.getD 0 default = 0):=by
 unfold Sp.isOrd at h
 split at h
 ·simp at h
 ·rename_i hn
  obtain ⟨h1,h2⟩:=ordFrom_mem o _ (by simp;omega) h
  refine ⟨by omega,fun x hx => ⟨(h1 x hx).1,(h1 x hx).2.1⟩,h2,fun h0 => ?_⟩
  by_cases he:o.getD 0 default = 0
  ·exact he
  ·exact absurd (.inr ⟨h0,he⟩) hn
end Go.Av

namespace Go.Av
open Go.Proofs
set_option maxRecDepth 100000
def fi70:Fi:=⟨32,[.tmp 4]⟩
def kp70:List (Nat × List Nat):=[(0,[0,1]),(1,[0,1,5]),(2,[0,1,5,6]),(3,[0,1,5,6,10]),(4,[0,1,5,6]),(5,[0,1,5,6]),(6,[4])]
def tv30_at (fl fm:Bool) (gs:List G2) (o:List Int) (Q:AV -> Heap -> Prop):Prop:=Wp M1 (.run fi70 (atC (cd Try.f70) []) [(0,.vec fl 2 (gs.map G2.a)),(1,.vec fm 1 (o.map (.int .i64)))] []) Q
def tv30a_at (fl fm:Bool) (gs:List G2) (o:List Int) (s i:Int) (Q:AV -> Heap -> Prop):Prop:=Wp M1 (.run fi70 (atC (cd Try.f70) [1,1,0,1,0,0]) [(0,.vec fl 2 (gs.map G2.a)),(1,.vec fm 1 (o.map (.int .i64))),(5,.int .i64 s),(6,.int .i64 i)] []) Q
theorem call70 {args:List AV} {d:AV} (h:wc M1 fi70 Try.f70 args d):Ev M1 (.pure 70 args) d []:=pcl _ _ (by kernel_rfl) h
theorem tv30 (fl fm:Bool) (gs:List G2) (o:List Int)  (dq:AV) (H :
  tv30a_at (fl) (fm) (gs) (o) (0) (1) (PureQ dq)) :
 tv30_at fl fm gs o (PureQ dq):=by
 unfold tv30_at
 exact path_wp (G:=given kp70 [] []) 1000 [] ⟨(atC (cd Try.f70) [1,1,0,1,0,0]),[(0,AV.vec fl 2 (List.map G2.a gs)),(1,AV.vec fm 1 (List.map (AV.int IntKind.i64) o)),(5,AV.int IntKind.i64 0),(6,AV.int IntKind.i64 1)],[],[],[],[]⟩ (by kernel_rfl) allB_nil allP_nil allC_nil (H)
theorem tv30a (fl fm:Bool) (gs:List G2) (o:List Int) (s i:Int)  (dq:AV) (H :
  ((i < (↑o.length:Int)) -> (-9223372036854775808 <= i - 1 /\ i - 1 <= 9223372036854775807) /\
   (Sp.inM (gs.getD (o.getD (i - 1).toNat default).toNat default).x /\ Sp.inM (gs.getD (o.getD (i - 1).toNat default).toNat default).y /\ Sp.inM (gs.getD (o.getD i.toNat default).toNat default).x /\ Sp.inM (gs.getD (o.getD i.toNat default).toNat default).y) /\
   (0 <= i - 1) /\
   ((i - 1).toNat < o.length) /\
   (0 <= o.getD (i - 1).toNat default) /\
   ((o.getD (i - 1).toNat default).toNat < gs.length) /\
   (0 <= i) /\
   (i.toNat < o.length) /\
   (0 <= o.getD i.toNat default) /\
   ((o.getD i.toNat default).toNat < gs.length) /\
   (-9223372036854775808 <= s + Sp.dist (gs.getD (o.getD (i - 1).toNat default).toNat default).x (gs.getD (o.getD (i - 1).toNat default).toNat default).y (gs.getD (o.getD i.toNat default).toNat default).x (gs.getD (o.getD i.toNat default).toNat default).y /\ s + Sp.dist (gs.getD (o.getD (i - 1).toNat default).toNat default).x (gs.getD (o.getD (i - 1).toNat default).toNat default).y (gs.getD (o.getD i.toNat default).toNat default).x (gs.getD (o.getD i.toNat default).toNat default).y <= 9223372036854775807) /\
   (-9223372036854775808 <= i + 1 /\ i + 1 <= 9223372036854775807) /\
   tv30a_at (fl) (fm) (gs) (o) (s + Sp.dist (gs.getD (o.getD (i - 1).toNat default).toNat default).x (gs.getD (o.getD (i - 1).toNat default).toNat default).y (gs.getD (o.getD i.toNat default).toNat default).x (gs.getD (o.getD i.toNat default).toNat default).y) (i + 1) (PureQ dq)) /\
  (¬(i < (↑o.length:Int)) -> AV.int IntKind.i64 s = dq)) :
 tv30a_at fl fm gs o s i (PureQ dq):=by
 unfold tv30a_at
 have w1:(List.map (AV.int IntKind.i64) o).length = o.length:=List.length_map ..
 have i2:(decide (i < (↑(List.map (AV.int IntKind.i64) o).length:Int))) = true ↔ (i < (↑o.length:Int)):=(by (try rw [w1]);all_goals exact i_dec)
 rcases Classical.em (i < (↑o.length:Int)) with d3 | d3
 ·have H:=H.1 d3
  have k4:=H.1;have H:=H.2
  have w5:IntKind.i64.wrap (i - 1) = i - 1:=wI64 k4
  have k6:=H.1;have H:=H.2
  have i7:(decide (0 <= IntKind.i64.wrap (i - 1))) = true ↔ (0 <= i - 1):=(by (try rw [w5]);all_goals exact i_dec)
  have k8:=H.1;have H:=H.2
  have i9:(decide ((IntKind.i64.wrap (i - 1)).toNat < (List.map (AV.int IntKind.i64) o).length)) = true ↔ ((i - 1).toNat < o.length):=(by (try rw [w1]);(try rw [w5]);all_goals exact i_dec)
  have k10:=H.1;have H:=H.2
  have i11:(decide (0 <= o.getD (i - 1).toNat default)) = true ↔ (0 <= o.getD (i - 1).toNat default):=i_dec
  have k12:=H.1;have H:=H.2
  have w13:(List.map G2.a gs).length = gs.length:=List.length_map ..
  have i14:(decide ((o.getD (i - 1).toNat default).toNat < (List.map G2.a gs).length)) = true ↔ ((o.getD (i - 1).toNat default).toNat < gs.length):=(by (try rw [w13]);all_goals exact i_dec)
  have k15:=H.1;have H:=H.2
  have i16:(decide (0 <= i)) = true ↔ (0 <= i):=i_dec
  have k17:=H.1;have H:=H.2
  have i18:(decide (i.toNat < (List.map (AV.int IntKind.i64) o).length)) = true ↔ (i.toNat < o.length):=(by (try rw [w1]);all_goals exact i_dec)
  have k19:=H.1;have H:=H.2
  have i20:(decide (0 <= o.getD i.toNat default)) = true ↔ (0 <= o.getD i.toNat default):=i_dec
  have k21:=H.1;have H:=H.2
  have i22:(decide ((o.getD i.toNat default).toNat < (List.map G2.a gs).length)) = true ↔ ((o.getD i.toNat default).toNat < gs.length):=(by (try rw [w13]);all_goals exact i_dec)
  have k23:=H.1;have H:=H.2
  have k24:=H.1;have H:=H.2
  have w25:IntKind.i64.wrap (s + Sp.dist (gs.getD (o.getD (i - 1).toNat default).toNat default).x (gs.getD (o.getD (i - 1).toNat default).toNat default).y (gs.getD (o.getD i.toNat default).toNat default).x (gs.getD (o.getD i.toNat default).toNat default).y) = s + Sp.dist (gs.getD (o.getD (i - 1).toNat default).toNat default).x (gs.getD (o.getD (i - 1).toNat default).toNat default).y (gs.getD (o.getD i.toNat default).toNat default).x (gs.getD (o.getD i.toNat default).toNat default).y:=wI64 k24
  have k26:=H.1;have H:=H.2
  have w27:IntKind.i64.wrap (i + 1) = i + 1:=wI64 k26
  exact path_wp (G:=given kp70 [(5,6,.elem (AV.int IntKind.i64 (o.getD (i - 1).toNat default))),(5,8,.elem (AV.agg [AV.int IntKind.i64 (gs.getD (o.getD (i - 1).toNat default).toNat default).x,AV.int IntKind.i64 (gs.getD (o.getD (i - 1).toNat default).toNat default).y])),(5,13,.elem (AV.int IntKind.i64 (o.getD i.toNat default))),(5,15,.elem (AV.agg [AV.int IntKind.i64 (gs.getD (o.getD i.toNat default).toNat default).x,AV.int IntKind.i64 (gs.getD (o.getD i.toNat default).toNat default).y])),(5,16,.call (AV.int IntKind.i64 (Sp.dist (gs.getD (o.getD (i - 1).toNat default).toNat default).x (gs.getD (o.getD (i - 1).toNat default).toNat default).y (gs.getD (o.getD i.toNat default).toNat default).x (gs.getD (o.getD i.toNat default).toNat default).y)) none)] []) 1000 [true] ⟨(atC (cd Try.f70) [1,1,0,1,0,0]),[(0,AV.vec fl 2 (List.map G2.a gs)),(1,AV.vec fm 1 (List.map (AV.int IntKind.i64) o)),(5,AV.int IntKind.i64 (IntKind.i64.wrap (s + Sp.dist (gs.getD (o.getD (i - 1).toNat default).toNat default).x (gs.getD (o.getD (i - 1).toNat default).toNat default).y (gs.getD (o.getD i.toNat default).toNat default).x (gs.getD (o.getD i.toNat default).toNat default).y))),(6,AV.int IntKind.i64 (IntKind.i64.wrap (i + 1)))],[],[(decide (i < (↑(List.map (AV.int IntKind.i64) o).length:Int))) == true,decide (0 <= IntKind.i64.wrap (i - 1)),decide ((IntKind.i64.wrap (i - 1)).toNat < (List.map (AV.int IntKind.i64) o).length),decide (0 <= o.getD (i - 1).toNat default),decide ((o.getD (i - 1).toNat default).toNat < (List.map G2.a gs).length),decide (0 <= i),decide (i.toNat < (List.map (AV.int IntKind.i64) o).length),decide (0 <= o.getD i.toNat default),decide ((o.getD i.toNat default).toNat < (List.map G2.a gs).length)],[((List.map (AV.int IntKind.i64) o).get?Internal (IntKind.i64.wrap (i - 1)).toNat = some (AV.int IntKind.i64 (o.getD (i - 1).toNat default))),((List.map G2.a gs).get?Internal (o.getD (i - 1).toNat default).toNat = some (AV.agg [AV.int IntKind.i64 (gs.getD (o.getD (i - 1).toNat default).toNat default).x,AV.int IntKind.i64 (gs.getD (o.getD (i - 1).toNat default).toNat default).y])),((List.map (AV.int IntKind.i64) o).get?Internal i.toNat = some (AV.int IntKind.i64 (o.getD i.toNat default))),((List.map G2.a gs).get?Internal (o.getD i.toNat default).toNat = some (AV.agg [AV.int IntKind.i64 (gs.getD (o.getD i.toNat default).toNat default).x,AV.int IntKind.i64 (gs.getD (o.getD i.toNat default).toNat default).y]))],[⟨true,false,61,[AV.agg [AV.int IntKind.i64 (gs.getD (o.getD (i - 1).toNat default).toNat default).x,AV.int IntKind.i64 (gs.getD (o.getD (i - 1).toNat default).toNat default).y],AV.agg [AV.int IntKind.i64 (gs.getD (o.getD i.toNat default).toNat default).x,AV.int IntKind.i64 (gs.getD (o.getD i.toNat default).toNat default).y]],[],AV.int IntKind.i64 (Sp.dist (gs.getD (o.getD (i - 1).toNat default).toNat default).x (gs.getD (o.getD (i - 1).toNat default).toNat default).y (gs.getD (o.getD i.toNat default).toNat default).x (gs.getD (o.getD i.toNat default).toNat default).y),[]⟩]⟩ (by kernel_rfl) (allB_cons (beq_t (i2.2 d3)) (allB_cons (i7.2 k8) (allB_cons (i9.2 k10) (allB_cons (i11.2 k12) (allB_cons (i14.2 k15) (allB_cons (i16.2 k17) (allB_cons (i18.2 k19) (allB_cons (i20.2 k21) (allB_cons (i22.2 k23) allB_nil))))))))) (allP_cons (by (try rw [w5]);all_goals exact (el_map k10)) (allP_cons (el_map k15) (allP_cons (el_map k19) (allP_cons (el_map k23) allP_nil)))) (allC_cons (fun _ => ((@ev61 ((gs.getD (o.getD (i - 1).toNat default).toNat default).x) ((gs.getD (o.getD (i - 1).toNat default).toNat default).y) ((gs.getD (o.getD i.toNat default).toNat default).x) ((gs.getD (o.getD i.toNat default).toNat default).y) k6):Ev M1 (Conf.pure 61 [AV.agg [AV.int IntKind.i64 (gs.getD (o.getD (i - 1).toNat default).toNat default).x,AV.int IntKind.i64 (gs.getD (o.getD (i - 1).toNat default).toNat default).y],AV.agg [AV.int IntKind.i64 (gs.getD (o.getD i.toNat default).toNat default).x,AV.int IntKind.i64 (gs.getD (o.getD i.toNat default).toNat default).y]]) (AV.int IntKind.i64 (Sp.dist (gs.getD (o.getD (i - 1).toNat default).toNat default).x (gs.getD (o.getD (i - 1).toNat default).toNat default).y (gs.getD (o.getD i.toNat default).toNat default).x (gs.getD (o.getD i.toNat default).toNat default).y)) [])) allC_nil) (by (try rw [w25]);(try rw [w27]);all_goals exact H)
 ·have H:=H.2 d3
  exact path_ret (G:=given kp70 [] []) 1000 [false] (k:=((atC (cd Try.f70) [1,1,1,1])).tail) (env':=[(4,AV.int IntKind.i64 s)]) (L':=[]) (asm:=[(decide (i < (↑(List.map (AV.int IntKind.i64) o).length:Int))) == false]) (eqs:=[]) (calls:=[]) (AV.int IntKind.i64 s) (by kernel_rfl) (by kernel_rfl) (allB_cons (beq_f (fun h => d3 (i2.1 h))) allB_nil) allP_nil allC_nil (pq_of (d:=(AV.int IntKind.i64 s)) (bs:=[]) (by kernel_rfl) (by kernel_rfl) allB_nil (by kernel_rfl) H)
end Go.Av

namespace Go.Av
open Go.Proofs
namespace Sp
def dAt (gs:List G2) (i j:Int):Int:=dist (gs.getD i.toNat default).x (gs.getD i.toNat default).y (gs.getD j.toNat default).x (gs.getD j.toNat default).y
def way (gs:List G2):List Int -> Int
 | [] => 0
 | [_] => 0
 | x :: y :: o => dAt gs x y + way gs (y :: o)
def okG (gs:List G2):Prop:=∀ g ∈ gs,inM g.x /\ inM g.y
def okO (gs:List G2) (o:List Int):Prop:=∀ x ∈ o,0 <= x /\ x < gs.length
end Sp
theorem dist_le {ax ay bx by_:Int} (h:Sp.inM ax /\ Sp.inM ay /\ Sp.inM bx /\ Sp.inM by_):0 <= Sp.dist ax ay bx by_ /\ Sp.dist ax ay bx by_ <= 20000000:=by
 simp only [Sp.inM] at h
 unfold Sp.dist Sp.gap
 (repeat' split) <;> omega
theorem okG_at {gs:List G2} (h:Sp.okG gs) (k:Nat):Sp.inM (gs.getD k default).x /\ Sp.inM (gs.getD k default).y:=by
 by_cases hk:k < gs.length
 ·exact h _ (getD_mem hk)
 ·have:gs.getD k default = default:=by simp [List.getD_eq_getElem?_getD,List.getElem?_eq_none (by omega:gs.length <= k)]
  rw [this]
  exact ⟨by show Sp.inM 0;simp [Sp.inM],by show Sp.inM 0;simp [Sp.inM]⟩
theorem dAt_le {gs:List G2} (h:Sp.okG gs) (i j:Int):0 <= Sp.dAt gs i j /\ Sp.dAt gs i j <= 20000000:=
 dist_le ⟨(okG_at h _).1,(okG_at h _).2,(okG_at h _).1,(okG_at h _).2⟩
theorem check_okG {gs:List G2} {m:Int} (h:Sp.checkE gs m = 0):Sp.okG gs /\ (gs.length:Int) <= m:=by
 unfold Sp.checkE at h
 split at h
 ·simp at h
 ·split at h
  ·simp at h
  ·rename_i h1 h2
   refine ⟨fun g hg => ?_,by omega⟩
   have hb:¬Sp.badG g = true:=fun k => h2 (List.any_eq_true.2 ⟨g,hg,k⟩)
   simp only [Sp.badG,Bool.or_eq_true,decide_eq_true_eq,not_or] at hb
   exact ⟨⟨by omega,by omega⟩,⟨by omega,by omega⟩⟩
theorem way_le {gs:List G2} (h:Sp.okG gs):∀ (o:List Int),0 <= Sp.way gs o /\ Sp.way gs o <= 20000000 * o.length
 | [] => by simp [Sp.way]
 | [_] => by simp [Sp.way]
 | x :: y :: o => by
  have h1:=way_le h (y :: o)
  have h2:=dAt_le h x y
  simp only [Sp.way,List.length_cons] at *
  omega
theorem loop30 {fl fm:Bool} {gs:List G2} {o:List Int} {dq:AV} (hg:Sp.okG gs) (ho:Sp.okO gs o) (hl:o.length <= 1000):∀ (k i:Nat) (s:Int),i + 1 + k = o.length -> 0 <= s -> s + 20000000 * k <= 20000000000 -> AV.int .i64 (s + Sp.way gs (o.drop i)) = dq -> tv30a_at fl fm gs o s (i + 1:Nat) (PureQ dq):=by
 intro k
 induction k with
 | zero =>
  intro i s hi h0 h1 hq
  rw [drop_getD (show i < o.length by omega),List.drop_eq_nil_of_le (by omega),Sp.way,Int.add_zero] at hq
  exact tv30a _ _ _ _ _ _ _ ⟨fun h => by omega,fun _ => hq⟩
 | succ k ih =>
  intro i s hi h0 h1 hq
  rw [drop_getD (show i < o.length by omega),drop_getD (show i + 1 < o.length by omega),Sp.way,<- drop_getD (show i + 1 < o.length by omega)] at hq
  have m1:=ho _ (getD_mem (show i < o.length by omega))
  have m2:=ho _ (getD_mem (show i + 1 < o.length by omega))
  have hd:=dAt_le hg (o.getD i default) (o.getD (i + 1) default)
  have e1:(((i + 1:Nat):Int) - 1).toNat = i:=by omega
  refine tv30a _ _ _ _ _ _ _ ⟨fun _ => ?_,fun h => by omega⟩
  rw [e1,Int.toNat_natCast]
  refine ⟨by omega,⟨(okG_at hg _).1,(okG_at hg _).2,(okG_at hg _).1,(okG_at hg _).2⟩,by omega,by omega,m1.1,by omega,by omega,by omega,m2.1,by omega,?_,by omega,?_⟩
  ·show -9223372036854775808 <= s + Sp.dAt gs (o.getD i default) (o.getD (i + 1) default) /\ s + Sp.dAt gs (o.getD i default) (o.getD (i + 1) default) <= 9223372036854775807
   omega
  ·have:=ih (i + 1) (s + Sp.dAt gs (o.getD i default) (o.getD (i + 1) default)) (by omega) (by omega) (by omega) (by rw [<- hq,Int.add_assoc])
   exact this
theorem ev70 (fl fm:Bool) (gs:List G2) (o:List Int) (hg:Sp.okG gs) (ho:Sp.okO gs o) (hl:o.length <= 1000):Ev M1 (.pure 70 [gsA fl gs,isA fm o]) (.int .i64 (Sp.way gs o)) []:=by
 refine call70 (tv30 fl fm gs o _ ?_)
 cases o with
 | nil => exact tv30a _ _ _ _ _ _ _ ⟨fun h => by simp at h,fun _ => rfl⟩
 | cons x o => exact loop30 hg ho hl o.length 0 0 (by simp;omega) (by omega) (by simp at hl;omega) (by simp)
end Go.Av

namespace Go.Av
open Go.Proofs
set_option maxRecDepth 100000
def fi32:Fi:=⟨65,[.tmp 2]⟩
def kp32:List (Nat × List Nat):=[(0,[0]),(1,[0,3]),(2,[0,3,4]),(3,[0,3,4,5]),(4,[0,3,4,5,19]),(5,[0,3,4,5]),(6,[0,3,4,5,6]),(7,[0,3,4,5,6,27,28,29]),(8,[0,3,4,5,6,27,28,29,30]),(9,[0,3,4,5,6,7,8,27,28,29]),(10,[0,3,4,5,6,7,27,28,29,60]),(11,[0,3,4,5,6,27,28,29]),(12,[0,3,4,5,6,27,28,29]),(13,[0,3,4,5]),(14,[2])]
def tv17_at (fl:Bool) (gs:List G2) (Q:AV -> Heap -> Prop):Prop:=Wp M1 (.run fi32 (atC (cd Try.f32) []) [(0,.vec fl 2 (gs.map G2.a))] []) Q
def tv17z_at (fl:Bool) (gs:List G2) (dn:List Bool) (at_:Int) (Q:AV -> Heap -> Prop):Prop:=Wp M1 (.run fi32 (atC (cd Try.f32) [1,1,1,0,1,0,0]) [(0,.vec fl 2 (gs.map G2.a)),(3,.vnil),(4,.row 0 0),(5,.int .i64 at_)] [⟨dn.map .bool,1,0,false,true⟩]) Q
def tv17a_at (fl:Bool) (gs:List G2) (dn:List Bool) (at_:Int) (o:List Int) (v:Nat) (Q:AV -> Heap -> Prop):Prop:=Wp M1 (.run fi32 (atC (cd Try.f32) [1,1,1,0,1,0,0]) [(0,.vec fl 2 (gs.map G2.a)),(3,.row 0 v),(4,.row 1 0),(5,.int .i64 at_)] [⟨o.map (.int .i64),1,v,false,true⟩,⟨dn.map .bool,1,0,false,true⟩]) Q
def tv17b_at (fl:Bool) (gs:List G2) (dn:List Bool) (at_ nx n i:Int) (o:List Int) (v:Nat) (Q:AV -> Heap -> Prop):Prop:=Wp M1 (.run fi32 (atC (cd Try.f32) [1,1,1,0,1,0,0,1,0,1,1,0,1,0,0]) [(0,.vec fl 2 (gs.map G2.a)),(3,.row 0 v),(4,.row 1 0),(5,.int .i64 at_),(6,.int .i64 nx),(27,.vec fl 2 (gs.map G2.a)),(28,.int .i64 n),(29,.int .i64 i)] [⟨o.map (.int .i64),1,v,false,true⟩,⟨dn.map .bool,1,0,false,true⟩]) Q
theorem call32 {args:List AV} {d:AV} (h:wc M1 fi32 Try.f32 args d):Ev M1 (.pure 32 args) d []:=pcl _ _ (by kernel_rfl) h
theorem tv17 (fl:Bool) (gs:List G2)  (dq:AV) (H :
  (0 <= (↑gs.length:Int)) /\
  ((↑gs.length:Int) * 1 <= 1099511627776) /\
  ((↑gs.length:Int) <= 1099511627776) /\
  tv17z_at (fl) (gs) (List.replicate (↑gs.length:Int).toNat false) (0) (PureQ dq)) :
 tv17_at fl gs (PureQ dq):=by
 unfold tv17_at
 have w1:(List.map G2.a gs).length = gs.length:=List.length_map ..
 have i2:(decide (0 <= (↑(List.map G2.a gs).length:Int))) = true ↔ (0 <= (↑gs.length:Int)):=(by (try rw [w1]);all_goals exact i_dec)
 have k3:=H.1;have H:=H.2
 have i4:(decide ((↑(List.map G2.a gs).length:Int) <= (↑(List.map G2.a gs).length:Int))) = true ↔ ((↑gs.length:Int) <= (↑gs.length:Int)):=(by (try rw [w1]);all_goals exact i_dec)
 have i5:(decide ((↑(List.map G2.a gs).length:Int) * 1 <= 1099511627776)) = true ↔ ((↑gs.length:Int) * 1 <= 1099511627776):=(by (try rw [w1]);all_goals exact i_dec)
 have k6:=H.1;have H:=H.2
 have i7:(decide ((↑(List.map G2.a gs).length:Int) <= 1099511627776)) = true ↔ ((↑gs.length:Int) <= 1099511627776):=(by (try rw [w1]);all_goals exact i_dec)
 have k8:=H.1;have H:=H.2
 have w9:List.replicate (↑gs.length:Int).toNat (AV.bool false) = List.map AV.bool (List.replicate (↑gs.length:Int).toNat false):=(lm_rep rfl)
 exact path_wp (G:=given kp32 [] []) 1000 [] ⟨(atC (cd Try.f32) [1,1,1,0,1,0,0]),[(0,AV.vec fl 2 (List.map G2.a gs)),(3,AV.vnil),(4,AV.row 0 0),(5,AV.int IntKind.i64 0)],[{ elems:=List.replicate (↑(List.map G2.a gs).length:Int).toNat (AV.bool false),es:=1,ver:=0,frozen:=false,clean:=true }],[decide (0 <= (↑(List.map G2.a gs).length:Int)),decide ((↑(List.map G2.a gs).length:Int) <= (↑(List.map G2.a gs).length:Int)),decide ((↑(List.map G2.a gs).length:Int) * 1 <= 1099511627776),decide ((↑(List.map G2.a gs).length:Int) <= 1099511627776)],[],[]⟩ (by kernel_rfl) (allB_cons (i2.2 k3) (allB_cons (i4.2 (by omega)) (allB_cons (i5.2 k6) (allB_cons (i7.2 k8) allB_nil)))) allP_nil allC_nil (by (try rw [w1]);(try rw [w9]);all_goals exact H)
theorem tv17z (fl:Bool) (gs:List G2) (dn:List Bool) (at_:Int)  (dq:AV) (H :
  (((at_ >= 0) /\ (at_ < (↑gs.length:Int))) -> (0 <= at_) /\
   (at_.toNat < dn.length) /\
   tv17b_at (fl) (gs) (dn.set at_.toNat true) (at_) (-1) ((↑gs.length:Int)) (0) ([at_]) (0) (PureQ dq)) /\
  (¬((at_ >= 0) /\ (at_ < (↑gs.length:Int))) -> Weak (AV.vnil) dq)) :
 tv17z_at fl gs dn at_ (PureQ dq):=by
 unfold tv17z_at
 have w1:(List.map G2.a gs).length = gs.length:=List.length_map ..
 have i2:(bif decide (at_ >= 0) then decide (at_ < (↑(List.map G2.a gs).length:Int)) else false) = true ↔ ((at_ >= 0) /\ (at_ < (↑gs.length:Int))):=(by (try rw [w1]);all_goals exact (i_band i_dec i_dec))
 rcases Classical.em ((at_ >= 0) /\ (at_ < (↑gs.length:Int))) with d3 | d3
 ·have H:=H.1 d3
  have i4:(decide (0 <= at_)) = true ↔ (0 <= at_):=i_dec
  have k5:=H.1;have H:=H.2
  have w6:(List.map AV.bool dn).length = dn.length:=List.length_map ..
  have i7:(decide (at_.toNat < (List.map AV.bool dn).length)) = true ↔ (at_.toNat < dn.length):=(by (try rw [w6]);all_goals exact i_dec)
  have k8:=H.1;have H:=H.2
  have w9:(List.map AV.bool dn).set at_.toNat (AV.bool true) = List.map AV.bool (dn.set at_.toNat true):=(lm_set rfl rfl)
  have w10:[AV.int IntKind.i64 at_] = List.map (AV.int IntKind.i64) [at_]:=rfl
  exact path_wp (G:=given kp32 [(5,8,.elem (AV.bool (dn.getD at_.toNat default)))] []) 1000 [true] ⟨(atC (cd Try.f32) [1,1,1,0,1,0,0,1,0,1,1,0,1,0,0]),[(0,AV.vec fl 2 (List.map G2.a gs)),(3,AV.row 1 0),(4,AV.row 0 0),(5,AV.int IntKind.i64 at_),(6,AV.int IntKind.i64 (-1)),(27,AV.vec fl 2 (List.map G2.a gs)),(28,AV.int IntKind.i64 (↑(List.map G2.a gs).length:Int)),(29,AV.int IntKind.i64 0)],[{ elems:=(List.map AV.bool dn).set at_.toNat (AV.bool true),es:=1,ver:=0,frozen:=false,clean:=true },{ elems:=[AV.int IntKind.i64 at_],es:=1,ver:=0,frozen:=false,clean:=true }],[(bif decide (at_ >= 0) then decide (at_ < (↑(List.map G2.a gs).length:Int)) else false) == true,true,true,decide (0 <= at_),decide (at_.toNat < (List.map AV.bool dn).length),true],[((List.map AV.bool dn).get?Internal at_.toNat = some (AV.bool (dn.getD at_.toNat default)))],[]⟩ (by kernel_rfl) (allB_cons (beq_t (i2.2 d3)) (allB_cons rfl (allB_cons rfl (allB_cons (i4.2 k5) (allB_cons (i7.2 k8) (allB_cons rfl allB_nil)))))) (allP_cons (el_map k8) allP_nil) allC_nil (by (try rw [w1]);(try rw [w9]);(try rw [w10]);all_goals exact wp_narrow [1,0] (by kernel_rfl) H)
 ·have H:=H.2 d3
  exact path_ret (G:=given kp32 [] []) 1000 [false] (k:=((atC (cd Try.f32) [1,1,1,1,1])).tail) (env':=[(2,AV.vnil)]) (L':=[{ elems:=List.map AV.bool dn,es:=1,ver:=0,frozen:=false,clean:=true }]) (asm:=[(bif decide (at_ >= 0) then decide (at_ < (↑(List.map G2.a gs).length:Int)) else false) == false]) (eqs:=[]) (calls:=[]) (AV.vnil) (by kernel_rfl) (by kernel_rfl) (allB_cons (beq_f (fun h => d3 (i2.1 h))) allB_nil) allP_nil allC_nil (pq_weak (d:=(AV.vnil)) (bs:=[]) (by kernel_rfl) (by kernel_rfl) allB_nil (by kernel_rfl) H)
theorem tv17a (fl:Bool) (gs:List G2) (dn:List Bool) (at_:Int) (o:List Int) (v:Nat)  (dq:AV) (H :
  (((at_ >= 0) /\ (at_ < (↑gs.length:Int))) -> ((o.length + 1) * 8 <= 1099511627776) /\
   (0 <= at_) /\
   (at_.toNat < dn.length) /\
   tv17b_at (fl) (gs) (dn.set at_.toNat true) (at_) (-1) ((↑gs.length:Int)) (0) (o ++ [at_]) (v + 1) (PureQ dq)) /\
  (¬((at_ >= 0) /\ (at_ < (↑gs.length:Int))) -> Weak (AV.vec false 1 (List.map (AV.int IntKind.i64) o)) dq)) :
 tv17a_at fl gs dn at_ o v (PureQ dq):=by
 unfold tv17a_at
 have w1:(List.map G2.a gs).length = gs.length:=List.length_map ..
 have i2:(bif decide (at_ >= 0) then decide (at_ < (↑(List.map G2.a gs).length:Int)) else false) = true ↔ ((at_ >= 0) /\ (at_ < (↑gs.length:Int))):=(by (try rw [w1]);all_goals exact (i_band i_dec i_dec))
 rcases Classical.em ((at_ >= 0) /\ (at_ < (↑gs.length:Int))) with d3 | d3
 ·have H:=H.1 d3
  have w4:(List.map (AV.int IntKind.i64) o).length = o.length:=List.length_map ..
  have i5:(decide (((List.map (AV.int IntKind.i64) o).length + 1) * 8 <= 1099511627776)) = true ↔ ((o.length + 1) * 8 <= 1099511627776):=(by (try rw [w4]);all_goals exact i_dec)
  have k6:=H.1;have H:=H.2
  have i7:(decide (0 <= at_)) = true ↔ (0 <= at_):=i_dec
  have k8:=H.1;have H:=H.2
  have w9:(List.map AV.bool dn).length = dn.length:=List.length_map ..
  have i10:(decide (at_.toNat < (List.map AV.bool dn).length)) = true ↔ (at_.toNat < dn.length):=(by (try rw [w9]);all_goals exact i_dec)
  have k11:=H.1;have H:=H.2
  have w12:List.map (AV.int IntKind.i64) o ++ [AV.int IntKind.i64 at_] = List.map (AV.int IntKind.i64) (o ++ [at_]):=(lm_app rfl rfl)
  have w13:(List.map AV.bool dn).set at_.toNat (AV.bool true) = List.map AV.bool (dn.set at_.toNat true):=(lm_set rfl rfl)
  exact path_wp (G:=given kp32 [(5,8,.elem (AV.bool (dn.getD at_.toNat default)))] []) 1000 [true] ⟨(atC (cd Try.f32) [1,1,1,0,1,0,0,1,0,1,1,0,1,0,0]),[(0,AV.vec fl 2 (List.map G2.a gs)),(3,AV.row 0 (v + 1)),(4,AV.row 1 0),(5,AV.int IntKind.i64 at_),(6,AV.int IntKind.i64 (-1)),(27,AV.vec fl 2 (List.map G2.a gs)),(28,AV.int IntKind.i64 (↑(List.map G2.a gs).length:Int)),(29,AV.int IntKind.i64 0)],[{ elems:=List.map (AV.int IntKind.i64) o ++ [AV.int IntKind.i64 at_],es:=1,ver:=v + 1,frozen:=false,clean:=true },{ elems:=(List.map AV.bool dn).set at_.toNat (AV.bool true),es:=1,ver:=0,frozen:=false,clean:=true }],[(bif decide (at_ >= 0) then decide (at_ < (↑(List.map G2.a gs).length:Int)) else false) == true,v == v,decide (((List.map (AV.int IntKind.i64) o).length + 1) * 8 <= 1099511627776),true,decide (0 <= at_),decide (at_.toNat < (List.map AV.bool dn).length),true],[((List.map AV.bool dn).get?Internal at_.toNat = some (AV.bool (dn.getD at_.toNat default)))],[]⟩ (by kernel_rfl) (allB_cons (beq_t (i2.2 d3)) (allB_cons (beq_self_eq_true _) (allB_cons (i5.2 k6) (allB_cons rfl (allB_cons (i7.2 k8) (allB_cons (i10.2 k11) (allB_cons rfl allB_nil))))))) (allP_cons (el_map k11) allP_nil) allC_nil (by (try rw [w1]);(try rw [w12]);(try rw [w13]);all_goals exact H)
 ·have H:=H.2 d3
  exact path_ret (G:=given kp32 [] []) 1000 [false] (k:=((atC (cd Try.f32) [1,1,1,1,1])).tail) (env':=[(2,AV.row 0 v)]) (L':=[{ elems:=List.map (AV.int IntKind.i64) o,es:=1,ver:=v,frozen:=false,clean:=true },{ elems:=List.map AV.bool dn,es:=1,ver:=0,frozen:=false,clean:=true }]) (asm:=[(bif decide (at_ >= 0) then decide (at_ < (↑(List.map G2.a gs).length:Int)) else false) == false]) (eqs:=[]) (calls:=[]) (AV.row 0 v) (by kernel_rfl) (by kernel_rfl) (allB_cons (beq_f (fun h => d3 (i2.1 h))) allB_nil) allP_nil allC_nil (pq_weak (d:=(AV.vec false 1 (List.map (AV.int IntKind.i64) o))) (bs:=[v == v]) (by kernel_rfl) (by kernel_rfl) (allB_cons (beq_self_eq_true _) allB_nil) (by kernel_rfl) H)
theorem tv17b (fl:Bool) (gs:List G2) (dn:List Bool) (at_ nx n i:Int) (o:List Int) (v:Nat)  (dq:AV) (H :
  ((i < n) -> (0 <= i) /\
   (i.toNat < gs.length) /\
   (((¬(nx < 0)) /\ (¬(dn.getD i.toNat default = true))) -> (Sp.inM (gs.getD at_.toNat default).x /\ Sp.inM (gs.getD at_.toNat default).y /\ Sp.inM (gs.getD i.toNat default).x /\ Sp.inM (gs.getD i.toNat default).y)) /\
   (((¬(nx < 0)) /\ (¬(dn.getD i.toNat default = true))) -> (Sp.inM (gs.getD at_.toNat default).x /\ Sp.inM (gs.getD at_.toNat default).y /\ Sp.inM (gs.getD nx.toNat default).x /\ Sp.inM (gs.getD nx.toNat default).y)) /\
   (i.toNat < dn.length) /\
   (((¬(nx < 0)) /\ (¬(dn.getD i.toNat default = true))) -> (0 <= at_)) /\
   (((¬(nx < 0)) /\ (¬(dn.getD i.toNat default = true))) -> (at_.toNat < gs.length)) /\
   (((¬(nx < 0)) /\ (¬(dn.getD i.toNat default = true))) -> (0 <= nx)) /\
   (((¬(nx < 0)) /\ (¬(dn.getD i.toNat default = true))) -> (nx.toNat < gs.length)) /\
   (((¬(dn.getD i.toNat default = true)) /\ ((nx < 0) \/ (Sp.dist (gs.getD at_.toNat default).x (gs.getD at_.toNat default).y (gs.getD i.toNat default).x (gs.getD i.toNat default).y < Sp.dist (gs.getD at_.toNat default).x (gs.getD at_.toNat default).y (gs.getD nx.toNat default).x (gs.getD nx.toNat default).y))) -> (-9223372036854775808 <= i + 1 /\ i + 1 <= 9223372036854775807) /\
    tv17b_at (fl) (gs) (dn) (at_) (i) (n) (i + 1) (o) (v) (PureQ dq)) /\
   (¬((¬(dn.getD i.toNat default = true)) /\ ((nx < 0) \/ (Sp.dist (gs.getD at_.toNat default).x (gs.getD at_.toNat default).y (gs.getD i.toNat default).x (gs.getD i.toNat default).y < Sp.dist (gs.getD at_.toNat default).x (gs.getD at_.toNat default).y (gs.getD nx.toNat default).x (gs.getD nx.toNat default).y))) -> (-9223372036854775808 <= i + 1 /\ i + 1 <= 9223372036854775807) /\
    tv17b_at (fl) (gs) (dn) (at_) (nx) (n) (i + 1) (o) (v) (PureQ dq))) /\
  (¬(i < n) -> tv17a_at (fl) (gs) (dn) (nx) (o) (v) (PureQ dq))) :
 tv17b_at fl gs dn at_ nx n i o v (PureQ dq):=by
 unfold tv17b_at
 have i1:(decide (i < n)) = true ↔ (i < n):=i_dec
 rcases Classical.em (i < n) with d2 | d2
 ·have H:=H.1 d2
  have i3:(decide (0 <= i)) = true ↔ (0 <= i):=i_dec
  have k4:=H.1;have H:=H.2
  have w5:(List.map G2.a gs).length = gs.length:=List.length_map ..
  have i6:(decide (i.toNat < (List.map G2.a gs).length)) = true ↔ (i.toNat < gs.length):=(by (try rw [w5]);all_goals exact i_dec)
  have k7:=H.1;have H:=H.2
  have i8:(decide (nx < 0) == false && ((!dn.getD i.toNat default) == true && true) && true) = true ↔ ((¬(nx < 0)) /\ (¬(dn.getD i.toNat default = true))):=(i_at (i_and (i_bf i_dec) (i_at (i_bt (i_not (i_var _))))))
  have k9:=H.1;have H:=H.2
  have i10:(decide (nx < 0) == false && ((!dn.getD i.toNat default) == true && true) && true) = true ↔ ((¬(nx < 0)) /\ (¬(dn.getD i.toNat default = true))):=(i_at (i_and (i_bf i_dec) (i_at (i_bt (i_not (i_var _))))))
  have k11:=H.1;have H:=H.2
  have i12:(decide (0 <= i)) = true ↔ (0 <= i):=i_dec
  have w13:(List.map AV.bool dn).length = dn.length:=List.length_map ..
  have i14:(decide (i.toNat < (List.map AV.bool dn).length)) = true ↔ (i.toNat < dn.length):=(by (try rw [w13]);all_goals exact i_dec)
  have k15:=H.1;have H:=H.2
  have i16:(!(decide (nx < 0) == false && ((!dn.getD i.toNat default) == true && true)) || decide (0 <= at_)) = true ↔ (((¬(nx < 0)) /\ (¬(dn.getD i.toNat default = true))) -> (0 <= at_)):=(i_imp (i_and (i_bf i_dec) (i_at (i_bt (i_not (i_var _))))) i_dec)
  have k17:=H.1;have H:=H.2
  have i18:(!(decide (nx < 0) == false && ((!dn.getD i.toNat default) == true && true)) || decide (at_.toNat < (List.map G2.a gs).length)) = true ↔ (((¬(nx < 0)) /\ (¬(dn.getD i.toNat default = true))) -> (at_.toNat < gs.length)):=(by (try rw [w5]);all_goals exact (i_imp (i_and (i_bf i_dec) (i_at (i_bt (i_not (i_var _))))) i_dec))
  have k19:=H.1;have H:=H.2
  have i20:(!(decide (nx < 0) == false && ((!dn.getD i.toNat default) == true && true)) || decide (0 <= at_)) = true ↔ (((¬(nx < 0)) /\ (¬(dn.getD i.toNat default = true))) -> (0 <= at_)):=(i_imp (i_and (i_bf i_dec) (i_at (i_bt (i_not (i_var _))))) i_dec)
  have i21:(!(decide (nx < 0) == false && ((!dn.getD i.toNat default) == true && true)) || decide (at_.toNat < (List.map G2.a gs).length)) = true ↔ (((¬(nx < 0)) /\ (¬(dn.getD i.toNat default = true))) -> (at_.toNat < gs.length)):=(by (try rw [w5]);all_goals exact (i_imp (i_and (i_bf i_dec) (i_at (i_bt (i_not (i_var _))))) i_dec))
  have i22:(!(decide (nx < 0) == false && ((!dn.getD i.toNat default) == true && true)) || decide (0 <= nx)) = true ↔ (((¬(nx < 0)) /\ (¬(dn.getD i.toNat default = true))) -> (0 <= nx)):=(i_imp (i_and (i_bf i_dec) (i_at (i_bt (i_not (i_var _))))) i_dec)
  have k23:=H.1;have H:=H.2
  have i24:(!(decide (nx < 0) == false && ((!dn.getD i.toNat default) == true && true)) || decide (nx.toNat < (List.map G2.a gs).length)) = true ↔ (((¬(nx < 0)) /\ (¬(dn.getD i.toNat default = true))) -> (nx.toNat < gs.length)):=(by (try rw [w5]);all_goals exact (i_imp (i_and (i_bf i_dec) (i_at (i_bt (i_not (i_var _))))) i_dec))
  have k25:=H.1;have H:=H.2
  have i26:(decide (nx < 0) == false && ((!dn.getD i.toNat default) == true && true)) = true ↔ ((¬(nx < 0)) /\ (¬(dn.getD i.toNat default = true))):=(i_and (i_bf i_dec) (i_at (i_bt (i_not (i_var _)))))
  have i27:(decide (nx < 0) == false && ((!dn.getD i.toNat default) == true && true)) = true ↔ ((¬(nx < 0)) /\ (¬(dn.getD i.toNat default = true))):=(i_and (i_bf i_dec) (i_at (i_bt (i_not (i_var _)))))
  have i28:(decide (nx < 0) == false && ((!dn.getD i.toNat default) == true && true)) = true ↔ ((¬(nx < 0)) /\ (¬(dn.getD i.toNat default = true))):=(i_and (i_bf i_dec) (i_at (i_bt (i_not (i_var _)))))
  have i29:(bif !dn.getD i.toNat default then bif decide (nx < 0) then true else decide (Sp.dist (gs.getD at_.toNat default).x (gs.getD at_.toNat default).y (gs.getD i.toNat default).x (gs.getD i.toNat default).y < Sp.dist (gs.getD at_.toNat default).x (gs.getD at_.toNat default).y (gs.getD nx.toNat default).x (gs.getD nx.toNat default).y) else false) = true ↔ ((¬(dn.getD i.toNat default = true)) /\ ((nx < 0) \/ (Sp.dist (gs.getD at_.toNat default).x (gs.getD at_.toNat default).y (gs.getD i.toNat default).x (gs.getD i.toNat default).y < Sp.dist (gs.getD at_.toNat default).x (gs.getD at_.toNat default).y (gs.getD nx.toNat default).x (gs.getD nx.toNat default).y))):=(i_band (i_not (i_var _)) (i_bor i_dec i_dec))
  refine path_wp (G:=given kp32 [(9,2,.elem (AV.agg [AV.int IntKind.i64 (gs.getD i.toNat default).x,AV.int IntKind.i64 (gs.getD i.toNat default).y])),(10,3,.elem (AV.bool (dn.getD i.toNat default))),(10,12,.elem (AV.agg [AV.int IntKind.i64 (gs.getD at_.toNat default).x,AV.int IntKind.i64 (gs.getD at_.toNat default).y])),(10,14,.call (AV.int IntKind.i64 (Sp.dist (gs.getD at_.toNat default).x (gs.getD at_.toNat default).y (gs.getD i.toNat default).x (gs.getD i.toNat default).y)) none),(10,18,.elem (AV.agg [AV.int IntKind.i64 (gs.getD at_.toNat default).x,AV.int IntKind.i64 (gs.getD at_.toNat default).y])),(10,22,.elem (AV.agg [AV.int IntKind.i64 (gs.getD nx.toNat default).x,AV.int IntKind.i64 (gs.getD nx.toNat default).y])),(10,23,.call (AV.int IntKind.i64 (Sp.dist (gs.getD at_.toNat default).x (gs.getD at_.toNat default).y (gs.getD nx.toNat default).x (gs.getD nx.toNat default).y)) none)] []) 11 [true] ⟨(atC (cd Try.f32) [1,1,1,0,1,0,0,1,0,1,1,0,1,0,0,1,1,0,0,1,1]),[(0,AV.vec fl 2 (List.map G2.a gs)),(3,AV.row 0 v),(4,AV.row 1 0),(5,AV.int IntKind.i64 at_),(6,AV.int IntKind.i64 nx),(7,AV.int IntKind.i64 i),(27,AV.vec fl 2 (List.map G2.a gs)),(28,AV.int IntKind.i64 n),(29,AV.int IntKind.i64 i),(60,AV.bool (bif !dn.getD i.toNat default then bif decide (nx < 0) then true else decide (Sp.dist (gs.getD at_.toNat default).x (gs.getD at_.toNat default).y (gs.getD i.toNat default).x (gs.getD i.toNat default).y < Sp.dist (gs.getD at_.toNat default).x (gs.getD at_.toNat default).y (gs.getD nx.toNat default).x (gs.getD nx.toNat default).y) else false))],[{ elems:=List.map (AV.int IntKind.i64) o,es:=1,ver:=v,frozen:=false,clean:=true },{ elems:=List.map AV.bool dn,es:=1,ver:=0,frozen:=false,clean:=true },{ elems:=[AV.agg [AV.int IntKind.i64 (gs.getD i.toNat default).x,AV.int IntKind.i64 (gs.getD i.toNat default).y]],es:=2,ver:=0,frozen:=false,clean:=false }],[(decide (i < n)) == true,decide (0 <= i),decide (i.toNat < (List.map G2.a gs).length),true,true,decide (0 <= i),decide (i.toNat < (List.map AV.bool dn).length),true,!(decide (nx < 0) == false && ((!dn.getD i.toNat default) == true && true)) || decide (0 <= at_),!(decide (nx < 0) == false && ((!dn.getD i.toNat default) == true && true)) || decide (at_.toNat < (List.map G2.a gs).length),!(decide (nx < 0) == false && ((!dn.getD i.toNat default) == true && true)) || true,!(decide (nx < 0) == false && ((!dn.getD i.toNat default) == true && true)) || decide (0 <= at_),!(decide (nx < 0) == false && ((!dn.getD i.toNat default) == true && true)) || decide (at_.toNat < (List.map G2.a gs).length),!(decide (nx < 0) == false && ((!dn.getD i.toNat default) == true && true)) || decide (0 <= nx),!(decide (nx < 0) == false && ((!dn.getD i.toNat default) == true && true)) || decide (nx.toNat < (List.map G2.a gs).length)],[((List.map G2.a gs).get?Internal i.toNat = some (AV.agg [AV.int IntKind.i64 (gs.getD i.toNat default).x,AV.int IntKind.i64 (gs.getD i.toNat default).y])),((List.map AV.bool dn).get?Internal i.toNat = some (AV.bool (dn.getD i.toNat default))),((decide (nx < 0) == false && ((!dn.getD i.toNat default) == true && true)) = true -> (List.map G2.a gs).get?Internal at_.toNat = some (AV.agg [AV.int IntKind.i64 (gs.getD at_.toNat default).x,AV.int IntKind.i64 (gs.getD at_.toNat default).y])),((decide (nx < 0) == false && ((!dn.getD i.toNat default) == true && true)) = true -> (List.map G2.a gs).get?Internal at_.toNat = some (AV.agg [AV.int IntKind.i64 (gs.getD at_.toNat default).x,AV.int IntKind.i64 (gs.getD at_.toNat default).y])),((decide (nx < 0) == false && ((!dn.getD i.toNat default) == true && true)) = true -> (List.map G2.a gs).get?Internal nx.toNat = some (AV.agg [AV.int IntKind.i64 (gs.getD nx.toNat default).x,AV.int IntKind.i64 (gs.getD nx.toNat default).y]))],[⟨decide (nx < 0) == false && ((!dn.getD i.toNat default) == true && true) && true,false,61,[AV.agg [AV.int IntKind.i64 (gs.getD at_.toNat default).x,AV.int IntKind.i64 (gs.getD at_.toNat default).y],AV.agg [AV.int IntKind.i64 (gs.getD i.toNat default).x,AV.int IntKind.i64 (gs.getD i.toNat default).y]],[],AV.int IntKind.i64 (Sp.dist (gs.getD at_.toNat default).x (gs.getD at_.toNat default).y (gs.getD i.toNat default).x (gs.getD i.toNat default).y),[]⟩,⟨decide (nx < 0) == false && ((!dn.getD i.toNat default) == true && true) && true,false,61,[AV.agg [AV.int IntKind.i64 (gs.getD at_.toNat default).x,AV.int IntKind.i64 (gs.getD at_.toNat default).y],AV.agg [AV.int IntKind.i64 (gs.getD nx.toNat default).x,AV.int IntKind.i64 (gs.getD nx.toNat default).y]],[],AV.int IntKind.i64 (Sp.dist (gs.getD at_.toNat default).x (gs.getD at_.toNat default).y (gs.getD nx.toNat default).x (gs.getD nx.toNat default).y),[]⟩]⟩ (by kernel_rfl) (allB_cons (beq_t (i1.2 d2)) (allB_cons (i3.2 k4) (allB_cons (i6.2 k7) (allB_cons rfl (allB_cons rfl (allB_cons (i12.2 k4) (allB_cons (i14.2 k15) (allB_cons rfl (allB_cons (i16.2 k17) (allB_cons (i18.2 k19) (allB_cons (Bool.or_true _) (allB_cons (i20.2 k17) (allB_cons (i21.2 k19) (allB_cons (i22.2 k23) (allB_cons (i24.2 k25) allB_nil))))))))))))))) (allP_cons (el_map k7) (allP_cons (el_map k15) (allP_cons (fun h => el_map (k19 (i26.1 h))) (allP_cons (fun h => el_map (k19 (i27.1 h))) (allP_cons (fun h => el_map (k25 (i28.1 h))) allP_nil))))) (allC_cons (fun hc => ((@ev61 ((gs.getD at_.toNat default).x) ((gs.getD at_.toNat default).y) ((gs.getD i.toNat default).x) ((gs.getD i.toNat default).y) (k9 (i8.1 hc))):Ev M1 (Conf.pure 61 [AV.agg [AV.int IntKind.i64 (gs.getD at_.toNat default).x,AV.int IntKind.i64 (gs.getD at_.toNat default).y],AV.agg [AV.int IntKind.i64 (gs.getD i.toNat default).x,AV.int IntKind.i64 (gs.getD i.toNat default).y]]) (AV.int IntKind.i64 (Sp.dist (gs.getD at_.toNat default).x (gs.getD at_.toNat default).y (gs.getD i.toNat default).x (gs.getD i.toNat default).y)) [])) (allC_cons (fun hc => ((@ev61 ((gs.getD at_.toNat default).x) ((gs.getD at_.toNat default).y) ((gs.getD nx.toNat default).x) ((gs.getD nx.toNat default).y) (k11 (i10.1 hc))):Ev M1 (Conf.pure 61 [AV.agg [AV.int IntKind.i64 (gs.getD at_.toNat default).x,AV.int IntKind.i64 (gs.getD at_.toNat default).y],AV.agg [AV.int IntKind.i64 (gs.getD nx.toNat default).x,AV.int IntKind.i64 (gs.getD nx.toNat default).y]]) (AV.int IntKind.i64 (Sp.dist (gs.getD at_.toNat default).x (gs.getD at_.toNat default).y (gs.getD nx.toNat default).x (gs.getD nx.toNat default).y)) [])) allC_nil)) ?_
  rcases Classical.em ((¬(dn.getD i.toNat default = true)) /\ ((nx < 0) \/ (Sp.dist (gs.getD at_.toNat default).x (gs.getD at_.toNat default).y (gs.getD i.toNat default).x (gs.getD i.toNat default).y < Sp.dist (gs.getD at_.toNat default).x (gs.getD at_.toNat default).y (gs.getD nx.toNat default).x (gs.getD nx.toNat default).y))) with d30 | d30
  ·have H:=H.1 d30
   have k31:=H.1;have H:=H.2
   have w32:IntKind.i64.wrap (i + 1) = i + 1:=wI64 k31
   exact path_wp (G:=given kp32 [] []) 1000 [true] ⟨(atC (cd Try.f32) [1,1,1,0,1,0,0,1,0,1,1,0,1,0,0]),[(0,AV.vec fl 2 (List.map G2.a gs)),(3,AV.row 0 v),(4,AV.row 1 0),(5,AV.int IntKind.i64 at_),(6,AV.int IntKind.i64 i),(27,AV.vec fl 2 (List.map G2.a gs)),(28,AV.int IntKind.i64 n),(29,AV.int IntKind.i64 (IntKind.i64.wrap (i + 1)))],[{ elems:=List.map (AV.int IntKind.i64) o,es:=1,ver:=v,frozen:=false,clean:=true },{ elems:=List.map AV.bool dn,es:=1,ver:=0,frozen:=false,clean:=true },{ elems:=[AV.agg [AV.int IntKind.i64 (gs.getD i.toNat default).x,AV.int IntKind.i64 (gs.getD i.toNat default).y]],es:=2,ver:=0,frozen:=false,clean:=false }],[(bif !dn.getD i.toNat default then bif decide (nx < 0) then true else decide (Sp.dist (gs.getD at_.toNat default).x (gs.getD at_.toNat default).y (gs.getD i.toNat default).x (gs.getD i.toNat default).y < Sp.dist (gs.getD at_.toNat default).x (gs.getD at_.toNat default).y (gs.getD nx.toNat default).x (gs.getD nx.toNat default).y) else false) == true],[],[]⟩ (by kernel_rfl) (allB_cons (beq_t (i29.2 d30)) allB_nil) allP_nil allC_nil (by (try rw [w32]);all_goals exact wp_narrow [0,1] (by kernel_rfl) H)
  ·have H:=H.2 d30
   have k33:=H.1;have H:=H.2
   have w34:IntKind.i64.wrap (i + 1) = i + 1:=wI64 k33
   exact path_wp (G:=given kp32 [] []) 1000 [false] ⟨(atC (cd Try.f32) [1,1,1,0,1,0,0,1,0,1,1,0,1,0,0]),[(0,AV.vec fl 2 (List.map G2.a gs)),(3,AV.row 0 v),(4,AV.row 1 0),(5,AV.int IntKind.i64 at_),(6,AV.int IntKind.i64 nx),(27,AV.vec fl 2 (List.map G2.a gs)),(28,AV.int IntKind.i64 n),(29,AV.int IntKind.i64 (IntKind.i64.wrap (i + 1)))],[{ elems:=List.map (AV.int IntKind.i64) o,es:=1,ver:=v,frozen:=false,clean:=true },{ elems:=List.map AV.bool dn,es:=1,ver:=0,frozen:=false,clean:=true },{ elems:=[AV.agg [AV.int IntKind.i64 (gs.getD i.toNat default).x,AV.int IntKind.i64 (gs.getD i.toNat default).y]],es:=2,ver:=0,frozen:=false,clean:=false }],[(bif !dn.getD i.toNat default then bif decide (nx < 0) then true else decide (Sp.dist (gs.getD at_.toNat default).x (gs.getD at_.toNat default).y (gs.getD i.toNat default).x (gs.getD i.toNat default).y < Sp.dist (gs.getD at_.toNat default).x (gs.getD at_.toNat default).y (gs.getD nx.toNat default).x (gs.getD nx.toNat default).y) else false) == false],[],[]⟩ (by kernel_rfl) (allB_cons (beq_f (fun h => d30 (i29.1 h))) allB_nil) allP_nil allC_nil (by (try rw [w34]);all_goals exact wp_narrow [0,1] (by kernel_rfl) H)
 ·have H:=H.2 d2
  exact path_wp (G:=given kp32 [] []) 1000 [false] ⟨(atC (cd Try.f32) [1,1,1,0,1,0,0]),[(0,AV.vec fl 2 (List.map G2.a gs)),(3,AV.row 0 v),(4,AV.row 1 0),(5,AV.int IntKind.i64 nx)],[{ elems:=List.map (AV.int IntKind.i64) o,es:=1,ver:=v,frozen:=false,clean:=true },{ elems:=List.map AV.bool dn,es:=1,ver:=0,frozen:=false,clean:=true }],[(decide (i < n)) == false],[],[]⟩ (by kernel_rfl) (allB_cons (beq_f (fun h => d2 (i1.1 h))) allB_nil) allP_nil allC_nil (H)
end Go.Av

namespace Go.Av
open Go.Proofs
set_option maxRecDepth 100000
def fi95:Fi:=⟨25,[.tmp 2]⟩
def kp95:List (Nat × List Nat):=[(0,[0]),(1,[0,7]),(2,[0]),(3,[0,3]),(4,[0,3,4]),(5,[0,3,4,15]),(6,[0,3,4]),(7,[0,3,4]),(8,[2])]
def fi111:Fi:=⟨19,[.tmp 4]⟩
def kp111:List (Nat × List Nat):=[(0,[0,1]),(1,[0,1,7,8]),(2,[0,1,7,8,9]),(3,[0,1,5,7,8]),(4,[0,1,5,7,8,16]),(5,[4]),(6,[0,1,7,8]),(7,[4])]
def tv47_at (fa:Bool) (a:List Int) (x:Int) (Q:AV -> Heap -> Prop):Prop:=Wp M1 (.run fi111 (atC (cd Try.f111) []) [(0,.vec fa 1 (a.map (.int .i64))),(1,.int .i64 x)] []) Q
def tv47a_at (fa:Bool) (a:List Int) (x n i:Int) (Q:AV -> Heap -> Prop):Prop:=Wp M1 (.run fi111 (atC (cd Try.f111) [1,0,1,0,0]) [(0,.vec fa 1 (a.map (.int .i64))),(1,.int .i64 x),(7,.int .i64 n),(8,.int .i64 i)] []) Q
def tv46_at (fa:Bool) (a:List Int) (Q:AV -> Heap -> Prop):Prop:=Wp M1 (.run fi95 (atC (cd Try.f95) []) [(0,.vec fa 1 (a.map (.int .i64)))] []) Q
def tv46a_at (fa:Bool) (a:List Int) (m i:Int) (Q:AV -> Heap -> Prop):Prop:=Wp M1 (.run fi95 (atC (cd Try.f95) [1,1,1,0,1,0,0]) [(0,.vec fa 1 (a.map (.int .i64))),(3,.int .i64 m),(4,.int .i64 i)] []) Q
theorem call95 {args:List AV} {d:AV} (h:wc M1 fi95 Try.f95 args d):Ev M1 (.pure 95 args) d []:=pcl _ _ (by kernel_rfl) h
theorem call111 {args:List AV} {d:AV} (h:wc M1 fi111 Try.f111 args d):Ev M1 (.pure 111 args) d []:=pcl _ _ (by kernel_rfl) h
theorem tv47 (fa:Bool) (a:List Int) (x:Int)  (dq:AV) (H :
  tv47a_at (fa) (a) (x) ((↑a.length:Int)) (0) (PureQ dq)) :
 tv47_at fa a x (PureQ dq):=by
 unfold tv47_at
 have w1:(List.map (AV.int IntKind.i64) a).length = a.length:=List.length_map ..
 exact path_wp (G:=given kp111 [] []) 1000 [] ⟨(atC (cd Try.f111) [1,0,1,0,0]),[(0,AV.vec fa 1 (List.map (AV.int IntKind.i64) a)),(1,AV.int IntKind.i64 x),(7,AV.int IntKind.i64 (↑(List.map (AV.int IntKind.i64) a).length:Int)),(8,AV.int IntKind.i64 0)],[],[],[],[]⟩ (by kernel_rfl) allB_nil allP_nil allC_nil (by (try rw [w1]);all_goals exact H)
theorem tv47a (fa:Bool) (a:List Int) (x n i:Int)  (dq:AV) (H :
  ((i < n) -> (0 <= i) /\
   (i.toNat < a.length) /\
   ((x = a.getD i.toNat default) -> AV.int IntKind.i64 i = dq) /\
   (¬(x = a.getD i.toNat default) -> (-9223372036854775808 <= i + 1 /\ i + 1 <= 9223372036854775807) /\
    tv47a_at (fa) (a) (x) (n) (i + 1) (PureQ dq))) /\
  (¬(i < n) -> AV.int IntKind.i64 (-1) = dq)) :
 tv47a_at fa a x n i (PureQ dq):=by
 unfold tv47a_at
 have i1:(decide (i < n)) = true ↔ (i < n):=i_dec
 rcases Classical.em (i < n) with d2 | d2
 ·have H:=H.1 d2
  have i3:(decide (0 <= i)) = true ↔ (0 <= i):=i_dec
  have k4:=H.1;have H:=H.2
  have w5:(List.map (AV.int IntKind.i64) a).length = a.length:=List.length_map ..
  have i6:(decide (i.toNat < (List.map (AV.int IntKind.i64) a).length)) = true ↔ (i.toNat < a.length):=(by (try rw [w5]);all_goals exact i_dec)
  have k7:=H.1;have H:=H.2
  have i8:(x == a.getD i.toNat default) = true ↔ (x = a.getD i.toNat default):=i_eq
  refine path_wp (G:=given kp111 [(4,4,.elem (AV.int IntKind.i64 (a.getD i.toNat default)))] []) 11 [true] ⟨(atC (cd Try.f111) [1,0,1,0,0,1,1,0,0,1,1]),[(0,AV.vec fa 1 (List.map (AV.int IntKind.i64) a)),(1,AV.int IntKind.i64 x),(5,AV.int IntKind.i64 i),(7,AV.int IntKind.i64 n),(8,AV.int IntKind.i64 i),(16,AV.bool (x == a.getD i.toNat default))],[],[(decide (i < n)) == true,decide (0 <= i),decide (i.toNat < (List.map (AV.int IntKind.i64) a).length)],[((List.map (AV.int IntKind.i64) a).get?Internal i.toNat = some (AV.int IntKind.i64 (a.getD i.toNat default)))],[]⟩ (by kernel_rfl) (allB_cons (beq_t (i1.2 d2)) (allB_cons (i3.2 k4) (allB_cons (i6.2 k7) allB_nil))) (allP_cons (el_map k7) allP_nil) allC_nil ?_
  rcases Classical.em (x = a.getD i.toNat default) with d9 | d9
  ·have H:=H.1 d9
   exact path_ret (G:=given kp111 [] []) 1000 [true] (k:=((atC (cd Try.f111) [1,0,1,0,0,1,1,0,0,1,1,0,1])).tail) (env':=[(4,AV.int IntKind.i64 i)]) (L':=[]) (asm:=[(x == a.getD i.toNat default) == true]) (eqs:=[]) (calls:=[]) (AV.int IntKind.i64 i) (by kernel_rfl) (by kernel_rfl) (allB_cons (beq_t (i8.2 d9)) allB_nil) allP_nil allC_nil (pq_of (d:=(AV.int IntKind.i64 i)) (bs:=[]) (by kernel_rfl) (by kernel_rfl) allB_nil (by kernel_rfl) H)
  ·have H:=H.2 d9
   have k10:=H.1;have H:=H.2
   have w11:IntKind.i64.wrap (i + 1) = i + 1:=wI64 k10
   exact path_wp (G:=given kp111 [] []) 1000 [false] ⟨(atC (cd Try.f111) [1,0,1,0,0]),[(0,AV.vec fa 1 (List.map (AV.int IntKind.i64) a)),(1,AV.int IntKind.i64 x),(7,AV.int IntKind.i64 n),(8,AV.int IntKind.i64 (IntKind.i64.wrap (i + 1)))],[],[(x == a.getD i.toNat default) == false],[],[]⟩ (by kernel_rfl) (allB_cons (beq_f (fun h => d9 (i8.1 h))) allB_nil) allP_nil allC_nil (by (try rw [w11]);all_goals exact H)
 ·have H:=H.2 d2
  exact path_ret (G:=given kp111 [] []) 1000 [false] (k:=((atC (cd Try.f111) [1,1,1])).tail) (env':=[(4,AV.int IntKind.i64 (-1))]) (L':=[]) (asm:=[(decide (i < n)) == false]) (eqs:=[]) (calls:=[]) (AV.int IntKind.i64 (-1)) (by kernel_rfl) (by kernel_rfl) (allB_cons (beq_f (fun h => d2 (i1.1 h))) allB_nil) allP_nil allC_nil (pq_of (d:=(AV.int IntKind.i64 (-1))) (bs:=[]) (by kernel_rfl) (by kernel_rfl) allB_nil (by kernel_rfl) H)
theorem tv46 (fa:Bool) (a:List Int)  (dq:AV) (H :
  (((↑a.length:Int) < 1) -> False) /\
  (¬((↑a.length:Int) < 1) -> (0 < a.length) /\
   tv46a_at (fa) (a) (a.getD 0 default) (1) (PureQ dq))) :
 tv46_at fa a (PureQ dq):=by
 unfold tv46_at
 have w1:(List.map (AV.int IntKind.i64) a).length = a.length:=List.length_map ..
 have i2:(decide ((↑(List.map (AV.int IntKind.i64) a).length:Int) < 1)) = true ↔ ((↑a.length:Int) < 1):=(by (try rw [w1]);all_goals exact i_dec)
 rcases Classical.em ((↑a.length:Int) < 1) with d3 | d3
 ·have H:=H.1 d3
  exact False.elim H
 ·have H:=H.2 d3
  have i4:(decide (0 < (List.map (AV.int IntKind.i64) a).length)) = true ↔ (0 < a.length):=(by (try rw [w1]);all_goals exact i_dec)
  have k5:=H.1;have H:=H.2
  exact path_wp (G:=given kp95 [(3,2,.elem (AV.int IntKind.i64 (a.getD 0 default)))] []) 1000 [false] ⟨(atC (cd Try.f95) [1,1,1,0,1,0,0]),[(0,AV.vec fa 1 (List.map (AV.int IntKind.i64) a)),(3,AV.int IntKind.i64 (a.getD 0 default)),(4,AV.int IntKind.i64 1)],[],[(decide ((↑(List.map (AV.int IntKind.i64) a).length:Int) < 1)) == false,true,decide (0 < (List.map (AV.int IntKind.i64) a).length)],[((List.map (AV.int IntKind.i64) a).get?Internal 0 = some (AV.int IntKind.i64 (a.getD 0 default)))],[]⟩ (by kernel_rfl) (allB_cons (beq_f (fun h => d3 (i2.1 h))) (allB_cons rfl (allB_cons (i4.2 k5) allB_nil))) (allP_cons (el_map k5) allP_nil) allC_nil (H)
theorem tv46a (fa:Bool) (a:List Int) (m i:Int)  (dq:AV) (H :
  ((i < (↑a.length:Int)) -> (0 <= i) /\
   (i.toNat < a.length) /\
   (-9223372036854775808 <= i + 1 /\ i + 1 <= 9223372036854775807) /\
   tv46a_at (fa) (a) (if a.getD i.toNat default < m then a.getD i.toNat default else m) (i + 1) (PureQ dq)) /\
  (¬(i < (↑a.length:Int)) -> AV.int IntKind.i64 m = dq)) :
 tv46a_at fa a m i (PureQ dq):=by
 unfold tv46a_at
 have w1:(List.map (AV.int IntKind.i64) a).length = a.length:=List.length_map ..
 have i2:(decide (i < (↑(List.map (AV.int IntKind.i64) a).length:Int))) = true ↔ (i < (↑a.length:Int)):=(by (try rw [w1]);all_goals exact i_dec)
 rcases Classical.em (i < (↑a.length:Int)) with d3 | d3
 ·have H:=H.1 d3
  have i4:(decide (0 <= i)) = true ↔ (0 <= i):=i_dec
  have k5:=H.1;have H:=H.2
  have i6:(decide (i.toNat < (List.map (AV.int IntKind.i64) a).length)) = true ↔ (i.toNat < a.length):=(by (try rw [w1]);all_goals exact i_dec)
  have k7:=H.1;have H:=H.2
  have k8:=H.1;have H:=H.2
  have w9:IntKind.i64.wrap (i + 1) = i + 1:=wI64 k8
  exact path_wp (G:=given kp95 [(7,4,.elem (AV.int IntKind.i64 (a.getD i.toNat default)))] []) 1000 [true] ⟨(atC (cd Try.f95) [1,1,1,0,1,0,0]),[(0,AV.vec fa 1 (List.map (AV.int IntKind.i64) a)),(3,AV.int IntKind.i64 (if a.getD i.toNat default < m then a.getD i.toNat default else m)),(4,AV.int IntKind.i64 (IntKind.i64.wrap (i + 1)))],[],[(decide (i < (↑(List.map (AV.int IntKind.i64) a).length:Int))) == true,decide (0 <= i),decide (i.toNat < (List.map (AV.int IntKind.i64) a).length)],[((List.map (AV.int IntKind.i64) a).get?Internal i.toNat = some (AV.int IntKind.i64 (a.getD i.toNat default)))],[]⟩ (by kernel_rfl) (allB_cons (beq_t (i2.2 d3)) (allB_cons (i4.2 k5) (allB_cons (i6.2 k7) allB_nil))) (allP_cons (el_map k7) allP_nil) allC_nil (by (try rw [w9]);all_goals exact H)
 ·have H:=H.2 d3
  exact path_ret (G:=given kp95 [] []) 1000 [false] (k:=((atC (cd Try.f95) [1,1,1,1,1])).tail) (env':=[(2,AV.int IntKind.i64 m)]) (L':=[]) (asm:=[(decide (i < (↑(List.map (AV.int IntKind.i64) a).length:Int))) == false]) (eqs:=[]) (calls:=[]) (AV.int IntKind.i64 m) (by kernel_rfl) (by kernel_rfl) (allB_cons (beq_f (fun h => d3 (i2.1 h))) allB_nil) allP_nil allC_nil (pq_of (d:=(AV.int IntKind.i64 m)) (bs:=[]) (by kernel_rfl) (by kernel_rfl) allB_nil (by kernel_rfl) H)
end Go.Av

namespace Go.Av
theorem il_le:∀ (n:Nat) (o:List Int),o.Nodup -> (∀ x ∈ o,0 <= x /\ x < n) -> o.length <= n
 | 0,o,_,h => by
  cases o with
  | nil => simp
  | cons x o => exact absurd (h x (by simp)) (by omega)
 | n + 1,o,hd,h => by
  have h1:=il_le n (o.erase n) (hd.erase _) (fun x hx => by
   have h2:=h x (List.mem_of_mem_erase hx)
   have h3:x ≠ n:=by rintro rfl;exact (List.Nodup.not_mem_erase hd) hx
   omega)
  rw [List.length_erase] at h1
  split at h1 <;> omega
theorem il_ge:∀ (n:Nat) (o:List Int),(∀ j:Nat,j < n -> (j:Int) ∈ o) -> n <= o.length
 | 0,_,_ => by omega
 | n + 1,o,h => by
  have h1:=il_ge n (o.erase n) (fun j hj => (List.mem_erase_of_ne (by omega)).2 (h j (by omega)))
  have h2:=h n (by omega)
  have h3:=List.length_pos_of_mem h2
  rw [List.length_erase,if_pos (by simpa using h2)] at h1
  omega
theorem il_full {n:Nat} {o:List Int} (hd:o.Nodup) (h:∀ x ∈ o,0 <= x /\ x < n) (hl:o.length = n) (j:Nat) (hj:j < n):(j:Int) ∈ o:=by
 by_cases hm:(j:Int) ∈ o
 ·exact hm
 ·have:=il_le n (j :: o) (List.nodup_cons.2 ⟨hm,hd⟩) (by
   intro x hx
   rcases List.mem_cons.1 hx with rfl | hx
   ·omega
   ·exact h x hx)
  simp at this;omega
namespace Mst
def cost (c:Int -> Int -> Int):List (Int × Int) -> Int
 | [] => 0
 | e :: E => c e.1 e.2 + cost c E
inductive Conn (E:List (Int × Int)) (S:List Int):Int -> Prop
 | base {x}:x ∈ S -> Conn E S x
 | step {a b}:Conn E S a -> ((a,b) ∈ E \/ (b,a) ∈ E) -> Conn E S b
inductive Out (E:List (Int × Int)) (S:List Int) (b:Int):Int -> Prop
 | refl:b ∉ S -> Out E S b b
 | step {x y}:Out E S b x -> ((x,y) ∈ E \/ (y,x) ∈ E) -> y ∉ S -> Out E S b y
inductive Prim (c:Int -> Int -> Int) (n:Nat):List Int -> Int -> Prop
 | full {S}:S.length = n -> Prim c n S 0
 | step {S} {a v m r:Int}:a ∈ S -> v ∉ S -> 0 <= v /\ v < n -> m = c a v -> (∀ x ∈ S,∀ y:Int,0 <= y /\ y < n -> y ∉ S -> m <= c x y) -> Prim c n (S ++ [v]) r -> Prim c n S (m + r)
theorem out_notin {E:List (Int × Int)} {S:List Int} {b x:Int} (h:Out E S b x):x ∉ S:=by
 cases h with
 | refl h => exact h
 | step _ _ h => exact h
theorem cross {E:List (Int × Int)} {S:List Int} {v:Int} (h:Conn E S v) (hv:v ∉ S):∃ a b,((a,b) ∈ E \/ (b,a) ∈ E) /\ a ∈ S /\ b ∉ S /\ Out E S b v:=by
 induction h with
 | base h => exact absurd h hv
 | @step a b ha he ih =>
  by_cases hs:a ∈ S
  ·exact ⟨a,b,he,hs,hv,.refl hv⟩
  ·obtain ⟨a',b',h1,h2,h3,h4⟩:=ih hs
   exact ⟨a',b',h1,h2,h3,.step h4 he hv⟩
theorem cost_erase {c:Int -> Int -> Int} {e:Int × Int}:∀ {E:List (Int × Int)},e ∈ E -> cost c (E.erase e) + c e.1 e.2 = cost c E
 | [],h => by simp at h
 | f :: E,h => by
  by_cases hf:f = e
  ·subst hf;simp only [List.erase_cons_head,cost];omega
  ·rw [List.erase_cons_tail (by simpa using hf)]
   have:=cost_erase (c:=c) (E:=E) (by simpa [Ne.symm hf] using h)
   simp only [cost];omega
theorem exchange {E:List (Int × Int)} {S:List Int} {v a b:Int} {e:Int × Int} (he:e = (a,b) \/ e = (b,a)) (ha:a ∈ S) (hout:Out E S b v) (x:Int) (h:Conn E S x):Conn (E.erase e) (v :: S) x:=by
 have stay:∀ p q,(p,q) ∈ E -> p ∉ S -> q ∉ S -> (p,q) ∈ E.erase e:=by
  intro p q h hp hq
  refine (List.mem_erase_of_ne ?_).2 h
  rintro rfl
  rcases he with he | he <;> (injection he with h1 h2;subst h1;subst h2)
  ·exact hp ha
  ·exact hq ha
 have back:∀ y,Out E S b y -> Conn (E.erase e) (v :: S) y -> Conn (E.erase e) (v :: S) b:=by
  intro y hy
  induction hy with
  | refl => exact id
  | @step p q hp hpq hq ih =>
   intro hc
   refine ih (.step hc ?_)
   rcases hpq with h | h
   ·exact .inr (stay _ _ h (out_notin hp) hq)
   ·exact .inl (stay _ _ h hq (out_notin hp))
 have hb:=back v hout (.base (by simp))
 induction h with
 | base h => exact .base (by simp [h])
 | @step p q hp hpq ih =>
  have use:∀ f:Int × Int,f ∈ E -> (f = (p,q) \/ f = (q,p)) -> Conn (E.erase e) (v :: S) q:=by
   intro f hf hfe
   by_cases hfe2:f = e
   ·have:q = a \/ q = b:=by
     subst hfe2
     rcases he with he | he <;> rcases hfe with hfe | hfe <;> (rw [he] at hfe;injection hfe with h1 h2;subst h1;subst h2;simp)
    rcases this with rfl | rfl
    ·exact .base (by simp [ha])
    ·exact hb
   ·have hm:=(List.mem_erase_of_ne hfe2).2 hf
    rcases hfe with rfl | rfl
    ·exact .step ih (.inl hm)
    ·exact .step ih (.inr hm)
  rcases hpq with h | h
  ·exact use _ h (.inl rfl)
  ·exact use _ h (.inr rfl)
theorem conn_from {E:List (Int × Int)} {S T:List Int} (h:∀ y ∈ S,Conn E T y) {x:Int} (hx:Conn E S x):Conn E T x:=by
 induction hx with
 | base k => exact h _ k
 | step _ hpq ih => exact .step ih hpq
theorem prim_le {c:Int -> Int -> Int} {n:Nat} (hc:∀ i j,c i j = c j i) {S:List Int} {r:Int} (h:Prim c n S r):∀ E:List (Int × Int),(∀ e ∈ E,(0 <= e.1 /\ e.1 < n) /\ 0 <= e.2 /\ e.2 < n) -> E.length + S.length = n -> (∀ x:Int,0 <= x /\ x < n -> Conn E S x) -> r <= cost c E:=by
 induction h with
 | full h => intro E _ hl _;have:E = []:=List.length_eq_zero_iff.1 (by omega);subst this;exact Int.le_refl _
 | @step S a v m r ha hv hvn hm hmin _ ih =>
  intro E hE hl hconn
  obtain ⟨p,q,h1,h2,h3,h4⟩:=cross (hconn v hvn) hv
  have main:∀ e:Int × Int,e ∈ E -> (e = (p,q) \/ e = (q,p)) -> m + r <= cost c E:=by
   intro e he hpq
   have hq:0 <= q /\ q < n:=by
    have:=hE e he
    rcases hpq with rfl | rfl
    ·exact this.2
    ·exact this.1
   have hcost:=cost_erase (c:=c) he
   have hle:=hmin p h2 q hq h3
   have hce:c e.1 e.2 = c p q:=by
    rcases hpq with rfl | rfl
    ·rfl
    ·exact hc _ _
   have hlen:(E.erase e).length = E.length - 1:=by rw [List.length_erase,if_pos (by simpa using he)]
   have hpos:0 < E.length:=List.length_pos_of_mem he
   have:=ih (E.erase e) (fun f hf => hE f (List.mem_of_mem_erase hf)) (by simp only [List.length_append,List.length_singleton];omega)
    (fun x hx => conn_from (fun y hy => .base (by rcases List.mem_cons.1 hy with rfl | hy <;> simp [*])) (exchange hpq h2 h4 x (hconn x hx)))
   omega
  rcases h1 with h1 | h1
  ·exact main _ h1 (.inl rfl)
  ·exact main _ h1 (.inr rfl)
theorem prim_tree {c:Int -> Int -> Int} {n:Nat} {S:List Int} {r:Int} (h:Prim c n S r):S.Nodup -> (∀ x ∈ S,0 <= x /\ x < n) -> ∃ E:List (Int × Int),(∀ e ∈ E,(0 <= e.1 /\ e.1 < n) /\ 0 <= e.2 /\ e.2 < n) /\ E.length + S.length = n /\ (∀ x:Int,0 <= x /\ x < n -> Conn E S x) /\ cost c E = r:=by
 induction h with
 | full h =>
  intro hd hS
  refine ⟨[],by simp,by simpa using h,fun x hx => .base ?_,rfl⟩
  have:=il_full hd hS h x.toNat (by omega)
  rwa [Int.toNat_of_nonneg hx.1] at this
 | @step S a v m r ha hv hvn hm hmin _ ih =>
  intro hd hS
  obtain ⟨E,h1,h2,h3,h4⟩:=ih (by
   rw [List.nodup_append]
   refine ⟨hd,by simp,?_⟩
   intro x hx y hy
   simp only [List.mem_singleton] at hy
   subst hy
   rintro rfl
   exact hv hx) (by
   intro x hx
   rcases List.mem_append.1 hx with hx | hx
   ·exact hS x hx
   ·simp only [List.mem_singleton] at hx;subst hx;exact hvn)
  refine ⟨(a,v) :: E,?_,by simp only [List.length_cons,List.length_append,List.length_nil] at h2 ⊢;omega,fun x hx => ?_,by rw [cost,h4,hm]⟩
  ·intro e he
   rcases List.mem_cons.1 he with rfl | he
   ·exact ⟨hS a ha,hvn⟩
   ·exact h1 e he
  ·have:=h3 x hx
   induction this with
   | base h =>
    rcases List.mem_append.1 h with h | h
    ·exact .base h
    ·simp only [List.mem_singleton] at h
     subst h
     exact .step (.base ha) (.inl (by simp))
   | @step p q _ hpq ih =>
    refine .step (ih ?_) ?_
    ·rcases hpq with h | h
     ·exact (h1 _ h).1
     ·exact (h1 _ h).2
    ·rcases hpq with h | h
     ·exact .inl (by simp [h])
     ·exact .inr (by simp [h])
theorem prim_unique {c:Int -> Int -> Int} {n:Nat} (hc:∀ i j,c i j = c j i) {S:List Int} {r r':Int} (hd:S.Nodup) (hS:∀ x ∈ S,0 <= x /\ x < n) (h:Prim c n S r) (h':Prim c n S r'):r = r':=by
 obtain ⟨E,h1,h2,h3,h4⟩:=prim_tree h hd hS
 obtain ⟨E',k1,k2,k3,k4⟩:=prim_tree h' hd hS
 have a:=prim_le hc h E' k1 k2 k3
 have b:=prim_le hc h' E h1 h2 h3
 omega
theorem least_of {α:Type} (f:α -> Int):∀ (l:List α),l ≠ [] -> ∃ a ∈ l,∀ b ∈ l,f a <= f b
 | [],h => absurd rfl h
 | [a],_ => ⟨a,by simp,by simp⟩
 | a :: b :: l,_ => by
  obtain ⟨x,h1,h2⟩:=least_of f (b :: l) (by simp)
  by_cases h:f a <= f x
  ·refine ⟨a,by simp,fun y hy => ?_⟩
   rcases List.mem_cons.1 hy with rfl | hy
   ·exact Int.le_refl _
   ·exact Int.le_trans h (h2 y hy)
  ·refine ⟨x,List.mem_cons_of_mem _ h1,fun y hy => ?_⟩
   rcases List.mem_cons.1 hy with rfl | hy
   ·omega
   ·exact h2 y hy
theorem nodup_snoc {S:List Int} {v:Int} (hd:S.Nodup) (hv:v ∉ S):(S ++ [v]).Nodup:=by
 rw [List.nodup_append]
 refine ⟨hd,by simp,?_⟩
 intro x hx y hy
 simp only [List.mem_singleton] at hy
 subst hy
 rintro rfl
 exact hv hx
theorem rng_snoc {S:List Int} {v:Int} {n:Nat} (h:∀ x ∈ S,0 <= x /\ x < (n:Int)) (hv:0 <= v /\ v < n):∀ x ∈ S ++ [v],0 <= x /\ x < (n:Int):=by
 intro x hx
 rcases List.mem_append.1 hx with hx | hx
 ·exact h x hx
 ·simp only [List.mem_singleton] at hx;subst hx;exact hv
theorem prim_exists {c:Int -> Int -> Int} {n:Nat}:∀ (k:Nat) (S:List Int),S.length + k = n -> S.Nodup -> (∀ x ∈ S,0 <= x /\ x < n) -> S ≠ [] -> ∃ r,Prim c n S r
 | 0,S,hl,_,_,_ => ⟨0,.full hl⟩
 | k + 1,S,hl,hd,hS,h0 => by
  obtain ⟨s0,S',hs⟩:=List.exists_cons_of_ne_nil h0
  have hs0:s0 ∈ S:=by simp [hs]
  let L:List (Int × Int):=S.flatMap fun x => ((List.range n).filter fun (y:Nat) => decide ((y:Int) ∉ S)).map fun (y:Nat) => (x,(y:Int))
  have mem:∀ x y,(x,y) ∈ L ↔ x ∈ S /\ (0 <= y /\ y < n) /\ y ∉ S:=by
   intro x y
   simp only [L,List.mem_flatMap,List.mem_map,List.mem_filter,List.mem_range,decide_eq_true_eq,Prod.mk.injEq]
   constructor
   ·rintro ⟨a,ha,b,⟨hb,hb2⟩,rfl,rfl⟩;exact ⟨ha,by omega,hb2⟩
   ·rintro ⟨h1,h2,h3⟩
    exact ⟨x,h1,y.toNat,⟨by omega,by rwa [Int.toNat_of_nonneg h2.1]⟩,rfl,by omega⟩
  have hne:L ≠ []:=by
   intro he
   have:∀ j:Nat,j < n -> (j:Int) ∈ S:=by
    intro j hj
    by_cases hm:(j:Int) ∈ S
    ·exact hm
    ·have:=(mem s0 j).2 ⟨hs0,by omega,hm⟩
     rw [he] at this;simp at this
   have:=il_ge n S this
   omega
  obtain ⟨⟨a,v⟩,h1,h2⟩:=least_of (fun e:Int × Int => c e.1 e.2) L hne
  obtain ⟨m1,m2,m3⟩:=(mem a v).1 h1
  obtain ⟨r,hr⟩:=prim_exists k (S ++ [v]) (by simp;omega) (nodup_snoc hd m3) (rng_snoc hS m2) (by simp)
  exact ⟨_,.step m1 m3 m2 rfl (fun x hx y hy hyS => h2 (x,y) ((mem x y).2 ⟨hx,hy,hyS⟩)) hr⟩
noncomputable def rem (c:Int -> Int -> Int) (n:Nat) (S:List Int):Int:=Classical.epsilon (Prim c n S)
theorem rem_spec {c:Int -> Int -> Int} {n:Nat} {S:List Int} (hd:S.Nodup) (hS:∀ x ∈ S,0 <= x /\ x < (n:Int)) (h0:S ≠ []):Prim c n S (rem c n S):=
 Classical.epsilon_spec (prim_exists (n - S.length) S (by have:=il_le n S hd hS;omega) hd hS h0)
theorem rem_full {c:Int -> Int -> Int} {n:Nat} (hc:∀ i j,c i j = c j i) {S:List Int} (hd:S.Nodup) (hS:∀ x ∈ S,0 <= x /\ x < (n:Int)) (h0:S ≠ []) (h:S.length = n):rem c n S = 0:=
 prim_unique hc hd hS (rem_spec hd hS h0) (.full h)
theorem rem_step {c:Int -> Int -> Int} {n:Nat} (hc:∀ i j,c i j = c j i) {S:List Int} {a v m:Int} (hd:S.Nodup) (hS:∀ x ∈ S,0 <= x /\ x < (n:Int)) (ha:a ∈ S) (hv:v ∉ S) (hvn:0 <= v /\ v < n) (hm:m = c a v)
  (hmin:∀ x ∈ S,∀ y,0 <= y /\ y < (n:Int) -> y ∉ S -> m <= c x y):rem c n S = m + rem c n (S ++ [v]):=
 prim_unique hc hd hS (rem_spec hd hS (List.ne_nil_of_mem ha)) (.step ha hv hvn hm hmin (rem_spec (nodup_snoc hd hv) (rng_snoc hS hvn) (by simp)))
def pairs:List Int -> List (Int × Int)
 | [] => []
 | [_] => []
 | x :: y :: o => (x,y) :: pairs (y :: o)
theorem pairs_mem:∀ (o:List Int) {e:Int × Int},e ∈ pairs o -> e.1 ∈ o /\ e.2 ∈ o
 | [],_,h => by simp [pairs] at h
 | [_],_,h => by simp [pairs] at h
 | x :: y :: o,e,h => by
  rw [pairs] at h
  rcases List.mem_cons.1 h with rfl | h
  ·simp
  ·have:=pairs_mem (y :: o) h
   exact ⟨List.mem_cons_of_mem _ this.1,List.mem_cons_of_mem _ this.2⟩
theorem pairs_len:∀ (x:Int) (o:List Int),(pairs (x :: o)).length = o.length
 | _,[] => rfl
 | x,y :: o => by rw [pairs,List.length_cons,pairs_len y o,List.length_cons]
theorem conn_more {E F:List (Int × Int)} {S:List Int} (h:∀ e ∈ E,e ∈ F) {x:Int} (hx:Conn E S x):Conn F S x:=by
 induction hx with
 | base h => exact .base h
 | step _ hpq ih =>
  refine .step ih ?_
  rcases hpq with k | k
  ·exact .inl (h _ k)
  ·exact .inr (h _ k)
theorem pairs_conn:∀ (x:Int) (o:List Int) (y:Int),y ∈ x :: o -> Conn (pairs (x :: o)) [x] y
 | x,[],y,h => .base h
 | x,z :: o,y,h => by
  rcases List.mem_cons.1 h with rfl | h
  ·exact .base (by simp)
  ·have:=conn_more (F:=pairs (x :: z :: o)) (fun e he => by rw [pairs];simp [he]) (pairs_conn z o y h)
   refine conn_from (fun w hw => ?_) this
   simp only [List.mem_singleton] at hw;subst hw
   exact Conn.step (a:=x) (.base (by simp)) (.inl (by simp [pairs]))
theorem rem_way {c:Int -> Int -> Int} {n:Nat} (hc:∀ i j,c i j = c j i) {x:Int} {o:List Int} (hd:(x :: o).Nodup) (ho:∀ y ∈ x :: o,0 <= y /\ y < (n:Int)) (hl:(x :: o).length = n):rem c n [x] <= cost c (pairs (x :: o)):=by
 refine prim_le hc (rem_spec (by simp) (by simpa using ho x (by simp)) (by simp)) _ (fun e he => ?_) ?_ (fun y hy => pairs_conn x o y ?_)
 ·have:=pairs_mem _ he
  exact ⟨ho _ this.1,ho _ this.2⟩
 ·rw [pairs_len];simpa using hl
 ·have:=il_full hd ho hl y.toNat (by omega)
  rwa [Int.toNat_of_nonneg hy.1] at this
end Mst
end Go.Av

namespace Go.Av
open Go.Proofs
namespace Sp
def same (a b:List Int):Bool:=decide (a = b)
def has (a:List Int) (x:Int):Bool:=decide (x ∈ a)
def index (a:List Int) (x:Int):Int:=if x ∈ a then (a.idxOf x:Nat) else -1
def minL (a:List Int):Int:=(a.drop 1).foldl (fun m x => if x < m then x else m) (a.getD 0 default)
end Sp
theorem has_iff {a:List Int} {x:Int}:Sp.has a x = true ↔ x ∈ a:=decide_eq_true_iff
theorem index_iff {a:List Int} {x:Int}:Sp.index a x >= 0 ↔ x ∈ a:=by
 unfold Sp.index
 split
 ·rename_i h;simp [h]
 ·rename_i h;simp [h]
theorem loop47 {fa:Bool} {a:List Int} {x:Int} {dq:AV} (hb:a.length <= 1000000):∀ (k i:Nat),i + k = a.length -> AV.int .i64 (if x ∈ a.drop i then (i + (a.drop i).idxOf x:Nat) else -1) = dq -> tv47a_at fa a x a.length i (PureQ dq):=by
 intro k
 induction k with
 | zero =>
  intro i hi hq
  rw [List.drop_eq_nil_of_le (by omega)] at hq
  exact tv47a _ _ _ _ _ _ ⟨fun h => by omega,fun _ => hq⟩
 | succ k ih =>
  intro i hi hq
  refine tv47a _ _ _ _ _ _ ⟨fun _ => ⟨by omega,by omega,?_⟩,fun h => by omega⟩
  rw [Int.toNat_natCast]
  rw [drop_getD (show i < a.length by omega)] at hq
  generalize a.getD i default = p at hq
  refine ⟨fun h => ?_,fun h => ⟨by omega,ih (i + 1) (by omega) ?_⟩⟩
  ·rw [<- hq,if_pos (by simp [<- h]),h,List.idxOf_cons_self];rfl
  ·rw [<- hq]
   congr 1
   by_cases hm:x ∈ a.drop (i + 1)
   ·have e:(p == x) = false:=by simpa using Ne.symm h
    rw [if_pos hm,if_pos (by simp [hm]),List.idxOf_cons,e,cond_false];congr 1;omega
   ·rw [if_neg hm,if_neg (by simpa [hm] using h)]
theorem ev111 (fa:Bool) (a:List Int) (x:Int) (h:a.length <= 1000000):Ev M1 (.pure 111 [isA fa a,.int .i64 x]) (.int .i64 (Sp.index a x)) []:=by
 refine call111 (tv47 fa a x _ (loop47 h _ 0 (Nat.zero_add _) ?_))
 simp [Sp.index]
theorem loop46 {fa:Bool} {a:List Int} {dq:AV} (hb:a.length <= 1000000):∀ (k i:Nat) (m:Int),i + k = a.length -> AV.int .i64 ((a.drop i).foldl (fun m x => if x < m then x else m) m) = dq -> tv46a_at fa a m i (PureQ dq):=by
 intro k
 induction k with
 | zero =>
  intro i m hi hq
  rw [List.drop_eq_nil_of_le (by omega)] at hq
  exact tv46a _ _ _ _ _ ⟨fun h => by omega,fun _ => hq⟩
 | succ k ih =>
  intro i m hi hq
  refine tv46a _ _ _ _ _ ⟨fun _ => ⟨by omega,by omega,by omega,?_⟩,fun h => by omega⟩
  rw [Int.toNat_natCast]
  rw [drop_getD (show i < a.length by omega),List.foldl_cons] at hq
  exact ih (i + 1) _ (by omega) hq
theorem ev95 (fa:Bool) (a:List Int) (h:a.length <= 1000000 /\ 0 < a.length):Ev M1 (.pure 95 [isA fa a]) (.int .i64 (Sp.minL a)) []:=
 call95 (tv46 fa a _ ⟨fun k => by omega,fun _ => ⟨h.2,loop46 h.1 (a.length - 1) 1 _ (by omega) rfl⟩⟩)
end Go.Av

namespace Go.Av
open Go.Proofs
namespace Sp
def next (gs:List G2) (out:List Int) (a:Int):Nat -> Nat -> Int -> Int
 | 0,_,nx => nx
 | k + 1,i,nx => next gs out a k (i + 1) (if (i:Int) ∉ out /\ (nx < 0 \/ dAt gs a i < dAt gs a nx) then i else nx)
def near (gs:List G2):Nat -> List Int -> Int -> List Int
 | 0,out,_ => out
 | k + 1,out,a => if a < 0 then out else near gs k (out ++ [a]) (next gs (out ++ [a]) a gs.length 0 (-1))
def nearest (gs:List G2):List Int:=near gs gs.length [] 0
end Sp
def nxt (gs:List G2) (out:List Int) (nx:Int):Prop:=(nx = -1 /\ ∀ j:Nat,j < gs.length -> (j:Int) ∈ out) \/ (0 <= nx /\ nx < gs.length /\ nx ∉ out)
theorem next_facts {gs:List G2} {out:List Int} {a:Int}:∀ (k i:Nat) (nx:Int),i + k = gs.length -> ((nx = -1 /\ ∀ j:Nat,j < i -> (j:Int) ∈ out) \/ (0 <= nx /\ nx < gs.length /\ nx ∉ out)) -> nxt gs out (Sp.next gs out a k i nx)
 | 0,i,nx,hi,h => by
  rw [Nat.add_zero] at hi;subst hi;exact h
 | k + 1,i,nx,hi,h => by
  rw [Sp.next]
  refine next_facts k (i + 1) _ (by omega) ?_
  split
  ·rename_i hc;exact .inr ⟨by omega,by omega,hc.1⟩
  ·rename_i hc
   rcases h with ⟨h1,h2⟩ | h
   ·refine .inl ⟨h1,fun j hj => ?_⟩
    by_cases hji:j = i
    ·subst hji
     by_cases hm:(j:Int) ∈ out
     ·exact hm
     ·exact absurd ⟨hm,.inl (by omega)⟩ hc
    ·exact h2 j (by omega)
   ·exact .inr h
structure NearI (gs:List G2) (k:Nat) (out:List Int) (a:Int):Prop where
 len:out.length + k = gs.length
 nod:out.Nodup
 rng:∀ x ∈ out,0 <= x /\ x < gs.length
 at_:nxt gs out a
theorem NearI.stop {gs:List G2} {out:List Int} {a:Int} (h:NearI gs 0 out a):a = -1:=by
 rcases h.at_ with h1 | h1
 ·exact h1.1
 ·have:=il_full h.nod h.rng (by have:=h.len;omega) a.toNat (by omega)
  rw [Int.toNat_of_nonneg h1.1] at this
  exact absurd this h1.2.2
theorem NearI.go {gs:List G2} {k:Nat} {out:List Int} {a:Int} (h:NearI gs (k + 1) out a):0 <= a /\ a < gs.length /\ a ∉ out:=by
 rcases h.at_ with h1 | h1
 ·have:=il_ge _ _ h1.2
  have:=h.len
  omega
 ·exact h1
theorem NearI.next {gs:List G2} {k:Nat} {out:List Int} {a:Int} (h:NearI gs (k + 1) out a):NearI gs k (out ++ [a]) (Sp.next gs (out ++ [a]) a gs.length 0 (-1)):=by
 obtain ⟨h1,h2,h3⟩:=h.go
 refine ⟨by have:=h.len;simp;omega,?_,?_,next_facts _ 0 _ (by omega) (.inl ⟨rfl,fun j hj => by omega⟩)⟩
 ·rw [List.nodup_append]
  refine ⟨h.nod,by simp,?_⟩
  intro x hx y hy
  simp only [List.mem_singleton] at hy
  subst hy
  rintro rfl
  exact h3 hx
 ·intro x hx
  rcases List.mem_append.1 hx with hx | hx
  ·exact h.rng x hx
  ·simp only [List.mem_singleton] at hx;subst hx;exact ⟨h1,h2⟩
theorem NearI.start {gs:List G2}:NearI gs gs.length [] (if gs.length = 0 then -1 else 0):=by
 refine ⟨by simp,by simp,by simp,?_⟩
 split
 ·rename_i h;exact .inl ⟨rfl,fun j hj => by omega⟩
 ·exact .inr ⟨by omega,by omega,by simp⟩
structure IsOrd (n:Nat) (o:List Int):Prop where
 len:o.length = n
 nod:o.Nodup
 rng:∀ x ∈ o,0 <= x /\ x < n
 zero:0 < n -> o.getD 0 default = 0
theorem near_ord {gs:List G2}:∀ (k:Nat) {out:List Int} {a:Int},NearI gs k out a -> (out.getD 0 default = 0 /\ out ≠ []) -> IsOrd gs.length (Sp.near gs k out a)
 | 0,out,a,h,h0 => by rw [Sp.near];exact ⟨by have:=h.len;omega,h.nod,h.rng,fun _ => h0.1⟩
 | k + 1,out,a,h,h0 => by
  have:=h.go
  rw [Sp.near,if_neg (by omega)]
  refine near_ord k h.next ⟨?_,by simp⟩
  cases out with
  | nil => exact absurd rfl h0.2
  | cons x o => simpa using h0.1
theorem nearest_ord (gs:List G2):IsOrd gs.length (Sp.nearest gs):=by
 unfold Sp.nearest
 cases hn:gs.length with
 | zero => rw [Sp.near];exact ⟨rfl,by simp,by simp,fun h => by omega⟩
 | succ k =>
  have h:NearI gs (k + 1) [] 0:=by
   have h:=NearI.start (gs:=gs)
   rw [if_neg (by omega),hn] at h
   exact h
  rw [Sp.near,if_neg (by omega)]
  rw [<- hn]
  exact near_ord k h.next (by simp)
theorem loop17b {fl:Bool} {gs:List G2} {dn:List Bool} {a:Int} {o:List Int} {v:Nat} {dq:AV} (hg:Sp.okG gs) (hl:gs.length <= 1000) (hd:dn.length = gs.length) (hdn:∀ j:Nat,j < gs.length -> dn.getD j default = Sp.has o j) (ha:0 <= a /\ a < gs.length) :
  ∀ (k i:Nat) (nx:Int),i + k = gs.length -> (nx < 0 \/ (0 <= nx /\ nx < gs.length)) -> tv17a_at fl gs dn (Sp.next gs o a k i nx) o v (PureQ dq) -> tv17b_at fl gs dn a nx gs.length i o v (PureQ dq):=by
 intro k
 induction k with
 | zero => intro i nx hi hn hq;exact tv17b _ _ _ _ _ _ _ _ _ _ ⟨fun h => by omega,fun _ => hq⟩
 | succ k ih =>
  intro i nx hi hn hq
  rw [Sp.next] at hq
  refine tv17b _ _ _ _ _ _ _ _ _ _ ⟨fun _ => ?_,fun h => by omega⟩
  rw [Int.toNat_natCast]
  have hdi:=hdn i (by omega)
  have e:(¬dn.getD i default = true) ↔ (i:Int) ∉ o:=by rw [hdi,has_iff]
  refine ⟨by omega,by omega,fun h => ⟨(okG_at hg _).1,(okG_at hg _).2,(okG_at hg _).1,(okG_at hg _).2⟩,fun h => ⟨(okG_at hg _).1,(okG_at hg _).2,(okG_at hg _).1,(okG_at hg _).2⟩,by omega,fun _ => ha.1,fun _ => by omega,fun h => by omega,fun h => by omega,fun h => ⟨by omega,?_⟩,fun h => ⟨by omega,?_⟩⟩
  ·rw [e] at h
   rw [if_pos (show (i:Int) ∉ o /\ (nx < 0 \/ Sp.dAt gs a i < Sp.dAt gs a nx) from h)] at hq
   exact ih (i + 1) i (by omega) (by omega) hq
  ·rw [e] at h
   rw [if_neg (show ¬((i:Int) ∉ o /\ (nx < 0 \/ Sp.dAt gs a i < Sp.dAt gs a nx)) from h)] at hq
   exact ih (i + 1) nx (by omega) hn hq
theorem has_app {o:List Int} {a:Int} {dn:List Bool} {n:Nat} (hd:dn.length = n) (hdn:∀ j:Nat,j < n -> dn.getD j default = Sp.has o j) (ha:0 <= a /\ a < n) (j:Nat) (hj:j < n):(dn.set a.toNat true).getD j default = Sp.has (o ++ [a]) j:=by
 rw [List.getD_eq_getElem?_getD,List.getElem?_set]
 split
 ·rename_i e
  rw [if_pos (by omega)]
  have:(j:Int) = a:=by omega
  simp [Sp.has,this]
 ·rename_i e
  rw [<- List.getD_eq_getElem?_getD,hdn j hj]
  have:(j:Int) ≠ a:=by omega
  simp [Sp.has,this]
theorem loop17 {fl:Bool} {gs:List G2} {dq:AV} (hg:Sp.okG gs) (hl:gs.length <= 1000) :
  ∀ (k:Nat) (o:List Int) (dn:List Bool) (a:Int) (v:Nat),dn.length = gs.length -> (∀ j:Nat,j < gs.length -> dn.getD j default = Sp.has o j) -> NearI gs k o a -> isA false (Sp.near gs k o a) = dq -> tv17a_at fl gs dn a o v (PureQ dq):=by
 intro k
 induction k with
 | zero =>
  intro o dn a v hd hdn hI hq
  have:=hI.stop
  rw [Sp.near] at hq
  exact tv17a _ _ _ _ _ _ _ ⟨fun h => by omega,fun _ => by rw [<- hq];exact .refl _⟩
 | succ k ih =>
  intro o dn a v hd hdn hI hq
  have h:=hI.go
  have hlen:=hI.len
  rw [Sp.near,if_neg (by omega)] at hq
  refine tv17a _ _ _ _ _ _ _ ⟨fun _ => ⟨by omega,by omega,by omega,?_⟩,fun h => by omega⟩
  refine loop17b hg hl (by simpa using hd) (has_app hd hdn ⟨h.1,h.2.1⟩) ⟨h.1,h.2.1⟩ gs.length 0 (-1) (by omega) (by omega) ?_
  exact ih _ _ _ _ (by simpa using hd) (has_app hd hdn ⟨h.1,h.2.1⟩) hI.next hq
theorem ev32 (fl:Bool) (gs:List G2) (h:Sp.okG gs /\ gs.length <= 1000):Ev M1 (.pure 32 [gsA fl gs]) (isA false (Sp.nearest gs)) []:=by
 obtain ⟨hg,hl⟩:=h
 refine call32 (tv17 fl gs _ ⟨by omega,by omega,by omega,?_⟩)
 have hr:∀ j:Nat,j < gs.length -> (List.replicate (gs.length:Int).toNat false).getD j default = Sp.has [] j:=by
  intro j hj
  simp [Sp.has,List.getD_eq_getElem?_getD,List.getElem?_replicate,hj]
 unfold Sp.nearest
 cases hn:gs.length with
 | zero =>
  refine tv17z _ _ _ _ _ ⟨fun h => by omega,fun _ => ?_⟩
  rw [Sp.near];exact .vnil 1
 | succ k =>
  have h:NearI gs (k + 1) [] 0:=by
   have h:=NearI.start (gs:=gs)
   rw [if_neg (by omega),hn] at h
   exact h
  have h0:=h.go
  rw [Sp.near,if_neg (by omega),<- hn]
  refine tv17z _ _ _ _ _ ⟨fun _ => ⟨by omega,by simp;omega,?_⟩,fun h => by omega⟩
  have hd:(List.replicate (gs.length:Int).toNat false).length = gs.length:=by simp
  refine loop17b hg hl (by simp) (has_app (o:=[]) hd hr ⟨h0.1,h0.2.1⟩) ⟨h0.1,h0.2.1⟩ gs.length 0 (-1) (by omega) (by omega) ?_
  exact loop17 hg hl k _ _ _ _ (by simp) (has_app (o:=[]) hd hr ⟨h0.1,h0.2.1⟩) h.next rfl
end Go.Av

namespace Go.Av
open Go.Proofs
set_option maxRecDepth 100000
def fi93:Fi:=⟨9,[.tmp 4]⟩
def kp93:List (Nat × List Nat):=[(0,[0,1]),(1,[4])]
def tv45_at (fa:Bool) (a:List Int) (x:Int) (Q:AV -> Heap -> Prop):Prop:=Wp M1 (.run fi93 (atC (cd Try.f93) []) [(0,.vec fa 1 (a.map (.int .i64))),(1,.int .i64 x)] []) Q
theorem call93 {args:List AV} {d:AV} (h:wc M1 fi93 Try.f93 args d):Ev M1 (.pure 93 args) d []:=pcl _ _ (by kernel_rfl) h
theorem tv45 (fa:Bool) (a:List Int) (x:Int)  (dq:AV) (H :
  (a.length <= 1000000) /\
  AV.bool (decide (Sp.index a x >= 0)) = dq) :
 tv45_at fa a x (PureQ dq):=by
 unfold tv45_at
 have k1:=H.1;have H:=H.2
 exact path_ret (G:=given kp93 [(1,2,.call (AV.int IntKind.i64 (Sp.index a x)) none)] []) 1000 [] (k:=((atC (cd Try.f93) [1,1])).tail) (env':=[(4,AV.bool (decide (Sp.index a x >= 0)))]) (L':=[]) (asm:=[]) (eqs:=[]) (calls:=[⟨true,false,111,[AV.vec fa 1 (List.map (AV.int IntKind.i64) a),AV.int IntKind.i64 x],[],AV.int IntKind.i64 (Sp.index a x),[]⟩]) (AV.bool (decide (Sp.index a x >= 0))) (by kernel_rfl) (by kernel_rfl) allB_nil allP_nil (allC_cons (fun _ => ((@ev111 (fa) (a) (x) k1):Ev M1 (Conf.pure 111 [AV.vec fa 1 (List.map (AV.int IntKind.i64) a),AV.int IntKind.i64 x]) (AV.int IntKind.i64 (Sp.index a x)) [])) allC_nil) (pq_of (d:=(AV.bool (decide (Sp.index a x >= 0)))) (bs:=[]) (by kernel_rfl) (by kernel_rfl) allB_nil (by kernel_rfl) H)
end Go.Av

namespace Go.Av
open Go.Proofs
theorem ev93 (fa:Bool) (a:List Int) (x:Int) (h:a.length <= 1000000):Ev M1 (.pure 93 [isA fa a,.int .i64 x]) (.bool (Sp.has a x)) []:=by
 refine call93 (tv45 fa a x _ ⟨h,?_⟩)
 congr 1
 unfold Sp.has
 simp only [decide_eq_decide]
 exact index_iff
end Go.Av
