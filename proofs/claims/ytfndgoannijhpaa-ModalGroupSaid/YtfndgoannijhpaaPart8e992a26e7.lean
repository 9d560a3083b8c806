/- PART 3 of the texts of a claim, joined by a program: what each part shows stands at its head. -/
import Derived.Test.YtfndgoannijhpaaPart03680c0918
import Derived.Test.YtfndgoannijhpaaProg

namespace Go.Av
def PureQ (d:AV):AV -> Heap -> Prop:=fun v L => ∃ d0,pureA L v = some d0 /\ allB (versA L v) /\ d0.clean = true /\ Weak d0 d
theorem pure_pq {M:Mach} {f:FuncId} {args:List AV} {d:AV} (fn:Func) (fi:Fi) (hf:(M.P ()).funcs[f]? = some fn) (hb:fn.body = some (cd fn)) (hn:(fn.name == "runtime.NumGoroutine") = false)
  (hi:(⟨fn.ntmps,fn.results.toList⟩:Fi) = fi) (h:Wp M (.run fi [.code (cd fn)] (argVars 0 args) []) (PureQ d)):Ev M (.pure f args) d []:=
 .pure (.mono (own_wp fn fi hf hb hn hi h) fun _ _ ⟨d0,h1,h2,h3,h4⟩ => ⟨d0,d,h1,(allB_iff _).1 h2,h3,h4,rfl,rfl⟩)
mutual
theorem clean_ren (f:Nat -> Nat):∀ (a:AV),a.clean = true -> renA f a = a
 | .any,h => by simp [AV.clean] at h
 | .bool _,_ => rfl
 | .int _ _,_ => rfl
 | .str _,_ => rfl
 | .nilp,_ => rfl
 | .nilf,_ => rfl
 | .nilm,_ => rfl
 | .mapr _,h => by simp [AV.clean] at h
 | .vnil,_ => rfl
 | .eptr ..,_ => rfl
 | .vec ..,_ => rfl
 | .ptr ..,h => by simp [AV.clean] at h
 | .row ..,h => by simp [AV.clean] at h
 | .ref ..,h => by simp [AV.clean] at h
 | .agg cs,h => by simp only [renA,cleanL_ren f cs (by simpa [AV.clean] using h)]
 | .tup cs,h => by simp only [renA,cleanL_ren f cs (by simpa [AV.clean] using h)]
 | .func fn a b,h => by
  simp only [AV.clean,Bool.and_eq_true] at h
  simp only [renA,cleanL_ren f a h.1,cleanL_ren f b h.2]
theorem cleanL_ren (f:Nat -> Nat):∀ (l:List AV),cleanL l = true -> renL f l = l
 | [],_ => rfl
 | c :: l,h => by
  simp only [cleanL,Bool.and_eq_true] at h
  simp only [renL,clean_ren f c h.1,cleanL_ren f l h.2]
end
mutual
theorem pureA_ren {L K:Heap} {f:Nat -> Nat} (hb:∀ (r:Nat) row,L[r]? = some row -> K[f r]? = some (renRow f row)):∀ (a:AV) {d:AV},pureA L a = some d -> pureA K (renA f a) = some d /\ versA K (renA f a) = versA L a
 | .any,_,h => by simp [pureA] at h
 | .bool b,_,h => ⟨h,rfl⟩
 | .int k n,_,h => ⟨h,rfl⟩
 | .str s,_,h => ⟨h,rfl⟩
 | .nilp,_,h => ⟨h,rfl⟩
 | .nilf,_,h => ⟨h,rfl⟩
 | .nilm,_,h => ⟨h,rfl⟩
 | .mapr _,_,h => by simp [pureA] at h
 | .vnil,_,h => ⟨h,rfl⟩
 | .eptr ..,_,h => ⟨h,rfl⟩
 | .vec ..,_,h => ⟨h,rfl⟩
 | .row r v,_,h => by
  cases hr:L[r]? with
  | none => simp [pureA,hr] at h
  | some row =>
   have h2:=hb r row hr
   obtain ⟨_,s2,_,_,_⟩:=renRow_spec f row
   simp only [pureA,hr] at h
   split at h
   ·rename_i hc
    have e:renRow f row = row:=by simp [renRow,hc]
    exact ⟨by simp only [renA,pureA,h2,e,hc,if_true];exact h,by simp only [renA,versA,verOk,h2,hr,s2]⟩
   ·simp at h
 | .ref r v lo len,_,h => by
  cases hr:L[r]? with
  | none => simp [pureA,hr] at h
  | some row =>
   have h2:=hb r row hr
   obtain ⟨_,s2,_,_,_⟩:=renRow_spec f row
   simp only [pureA,hr] at h
   split at h
   ·rename_i hc
    have e:renRow f row = row:=by simp [renRow,hc]
    exact ⟨by simp only [renA,pureA,h2,e,hc,if_true];exact h,by simp only [renA,versA,verOk,h2,hr,s2]⟩
   ·simp at h
 | .ptr r v i j,_,h => by
  cases hr:L[r]? with
  | none => simp [pureA,hr] at h
  | some row =>
   have h2:=hb r row hr
   obtain ⟨s1,s2,_,_,_⟩:=renRow_spec f row
   simp only [pureA,hr] at h
   split at h
   ·rename_i x hx
    split at h
    ·rename_i hcx
     have e:(renRow f row).elems = [x]:=by
      unfold renRow
      cases hc:row.clean with
      | true => simpa using hx
      | false => simp only [cond_false,hx,renL,clean_ren f x hcx]
     exact ⟨by simp only [renA,pureA,h2,e,hcx,s1,if_true];exact h,by simp only [renA,versA,verOk,h2,hr,s2]⟩
    ·simp at h
   ·simp at h
 | .agg cs,_,h => by
  cases hr:pureL L cs with
  | none => simp [pureA,hr] at h
  | some ds =>
   obtain ⟨h1,h2⟩:=pureL_ren hb cs hr
   exact ⟨by simpa only [renA,pureA,h1,hr] using h,by simp only [renA,versA,h2]⟩
 | .tup cs,_,h => by
  cases hr:pureL L cs with
  | none => simp [pureA,hr] at h
  | some ds =>
   obtain ⟨h1,h2⟩:=pureL_ren hb cs hr
   exact ⟨by simpa only [renA,pureA,h1,hr] using h,by simp only [renA,versA,h2]⟩
 | .func fn a b,_,h => by
  cases hr:pureL L a with
  | none => simp [pureA,hr] at h
  | some ds =>
   cases hr2:pureL L b with
   | none => simp [pureA,hr,hr2] at h
   | some ds2 =>
    obtain ⟨h1,h2⟩:=pureL_ren hb a hr
    obtain ⟨h3,h4⟩:=pureL_ren hb b hr2
    exact ⟨by simpa only [renA,pureA,h1,h3,hr,hr2] using h,by simp only [renA,versA,h2,h4]⟩
theorem pureL_ren {L K:Heap} {f:Nat -> Nat} (hb:∀ (r:Nat) row,L[r]? = some row -> K[f r]? = some (renRow f row)):∀ (l:List AV) {ds:List AV},pureL L l = some ds -> pureL K (renL f l) = some ds /\ versL K (renL f l) = versL L l
 | [],_,h => ⟨h,rfl⟩
 | c :: l,_,h => by
  cases hr:pureA L c with
  | none => simp [pureL,hr] at h
  | some d =>
   cases hr2:pureL L l with
   | none => simp [pureL,hr,hr2] at h
   | some ds2 =>
    obtain ⟨h1,h2⟩:=pureA_ren hb c hr
    obtain ⟨h3,h4⟩:=pureL_ren hb l hr2
    exact ⟨by simpa only [renL,pureL,h1,h3,hr,hr2] using h,by simp only [renL,versL,h2,h4]⟩
end
end Go.Av

namespace Go.Av
structure EG where
 keep:List (Nat × List (Nat × List Nat))
 hot:List (Nat × List (Nat × List Nat))
 known:List (Nat × List AV × AV):=[]
 rows:List (Nat × List (Nat × List Nat)):=[]
mutual
def beqA:AV -> AV -> Bool
 | .bool a,.bool b => a == b
 | .int k n,.int j m => decide (k = j) && n == m
 | .str a,.str b => a == b
 | .agg a,.agg b => beqAL a b
 | .tup a,.tup b => beqAL a b
 | .vec f es a,.vec g fs b => f == g && (es == fs && beqAL a b)
 | .nilp,.nilp => true
 | .vnil,.vnil => true
 | _,_ => false
def beqAL:List AV -> List AV -> Bool
 | [],[] => true
 | a :: l,b :: m => beqA a b && beqAL l m
 | _,_ => false
end
mutual
theorem beqA_eq:∀ (a b:AV),beqA a b = true -> a = b
 | .bool a,b,h => by cases b <;> simp [beqA] at h;rw [h]
 | .int k n,b,h => by cases b <;> simp [beqA] at h;rw [h.1,h.2]
 | .str a,b,h => by cases b <;> simp [beqA] at h;rw [h]
 | .agg a,b,h => by cases b <;> simp [beqA] at h;rw [beqAL_eq a _ h]
 | .tup a,b,h => by cases b <;> simp [beqA] at h;rw [beqAL_eq a _ h]
 | .vec f es a,b,h => by cases b <;> simp [beqA] at h;rw [h.1,h.2.1,beqAL_eq a _ h.2.2]
 | .nilp,b,h => by cases b <;> simp [beqA] at h;rfl
 | .vnil,b,h => by cases b <;> simp [beqA] at h;rfl
 | .any,b,h => by cases b <;> simp [beqA] at h
 | .ptr ..,b,h => by cases b <;> simp [beqA] at h
 | .eptr ..,b,h => by cases b <;> simp [beqA] at h
 | .row ..,b,h => by cases b <;> simp [beqA] at h
 | .ref ..,b,h => by cases b <;> simp [beqA] at h
 | .func ..,b,h => by cases b <;> simp [beqA] at h
 | .nilf,b,h => by cases b <;> simp [beqA] at h
 | .mapr ..,b,h => by cases b <;> simp [beqA] at h
 | .nilm,b,h => by cases b <;> simp [beqA] at h
theorem beqAL_eq:∀ (a b:List AV),beqAL a b = true -> a = b
 | [],b,h => by cases b <;> simp [beqAL] at h;rfl
 | a :: l,b,h => by
  cases b with
  | nil => simp [beqAL] at h
  | cons b m => simp [beqAL] at h;rw [beqA_eq a b h.1,beqAL_eq l m h.2]
end
def knownOf (f:Nat) (args:List AV):List (Nat × List AV × AV) -> Option AV
 | [] => none
 | (g,bs,v) :: l => bif Nat.beq f g && beqAL args bs then some v else knownOf f args l
theorem known_in {f:Nat} {args:List AV} {v:AV}:∀ {l:List (Nat × List AV × AV)},knownOf f args l = some v -> (f,args,v) ∈ l
 | [],h => by simp [knownOf] at h
 | (g,bs,u) :: l,h => by
  unfold knownOf at h
  cases hb:(Nat.beq f g && beqAL args bs) with
  | true =>
   rw [hb] at h
   simp only [cond_true,Option.some.injEq] at h
   simp only [Bool.and_eq_true,Nat.beq_eq] at hb
   rw [h,hb.1,beqAL_eq _ _ hb.2];exact .head _
  | false => rw [hb] at h;exact .tail _ (known_in h)
def ofFn:List (Nat × List (Nat × List Nat)) -> Nat -> List (Nat × List Nat)
 | [],_ => []
 | (f,l) :: t,g => bif Nat.beq f g then l else ofFn t g
def keepAns (l:List Nat) (i:Nat):Option Ans:=bif l.contains i then some .keep else none
def runX (M:Mach) (fi:Fi) (kp ht kr:List (Nat × List Nat)) (call:Answer):Nat -> List Item -> Vars -> Heap -> Option (AV × Heap)
 | 0,_,_,_ => none
 | n + 1,todo,env,L =>
  match todo with
  | [] => match finish M.P fi env L with
   | some v => some (v,L)
   | none => none
  | .inBlock _ :: k => runX M fi kp ht kr call n k env L
  | .inLoop b :: k => runX M fi kp ht kr call n (.code b :: .inLoop b :: k) env L
  | .code c :: k =>
   match c with
   | .skip => runX M fi kp ht kr call n k env L
   | .seq a b => runX M fi kp ht kr call n (.code a :: .code b :: k) env L
   | .cond c a b => match evV env c with
    | .bool t => runX M fi kp ht kr call n (.code (bif t then a else b) :: k) env L
    | _ => none
   | .block id b => runX M fi kp ht kr call n (.code b :: .inBlock id :: k) env L
   | .loop b => runX M fi kp ht kr call n (.code b :: .inLoop b :: k) env L
   | .exit id => match exitTo id k with
    | some k' => runX M fi kp ht kr call n k' env L
    | none => none
   | .region id ops draw =>
    match (bif draw then drawOk (hotOf ops (hotCalls ht id)) ops else true) with
    | false => none
    | true =>
     match runOps M.P M.inl call fi.n ops (keepAns (hotCalls kr id)) (bif draw then hotOf ops (hotCalls ht id) else fun _ => 2) (List.range ops.size) ⟨lift env,L,[],[],[]⟩ with
     | some s => match s.asm.all (fun b => b),s.eqs with
      | true,[] => runX M fi kp ht kr call n k (forget (hotCalls kp id) s.env) s.L
      | _,_ => none
     | none => none
   | .ret => match finish M.P fi env L with
    | some v => some (v,L)
    | none => none
   | _ => none
  | _ => none
def ansX (M:Mach) (K:List (Nat × List AV × AV)) (ex:FuncId -> List AV -> Heap -> Option (AV × Heap)):Answer:=fun g args L =>
 match M.inl g with
 | true => match ex g args L with
  | some (v,L') => some (v,some L')
  | none => none
 | false => match knownOf g args K with
  | some d => some (d,none)
  | none => match ex g args [] with
   | some (v,L') => match pureA L' v with
    | some d => bif (versA L' v).all (fun b => b) && d.clean then some (d,none) else none
    | none => none
   | none => none
def execX (M:Mach) (G:EG):Nat -> FuncId -> List AV -> Heap -> Option (AV × Heap)
 | 0 => fun _ _ _ => none
 | n + 1 => fun f args L =>
  match (M.P ()).funcs[f]? with
  | some fn => match fn.body,fn.name == "runtime.NumGoroutine" with
   | some c,false => runX M ⟨fn.ntmps,fn.results.toList⟩ (ofFn G.keep f) (ofFn G.hot f) (ofFn G.rows f) (ansX M G.known (execX M G n)) 100000 [.code c] (argVars 0 args) L
   | _,_ => none
  | none => none
def GoodC (inl:FuncId -> Bool) (call:Answer) (c:CF):Prop:=
 (c.own = true /\ inl c.f = true /\ ∃ o,call c.f c.args c.L = some (c.v,o) /\ c.L' = o.getD c.L) \/
 (inl c.f = false /\ ∃ L1,call c.f c.args [] = some (c.v,some L1)) \/
 (c.own = false /\ inl c.f = false /\ call c.f c.args [] = some (c.v,none))
section
variable {P:Unit -> Program}
theorem quiet_no {x:Option AV} {r:SR} (h:quiet x = some r):r.calls = []:=by
 unfold quiet at h;split at h
 ·simp only [Option.some.injEq] at h;subst h;rfl
 ·simp at h
theorem intBin_no {op:BinOp} {k:IntKind} {x y:Int} {r:SR} (h:intBin op k x y = some r):r.calls = []:=by
 unfold intBin at h
 split at h <;> first | (simp only [Option.some.injEq] at h;subst h;rfl) | (simp at h)
theorem strBin_no {op:BinOp} {x y:List UInt8} {r:SR} (h:strBin op x y = some r):r.calls = []:=by
 unfold strBin at h
 split at h <;> first | (simp only [Option.some.injEq] at h;subst h;rfl) | (simp at h)
theorem binA_no {op:BinOp} {T:TypeId} {x y:AV} {r:SR} (h:binA P op T x y = some r):r.calls = []:=by
 unfold binA at h
 split at h
 ·simp only [Option.some.injEq] at h;subst h;rfl
 ·simp only [Option.some.injEq] at h;subst h;rfl
 ·split at h
  ·exact intBin_no h
  ·simp at h
 ·exact strBin_no h
 ·split at h
  ·exact quiet_no h
  ·simp at h
 ·split at h
  ·exact quiet_no h
  ·simp at h
 ·simp at h
theorem boxA_no {L:Heap} {x:AV} {r:SR} (h:boxA L x = some r):r.calls = []:=by
 unfold boxA at h;split at h
 ·simp only [Option.some.injEq] at h;subst h;rfl
 ·simp at h
theorem loadA_no {el:Option AV} {L:Heap} {T:TypeId} {p:AV} {r:SR} (h:loadA P el L T p = some r):r.calls = []:=by
 unfold loadA at h
 repeat' split at h
 all_goals first | (simp only [Option.some.injEq] at h;subst h;rfl) | (simp at h)
theorem storeA_no {el:Option AV} {L:Heap} {T:TypeId} {p v:AV} {r:SR} (h:storeA P el L T p v = some r):r.calls = []:=by
 unfold storeA at h
 repeat' split at h
 all_goals first | (simp only [Option.some.injEq] at h;subst h;rfl) | (simp at h)
theorem buildSliceA_no {keep:Bool} {L:Heap} {T:TypeId} {len:Nat} {parts:List (Nat × AV)} {r:SR} (h:buildSliceA P keep L T len parts = some r):r.calls = []:=by
 unfold buildSliceA at h
 cases keep <;> simp only [cond_true,cond_false] at h <;> (repeat' split at h) <;> first | (simp only [Option.some.injEq] at h;subst h;rfl) | (simp at h)
theorem indexAddrA_no {L:Heap} {T:TypeId} {x i:AV} {r:SR} (h:indexAddrA P L T x i = some r):r.calls = []:=by
 unfold indexAddrA at h
 repeat' split at h
 all_goals first | (simp only [Option.some.injEq] at h;subst h;rfl) | (simp at h)
theorem indexA_no {T:TypeId} {x i:AV} {r:SR} (h:indexA P T x i = some r):r.calls = []:=by
 unfold indexA at h
 repeat' split at h
 all_goals first | (simp only [Option.some.injEq] at h;subst h;rfl) | (simp at h)
theorem sliceA_no {L:Heap} {T:TypeId} {x:AV} {lo hi mx:Option AV} {r:SR} (h:sliceA P L T x lo hi mx = some r):r.calls = []:=by
 unfold sliceA at h
 repeat' split at h
 all_goals first | (simp only [Option.some.injEq] at h;subst h;rfl) | (simp at h)
theorem appendA_no {L:Heap} {T:TypeId} {s x:AV} {r:SR} (h:appendA P L T s x = some r):r.calls = []:=by
 unfold appendA at h
 repeat' split at h
 all_goals first | (simp only [Option.some.injEq] at h;subst h;rfl) | (simp at h)
theorem clearA_no {L:Heap} {T:TypeId} {d:AV} {r:SR} (h:clearA P L T d = some r):r.calls = []:=by
 unfold clearA at h
 repeat' split at h
 all_goals first | (simp only [Option.some.injEq] at h;subst h;rfl) | (simp at h)
theorem lenA_no {L:Heap} {T:TypeId} {x:AV} {r:SR} (h:lenA P L T x = some r):r.calls = []:=by
 unfold lenA at h
 repeat' split at h
 all_goals first | (simp only [Option.some.injEq] at h;subst h;rfl) | (simp at h)
theorem makeSliceA_no {L:Heap} {T:TypeId} {a b:AV} {r:SR} (h:makeSliceA P L T a b = some r):r.calls = []:=by
 unfold makeSliceA at h
 repeat' split at h
 all_goals first | (simp only [Option.some.injEq] at h;subst h;rfl) | (simp at h)
theorem sliceArrA_no {L:Heap} {n:Nat} {e:TypeId} {x:AV} {r:SR} (h:sliceArrA P L n e x = some r):r.calls = []:=by
 unfold sliceArrA at h
 repeat' split at h
 all_goals first | (simp only [Option.some.injEq] at h;subst h;rfl) | (simp at h)
theorem appendZ_no {L:Heap} {T:TypeId} {s x:AV} {r:SR} (h:appendZ P L T s x = some r):r.calls = []:=by
 unfold appendZ at h
 repeat' split at h
 all_goals first | (simp only [Option.some.injEq] at h;subst h;rfl) | (simp at h)
theorem makeMapA_no {L:Heap} {T:TypeId} {r:SR} (h:makeMapA P L T = some r):r.calls = []:=by
 unfold makeMapA at h
 repeat' split at h
 all_goals first | (simp only [Option.some.injEq] at h;subst h;rfl) | (simp at h)
theorem lookupA_no {el:Option AV} {L:Heap} {T:TypeId} {m k:AV} {ok:Bool} {r:SR} (h:lookupA P el L T m k ok = some r):r.calls = []:=by
 unfold lookupA at h
 repeat' split at h
 all_goals first | (simp only [Option.some.injEq] at h;subst h;rfl) | (simp at h)
theorem mapUpdateA_no {L:Heap} {T:TypeId} {m k v:AV} {r:SR} (h:mapUpdateA P L T m k v = some r):r.calls = []:=by
 unfold mapUpdateA at h
 repeat' split at h
 all_goals first | (simp only [Option.some.injEq] at h;subst h;rfl) | (simp at h)
theorem mapEntryA_no {el:Option AV} {L:Heap} {T:TypeId} {m k:AV} {r:SR} (h:mapEntryA P el L T m k = some r):r.calls = []:=by
 unfold mapEntryA at h
 repeat' split at h
 all_goals first | (simp only [Option.some.injEq] at h;subst h;rfl) | (simp at h)
theorem entryStoreA_no {L:Heap} {m i v:AV} {r:SR} (h:entryStoreA L m i v = some r):r.calls = []:=by
 unfold entryStoreA at h
 repeat' split at h
 all_goals first | (simp only [Option.some.injEq] at h;subst h;rfl) | (simp at h)
theorem callF_good {inl:FuncId -> Bool} {call:Answer} {L:Heap} {g:FuncId} {args:List AV} {r:SR} (h:callF inl call L g args = some r):∀ c ∈ r.calls,GoodC inl call c:=by
 unfold callF at h
 cases hi:inl g with
 | true =>
  rw [hi] at h
  simp only [cond_true] at h
  split at h
  ·rename_i rs args' Lc hin
   split at h
   ·rename_i v o hc
    split at h
    ·simp only [Option.some.injEq] at h
     subst h
     intro c hm
     simp only [List.mem_singleton] at hm
     subst hm
     exact .inl ⟨rfl,hi,o,hc,rfl⟩
    ·simp at h
   ·simp at h
  ·simp at h
 | false =>
  rw [hi] at h
  simp only [cond_false] at h
  split at h
  ·rename_i ds hds
   split at h
   ·rename_i d hc
    split at h
    ·split at h
     all_goals
      simp only [Option.some.injEq] at h
      subst h
      intro c hm
      simp only [List.mem_singleton] at hm
      subst hm
      exact .inr (.inr ⟨rfl,hi,hc⟩)
    ·simp at h
   ·rename_i v L1 hc
    split at h
    ·split at h
     ·split at h
      ·simp only [Option.some.injEq] at h
       subst h
       intro c hm
       simp only [List.mem_singleton] at hm
       subst hm
       exact .inr (.inl ⟨hi,L1,hc⟩)
      ·simp at h
     ·simp at h
    ·simp at h
   ·simp at h
  ·simp at h
theorem good_no {inl:FuncId -> Bool} {call:Answer} {r:SR} (h:r.calls = []):∀ c ∈ r.calls,GoodC inl call c:=by
 rw [h];intro c hc;cases hc
theorem callA_good {inl:FuncId -> Bool} {call:Answer} {ρ:Operand -> AV} {L:Heap} {c:Call} {r:SR} (h:callA P inl call ρ L c = some r):∀ c ∈ r.calls,GoodC inl call c:=by
 unfold callA at h
 split at h
 ·apply good_no
  split at h
  ·split at h
   ·exact appendA_no h
   ·exact appendA_no h
   ·exact appendZ_no h
   ·simp at h
  ·exact clearA_no h
  ·exact lenA_no h
  ·exact quiet_no h
  ·exact quiet_no h
  ·exact quiet_no h
  ·simp at h
 ·split at h
  ·exact callF_good h
  ·simp at h
 ·simp at h
theorem stepA_good {inl:FuncId -> Bool} {call:Answer} {ρ:Chain -> Operand -> AV} {L:Heap} {o:Oper} {r:SR} {an:Option Ans} (han:an = none \/ an = some .keep) (h:stepA P inl call an ρ L o = some r):∀ c ∈ r.calls,GoodC inl call c:=by
 unfold stepA at h
 simp only at h
 split at h
 ·simp only [Option.some.injEq] at h;subst h;exact good_no rfl
 ·simp only [Option.some.injEq] at h;subst h;exact good_no rfl
 ·split at h
  ·exact good_no (quiet_no h)
  ·exact good_no (quiet_no h)
 ·split at h
  ·exact good_no (boxA_no h)
  ·simp at h
 ·exact good_no (boxA_no h)
 ·exact good_no (quiet_no h)
 ·exact good_no (buildSliceA_no h)
 ·exact good_no (loadA_no h)
 ·exact good_no (storeA_no h)
 ·split at h
  ·simp only [Option.some.injEq] at h;subst h;exact good_no rfl
  ·simp only [Option.some.injEq] at h;subst h;exact good_no rfl
  ·simp at h
 ·exact good_no (binA_no h)
 ·exact good_no (quiet_no h)
 ·exact good_no (quiet_no h)
 ·simp only [Option.some.injEq] at h;subst h;exact good_no rfl
 ·exact good_no (makeSliceA_no h)
 ·split at h
  ·split at h
   ·exact good_no (sliceArrA_no h)
   ·simp at h
  ·exact good_no (sliceA_no h)
 ·exact good_no (quiet_no h)
 ·exact good_no (quiet_no h)
 ·exact good_no (indexAddrA_no h)
 ·exact good_no (indexA_no h)
 ·split at h
  ·exact good_no (makeMapA_no h)
  ·simp at h
 ·exact good_no (lookupA_no h)
 ·exact good_no (mapUpdateA_no h)
 ·exact good_no (mapEntryA_no h)
 ·exact good_no (entryStoreA_no h)
 ·split at h
  ·exact good_no (quiet_no h)
  ·simp at h
 ·rcases han with rfl | rfl <;> exact callA_good h
 ·simp at h
theorem runOp_good {inl:FuncId -> Bool} {call:Answer} {n:Nat} {ops:Array Oper} {hot:Nat} {o:Oper} {s s':RS} {an:Option Ans} (han:an = none \/ an = some .keep) (h:runOp P inl call n ops an hot o s = some s') (hs:∀ c ∈ s.calls,GoodC inl call c) :
  ∀ c ∈ s'.calls,GoodC inl call c:=by
 unfold runOp at h
 split at h
 ·simp at h
 ·split at h
  ·simp only [Option.some.injEq] at h;subst h;exact hs
  ·simp at h
 ·split at h
  ·split at h
   ·simp at h
   ·split at h
    ·simp only [Option.some.injEq] at h;subst h;exact hs
    ·simp at h
  ·rename_i r hr
   have hg:=stepA_good han hr
   split at h
   ·simp at h
   ·split at h
    ·simp at h
    ·split at h
     ·simp only [Option.some.injEq] at h;subst h
      intro c hc
      rcases List.mem_append.1 hc with hc | hc
      ·exact hs c hc
      ·exact hg c hc
     ·simp only [Option.some.injEq] at h;subst h
      intro c hc
      rcases List.mem_append.1 hc with hc | hc
      ·exact hs c hc
      ·obtain ⟨c0,h1,rfl⟩:=List.mem_map.1 hc
       exact hg c0 h1
theorem keepAns_or (l:List Nat) (i:Nat):keepAns l i = none \/ keepAns l i = some .keep:=by
 unfold keepAns
 cases l.contains i with
 | true => exact .inr rfl
 | false => exact .inl rfl
theorem runOps_good {inl:FuncId -> Bool} {call:Answer} {n:Nat} {ops:Array Oper} {hot:Nat -> Nat} {ans:Nat -> Option Ans} (hans:∀ i,ans i = none \/ ans i = some .keep):∀ (l:List Nat) {s s':RS},runOps P inl call n ops ans hot l s = some s' -> (∀ c ∈ s.calls,GoodC inl call c) ->
  ∀ c ∈ s'.calls,GoodC inl call c:=by
 intro l
 induction l with
 | nil => intro s s' h hs;simp only [runOps,Option.some.injEq] at h;subst h;exact hs
 | cons i rest ih =>
  intro s s' h hs
  simp only [runOps] at h
  split at h
  ·exact ih h hs
  ·split at h
   ·rename_i s1 h1
    exact ih h (runOp_good (hans _) h1 hs)
   ·simp at h
end
def AnsOk (M:Mach) (call:Answer):Prop:=∀ f args L v o,call f args L = some (v,o) ->
 (M.inl f = true -> Ev M (.own f args L) v (o.getD L)) /\ (M.inl f = false -> o = none /\ Ev M (.pure f args) v [])
theorem runX_sound {M:Mach} {fi:Fi} {kp ht kr:List (Nat × List Nat)} {call:Answer} (hc:AnsOk M call):∀ (n:Nat) {todo:List Item} {env:Vars} {L L':Heap} {v:AV},runX M fi kp ht kr call n todo env L = some (v,L') ->
  Ev M (.run fi todo env L) v L':=by
 intro n
 induction n with
 | zero => intro todo env L L' v h;simp [runX] at h
 | succ n ih =>
  intro todo env L L' v h
  unfold runX at h
  split at h
  ·split at h
   ·rename_i w hf
    simp only [Option.some.injEq,Prod.mk.injEq] at h
    obtain ⟨rfl,rfl⟩:=h
    exact .done hf ⟨rfl,rfl⟩
   ·simp at h
  ·exact .inBlock (ih h)
  ·exact .inLoop (ih h)
  ·split at h
   ·exact .skip (ih h)
   ·exact .seq (ih h)
   ·split at h
    ·rename_i t ht
     exact .cond t ht (ih h)
    ·simp at h
   ·exact .block (ih h)
   ·exact .loop (ih h)
   ·split at h
    ·rename_i k' hk
     exact .exit hk (ih h)
    ·simp at h
   ·split at h
    ·simp at h
    ·rename_i id ops draw _ hd
     split at h
     ·rename_i s hr
      split at h
      ·rename_i ha he
       have hg:=runOps_good (keepAns_or _) _ hr (by intro c hc;cases hc)
       refine .region call (keepAns (hotCalls kr id)) _ _ s (fun h1 => ?_) hr (fun b hb => ?_) (fun p hp => ?_) (fun c hcm _ ho => ?_) (fun c hcm _ ho => ?_) (ih h)
       ·subst h1;exact hd
       ·exact (List.all_eq_true.1 ha) b hb
       ·rw [he] at hp;cases hp
       ·rcases hg c hcm with ⟨_,h2,o,h3,h4⟩ | ⟨h2,L1,h3⟩ | ⟨h2,_⟩
        ·rw [h4];exact (hc _ _ _ _ _ h3).1 h2
        ·have:=((hc _ _ _ _ _ h3).2 h2).1;simp at this
        ·rw [ho] at h2;simp at h2
       ·rcases hg c hcm with ⟨h2,_⟩ | ⟨h2,L1,h3⟩ | ⟨_,h2,h3⟩
        ·rw [ho] at h2;simp at h2
        ·have:=((hc _ _ _ _ _ h3).2 h2).1;simp at this
        ·exact ((hc _ _ _ _ _ h3).2 h2).2
      ·simp at h
     ·simp at h
   ·split at h
    ·rename_i w hf
     simp only [Option.some.injEq,Prod.mk.injEq] at h
     obtain ⟨rfl,rfl⟩:=h
     exact .ret hf ⟨rfl,rfl⟩
    ·simp at h
   ·simp at h
  ·simp at h
def KnownOk (M:Mach) (G:EG):Prop:=∀ k ∈ G.known,Ev M (.pure k.1 k.2.1) k.2.2 []
theorem ansX_ok {M:Mach} {G:EG} (hK:KnownOk M G) {ex:FuncId -> List AV -> Heap -> Option (AV × Heap)} (h:∀ f args L v L',ex f args L = some (v,L') -> Ev M (.own f args L) v L'):AnsOk M (ansX M G.known ex):=by
 intro f args L v o hc
 unfold ansX at hc
 split at hc
 ·rename_i hi
  refine ⟨fun _ => ?_,fun h2 => by rw [hi] at h2;simp at h2⟩
  split at hc
  ·rename_i w L' he
   simp only [Option.some.injEq,Prod.mk.injEq] at hc
   obtain ⟨rfl,rfl⟩:=hc
   exact h _ _ _ _ _ he
  ·simp at hc
 ·rename_i hi
  refine ⟨fun h2 => by rw [hi] at h2;simp at h2,fun _ => ?_⟩
  split at hc
  ·rename_i d hd
   simp only [Option.some.injEq,Prod.mk.injEq] at hc
   obtain ⟨rfl,rfl⟩:=hc
   exact ⟨rfl,hK _ (known_in hd)⟩
  split at hc
  ·rename_i w L' he
   split at hc
   ·rename_i d hd
    cases hb:((versA L' w).all (fun b => b) && d.clean) with
    | false => rw [hb] at hc;simp at hc
    | true =>
     rw [hb] at hc
     simp only [cond_true,Option.some.injEq,Prod.mk.injEq] at hc
     obtain ⟨rfl,rfl⟩:=hc
     simp only [Bool.and_eq_true,List.all_eq_true] at hb
     exact ⟨rfl,.pure (.mono (h _ _ _ _ _ he) fun x K ⟨e1,e2⟩ => by subst e1;subst e2;exact ⟨d,d,hd,hb.1,hb.2,.refl d,rfl,rfl⟩)⟩
   ·simp at hc
  ·simp at hc
theorem execX_sound {M:Mach} {G:EG} (hK:KnownOk M G):∀ (n:Nat) (f:FuncId) (args:List AV) (L:Heap) (v:AV) (L':Heap),execX M G n f args L = some (v,L') -> Ev M (.own f args L) v L':=by
 intro n
 induction n with
 | zero => intro f args L v L' h;simp [execX] at h
 | succ n ih =>
  intro f args L v L' h
  unfold execX at h
  split at h
  ·rename_i fn hf
   split at h
   ·rename_i c hb hn
    exact .own fn c hf hb hn (runX_sound (ansX_ok hK fun f args L v L' h => ih f args L v L' h) _ h)
   ·simp at h
  ·simp at h
def execP (M:Mach) (G:EG) (n:Nat) (f:FuncId) (args:List AV):Option AV:=
 match execX M G n f args [] with
 | some (v,L') => match pureA L' v with
  | some d => bif (versA L' v).all (fun b => b) && d.clean then some d else none
  | none => none
 | none => none
theorem exec_ev {M:Mach} {G:EG} (hK:KnownOk M G) (n:Nat) {f:FuncId} {args:List AV} {d:AV} (h:execP M G n f args = some d):Ev M (.pure f args) d []:=by
 unfold execP at h
 split at h
 ·rename_i v L' he
  split at h
  ·rename_i d0 hd
   cases hb:((versA L' v).all (fun b => b) && d0.clean) with
   | false => rw [hb] at h;simp at h
   | true =>
    rw [hb] at h
    simp only [cond_true,Option.some.injEq] at h
    subst h
    simp only [Bool.and_eq_true,List.all_eq_true] at hb
    exact .pure (.mono (execX_sound hK n _ _ _ _ _ he) fun x K ⟨e1,e2⟩ => by subst e1;subst e2;exact ⟨d0,d0,hd,hb.1,hb.2,.refl d0,rfl,rfl⟩)
  ·simp at h
 ·simp at h
end Go.Av

namespace Go.Av
open Go.Proofs
noncomputable def M1:Mach:=⟨fun _ => Try.prog,fun f => [60,59,46,33].contains f⟩
end Go.Av

namespace Go.Av
open Go.Proofs
theorem pack2 (x:AV):packA Try.prog 2 [x] = x:=by
 simp [packA,aggT,Try.underlying2]
theorem laidOut:laidOutB Try.prog = true:=by kernel_rfl
theorem ownGo:ownKnob Try.prog.godebug = none:=by kernel_rfl
end Go.Av

namespace Go.Av
abbrev vi:Int -> AV:=AV.int .i64
abbrev us (l:List Int):List AV:=List.map (AV.int .u32) l
abbrev ag (l:List AV):AV:=.agg l
abbrev vb (b:Bool):AV:=.bool b
abbrev gi {α:Type} (l:List α) (i:Nat):Option α:=l.get?Internal i
theorem b0:allB []:=trivial
theorem bc {b:Bool} {l:List Bool} (h:b = true) (r:allB l):allB (b :: l):=⟨h,r⟩
theorem q0:allP []:=trivial
theorem c0 {M:Mach}:allC M []:=trivial
theorem cc {M:Mach} {c:CF} {l:List CF} (h:c.cond = true -> c.ok M) (r:allC M l):allC M (c :: l):=⟨h,r⟩
theorem xm (p:Prop):p \/ ¬p:=Classical.em p
abbrev pc (f:Nat) (args:List AV) (v:AV):CF:=⟨true,false,f,args,[],v,[]⟩
theorem ce {M:Mach} {f:Nat} {args:List AV} {v:AV} {l:List CF} (h:Ev M (.pure f args) v []) (r:allC M l):allC M (pc f args v :: l):=⟨fun _ => h,r⟩
def retP (M:Mach) (fi:Fi) (G:Given) (n:Nat) (ds:List Bool) (todo:List Item) (env:Vars) (L:Heap):Option (AV × List Bool × List Prop × List CF):=
 match path M fi G n ds ⟨todo,env,L,[],[],[]⟩ with
 | some ⟨.code .ret :: _,env',L',asm,eqs,calls⟩ => match finish M.P fi env' L' with
  | some v => match pureA L' v with
   | some d => bif (versA L' v).all id && d.clean then some (d,asm,eqs,calls) else none
   | none => none
  | none => none
 | _ => none
theorem path_rq {M:Mach} {fi:Fi} {G:Given} (n:Nat) (ds:List Bool) {todo:List Item} {env:Vars} {L:Heap} {asm:List Bool} {eqs:List Prop} {calls:List CF} (d:AV) {dq:AV}
  (h:retP M fi G n ds todo env L = some (d,asm,eqs,calls)) (hA:allB asm) (hQ:allP eqs) (hC:allC M calls) (w:Weak d dq):Wp M (.run fi todo env L) (PureQ dq):=by
 unfold retP at h
 split at h
 ·rename_i k env' L' asm' eqs' calls' hp
  split at h
  ·rename_i v hf
   split at h
   ·rename_i d' hd
    cases hb:((versA L' v).all id && d'.clean) with
    | false => rw [hb] at h;simp at h
    | true =>
     rw [hb] at h
     simp only [cond_true,Option.some.injEq,Prod.mk.injEq] at h
     obtain ⟨rfl,rfl,rfl,rfl⟩:=h
     rw [Bool.and_eq_true,List.all_eq_true] at hb
     exact path_wp n ds _ hp hA hQ hC (.ret hf ⟨_,hd,(allB_iff _).2 hb.1,hb.2,w⟩)
   ·simp at h
  ·simp at h
 ·simp at h
theorem path_re {M:Mach} {fi:Fi} {G:Given} (n:Nat) (ds:List Bool) {todo:List Item} {env:Vars} {L:Heap} {asm:List Bool} {eqs:List Prop} {calls:List CF} (d:AV) {dq:AV}
  (h:retP M fi G n ds todo env L = some (d,asm,eqs,calls)) (hA:allB asm) (hQ:allP eqs) (hC:allC M calls) (w:d = dq):Wp M (.run fi todo env L) (PureQ dq):=
 path_rq n ds d h hA hQ hC (by rw [w];exact .refl _)
theorem pcl {M:Mach} {f:FuncId} {args:List AV} {d:AV} (fn:Func) (fi:Fi) (h0:((M.P ()).funcs[f]?,fn.body,fn.name == "runtime.NumGoroutine",(⟨fn.ntmps,fn.results.toList⟩:Fi)) = (some fn,some (cd fn),false,fi)) (h:Wp M (.run fi [.code (cd fn)] (argVars 0 args) []) (PureQ d)):Ev M (.pure f args) d []:=
 pure_pq fn fi (congrArg (fun x => x.1) h0) (congrArg (fun x => x.2.1) h0) (congrArg (fun x => x.2.2.1) h0) (congrArg (fun x => x.2.2.2) h0) h
abbrev wc (M:Mach) (fi:Fi) (fn:Func) (args:List AV) (d:AV):Prop:=Wp M (.run fi [.code (cd fn)] (argVars 0 args) []) (PureQ d)
end Go.Av

namespace Go.Av
open Go.Proofs
structure Wo where
 l:Int
 v:Int
 deriving Inhabited,DecidableEq
def Wo.a (w:Wo):AV:=.agg [.int .u8 w.l,.int .i64 w.v]
namespace Sp
def grp (c:Int):Int:=
 if c = 0 \/ c = 1000 \/ c = 2000 \/ c = 3000 \/ c = 80000 \/ c = 81000 \/ c = 82000 \/ c = 83000 then 1
 else if c = 90000 \/ c = 91000 then 2
 else if c = 54000 \/ c = 55000 \/ c = 56000 \/ c = 57000 \/ c = 58000 \/ c = 59000 then 3
 else if c = 43000 \/ c = 49000 then 4
 else if c = 98000 \/ c = 99000 then 5 else 0
end Sp
end Go.Av

namespace Go.Av
open Go.Proofs
set_option maxRecDepth 100000
def fi26:Fi:=⟨29,[.tmp 2]⟩
def kp26:List (Nat × List Nat):=[(0,[0]),(1,[3]),(2,[3,4]),(3,[3,4]),(4,[3,4]),(5,[3,4]),(6,[3,4]),(7,[3,4]),(8,[3,4]),(9,[3,4]),(10,[2]),(11,[3,13]),(12,[3,13]),(13,[2]),(14,[3,16]),(15,[3,16]),(16,[3,16]),(17,[3,16]),(18,[3,16]),(19,[3,16]),(20,[2]),(21,[3,23]),(22,[3,23]),(23,[2]),(24,[3,26]),(25,[26]),(26,[2]),(27,[2])]
def fi28:Fi:=⟨2,[.cell 0 66]⟩
def kp28:List (Nat × List Nat):=[(0,[0]),(1,[0])]
def fi29:Fi:=⟨2,[.cell 0 65]⟩
def kp29:List (Nat × List Nat):=[(0,[0]),(1,[0])]
def fi48:Fi:=⟨17,[.tmp 2]⟩
def kp48:List (Nat × List Nat):=[(0,[0]),(1,[3]),(2,[3,4]),(3,[2]),(4,[3,7]),(5,[2]),(6,[3,10]),(7,[2]),(8,[13]),(9,[2]),(10,[2])]
def mGrp_at (c:Int) (Q:AV -> Heap -> Prop):Prop:=Wp M1 (.run fi26 (atC (cd Try.f26) []) [(0,.int .i64 c)] []) Q
def mCod1_at  (Q:AV -> Heap -> Prop):Prop:=Wp M1 (.run fi48 (atC (cd Try.f48) []) [(0,.int .i64 1)] []) Q
def mCod2_at  (Q:AV -> Heap -> Prop):Prop:=Wp M1 (.run fi48 (atC (cd Try.f48) []) [(0,.int .i64 2)] []) Q
def mCod3_at  (Q:AV -> Heap -> Prop):Prop:=Wp M1 (.run fi48 (atC (cd Try.f48) []) [(0,.int .i64 3)] []) Q
def mCod4_at  (Q:AV -> Heap -> Prop):Prop:=Wp M1 (.run fi48 (atC (cd Try.f48) []) [(0,.int .i64 4)] []) Q
def mCod5_at  (Q:AV -> Heap -> Prop):Prop:=Wp M1 (.run fi48 (atC (cd Try.f48) []) [(0,.int .i64 5)] []) Q
def mNew_at  (Q:AV -> Heap -> Prop):Prop:=Wp M1 (.run fi28 (atC (cd Try.f28) []) [] []) Q
def mNewR_at  (Q:AV -> Heap -> Prop):Prop:=Wp M1 (.run fi29 (atC (cd Try.f29) []) [] []) Q
theorem call26 {args:List AV} {d:AV} (h:wc M1 fi26 Try.f26 args d):Ev M1 (.pure 26 args) d []:=pcl _ _ (by kernel_rfl) h
theorem call28 {args:List AV} {d:AV} (h:wc M1 fi28 Try.f28 args d):Ev M1 (.pure 28 args) d []:=pcl _ _ (by kernel_rfl) h
theorem call29 {args:List AV} {d:AV} (h:wc M1 fi29 Try.f29 args d):Ev M1 (.pure 29 args) d []:=pcl _ _ (by kernel_rfl) h
theorem call48 {args:List AV} {d:AV} (h:wc M1 fi48 Try.f48 args d):Ev M1 (.pure 48 args) d []:=pcl _ _ (by kernel_rfl) h
theorem mGrp (c:Int)  (dq:AV) (H :
  ((c = 0) -> vi 1 = dq) /\
  (¬(c = 0) -> ((c = 1000) -> vi 1 = dq) /\
   (¬(c = 1000) -> ((c = 2000) -> vi 1 = dq) /\
    (¬(c = 2000) -> ((c = 3000) -> vi 1 = dq) /\
     (¬(c = 3000) -> ((c = 80000) -> vi 1 = dq) /\
      (¬(c = 80000) -> ((c = 81000) -> vi 1 = dq) /\
       (¬(c = 81000) -> ((c = 82000) -> vi 1 = dq) /\
        (¬(c = 82000) -> ((c = 83000) -> vi 1 = dq) /\
         (¬(c = 83000) -> ((c = 90000) -> vi 2 = dq) /\
          (¬(c = 90000) -> ((c = 91000) -> vi 2 = dq) /\
           (¬(c = 91000) -> ((c = 54000) -> vi 3 = dq) /\
            (¬(c = 54000) -> ((c = 55000) -> vi 3 = dq) /\
             (¬(c = 55000) -> ((c = 56000) -> vi 3 = dq) /\
              (¬(c = 56000) -> ((c = 57000) -> vi 3 = dq) /\
               (¬(c = 57000) -> ((c = 58000) -> vi 3 = dq) /\
                (¬(c = 58000) -> ((c = 59000) -> vi 3 = dq) /\
                 (¬(c = 59000) -> ((c = 43000) -> vi 4 = dq) /\
                  (¬(c = 43000) -> ((c = 49000) -> vi 4 = dq) /\
                   (¬(c = 49000) -> ((c = 98000) -> vi 5 = dq) /\
                    (¬(c = 98000) -> ((c = 99000) -> vi 5 = dq) /\
                     (¬(c = 99000) -> vi 0 = dq))))))))))))))))))))) :
 mGrp_at c (PureQ dq):=by
 unfold mGrp_at
 rcases xm (c = 0) with d2 | d2
 ·have H:=H.1 d2
  exact path_re (G:=given kp26 [] []) 1000 [true,true] (vi 1) (by kernel_rfl) (bc (beq_t (i_eq.2 d2)) (bc (beq_t (i_eq.2 d2)) b0)) q0 c0 H
 ·have H:=H.2 d2
  rcases xm (c = 1000) with d5 | d5
  ·have H:=H.1 d5
   exact path_re (G:=given kp26 [] []) 1000 [false,true,true] (vi 1) (by kernel_rfl) (bc (beq_f (fun h => d2 (i_eq.1 h))) (bc (beq_t (i_eq.2 d5)) (bc (beq_t (i_eq.2 d5)) b0))) q0 c0 H
  ·have H:=H.2 d5
   rcases xm (c = 2000) with d8 | d8
   ·have H:=H.1 d8
    exact path_re (G:=given kp26 [] []) 1000 [false,false,true,true] (vi 1) (by kernel_rfl) (bc (beq_f (fun h => d2 (i_eq.1 h))) (bc (beq_f (fun h => d5 (i_eq.1 h))) (bc (beq_t (i_eq.2 d8)) (bc (beq_t (i_eq.2 d8)) b0)))) q0 c0 H
   ·have H:=H.2 d8
    rcases xm (c = 3000) with d11 | d11
    ·have H:=H.1 d11
     exact path_re (G:=given kp26 [] []) 1000 [false,false,false,true,true] (vi 1) (by kernel_rfl) (bc (beq_f (fun h => d2 (i_eq.1 h))) (bc (beq_f (fun h => d5 (i_eq.1 h))) (bc (beq_f (fun h => d8 (i_eq.1 h))) (bc (beq_t (i_eq.2 d11)) (bc (beq_t (i_eq.2 d11)) b0))))) q0 c0 H
    ·have H:=H.2 d11
     rcases xm (c = 80000) with d14 | d14
     ·have H:=H.1 d14
      exact path_re (G:=given kp26 [] []) 1000 [false,false,false,false,true,true] (vi 1) (by kernel_rfl) (bc (beq_f (fun h => d2 (i_eq.1 h))) (bc (beq_f (fun h => d5 (i_eq.1 h))) (bc (beq_f (fun h => d8 (i_eq.1 h))) (bc (beq_f (fun h => d11 (i_eq.1 h))) (bc (beq_t (i_eq.2 d14)) (bc (beq_t (i_eq.2 d14)) b0)))))) q0 c0 H
     ·have H:=H.2 d14
      rcases xm (c = 81000) with d17 | d17
      ·have H:=H.1 d17
       exact path_re (G:=given kp26 [] []) 1000 [false,false,false,false,false,true,true] (vi 1) (by kernel_rfl) (bc (beq_f (fun h => d2 (i_eq.1 h))) (bc (beq_f (fun h => d5 (i_eq.1 h))) (bc (beq_f (fun h => d8 (i_eq.1 h))) (bc (beq_f (fun h => d11 (i_eq.1 h))) (bc (beq_f (fun h => d14 (i_eq.1 h))) (bc (beq_t (i_eq.2 d17)) (bc (beq_t (i_eq.2 d17)) b0))))))) q0 c0 H
      ·have H:=H.2 d17
       rcases xm (c = 82000) with d20 | d20
       ·have H:=H.1 d20
        exact path_re (G:=given kp26 [] []) 1000 [false,false,false,false,false,false,true,true] (vi 1) (by kernel_rfl) (bc (beq_f (fun h => d2 (i_eq.1 h))) (bc (beq_f (fun h => d5 (i_eq.1 h))) (bc (beq_f (fun h => d8 (i_eq.1 h))) (bc (beq_f (fun h => d11 (i_eq.1 h))) (bc (beq_f (fun h => d14 (i_eq.1 h))) (bc (beq_f (fun h => d17 (i_eq.1 h))) (bc (beq_t (i_eq.2 d20)) (bc (beq_t (i_eq.2 d20)) b0)))))))) q0 c0 H
       ·have H:=H.2 d20
        rcases xm (c = 83000) with d23 | d23
        ·have H:=H.1 d23
         exact path_re (G:=given kp26 [] []) 1000 [false,false,false,false,false,false,false,true] (vi 1) (by kernel_rfl) (bc (beq_f (fun h => d2 (i_eq.1 h))) (bc (beq_f (fun h => d5 (i_eq.1 h))) (bc (beq_f (fun h => d8 (i_eq.1 h))) (bc (beq_f (fun h => d11 (i_eq.1 h))) (bc (beq_f (fun h => d14 (i_eq.1 h))) (bc (beq_f (fun h => d17 (i_eq.1 h))) (bc (beq_f (fun h => d20 (i_eq.1 h))) (bc (beq_t (i_eq.2 d23)) b0)))))))) q0 c0 H
        ·have H:=H.2 d23
         rcases xm (c = 90000) with d25 | d25
         ·have H:=H.1 d25
          exact path_re (G:=given kp26 [] []) 1000 [false,false,false,false,false,false,false,false,true,true] (vi 2) (by kernel_rfl) (bc (beq_f (fun h => d2 (i_eq.1 h))) (bc (beq_f (fun h => d5 (i_eq.1 h))) (bc (beq_f (fun h => d8 (i_eq.1 h))) (bc (beq_f (fun h => d11 (i_eq.1 h))) (bc (beq_f (fun h => d14 (i_eq.1 h))) (bc (beq_f (fun h => d17 (i_eq.1 h))) (bc (beq_f (fun h => d20 (i_eq.1 h))) (bc (beq_f (fun h => d23 (i_eq.1 h))) (bc (beq_t (i_eq.2 d25)) (bc (beq_t (i_eq.2 d25)) b0)))))))))) q0 c0 H
         ·have H:=H.2 d25
          rcases xm (c = 91000) with d28 | d28
          ·have H:=H.1 d28
           exact path_re (G:=given kp26 [] []) 1000 [false,false,false,false,false,false,false,false,false,true] (vi 2) (by kernel_rfl) (bc (beq_f (fun h => d2 (i_eq.1 h))) (bc (beq_f (fun h => d5 (i_eq.1 h))) (bc (beq_f (fun h => d8 (i_eq.1 h))) (bc (beq_f (fun h => d11 (i_eq.1 h))) (bc (beq_f (fun h => d14 (i_eq.1 h))) (bc (beq_f (fun h => d17 (i_eq.1 h))) (bc (beq_f (fun h => d20 (i_eq.1 h))) (bc (beq_f (fun h => d23 (i_eq.1 h))) (bc (beq_f (fun h => d25 (i_eq.1 h))) (bc (beq_t (i_eq.2 d28)) b0)))))))))) q0 c0 H
          ·have H:=H.2 d28
           rcases xm (c = 54000) with d30 | d30
           ·have H:=H.1 d30
            exact path_re (G:=given kp26 [] []) 1000 [false,false,false,false,false,false,false,false,false,false,true,true] (vi 3) (by kernel_rfl) (bc (beq_f (fun h => d2 (i_eq.1 h))) (bc (beq_f (fun h => d5 (i_eq.1 h))) (bc (beq_f (fun h => d8 (i_eq.1 h))) (bc (beq_f (fun h => d11 (i_eq.1 h))) (bc (beq_f (fun h => d14 (i_eq.1 h))) (bc (beq_f (fun h => d17 (i_eq.1 h))) (bc (beq_f (fun h => d20 (i_eq.1 h))) (bc (beq_f (fun h => d23 (i_eq.1 h))) (bc (beq_f (fun h => d25 (i_eq.1 h))) (bc (beq_f (fun h => d28 (i_eq.1 h))) (bc (beq_t (i_eq.2 d30)) (bc (beq_t (i_eq.2 d30)) b0)))))))))))) q0 c0 H
           ·have H:=H.2 d30
            rcases xm (c = 55000) with d33 | d33
            ·have H:=H.1 d33
             exact path_re (G:=given kp26 [] []) 1000 [false,false,false,false,false,false,false,false,false,false,false,true,true] (vi 3) (by kernel_rfl) (bc (beq_f (fun h => d2 (i_eq.1 h))) (bc (beq_f (fun h => d5 (i_eq.1 h))) (bc (beq_f (fun h => d8 (i_eq.1 h))) (bc (beq_f (fun h => d11 (i_eq.1 h))) (bc (beq_f (fun h => d14 (i_eq.1 h))) (bc (beq_f (fun h => d17 (i_eq.1 h))) (bc (beq_f (fun h => d20 (i_eq.1 h))) (bc (beq_f (fun h => d23 (i_eq.1 h))) (bc (beq_f (fun h => d25 (i_eq.1 h))) (bc (beq_f (fun h => d28 (i_eq.1 h))) (bc (beq_f (fun h => d30 (i_eq.1 h))) (bc (beq_t (i_eq.2 d33)) (bc (beq_t (i_eq.2 d33)) b0))))))))))))) q0 c0 H
            ·have H:=H.2 d33
             rcases xm (c = 56000) with d36 | d36
             ·have H:=H.1 d36
              exact path_re (G:=given kp26 [] []) 1000 [false,false,false,false,false,false,false,false,false,false,false,false,true,true] (vi 3) (by kernel_rfl) (bc (beq_f (fun h => d2 (i_eq.1 h))) (bc (beq_f (fun h => d5 (i_eq.1 h))) (bc (beq_f (fun h => d8 (i_eq.1 h))) (bc (beq_f (fun h => d11 (i_eq.1 h))) (bc (beq_f (fun h => d14 (i_eq.1 h))) (bc (beq_f (fun h => d17 (i_eq.1 h))) (bc (beq_f (fun h => d20 (i_eq.1 h))) (bc (beq_f (fun h => d23 (i_eq.1 h))) (bc (beq_f (fun h => d25 (i_eq.1 h))) (bc (beq_f (fun h => d28 (i_eq.1 h))) (bc (beq_f (fun h => d30 (i_eq.1 h))) (bc (beq_f (fun h => d33 (i_eq.1 h))) (bc (beq_t (i_eq.2 d36)) (bc (beq_t (i_eq.2 d36)) b0)))))))))))))) q0 c0 H
             ·have H:=H.2 d36
              rcases xm (c = 57000) with d39 | d39
              ·have H:=H.1 d39
               exact path_re (G:=given kp26 [] []) 1000 [false,false,false,false,false,false,false,false,false,false,false,false,false,true,true] (vi 3) (by kernel_rfl) (bc (beq_f (fun h => d2 (i_eq.1 h))) (bc (beq_f (fun h => d5 (i_eq.1 h))) (bc (beq_f (fun h => d8 (i_eq.1 h))) (bc (beq_f (fun h => d11 (i_eq.1 h))) (bc (beq_f (fun h => d14 (i_eq.1 h))) (bc (beq_f (fun h => d17 (i_eq.1 h))) (bc (beq_f (fun h => d20 (i_eq.1 h))) (bc (beq_f (fun h => d23 (i_eq.1 h))) (bc (beq_f (fun h => d25 (i_eq.1 h))) (bc (beq_f (fun h => d28 (i_eq.1 h))) (bc (beq_f (fun h => d30 (i_eq.1 h))) (bc (beq_f (fun h => d33 (i_eq.1 h))) (bc (beq_f (fun h => d36 (i_eq.1 h))) (bc (beq_t (i_eq.2 d39)) (bc (beq_t (i_eq.2 d39)) b0))))))))))))))) q0 c0 H
              ·have H:=H.2 d39
               rcases xm (c = 58000) with d42 | d42
               ·have H:=H.1 d42
                exact path_re (G:=given kp26 [] []) 1000 [false,false,false,false,false,false,false,false,false,false,false,false,false,false,true,true] (vi 3) (by kernel_rfl) (bc (beq_f (fun h => d2 (i_eq.1 h))) (bc (beq_f (fun h => d5 (i_eq.1 h))) (bc (beq_f (fun h => d8 (i_eq.1 h))) (bc (beq_f (fun h => d11 (i_eq.1 h))) (bc (beq_f (fun h => d14 (i_eq.1 h))) (bc (beq_f (fun h => d17 (i_eq.1 h))) (bc (beq_f (fun h => d20 (i_eq.1 h))) (bc (beq_f (fun h => d23 (i_eq.1 h))) (bc (beq_f (fun h => d25 (i_eq.1 h))) (bc (beq_f (fun h => d28 (i_eq.1 h))) (bc (beq_f (fun h => d30 (i_eq.1 h))) (bc (beq_f (fun h => d33 (i_eq.1 h))) (bc (beq_f (fun h => d36 (i_eq.1 h))) (bc (beq_f (fun h => d39 (i_eq.1 h))) (bc (beq_t (i_eq.2 d42)) (bc (beq_t (i_eq.2 d42)) b0)))))))))))))))) q0 c0 H
               ·have H:=H.2 d42
                rcases xm (c = 59000) with d45 | d45
                ·have H:=H.1 d45
                 exact path_re (G:=given kp26 [] []) 1000 [false,false,false,false,false,false,false,false,false,false,false,false,false,false,false,true] (vi 3) (by kernel_rfl) (bc (beq_f (fun h => d2 (i_eq.1 h))) (bc (beq_f (fun h => d5 (i_eq.1 h))) (bc (beq_f (fun h => d8 (i_eq.1 h))) (bc (beq_f (fun h => d11 (i_eq.1 h))) (bc (beq_f (fun h => d14 (i_eq.1 h))) (bc (beq_f (fun h => d17 (i_eq.1 h))) (bc (beq_f (fun h => d20 (i_eq.1 h))) (bc (beq_f (fun h => d23 (i_eq.1 h))) (bc (beq_f (fun h => d25 (i_eq.1 h))) (bc (beq_f (fun h => d28 (i_eq.1 h))) (bc (beq_f (fun h => d30 (i_eq.1 h))) (bc (beq_f (fun h => d33 (i_eq.1 h))) (bc (beq_f (fun h => d36 (i_eq.1 h))) (bc (beq_f (fun h => d39 (i_eq.1 h))) (bc (beq_f (fun h => d42 (i_eq.1 h))) (bc (beq_t (i_eq.2 d45)) b0)))))))))))))))) q0 c0 H
                ·have H:=H.2 d45
                 rcases xm (c = 43000) with d47 | d47
                 ·have H:=H.1 d47
                  exact path_re (G:=given kp26 [] []) 1000 [false,false,false,false,false,false,false,false,false,false,false,false,false,false,false,false,true,true] (vi 4) (by kernel_rfl) (bc (beq_f (fun h => d2 (i_eq.1 h))) (bc (beq_f (fun h => d5 (i_eq.1 h))) (bc (beq_f (fun h => d8 (i_eq.1 h))) (bc (beq_f (fun h => d11 (i_eq.1 h))) (bc (beq_f (fun h => d14 (i_eq.1 h))) (bc (beq_f (fun h => d17 (i_eq.1 h))) (bc (beq_f (fun h => d20 (i_eq.1 h))) (bc (beq_f (fun h => d23 (i_eq.1 h))) (bc (beq_f (fun h => d25 (i_eq.1 h))) (bc (beq_f (fun h => d28 (i_eq.1 h))) (bc (beq_f (fun h => d30 (i_eq.1 h))) (bc (beq_f (fun h => d33 (i_eq.1 h))) (bc (beq_f (fun h => d36 (i_eq.1 h))) (bc (beq_f (fun h => d39 (i_eq.1 h))) (bc (beq_f (fun h => d42 (i_eq.1 h))) (bc (beq_f (fun h => d45 (i_eq.1 h))) (bc (beq_t (i_eq.2 d47)) (bc (beq_t (i_eq.2 d47)) b0)))))))))))))))))) q0 c0 H
                 ·have H:=H.2 d47
                  rcases xm (c = 49000) with d50 | d50
                  ·have H:=H.1 d50
                   exact path_re (G:=given kp26 [] []) 1000 [false,false,false,false,false,false,false,false,false,false,false,false,false,false,false,false,false,true] (vi 4) (by kernel_rfl) (bc (beq_f (fun h => d2 (i_eq.1 h))) (bc (beq_f (fun h => d5 (i_eq.1 h))) (bc (beq_f (fun h => d8 (i_eq.1 h))) (bc (beq_f (fun h => d11 (i_eq.1 h))) (bc (beq_f (fun h => d14 (i_eq.1 h))) (bc (beq_f (fun h => d17 (i_eq.1 h))) (bc (beq_f (fun h => d20 (i_eq.1 h))) (bc (beq_f (fun h => d23 (i_eq.1 h))) (bc (beq_f (fun h => d25 (i_eq.1 h))) (bc (beq_f (fun h => d28 (i_eq.1 h))) (bc (beq_f (fun h => d30 (i_eq.1 h))) (bc (beq_f (fun h => d33 (i_eq.1 h))) (bc (beq_f (fun h => d36 (i_eq.1 h))) (bc (beq_f (fun h => d39 (i_eq.1 h))) (bc (beq_f (fun h => d42 (i_eq.1 h))) (bc (beq_f (fun h => d45 (i_eq.1 h))) (bc (beq_f (fun h => d47 (i_eq.1 h))) (bc (beq_t (i_eq.2 d50)) b0)))))))))))))))))) q0 c0 H
                  ·have H:=H.2 d50
                   rcases xm (c = 98000) with d52 | d52
                   ·have H:=H.1 d52
                    exact path_re (G:=given kp26 [] []) 1000 [false,false,false,false,false,false,false,false,false,false,false,false,false,false,false,false,false,false,true,true] (vi 5) (by kernel_rfl) (bc (beq_f (fun h => d2 (i_eq.1 h))) (bc (beq_f (fun h => d5 (i_eq.1 h))) (bc (beq_f (fun h => d8 (i_eq.1 h))) (bc (beq_f (fun h => d11 (i_eq.1 h))) (bc (beq_f (fun h => d14 (i_eq.1 h))) (bc (beq_f (fun h => d17 (i_eq.1 h))) (bc (beq_f (fun h => d20 (i_eq.1 h))) (bc (beq_f (fun h => d23 (i_eq.1 h))) (bc (beq_f (fun h => d25 (i_eq.1 h))) (bc (beq_f (fun h => d28 (i_eq.1 h))) (bc (beq_f (fun h => d30 (i_eq.1 h))) (bc (beq_f (fun h => d33 (i_eq.1 h))) (bc (beq_f (fun h => d36 (i_eq.1 h))) (bc (beq_f (fun h => d39 (i_eq.1 h))) (bc (beq_f (fun h => d42 (i_eq.1 h))) (bc (beq_f (fun h => d45 (i_eq.1 h))) (bc (beq_f (fun h => d47 (i_eq.1 h))) (bc (beq_f (fun h => d50 (i_eq.1 h))) (bc (beq_t (i_eq.2 d52)) (bc (beq_t (i_eq.2 d52)) b0)))))))))))))))))))) q0 c0 H
                   ·have H:=H.2 d52
                    rcases xm (c = 99000) with d55 | d55
                    ·have H:=H.1 d55
                     exact path_re (G:=given kp26 [] []) 1000 [false,false,false,false,false,false,false,false,false,false,false,false,false,false,false,false,false,false,false,true] (vi 5) (by kernel_rfl) (bc (beq_f (fun h => d2 (i_eq.1 h))) (bc (beq_f (fun h => d5 (i_eq.1 h))) (bc (beq_f (fun h => d8 (i_eq.1 h))) (bc (beq_f (fun h => d11 (i_eq.1 h))) (bc (beq_f (fun h => d14 (i_eq.1 h))) (bc (beq_f (fun h => d17 (i_eq.1 h))) (bc (beq_f (fun h => d20 (i_eq.1 h))) (bc (beq_f (fun h => d23 (i_eq.1 h))) (bc (beq_f (fun h => d25 (i_eq.1 h))) (bc (beq_f (fun h => d28 (i_eq.1 h))) (bc (beq_f (fun h => d30 (i_eq.1 h))) (bc (beq_f (fun h => d33 (i_eq.1 h))) (bc (beq_f (fun h => d36 (i_eq.1 h))) (bc (beq_f (fun h => d39 (i_eq.1 h))) (bc (beq_f (fun h => d42 (i_eq.1 h))) (bc (beq_f (fun h => d45 (i_eq.1 h))) (bc (beq_f (fun h => d47 (i_eq.1 h))) (bc (beq_f (fun h => d50 (i_eq.1 h))) (bc (beq_f (fun h => d52 (i_eq.1 h))) (bc (beq_t (i_eq.2 d55)) b0)))))))))))))))))))) q0 c0 H
                    ·have H:=H.2 d55
                     exact path_re (G:=given kp26 [] []) 1000 [false,false,false,false,false,false,false,false,false,false,false,false,false,false,false,false,false,false,false,false] (vi 0) (by kernel_rfl) (bc (beq_f (fun h => d2 (i_eq.1 h))) (bc (beq_f (fun h => d5 (i_eq.1 h))) (bc (beq_f (fun h => d8 (i_eq.1 h))) (bc (beq_f (fun h => d11 (i_eq.1 h))) (bc (beq_f (fun h => d14 (i_eq.1 h))) (bc (beq_f (fun h => d17 (i_eq.1 h))) (bc (beq_f (fun h => d20 (i_eq.1 h))) (bc (beq_f (fun h => d23 (i_eq.1 h))) (bc (beq_f (fun h => d25 (i_eq.1 h))) (bc (beq_f (fun h => d28 (i_eq.1 h))) (bc (beq_f (fun h => d30 (i_eq.1 h))) (bc (beq_f (fun h => d33 (i_eq.1 h))) (bc (beq_f (fun h => d36 (i_eq.1 h))) (bc (beq_f (fun h => d39 (i_eq.1 h))) (bc (beq_f (fun h => d42 (i_eq.1 h))) (bc (beq_f (fun h => d45 (i_eq.1 h))) (bc (beq_f (fun h => d47 (i_eq.1 h))) (bc (beq_f (fun h => d50 (i_eq.1 h))) (bc (beq_f (fun h => d52 (i_eq.1 h))) (bc (beq_f (fun h => d55 (i_eq.1 h))) b0)))))))))))))))))))) q0 c0 H
theorem mCod1   (dq:AV) (H :
  Weak (AV.vec true 1 [vi 0,vi 1,vi 2,vi 3,vi 80,vi 81,vi 82,vi 83]) dq) :
 mCod1_at  (PureQ dq):=by
 unfold mCod1_at
 exact path_rq (G:=given kp48 [] []) 1000 [true] (AV.vec true 1 [vi 0,vi 1,vi 2,vi 3,vi 80,vi 81,vi 82,vi 83]) (by kernel_rfl) (bc rfl b0) q0 c0 H
theorem mCod2   (dq:AV) (H :
  Weak (AV.vec true 1 [vi 90,vi 91]) dq) :
 mCod2_at  (PureQ dq):=by
 unfold mCod2_at
 exact path_rq (G:=given kp48 [] []) 1000 [false,true] (AV.vec true 1 [vi 90,vi 91]) (by kernel_rfl) (bc rfl (bc rfl b0)) q0 c0 H
theorem mCod3   (dq:AV) (H :
  Weak (AV.vec true 1 [vi 54,vi 55,vi 56,vi 57,vi 58,vi 59]) dq) :
 mCod3_at  (PureQ dq):=by
 unfold mCod3_at
 exact path_rq (G:=given kp48 [] []) 1000 [false,false,true] (AV.vec true 1 [vi 54,vi 55,vi 56,vi 57,vi 58,vi 59]) (by kernel_rfl) (bc rfl (bc rfl (bc rfl b0))) q0 c0 H
theorem mCod4   (dq:AV) (H :
  Weak (AV.vec true 1 [vi 43,vi 49]) dq) :
 mCod4_at  (PureQ dq):=by
 unfold mCod4_at
 exact path_rq (G:=given kp48 [] []) 1000 [false,false,false,true] (AV.vec true 1 [vi 43,vi 49]) (by kernel_rfl) (bc rfl (bc rfl (bc rfl (bc rfl b0)))) q0 c0 H
theorem mCod5   (dq:AV) (H :
  Weak (AV.vec true 1 [vi 98,vi 99]) dq) :
 mCod5_at  (PureQ dq):=by
 unfold mCod5_at
 exact path_rq (G:=given kp48 [] []) 1000 [false,false,false,false] (AV.vec true 1 [vi 98,vi 99]) (by kernel_rfl) (bc rfl (bc rfl (bc rfl (bc rfl b0)))) q0 c0 H
theorem mNew   (dq:AV) (H :
  ag [vi 0,vi 90000,vi 54000,vi 49000,vi 98000,vi 0,vi 0,vi 0] = dq) :
 mNew_at  (PureQ dq):=by
 unfold mNew_at
 exact path_re (G:=given kp28 [] []) 1000 [] (ag [vi 0,vi 90000,vi 54000,vi 49000,vi 98000,vi 0,vi 0,vi 0]) (by kernel_rfl) (bc rfl b0) q0 c0 H
theorem mNewR   (dq:AV) (H :
  ag [vi 0,vi 90000,vi 54000,vi 49000,vi 98000,vi 0,vi 0,vi 0] = dq) :
 mNewR_at  (PureQ dq):=by
 unfold mNewR_at
 exact path_re (G:=given kp29 [] []) 1000 [] (ag [vi 0,vi 90000,vi 54000,vi 49000,vi 98000,vi 0,vi 0,vi 0]) (by kernel_rfl) (bc rfl b0) q0 c0 H
end Go.Av

namespace Go.Av
open Go.Proofs
theorem ev48_a:Ev M1 (.pure 48 [.int .i64 1]) (.vec true 1 [.int .i64 0,.int .i64 1,.int .i64 2,.int .i64 3,.int .i64 80,.int .i64 81,.int .i64 82,.int .i64 83]) []:=call48 (mCod1 _ (.refl _))
theorem ev48_b:Ev M1 (.pure 48 [.int .i64 2]) (.vec true 1 [.int .i64 90,.int .i64 91]) []:=call48 (mCod2 _ (.refl _))
theorem ev48_c:Ev M1 (.pure 48 [.int .i64 3]) (.vec true 1 [.int .i64 54,.int .i64 55,.int .i64 56,.int .i64 57,.int .i64 58,.int .i64 59]) []:=call48 (mCod3 _ (.refl _))
theorem ev48_d:Ev M1 (.pure 48 [.int .i64 4]) (.vec true 1 [.int .i64 43,.int .i64 49]) []:=call48 (mCod4 _ (.refl _))
theorem ev48_e:Ev M1 (.pure 48 [.int .i64 5]) (.vec true 1 [.int .i64 98,.int .i64 99]) []:=call48 (mCod5 _ (.refl _))
theorem grp_no {c:Int} (h:∀ k ∈ [0,1000,2000,3000,80000,81000,82000,83000,90000,91000,54000,55000,56000,57000,58000,59000,43000,49000,98000,(99000:Int)],¬c = k):Sp.grp c = 0:=by
 simp only [List.mem_cons,List.not_mem_nil,or_false,forall_eq_or_imp,forall_eq] at h
 unfold Sp.grp
 rw [if_neg (by omega),if_neg (by omega),if_neg (by omega),if_neg (by omega),if_neg (by omega)]
theorem ev26 (c:Int):Ev M1 (.pure 26 [.int .i64 c]) (.int .i64 (Sp.grp c)) []:=by
 have L {k g:Int} (h:c = k) (e:Sp.grp k = g):AV.int .i64 g = .int .i64 (Sp.grp c):=by rw [h,e]
 refine call26 (mGrp _ _ ⟨fun h => L h rfl,fun h1 => ⟨fun h => L h rfl,fun h2 => ⟨fun h => L h rfl,fun h3 => ⟨fun h => L h rfl,fun h4 => ⟨fun h => L h rfl,fun h5 => ⟨fun h => L h rfl,fun h6 => ⟨fun h => L h rfl,fun h7 => ⟨fun h => L h rfl,fun h8 => ⟨fun h => L h rfl,fun h9 => ⟨fun h => L h rfl,fun h10 => ⟨fun h => L h rfl,fun h11 => ⟨fun h => L h rfl,fun h12 => ⟨fun h => L h rfl,fun h13 => ⟨fun h => L h rfl,fun h14 => ⟨fun h => L h rfl,fun h15 => ⟨fun h => L h rfl,fun h16 => ⟨fun h => L h rfl,fun h17 => ⟨fun h => L h rfl,fun h18 => ⟨fun h => L h rfl,fun h19 => ⟨fun h => L h rfl,fun h20 => ?_⟩⟩⟩⟩⟩⟩⟩⟩⟩⟩⟩⟩⟩⟩⟩⟩⟩⟩⟩⟩)
 rw [grp_no (by simp only [List.mem_cons,List.not_mem_nil,or_false,forall_eq_or_imp,forall_eq];exact ⟨h1,h2,h3,h4,h5,h6,h7,h8,h9,h10,h11,h12,h13,h14,h15,h16,h17,h18,h19,h20⟩)]
end Go.Av

namespace Go.Av
open Go.Proofs
set_option maxRecDepth 100000
def fi27:Fi:=⟨26,[.tmp 2]⟩
def kp27:List (Nat × List Nat):=[(0,[0]),(1,[0,3]),(2,[0,3,7]),(3,[0,3]),(4,[0,3,4]),(5,[0,3,4,5]),(6,[0,3,4,5,15]),(7,[0,3,4,5]),(8,[0,3,4,5,24]),(9,[2]),(10,[2])]
def mRg_at (c:Int) (Q:AV -> Heap -> Prop):Prop:=Wp M1 (.run fi27 (atC (cd Try.f27) []) [(0,.int .i64 c)] []) Q
def mRg1_at (c:Int) (Q:AV -> Heap -> Prop):Prop:=Wp M1 (.run fi27 (atC (cd Try.f27) [1,0,1,0,0]) [(0,.int .i64 c),(3,.int .i64 1)] []) Q
def mRg2_at (c:Int) (Q:AV -> Heap -> Prop):Prop:=Wp M1 (.run fi27 (atC (cd Try.f27) [1,0,1,0,0]) [(0,.int .i64 c),(3,.int .i64 2)] []) Q
def mRg3_at (c:Int) (Q:AV -> Heap -> Prop):Prop:=Wp M1 (.run fi27 (atC (cd Try.f27) [1,0,1,0,0]) [(0,.int .i64 c),(3,.int .i64 3)] []) Q
def mRg4_at (c:Int) (Q:AV -> Heap -> Prop):Prop:=Wp M1 (.run fi27 (atC (cd Try.f27) [1,0,1,0,0]) [(0,.int .i64 c),(3,.int .i64 4)] []) Q
def mRg5_at (c:Int) (Q:AV -> Heap -> Prop):Prop:=Wp M1 (.run fi27 (atC (cd Try.f27) [1,0,1,0,0]) [(0,.int .i64 c),(3,.int .i64 5)] []) Q
def mRg6_at (c:Int) (Q:AV -> Heap -> Prop):Prop:=Wp M1 (.run fi27 (atC (cd Try.f27) [1,0,1,0,0]) [(0,.int .i64 c),(3,.int .i64 6)] []) Q
def mRg1i0_at (c:Int) (Q:AV -> Heap -> Prop):Prop:=Wp M1 (.run fi27 (atC (cd Try.f27) [1,0,1,0,0,1,0,0,1,1,0,0]) [(0,.int .i64 c),(3,.int .i64 1),(4,.vec true 1 [.int .i64 0,.int .i64 1,.int .i64 2,.int .i64 3,.int .i64 80,.int .i64 81,.int .i64 82,.int .i64 83]),(5,.int .i64 0)] []) Q
def mRg1i1_at (c:Int) (Q:AV -> Heap -> Prop):Prop:=Wp M1 (.run fi27 (atC (cd Try.f27) [1,0,1,0,0,1,0,0,1,1,0,0]) [(0,.int .i64 c),(3,.int .i64 1),(4,.vec true 1 [.int .i64 0,.int .i64 1,.int .i64 2,.int .i64 3,.int .i64 80,.int .i64 81,.int .i64 82,.int .i64 83]),(5,.int .i64 1)] []) Q
def mRg1i2_at (c:Int) (Q:AV -> Heap -> Prop):Prop:=Wp M1 (.run fi27 (atC (cd Try.f27) [1,0,1,0,0,1,0,0,1,1,0,0]) [(0,.int .i64 c),(3,.int .i64 1),(4,.vec true 1 [.int .i64 0,.int .i64 1,.int .i64 2,.int .i64 3,.int .i64 80,.int .i64 81,.int .i64 82,.int .i64 83]),(5,.int .i64 2)] []) Q
def mRg1i3_at (c:Int) (Q:AV -> Heap -> Prop):Prop:=Wp M1 (.run fi27 (atC (cd Try.f27) [1,0,1,0,0,1,0,0,1,1,0,0]) [(0,.int .i64 c),(3,.int .i64 1),(4,.vec true 1 [.int .i64 0,.int .i64 1,.int .i64 2,.int .i64 3,.int .i64 80,.int .i64 81,.int .i64 82,.int .i64 83]),(5,.int .i64 3)] []) Q
def mRg1i4_at (c:Int) (Q:AV -> Heap -> Prop):Prop:=Wp M1 (.run fi27 (atC (cd Try.f27) [1,0,1,0,0,1,0,0,1,1,0,0]) [(0,.int .i64 c),(3,.int .i64 1),(4,.vec true 1 [.int .i64 0,.int .i64 1,.int .i64 2,.int .i64 3,.int .i64 80,.int .i64 81,.int .i64 82,.int .i64 83]),(5,.int .i64 4)] []) Q
def mRg1i5_at (c:Int) (Q:AV -> Heap -> Prop):Prop:=Wp M1 (.run fi27 (atC (cd Try.f27) [1,0,1,0,0,1,0,0,1,1,0,0]) [(0,.int .i64 c),(3,.int .i64 1),(4,.vec true 1 [.int .i64 0,.int .i64 1,.int .i64 2,.int .i64 3,.int .i64 80,.int .i64 81,.int .i64 82,.int .i64 83]),(5,.int .i64 5)] []) Q
def mRg1i6_at (c:Int) (Q:AV -> Heap -> Prop):Prop:=Wp M1 (.run fi27 (atC (cd Try.f27) [1,0,1,0,0,1,0,0,1,1,0,0]) [(0,.int .i64 c),(3,.int .i64 1),(4,.vec true 1 [.int .i64 0,.int .i64 1,.int .i64 2,.int .i64 3,.int .i64 80,.int .i64 81,.int .i64 82,.int .i64 83]),(5,.int .i64 6)] []) Q
def mRg1i7_at (c:Int) (Q:AV -> Heap -> Prop):Prop:=Wp M1 (.run fi27 (atC (cd Try.f27) [1,0,1,0,0,1,0,0,1,1,0,0]) [(0,.int .i64 c),(3,.int .i64 1),(4,.vec true 1 [.int .i64 0,.int .i64 1,.int .i64 2,.int .i64 3,.int .i64 80,.int .i64 81,.int .i64 82,.int .i64 83]),(5,.int .i64 7)] []) Q
def mRg1i8_at (c:Int) (Q:AV -> Heap -> Prop):Prop:=Wp M1 (.run fi27 (atC (cd Try.f27) [1,0,1,0,0,1,0,0,1,1,0,0]) [(0,.int .i64 c),(3,.int .i64 1),(4,.vec true 1 [.int .i64 0,.int .i64 1,.int .i64 2,.int .i64 3,.int .i64 80,.int .i64 81,.int .i64 82,.int .i64 83]),(5,.int .i64 8)] []) Q
def mRg2i0_at (c:Int) (Q:AV -> Heap -> Prop):Prop:=Wp M1 (.run fi27 (atC (cd Try.f27) [1,0,1,0,0,1,0,0,1,1,0,0]) [(0,.int .i64 c),(3,.int .i64 2),(4,.vec true 1 [.int .i64 90,.int .i64 91]),(5,.int .i64 0)] []) Q
def mRg2i1_at (c:Int) (Q:AV -> Heap -> Prop):Prop:=Wp M1 (.run fi27 (atC (cd Try.f27) [1,0,1,0,0,1,0,0,1,1,0,0]) [(0,.int .i64 c),(3,.int .i64 2),(4,.vec true 1 [.int .i64 90,.int .i64 91]),(5,.int .i64 1)] []) Q
def mRg2i2_at (c:Int) (Q:AV -> Heap -> Prop):Prop:=Wp M1 (.run fi27 (atC (cd Try.f27) [1,0,1,0,0,1,0,0,1,1,0,0]) [(0,.int .i64 c),(3,.int .i64 2),(4,.vec true 1 [.int .i64 90,.int .i64 91]),(5,.int .i64 2)] []) Q
def mRg3i0_at (c:Int) (Q:AV -> Heap -> Prop):Prop:=Wp M1 (.run fi27 (atC (cd Try.f27) [1,0,1,0,0,1,0,0,1,1,0,0]) [(0,.int .i64 c),(3,.int .i64 3),(4,.vec true 1 [.int .i64 54,.int .i64 55,.int .i64 56,.int .i64 57,.int .i64 58,.int .i64 59]),(5,.int .i64 0)] []) Q
def mRg3i1_at (c:Int) (Q:AV -> Heap -> Prop):Prop:=Wp M1 (.run fi27 (atC (cd Try.f27) [1,0,1,0,0,1,0,0,1,1,0,0]) [(0,.int .i64 c),(3,.int .i64 3),(4,.vec true 1 [.int .i64 54,.int .i64 55,.int .i64 56,.int .i64 57,.int .i64 58,.int .i64 59]),(5,.int .i64 1)] []) Q
def mRg3i2_at (c:Int) (Q:AV -> Heap -> Prop):Prop:=Wp M1 (.run fi27 (atC (cd Try.f27) [1,0,1,0,0,1,0,0,1,1,0,0]) [(0,.int .i64 c),(3,.int .i64 3),(4,.vec true 1 [.int .i64 54,.int .i64 55,.int .i64 56,.int .i64 57,.int .i64 58,.int .i64 59]),(5,.int .i64 2)] []) Q
def mRg3i3_at (c:Int) (Q:AV -> Heap -> Prop):Prop:=Wp M1 (.run fi27 (atC (cd Try.f27) [1,0,1,0,0,1,0,0,1,1,0,0]) [(0,.int .i64 c),(3,.int .i64 3),(4,.vec true 1 [.int .i64 54,.int .i64 55,.int .i64 56,.int .i64 57,.int .i64 58,.int .i64 59]),(5,.int .i64 3)] []) Q
def mRg3i4_at (c:Int) (Q:AV -> Heap -> Prop):Prop:=Wp M1 (.run fi27 (atC (cd Try.f27) [1,0,1,0,0,1,0,0,1,1,0,0]) [(0,.int .i64 c),(3,.int .i64 3),(4,.vec true 1 [.int .i64 54,.int .i64 55,.int .i64 56,.int .i64 57,.int .i64 58,.int .i64 59]),(5,.int .i64 4)] []) Q
def mRg3i5_at (c:Int) (Q:AV -> Heap -> Prop):Prop:=Wp M1 (.run fi27 (atC (cd Try.f27) [1,0,1,0,0,1,0,0,1,1,0,0]) [(0,.int .i64 c),(3,.int .i64 3),(4,.vec true 1 [.int .i64 54,.int .i64 55,.int .i64 56,.int .i64 57,.int .i64 58,.int .i64 59]),(5,.int .i64 5)] []) Q
def mRg3i6_at (c:Int) (Q:AV -> Heap -> Prop):Prop:=Wp M1 (.run fi27 (atC (cd Try.f27) [1,0,1,0,0,1,0,0,1,1,0,0]) [(0,.int .i64 c),(3,.int .i64 3),(4,.vec true 1 [.int .i64 54,.int .i64 55,.int .i64 56,.int .i64 57,.int .i64 58,.int .i64 59]),(5,.int .i64 6)] []) Q
def mRg4i0_at (c:Int) (Q:AV -> Heap -> Prop):Prop:=Wp M1 (.run fi27 (atC (cd Try.f27) [1,0,1,0,0,1,0,0,1,1,0,0]) [(0,.int .i64 c),(3,.int .i64 4),(4,.vec true 1 [.int .i64 43,.int .i64 49]),(5,.int .i64 0)] []) Q
def mRg4i1_at (c:Int) (Q:AV -> Heap -> Prop):Prop:=Wp M1 (.run fi27 (atC (cd Try.f27) [1,0,1,0,0,1,0,0,1,1,0,0]) [(0,.int .i64 c),(3,.int .i64 4),(4,.vec true 1 [.int .i64 43,.int .i64 49]),(5,.int .i64 1)] []) Q
def mRg4i2_at (c:Int) (Q:AV -> Heap -> Prop):Prop:=Wp M1 (.run fi27 (atC (cd Try.f27) [1,0,1,0,0,1,0,0,1,1,0,0]) [(0,.int .i64 c),(3,.int .i64 4),(4,.vec true 1 [.int .i64 43,.int .i64 49]),(5,.int .i64 2)] []) Q
def mRg5i0_at (c:Int) (Q:AV -> Heap -> Prop):Prop:=Wp M1 (.run fi27 (atC (cd Try.f27) [1,0,1,0,0,1,0,0,1,1,0,0]) [(0,.int .i64 c),(3,.int .i64 5),(4,.vec true 1 [.int .i64 98,.int .i64 99]),(5,.int .i64 0)] []) Q
def mRg5i1_at (c:Int) (Q:AV -> Heap -> Prop):Prop:=Wp M1 (.run fi27 (atC (cd Try.f27) [1,0,1,0,0,1,0,0,1,1,0,0]) [(0,.int .i64 c),(3,.int .i64 5),(4,.vec true 1 [.int .i64 98,.int .i64 99]),(5,.int .i64 1)] []) Q
def mRg5i2_at (c:Int) (Q:AV -> Heap -> Prop):Prop:=Wp M1 (.run fi27 (atC (cd Try.f27) [1,0,1,0,0,1,0,0,1,1,0,0]) [(0,.int .i64 c),(3,.int .i64 5),(4,.vec true 1 [.int .i64 98,.int .i64 99]),(5,.int .i64 2)] []) Q
theorem call27 {args:List AV} {d:AV} (h:wc M1 fi27 Try.f27 args d):Ev M1 (.pure 27 args) d []:=pcl _ _ (by kernel_rfl) h
theorem mRg (c:Int)  (dq:AV) (H :
  mRg1_at (c) (PureQ dq)) :
 mRg_at c (PureQ dq):=by
 unfold mRg_at
 exact path_wp (G:=given kp27 [] []) 1000 [] ⟨(atC (cd Try.f27) [1,0,1,0,0]),[(0,vi c),(3,vi 1)],[],_,[],_⟩ (by kernel_rfl) b0 q0 c0 (H)
theorem mRg1 (c:Int)  (dq:AV) (H :
  mRg1i0_at (c) (PureQ dq)) :
 mRg1_at c (PureQ dq):=by
 unfold mRg1_at
 exact path_wp (G:=given kp27 [(4,1,.call (AV.vec true 1 [vi 0,vi 1,vi 2,vi 3,vi 80,vi 81,vi 82,vi 83]) none)] []) 1000 [true] ⟨(atC (cd Try.f27) [1,0,1,0,0,1,0,0,1,1,0,0]),[(0,vi c),(3,vi 1),(4,AV.vec true 1 [vi 0,vi 1,vi 2,vi 3,vi 80,vi 81,vi 82,vi 83]),(5,vi 0)],[],_,[],_⟩ (by kernel_rfl) (bc rfl b0) q0 (ce (@ev48_a ) c0) (H)
theorem mRg2 (c:Int)  (dq:AV) (H :
  mRg2i0_at (c) (PureQ dq)) :
 mRg2_at c (PureQ dq):=by
 unfold mRg2_at
 exact path_wp (G:=given kp27 [(4,1,.call (AV.vec true 1 [vi 90,vi 91]) none)] []) 1000 [true] ⟨(atC (cd Try.f27) [1,0,1,0,0,1,0,0,1,1,0,0]),[(0,vi c),(3,vi 2),(4,AV.vec true 1 [vi 90,vi 91]),(5,vi 0)],[],_,[],_⟩ (by kernel_rfl) (bc rfl b0) q0 (ce (@ev48_b ) c0) (H)
theorem mRg3 (c:Int)  (dq:AV) (H :
  mRg3i0_at (c) (PureQ dq)) :
 mRg3_at c (PureQ dq):=by
 unfold mRg3_at
 exact path_wp (G:=given kp27 [(4,1,.call (AV.vec true 1 [vi 54,vi 55,vi 56,vi 57,vi 58,vi 59]) none)] []) 1000 [true] ⟨(atC (cd Try.f27) [1,0,1,0,0,1,0,0,1,1,0,0]),[(0,vi c),(3,vi 3),(4,AV.vec true 1 [vi 54,vi 55,vi 56,vi 57,vi 58,vi 59]),(5,vi 0)],[],_,[],_⟩ (by kernel_rfl) (bc rfl b0) q0 (ce (@ev48_c ) c0) (H)
theorem mRg4 (c:Int)  (dq:AV) (H :
  mRg4i0_at (c) (PureQ dq)) :
 mRg4_at c (PureQ dq):=by
 unfold mRg4_at
 exact path_wp (G:=given kp27 [(4,1,.call (AV.vec true 1 [vi 43,vi 49]) none)] []) 1000 [true] ⟨(atC (cd Try.f27) [1,0,1,0,0,1,0,0,1,1,0,0]),[(0,vi c),(3,vi 4),(4,AV.vec true 1 [vi 43,vi 49]),(5,vi 0)],[],_,[],_⟩ (by kernel_rfl) (bc rfl b0) q0 (ce (@ev48_d ) c0) (H)
theorem mRg5 (c:Int)  (dq:AV) (H :
  mRg5i0_at (c) (PureQ dq)) :
 mRg5_at c (PureQ dq):=by
 unfold mRg5_at
 exact path_wp (G:=given kp27 [(4,1,.call (AV.vec true 1 [vi 98,vi 99]) none)] []) 1000 [true] ⟨(atC (cd Try.f27) [1,0,1,0,0,1,0,0,1,1,0,0]),[(0,vi c),(3,vi 5),(4,AV.vec true 1 [vi 98,vi 99]),(5,vi 0)],[],_,[],_⟩ (by kernel_rfl) (bc rfl b0) q0 (ce (@ev48_e ) c0) (H)
theorem mRg6 (c:Int)  (dq:AV) (H :
  vi 0 = dq) :
 mRg6_at c (PureQ dq):=by
 unfold mRg6_at
 exact path_re (G:=given kp27 [] []) 1000 [false] (vi 0) (by kernel_rfl) (bc rfl b0) q0 c0 H
theorem mRg1i0 (c:Int)  (dq:AV) (H :
  ((c = 0) -> vi 1 = dq) /\
  (¬(c = 0) -> mRg1i1_at (c) (PureQ dq))) :
 mRg1i0_at c (PureQ dq):=by
 unfold mRg1i0_at
 rcases xm (c = 0) with d2 | d2
 ·have H:=H.1 d2
  exact path_re (G:=given kp27 [] []) 1000 [true,true] (vi 1) (by kernel_rfl) (bc rfl (bc rfl (bc rfl (bc (beq_t (i_eq.2 d2)) b0)))) q0 c0 H
 ·have H:=H.2 d2
  exact path_wp (G:=given kp27 [] []) 1000 [true,false] ⟨(atC (cd Try.f27) [1,0,1,0,0,1,0,0,1,1,0,0]),[(0,vi c),(3,vi 1),(4,AV.vec true 1 [vi 0,vi 1,vi 2,vi 3,vi 80,vi 81,vi 82,vi 83]),(5,vi 1)],[],_,[],_⟩ (by kernel_rfl) (bc rfl (bc rfl (bc rfl (bc (beq_f (fun h => d2 (i_eq.1 h))) b0)))) q0 c0 (H)
theorem mRg1i1 (c:Int)  (dq:AV) (H :
  ((c = 1000) -> vi 1 = dq) /\
  (¬(c = 1000) -> mRg1i2_at (c) (PureQ dq))) :
 mRg1i1_at c (PureQ dq):=by
 unfold mRg1i1_at
 rcases xm (c = 1000) with d2 | d2
 ·have H:=H.1 d2
  exact path_re (G:=given kp27 [] []) 1000 [true,true] (vi 1) (by kernel_rfl) (bc rfl (bc rfl (bc rfl (bc (beq_t (i_eq.2 d2)) b0)))) q0 c0 H
 ·have H:=H.2 d2
  exact path_wp (G:=given kp27 [] []) 1000 [true,false] ⟨(atC (cd Try.f27) [1,0,1,0,0,1,0,0,1,1,0,0]),[(0,vi c),(3,vi 1),(4,AV.vec true 1 [vi 0,vi 1,vi 2,vi 3,vi 80,vi 81,vi 82,vi 83]),(5,vi 2)],[],_,[],_⟩ (by kernel_rfl) (bc rfl (bc rfl (bc rfl (bc (beq_f (fun h => d2 (i_eq.1 h))) b0)))) q0 c0 (H)
theorem mRg1i2 (c:Int)  (dq:AV) (H :
  ((c = 2000) -> vi 1 = dq) /\
  (¬(c = 2000) -> mRg1i3_at (c) (PureQ dq))) :
 mRg1i2_at c (PureQ dq):=by
 unfold mRg1i2_at
 rcases xm (c = 2000) with d2 | d2
 ·have H:=H.1 d2
  exact path_re (G:=given kp27 [] []) 1000 [true,true] (vi 1) (by kernel_rfl) (bc rfl (bc rfl (bc rfl (bc (beq_t (i_eq.2 d2)) b0)))) q0 c0 H
 ·have H:=H.2 d2
  exact path_wp (G:=given kp27 [] []) 1000 [true,false] ⟨(atC (cd Try.f27) [1,0,1,0,0,1,0,0,1,1,0,0]),[(0,vi c),(3,vi 1),(4,AV.vec true 1 [vi 0,vi 1,vi 2,vi 3,vi 80,vi 81,vi 82,vi 83]),(5,vi 3)],[],_,[],_⟩ (by kernel_rfl) (bc rfl (bc rfl (bc rfl (bc (beq_f (fun h => d2 (i_eq.1 h))) b0)))) q0 c0 (H)
theorem mRg1i3 (c:Int)  (dq:AV) (H :
  ((c = 3000) -> vi 1 = dq) /\
  (¬(c = 3000) -> mRg1i4_at (c) (PureQ dq))) :
 mRg1i3_at c (PureQ dq):=by
 unfold mRg1i3_at
 rcases xm (c = 3000) with d2 | d2
 ·have H:=H.1 d2
  exact path_re (G:=given kp27 [] []) 1000 [true,true] (vi 1) (by kernel_rfl) (bc rfl (bc rfl (bc rfl (bc (beq_t (i_eq.2 d2)) b0)))) q0 c0 H
 ·have H:=H.2 d2
  exact path_wp (G:=given kp27 [] []) 1000 [true,false] ⟨(atC (cd Try.f27) [1,0,1,0,0,1,0,0,1,1,0,0]),[(0,vi c),(3,vi 1),(4,AV.vec true 1 [vi 0,vi 1,vi 2,vi 3,vi 80,vi 81,vi 82,vi 83]),(5,vi 4)],[],_,[],_⟩ (by kernel_rfl) (bc rfl (bc rfl (bc rfl (bc (beq_f (fun h => d2 (i_eq.1 h))) b0)))) q0 c0 (H)
theorem mRg1i4 (c:Int)  (dq:AV) (H :
  ((c = 80000) -> vi 1 = dq) /\
  (¬(c = 80000) -> mRg1i5_at (c) (PureQ dq))) :
 mRg1i4_at c (PureQ dq):=by
 unfold mRg1i4_at
 rcases xm (c = 80000) with d2 | d2
 ·have H:=H.1 d2
  exact path_re (G:=given kp27 [] []) 1000 [true,true] (vi 1) (by kernel_rfl) (bc rfl (bc rfl (bc rfl (bc (beq_t (i_eq.2 d2)) b0)))) q0 c0 H
 ·have H:=H.2 d2
  exact path_wp (G:=given kp27 [] []) 1000 [true,false] ⟨(atC (cd Try.f27) [1,0,1,0,0,1,0,0,1,1,0,0]),[(0,vi c),(3,vi 1),(4,AV.vec true 1 [vi 0,vi 1,vi 2,vi 3,vi 80,vi 81,vi 82,vi 83]),(5,vi 5)],[],_,[],_⟩ (by kernel_rfl) (bc rfl (bc rfl (bc rfl (bc (beq_f (fun h => d2 (i_eq.1 h))) b0)))) q0 c0 (H)
theorem mRg1i5 (c:Int)  (dq:AV) (H :
  ((c = 81000) -> vi 1 = dq) /\
  (¬(c = 81000) -> mRg1i6_at (c) (PureQ dq))) :
 mRg1i5_at c (PureQ dq):=by
 unfold mRg1i5_at
 rcases xm (c = 81000) with d2 | d2
 ·have H:=H.1 d2
  exact path_re (G:=given kp27 [] []) 1000 [true,true] (vi 1) (by kernel_rfl) (bc rfl (bc rfl (bc rfl (bc (beq_t (i_eq.2 d2)) b0)))) q0 c0 H
 ·have H:=H.2 d2
  exact path_wp (G:=given kp27 [] []) 1000 [true,false] ⟨(atC (cd Try.f27) [1,0,1,0,0,1,0,0,1,1,0,0]),[(0,vi c),(3,vi 1),(4,AV.vec true 1 [vi 0,vi 1,vi 2,vi 3,vi 80,vi 81,vi 82,vi 83]),(5,vi 6)],[],_,[],_⟩ (by kernel_rfl) (bc rfl (bc rfl (bc rfl (bc (beq_f (fun h => d2 (i_eq.1 h))) b0)))) q0 c0 (H)
theorem mRg1i6 (c:Int)  (dq:AV) (H :
  ((c = 82000) -> vi 1 = dq) /\
  (¬(c = 82000) -> mRg1i7_at (c) (PureQ dq))) :
 mRg1i6_at c (PureQ dq):=by
 unfold mRg1i6_at
 rcases xm (c = 82000) with d2 | d2
 ·have H:=H.1 d2
  exact path_re (G:=given kp27 [] []) 1000 [true,true] (vi 1) (by kernel_rfl) (bc rfl (bc rfl (bc rfl (bc (beq_t (i_eq.2 d2)) b0)))) q0 c0 H
 ·have H:=H.2 d2
  exact path_wp (G:=given kp27 [] []) 1000 [true,false] ⟨(atC (cd Try.f27) [1,0,1,0,0,1,0,0,1,1,0,0]),[(0,vi c),(3,vi 1),(4,AV.vec true 1 [vi 0,vi 1,vi 2,vi 3,vi 80,vi 81,vi 82,vi 83]),(5,vi 7)],[],_,[],_⟩ (by kernel_rfl) (bc rfl (bc rfl (bc rfl (bc (beq_f (fun h => d2 (i_eq.1 h))) b0)))) q0 c0 (H)
theorem mRg1i7 (c:Int)  (dq:AV) (H :
  ((c = 83000) -> vi 1 = dq) /\
  (¬(c = 83000) -> mRg1i8_at (c) (PureQ dq))) :
 mRg1i7_at c (PureQ dq):=by
 unfold mRg1i7_at
 rcases xm (c = 83000) with d2 | d2
 ·have H:=H.1 d2
  exact path_re (G:=given kp27 [] []) 1000 [true,true] (vi 1) (by kernel_rfl) (bc rfl (bc rfl (bc rfl (bc (beq_t (i_eq.2 d2)) b0)))) q0 c0 H
 ·have H:=H.2 d2
  exact path_wp (G:=given kp27 [] []) 1000 [true,false] ⟨(atC (cd Try.f27) [1,0,1,0,0,1,0,0,1,1,0,0]),[(0,vi c),(3,vi 1),(4,AV.vec true 1 [vi 0,vi 1,vi 2,vi 3,vi 80,vi 81,vi 82,vi 83]),(5,vi 8)],[],_,[],_⟩ (by kernel_rfl) (bc rfl (bc rfl (bc rfl (bc (beq_f (fun h => d2 (i_eq.1 h))) b0)))) q0 c0 (H)
theorem mRg1i8 (c:Int)  (dq:AV) (H :
  mRg2_at (c) (PureQ dq)) :
 mRg1i8_at c (PureQ dq):=by
 unfold mRg1i8_at
 exact path_wp (G:=given kp27 [] []) 1000 [false] ⟨(atC (cd Try.f27) [1,0,1,0,0]),[(0,vi c),(3,vi 2)],[],_,[],_⟩ (by kernel_rfl) (bc rfl b0) q0 c0 (H)
theorem mRg2i0 (c:Int)  (dq:AV) (H :
  ((c = 90000) -> vi 2 = dq) /\
  (¬(c = 90000) -> mRg2i1_at (c) (PureQ dq))) :
 mRg2i0_at c (PureQ dq):=by
 unfold mRg2i0_at
 rcases xm (c = 90000) with d2 | d2
 ·have H:=H.1 d2
  exact path_re (G:=given kp27 [] []) 1000 [true,true] (vi 2) (by kernel_rfl) (bc rfl (bc rfl (bc rfl (bc (beq_t (i_eq.2 d2)) b0)))) q0 c0 H
 ·have H:=H.2 d2
  exact path_wp (G:=given kp27 [] []) 1000 [true,false] ⟨(atC (cd Try.f27) [1,0,1,0,0,1,0,0,1,1,0,0]),[(0,vi c),(3,vi 2),(4,AV.vec true 1 [vi 90,vi 91]),(5,vi 1)],[],_,[],_⟩ (by kernel_rfl) (bc rfl (bc rfl (bc rfl (bc (beq_f (fun h => d2 (i_eq.1 h))) b0)))) q0 c0 (H)
theorem mRg2i1 (c:Int)  (dq:AV) (H :
  ((c = 91000) -> vi 2 = dq) /\
  (¬(c = 91000) -> mRg2i2_at (c) (PureQ dq))) :
 mRg2i1_at c (PureQ dq):=by
 unfold mRg2i1_at
 rcases xm (c = 91000) with d2 | d2
 ·have H:=H.1 d2
  exact path_re (G:=given kp27 [] []) 1000 [true,true] (vi 2) (by kernel_rfl) (bc rfl (bc rfl (bc rfl (bc (beq_t (i_eq.2 d2)) b0)))) q0 c0 H
 ·have H:=H.2 d2
  exact path_wp (G:=given kp27 [] []) 1000 [true,false] ⟨(atC (cd Try.f27) [1,0,1,0,0,1,0,0,1,1,0,0]),[(0,vi c),(3,vi 2),(4,AV.vec true 1 [vi 90,vi 91]),(5,vi 2)],[],_,[],_⟩ (by kernel_rfl) (bc rfl (bc rfl (bc rfl (bc (beq_f (fun h => d2 (i_eq.1 h))) b0)))) q0 c0 (H)
theorem mRg2i2 (c:Int)  (dq:AV) (H :
  mRg3_at (c) (PureQ dq)) :
 mRg2i2_at c (PureQ dq):=by
 unfold mRg2i2_at
 exact path_wp (G:=given kp27 [] []) 1000 [false] ⟨(atC (cd Try.f27) [1,0,1,0,0]),[(0,vi c),(3,vi 3)],[],_,[],_⟩ (by kernel_rfl) (bc rfl b0) q0 c0 (H)
theorem mRg3i0 (c:Int)  (dq:AV) (H :
  ((c = 54000) -> vi 3 = dq) /\
  (¬(c = 54000) -> mRg3i1_at (c) (PureQ dq))) :
 mRg3i0_at c (PureQ dq):=by
 unfold mRg3i0_at
 rcases xm (c = 54000) with d2 | d2
 ·have H:=H.1 d2
  exact path_re (G:=given kp27 [] []) 1000 [true,true] (vi 3) (by kernel_rfl) (bc rfl (bc rfl (bc rfl (bc (beq_t (i_eq.2 d2)) b0)))) q0 c0 H
 ·have H:=H.2 d2
  exact path_wp (G:=given kp27 [] []) 1000 [true,false] ⟨(atC (cd Try.f27) [1,0,1,0,0,1,0,0,1,1,0,0]),[(0,vi c),(3,vi 3),(4,AV.vec true 1 [vi 54,vi 55,vi 56,vi 57,vi 58,vi 59]),(5,vi 1)],[],_,[],_⟩ (by kernel_rfl) (bc rfl (bc rfl (bc rfl (bc (beq_f (fun h => d2 (i_eq.1 h))) b0)))) q0 c0 (H)
theorem mRg3i1 (c:Int)  (dq:AV) (H :
  ((c = 55000) -> vi 3 = dq) /\
  (¬(c = 55000) -> mRg3i2_at (c) (PureQ dq))) :
 mRg3i1_at c (PureQ dq):=by
 unfold mRg3i1_at
 rcases xm (c = 55000) with d2 | d2
 ·have H:=H.1 d2
  exact path_re (G:=given kp27 [] []) 1000 [true,true] (vi 3) (by kernel_rfl) (bc rfl (bc rfl (bc rfl (bc (beq_t (i_eq.2 d2)) b0)))) q0 c0 H
 ·have H:=H.2 d2
  exact path_wp (G:=given kp27 [] []) 1000 [true,false] ⟨(atC (cd Try.f27) [1,0,1,0,0,1,0,0,1,1,0,0]),[(0,vi c),(3,vi 3),(4,AV.vec true 1 [vi 54,vi 55,vi 56,vi 57,vi 58,vi 59]),(5,vi 2)],[],_,[],_⟩ (by kernel_rfl) (bc rfl (bc rfl (bc rfl (bc (beq_f (fun h => d2 (i_eq.1 h))) b0)))) q0 c0 (H)
theorem mRg3i2 (c:Int)  (dq:AV) (H :
  ((c = 56000) -> vi 3 = dq) /\
  (¬(c = 56000) -> mRg3i3_at (c) (PureQ dq))) :
 mRg3i2_at c (PureQ dq):=by
 unfold mRg3i2_at
 rcases xm (c = 56000) with d2 | d2
 ·have H:=H.1 d2
  exact path_re (G:=given kp27 [] []) 1000 [true,true] (vi 3) (by kernel_rfl) (bc rfl (bc rfl (bc rfl (bc (beq_t (i_eq.2 d2)) b0)))) q0 c0 H
 ·have H:=H.2 d2
  exact path_wp (G:=given kp27 [] []) 1000 [true,false] ⟨(atC (cd Try.f27) [1,0,1,0,0,1,0,0,1,1,0,0]),[(0,vi c),(3,vi 3),(4,AV.vec true 1 [vi 54,vi 55,vi 56,vi 57,vi 58,vi 59]),(5,vi 3)],[],_,[],_⟩ (by kernel_rfl) (bc rfl (bc rfl (bc rfl (bc (beq_f (fun h => d2 (i_eq.1 h))) b0)))) q0 c0 (H)
theorem mRg3i3 (c:Int)  (dq:AV) (H :
  ((c = 57000) -> vi 3 = dq) /\
  (¬(c = 57000) -> mRg3i4_at (c) (PureQ dq))) :
 mRg3i3_at c (PureQ dq):=by
 unfold mRg3i3_at
 rcases xm (c = 57000) with d2 | d2
 ·have H:=H.1 d2
  exact path_re (G:=given kp27 [] []) 1000 [true,true] (vi 3) (by kernel_rfl) (bc rfl (bc rfl (bc rfl (bc (beq_t (i_eq.2 d2)) b0)))) q0 c0 H
 ·have H:=H.2 d2
  exact path_wp (G:=given kp27 [] []) 1000 [true,false] ⟨(atC (cd Try.f27) [1,0,1,0,0,1,0,0,1,1,0,0]),[(0,vi c),(3,vi 3),(4,AV.vec true 1 [vi 54,vi 55,vi 56,vi 57,vi 58,vi 59]),(5,vi 4)],[],_,[],_⟩ (by kernel_rfl) (bc rfl (bc rfl (bc rfl (bc (beq_f (fun h => d2 (i_eq.1 h))) b0)))) q0 c0 (H)
theorem mRg3i4 (c:Int)  (dq:AV) (H :
  ((c = 58000) -> vi 3 = dq) /\
  (¬(c = 58000) -> mRg3i5_at (c) (PureQ dq))) :
 mRg3i4_at c (PureQ dq):=by
 unfold mRg3i4_at
 rcases xm (c = 58000) with d2 | d2
 ·have H:=H.1 d2
  exact path_re (G:=given kp27 [] []) 1000 [true,true] (vi 3) (by kernel_rfl) (bc rfl (bc rfl (bc rfl (bc (beq_t (i_eq.2 d2)) b0)))) q0 c0 H
 ·have H:=H.2 d2
  exact path_wp (G:=given kp27 [] []) 1000 [true,false] ⟨(atC (cd Try.f27) [1,0,1,0,0,1,0,0,1,1,0,0]),[(0,vi c),(3,vi 3),(4,AV.vec true 1 [vi 54,vi 55,vi 56,vi 57,vi 58,vi 59]),(5,vi 5)],[],_,[],_⟩ (by kernel_rfl) (bc rfl (bc rfl (bc rfl (bc (beq_f (fun h => d2 (i_eq.1 h))) b0)))) q0 c0 (H)
theorem mRg3i5 (c:Int)  (dq:AV) (H :
  ((c = 59000) -> vi 3 = dq) /\
  (¬(c = 59000) -> mRg3i6_at (c) (PureQ dq))) :
 mRg3i5_at c (PureQ dq):=by
 unfold mRg3i5_at
 rcases xm (c = 59000) with d2 | d2
 ·have H:=H.1 d2
  exact path_re (G:=given kp27 [] []) 1000 [true,true] (vi 3) (by kernel_rfl) (bc rfl (bc rfl (bc rfl (bc (beq_t (i_eq.2 d2)) b0)))) q0 c0 H
 ·have H:=H.2 d2
  exact path_wp (G:=given kp27 [] []) 1000 [true,false] ⟨(atC (cd Try.f27) [1,0,1,0,0,1,0,0,1,1,0,0]),[(0,vi c),(3,vi 3),(4,AV.vec true 1 [vi 54,vi 55,vi 56,vi 57,vi 58,vi 59]),(5,vi 6)],[],_,[],_⟩ (by kernel_rfl) (bc rfl (bc rfl (bc rfl (bc (beq_f (fun h => d2 (i_eq.1 h))) b0)))) q0 c0 (H)
theorem mRg3i6 (c:Int)  (dq:AV) (H :
  mRg4_at (c) (PureQ dq)) :
 mRg3i6_at c (PureQ dq):=by
 unfold mRg3i6_at
 exact path_wp (G:=given kp27 [] []) 1000 [false] ⟨(atC (cd Try.f27) [1,0,1,0,0]),[(0,vi c),(3,vi 4)],[],_,[],_⟩ (by kernel_rfl) (bc rfl b0) q0 c0 (H)
theorem mRg4i0 (c:Int)  (dq:AV) (H :
  ((c = 43000) -> vi 4 = dq) /\
  (¬(c = 43000) -> mRg4i1_at (c) (PureQ dq))) :
 mRg4i0_at c (PureQ dq):=by
 unfold mRg4i0_at
 rcases xm (c = 43000) with d2 | d2
 ·have H:=H.1 d2
  exact path_re (G:=given kp27 [] []) 1000 [true,true] (vi 4) (by kernel_rfl) (bc rfl (bc rfl (bc rfl (bc (beq_t (i_eq.2 d2)) b0)))) q0 c0 H
 ·have H:=H.2 d2
  exact path_wp (G:=given kp27 [] []) 1000 [true,false] ⟨(atC (cd Try.f27) [1,0,1,0,0,1,0,0,1,1,0,0]),[(0,vi c),(3,vi 4),(4,AV.vec true 1 [vi 43,vi 49]),(5,vi 1)],[],_,[],_⟩ (by kernel_rfl) (bc rfl (bc rfl (bc rfl (bc (beq_f (fun h => d2 (i_eq.1 h))) b0)))) q0 c0 (H)
theorem mRg4i1 (c:Int)  (dq:AV) (H :
  ((c = 49000) -> vi 4 = dq) /\
  (¬(c = 49000) -> mRg4i2_at (c) (PureQ dq))) :
 mRg4i1_at c (PureQ dq):=by
 unfold mRg4i1_at
 rcases xm (c = 49000) with d2 | d2
 ·have H:=H.1 d2
  exact path_re (G:=given kp27 [] []) 1000 [true,true] (vi 4) (by kernel_rfl) (bc rfl (bc rfl (bc rfl (bc (beq_t (i_eq.2 d2)) b0)))) q0 c0 H
 ·have H:=H.2 d2
  exact path_wp (G:=given kp27 [] []) 1000 [true,false] ⟨(atC (cd Try.f27) [1,0,1,0,0,1,0,0,1,1,0,0]),[(0,vi c),(3,vi 4),(4,AV.vec true 1 [vi 43,vi 49]),(5,vi 2)],[],_,[],_⟩ (by kernel_rfl) (bc rfl (bc rfl (bc rfl (bc (beq_f (fun h => d2 (i_eq.1 h))) b0)))) q0 c0 (H)
theorem mRg4i2 (c:Int)  (dq:AV) (H :
  mRg5_at (c) (PureQ dq)) :
 mRg4i2_at c (PureQ dq):=by
 unfold mRg4i2_at
 exact path_wp (G:=given kp27 [] []) 1000 [false] ⟨(atC (cd Try.f27) [1,0,1,0,0]),[(0,vi c),(3,vi 5)],[],_,[],_⟩ (by kernel_rfl) (bc rfl b0) q0 c0 (H)
theorem mRg5i0 (c:Int)  (dq:AV) (H :
  ((c = 98000) -> vi 5 = dq) /\
  (¬(c = 98000) -> mRg5i1_at (c) (PureQ dq))) :
 mRg5i0_at c (PureQ dq):=by
 unfold mRg5i0_at
 rcases xm (c = 98000) with d2 | d2
 ·have H:=H.1 d2
  exact path_re (G:=given kp27 [] []) 1000 [true,true] (vi 5) (by kernel_rfl) (bc rfl (bc rfl (bc rfl (bc (beq_t (i_eq.2 d2)) b0)))) q0 c0 H
 ·have H:=H.2 d2
  exact path_wp (G:=given kp27 [] []) 1000 [true,false] ⟨(atC (cd Try.f27) [1,0,1,0,0,1,0,0,1,1,0,0]),[(0,vi c),(3,vi 5),(4,AV.vec true 1 [vi 98,vi 99]),(5,vi 1)],[],_,[],_⟩ (by kernel_rfl) (bc rfl (bc rfl (bc rfl (bc (beq_f (fun h => d2 (i_eq.1 h))) b0)))) q0 c0 (H)
theorem mRg5i1 (c:Int)  (dq:AV) (H :
  ((c = 99000) -> vi 5 = dq) /\
  (¬(c = 99000) -> mRg5i2_at (c) (PureQ dq))) :
 mRg5i1_at c (PureQ dq):=by
 unfold mRg5i1_at
 rcases xm (c = 99000) with d2 | d2
 ·have H:=H.1 d2
  exact path_re (G:=given kp27 [] []) 1000 [true,true] (vi 5) (by kernel_rfl) (bc rfl (bc rfl (bc rfl (bc (beq_t (i_eq.2 d2)) b0)))) q0 c0 H
 ·have H:=H.2 d2
  exact path_wp (G:=given kp27 [] []) 1000 [true,false] ⟨(atC (cd Try.f27) [1,0,1,0,0,1,0,0,1,1,0,0]),[(0,vi c),(3,vi 5),(4,AV.vec true 1 [vi 98,vi 99]),(5,vi 2)],[],_,[],_⟩ (by kernel_rfl) (bc rfl (bc rfl (bc rfl (bc (beq_f (fun h => d2 (i_eq.1 h))) b0)))) q0 c0 (H)
theorem mRg5i2 (c:Int)  (dq:AV) (H :
  mRg6_at (c) (PureQ dq)) :
 mRg5i2_at c (PureQ dq):=by
 unfold mRg5i2_at
 exact path_wp (G:=given kp27 [] []) 1000 [false] ⟨(atC (cd Try.f27) [1,0,1,0,0]),[(0,vi c),(3,vi 6)],[],_,[],_⟩ (by kernel_rfl) (bc rfl b0) q0 c0 (H)
end Go.Av

namespace Go.Av
open Go.Proofs
theorem ev27 (c:Int):Ev M1 (.pure 27 [.int .i64 c]) (.int .i64 (Sp.grp c)) []:=by
 have L {k g:Int} (h:c = k) (e:Sp.grp k = g):AV.int .i64 g = .int .i64 (Sp.grp c):=by rw [h,e]
 refine call27 (mRg _ _ ?_)
 refine mRg1 _ _ ?_
 refine mRg1i0 _ _ ⟨fun h => L h rfl,fun h1_0 => ?_⟩
 refine mRg1i1 _ _ ⟨fun h => L h rfl,fun h1_1 => ?_⟩
 refine mRg1i2 _ _ ⟨fun h => L h rfl,fun h1_2 => ?_⟩
 refine mRg1i3 _ _ ⟨fun h => L h rfl,fun h1_3 => ?_⟩
 refine mRg1i4 _ _ ⟨fun h => L h rfl,fun h1_4 => ?_⟩
 refine mRg1i5 _ _ ⟨fun h => L h rfl,fun h1_5 => ?_⟩
 refine mRg1i6 _ _ ⟨fun h => L h rfl,fun h1_6 => ?_⟩
 refine mRg1i7 _ _ ⟨fun h => L h rfl,fun h1_7 => ?_⟩
 refine mRg1i8 _ _ ?_
 refine mRg2 _ _ ?_
 refine mRg2i0 _ _ ⟨fun h => L h rfl,fun h2_0 => ?_⟩
 refine mRg2i1 _ _ ⟨fun h => L h rfl,fun h2_1 => ?_⟩
 refine mRg2i2 _ _ ?_
 refine mRg3 _ _ ?_
 refine mRg3i0 _ _ ⟨fun h => L h rfl,fun h3_0 => ?_⟩
 refine mRg3i1 _ _ ⟨fun h => L h rfl,fun h3_1 => ?_⟩
 refine mRg3i2 _ _ ⟨fun h => L h rfl,fun h3_2 => ?_⟩
 refine mRg3i3 _ _ ⟨fun h => L h rfl,fun h3_3 => ?_⟩
 refine mRg3i4 _ _ ⟨fun h => L h rfl,fun h3_4 => ?_⟩
 refine mRg3i5 _ _ ⟨fun h => L h rfl,fun h3_5 => ?_⟩
 refine mRg3i6 _ _ ?_
 refine mRg4 _ _ ?_
 refine mRg4i0 _ _ ⟨fun h => L h rfl,fun h4_0 => ?_⟩
 refine mRg4i1 _ _ ⟨fun h => L h rfl,fun h4_1 => ?_⟩
 refine mRg4i2 _ _ ?_
 refine mRg5 _ _ ?_
 refine mRg5i0 _ _ ⟨fun h => L h rfl,fun h5_0 => ?_⟩
 refine mRg5i1 _ _ ⟨fun h => L h rfl,fun h5_1 => ?_⟩
 refine mRg5i2 _ _ ?_
 refine mRg6 _ _ ?_
 rw [grp_no (by simp only [List.mem_cons,List.not_mem_nil,or_false,forall_eq_or_imp,forall_eq];exact ⟨h1_0,h1_1,h1_2,h1_3,h1_4,h1_5,h1_6,h1_7,h2_0,h2_1,h3_0,h3_1,h3_2,h3_3,h3_4,h3_5,h4_0,h4_1,h5_0,h5_1⟩)]
theorem ev28:Ev M1 (.pure 28 []) (.agg [.int .i64 0,.int .i64 90000,.int .i64 54000,.int .i64 49000,.int .i64 98000,.int .i64 0,.int .i64 0,.int .i64 0]) []:=call28 (mNew _ rfl)
theorem ev29:Ev M1 (.pure 29 []) (.agg [.int .i64 0,.int .i64 90000,.int .i64 54000,.int .i64 49000,.int .i64 98000,.int .i64 0,.int .i64 0,.int .i64 0]) []:=call29 (mNewR _ rfl)
end Go.Av

namespace Go.Av
open Go.Proofs
def awkT:List (Nat × List (Nat × List Nat)):=[(25,[(0,[]),(1,[1,2]),(2,[1,2,3,4]),(3,[1,2,3,4,5,6]),(4,[0])]),
 (26,[(0,[0]),(1,[3]),(2,[3,4]),(3,[3,4]),(4,[3,4]),(5,[3,4]),(6,[3,4]),(7,[3,4]),(8,[3,4]),(9,[3,4]),(10,[2]),(11,[3,13]),(12,[3,13]),(13,[2]),(14,[3,16]),(15,[3,16]),(16,[3,16]),(17,[3,16]),(18,[3,16]),(19,[3,16]),(20,[2]),(21,[3,23]),(22,[3,23]),(23,[2]),(24,[3,26]),(25,[26]),(26,[2]),(27,[2])]),
 (28,[(0,[0]),(1,[0])]),
 (33,[(0,[0,1]),(1,[0,1,10]),(2,[4]),(3,[0,1,5]),(4,[0,1,5,14]),(5,[0,1,5]),(6,[0,1,5,26]),(7,[4]),(8,[4])]),
 (35,[(0,[2,3,4]),(1,[2,3,4,6]),(2,[2,3,4,6,12]),(3,[4,5]),(4,[2,4,16,17,18]),(5,[2,4,16,17,18,19]),(6,[2,4,8,16,17,18]),(7,[2,4,16,17,18]),(8,[2,4,16,17,18]),(9,[4,5])]),
 (45,[(0,[0,2]),(1,[2,3]),(2,[2])]),
 (46,[(0,[1,2]),(1,[1,2,6]),(2,[2,6,12,13,14]),(3,[2,6,12,13,14,15]),(4,[2,6,8,12,13,14]),(5,[2,6,8,9,10,12,13,14]),(6,[2,6,8,9,10,12,13,14,25]),(7,[4,5]),(8,[2,6,8,9,11,12,13,14]),(9,[2,6,9,11,12,13,14]),(10,[2,6,9,11,12,13,14,46]),(11,[2,6,9,12,13,14]),(12,[2,6,12,13,14]),(13,[2,6,12,13,14]),(14,[4,5])]),
 (47,[(0,[1]),(1,[1,3]),(2,[1,3,4]),(3,[3,4,11,12,13]),(4,[3,4,11,12,13,14]),(5,[3,4,6,11,12,13]),(6,[3,4,6,11,12,13,18]),(7,[3,4,6,11,12,13,18,19]),(8,[3,4,7,11,12,13]),(9,[3,4,7,11,12,13,30]),(10,[2]),(11,[3,4,11,12,13]),(12,[3,4,6,11,12,13,18,33]),(13,[3,4,6,11,12,13,37]),(14,[2]),(15,[3,4,6,11,12,13,18,38]),(16,[3,4,6,11,12,13,38]),(17,[3,4,6,11,12,13,49]),(18,[2]),(19,[3,4,6,11,12,13,53]),(20,[2]),(21,[3,4,11,12,13]),(22,[3,4,11,12,13]),(23,[2])]),
 (50,[(0,[2,3]),(1,[2,3,26]),(2,[4]),(3,[2,3,5]),(4,[2,3,5,31]),(5,[2,3,5]),(6,[2,3,5,44]),(7,[4]),(8,[4])]),
 (51,[(0,[2,3,4]),(1,[2,3,4,7]),(2,[2,3,4,7,8]),(3,[2,3,4,5]),(4,[2,4]),(5,[2,3,4,7,26]),(6,[2,4]),(7,[2,3,4,7,31]),(8,[2,4]),(9,[2,3,4,36]),(10,[2,4]),(11,[4])]),
 (58,[(0,[0,2]),(1,[0,2,16]),(2,[2,3,4]),(3,[0,2,5]),(4,[0,2,5,6]),(5,[0,2,5,6,24]),(6,[0,2,5,6]),(7,[0,2,5,6,7]),(8,[0,2,5,6,33]),(9,[0,2,5,6,7]),(10,[0,2,5,6,37]),(11,[2,3,4]),(12,[0,2,5,6,43]),(13,[2,5,8,9,10]),(14,[2,5,8,9,10,52]),(15,[2,3,4]),(16,[2,5]),(17,[2,3,4]),(18,[0,2,5,6,68]),(19,[2,3,4]),(20,[0,2,5,6,74]),(21,[2,3,4]),(22,[0,2,5,6,11]),(23,[0,2,5,6,11,88]),(24,[0,2,5,6,11]),(25,[0,2,5,6,11,12,13]),(26,[0,2,5,6,11,12,13,101]),(27,[2,3,4]),(28,[0,2,5,11]),(29,[0,2,5,11,118]),(30,[2,3,4]),(31,[0,2,5,11,123]),(32,[2,3,4]),(33,[0,2,5,6]),(34,[2,3,4])]),
 (59,[(0,[0,1]),(1,[0,1,5]),(2,[0,1,5,12]),(3,[4]),(4,[0,1,5,6]),(5,[0,1,5,6,19]),(6,[0,1,5,6]),(7,[0,1,5,6,7]),(8,[0,1,5,6,7,29]),(9,[0,1,5,6]),(10,[0,1,5,6]),(11,[0,5]),(12,[4])]),
 (60,[(0,[0]),(1,[0,4]),(2,[2]),(3,[2])]),
 (61,[(0,[1,2]),(1,[3])]),
 (62,[(0,[2,3]),(1,[2,3,6]),(2,[4]),(3,[2,3,6,7]),(4,[2,3,16]),(5,[4]),(6,[2,3,6,17]),(7,[2,3,6,17]),(8,[2,3,17]),(9,[4])]),
 (65,[(0,[0]),(1,[2])]),
 (68,[(0,[0,1]),(1,[0,1,7]),(2,[0,1,7,19]),(3,[0,1,7]),(4,[0,1,7,26]),(5,[4,5,6]),(6,[0,1,7,43]),(7,[4,5,6]),(8,[0,1,7,49]),(9,[4,5,6]),(10,[4,5,6])]),
 (69,[(0,[0]),(1,[2])]),
 (70,[(0,[0]),(1,[0,4,5,6]),(2,[0,4,5,6,7,8]),(3,[0,4,5,6,7,8,9]),(4,[0,4,5,6,7,8,9,14]),(5,[0,4,5,6,7,8,9]),(6,[2,3]),(7,[0,4,5,6,7,8,9,17]),(8,[0,4,5,6,7,8,9]),(9,[0,4,5,6,7,8,9,26]),(10,[0,4,5,6,7,8,9]),(11,[0,4,5,6,7,8,9,39]),(12,[0,4,5,6,7,8,9]),(13,[0,4,5,6,7,8,9,63]),(14,[0,4,5,6,7,8,9]),(15,[0,4,5,6,7,8,9,64]),(16,[0,4,5,6,7,8,9]),(17,[4,5,6,7,8,91]),(18,[2,3]),(19,[4,5,6,7,8,97]),(20,[4,5,6,7,8]),(21,[7,8,10]),(22,[7,10,110]),(23,[2,3]),(24,[10,111]),(25,[2,3]),(26,[2,3])]),
 (71,[(0,[0,1]),(1,[0,1,7,8]),(2,[0,1,7,8,9]),(3,[0,1,5,7,8]),(4,[0,1,5,7,8,16]),(5,[4]),(6,[0,1,7,8]),(7,[4])]),
 (73,[(0,[0]),(1,[0,12]),(2,[0,14]),(3,[2]),(4,[0]),(5,[0,3]),(6,[0,3,4]),(7,[0,3,4,22]),(8,[0,3,4]),(9,[0,3,4,28]),(10,[0,3,4]),(11,[0,3,40]),(12,[2]),(13,[2])])]
noncomputable def awkG:EG:=⟨awkT,[],[],[(51,[(3,[5])])]⟩
end Go.Av

namespace Go.Av
open Go.Proofs
set_option maxRecDepth 1000000 in
theorem ev25:Ev M1 (.pure 25 []) (.bool true) []:=exec_ev (G:=awkG) (fun _ h => nomatch h) 30 (by kernel_rfl)
end Go.Av

namespace Go.Av
open Go.Proofs
set_option maxRecDepth 100000
def fi8:Fi:=⟨16,[.tmp 2]⟩
def kp8:List (Nat × List Nat):=[(0,[0]),(1,[2])]
def mLg_at (c:Int) (Q:AV -> Heap -> Prop):Prop:=Wp M1 (.run fi8 (atC (cd Try.f8) []) [(0,.int .i64 c)] []) Q
theorem call8 {args:List AV} {d:AV} (h:wc M1 fi8 Try.f8 args d):Ev M1 (.pure 8 args) d []:=pcl _ _ (by kernel_rfl) h
noncomputable abbrev zNmC1:=ag [vi 0,vi 90000,vi 54000,vi 49000,vi 98000,vi 0,vi 0,vi 0]
theorem mLg (c:Int)  (dq:AV) (H :
  vb (bif Sp.grp c == Sp.grp c then true else false) = dq) :
 mLg_at c (PureQ dq):=by
 unfold mLg_at
 exact path_re (G:=given kp8 [(1,0,.call (vb true) none),(1,3,.call (vi (Sp.grp c)) none),(1,5,.call (vi (Sp.grp c)) none),(1,9,.call (zNmC1) none),(1,10,.call (zNmC1) none)] []) 1000 [] (calls:=[⟨true,false,25,[],[],vb true,[]⟩,⟨true,false,26,[vi c],[],vi (Sp.grp c),[]⟩,⟨true,false,27,[vi c],[],vi (Sp.grp c),[]⟩,⟨(Sp.grp c == Sp.grp c) == true && true && true,false,28,[],[],zNmC1,[]⟩,⟨(Sp.grp c == Sp.grp c) == true && true && true,false,29,[],[],zNmC1,[]⟩]) (vb (bif Sp.grp c == Sp.grp c then true else false)) (by kernel_rfl) b0 q0 (cc (fun _ => (@ev25 )) (cc (fun _ => (@ev26 (c))) (cc (fun _ => (@ev27 (c))) (cc (fun hc => ((@ev28 ):Ev M1 (Conf.pure 28 []) (zNmC1) [])) (cc (fun hc => ((@ev29 ):Ev M1 (Conf.pure 29 []) (zNmC1) [])) c0))))) H
end Go.Av

namespace Go.Av
open Go.Proofs
theorem mg_ev (c:Int):Ev M1 (.pure 8 [.int .i64 c]) (.bool true) []:=call8 (mLg c _ (by rw [beq_self_eq_true];rfl))
end Go.Av
