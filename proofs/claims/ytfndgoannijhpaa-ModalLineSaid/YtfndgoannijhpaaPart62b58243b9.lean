/- PART 3 of the texts of a claim, joined by a program: what each part shows stands at its head. -/
import Derived.Test.YtfndgoannijhpaaPartd30606965d
import Derived.Test.YtfndgoannijhpaaProg

namespace Go.Av
def Zag (d:AV):AV->Heap->Prop:=fun v L => ∃ d0,pureA L v=some d0/\allB (versA L v)/\d0.clean=true/\Weak d0 d
theorem pure_pq {M:Mach} {f:FuncId} {args:List AV} {d:AV} (fn:Func) (fi:Fi) (hf:(M.P ()).funcs[f]? = some fn) (hb:fn.body = some (cd fn)) (hn:(fn.name == "runtime.NumGoroutine") = false)
  (hi:(⟨fn.ntmps,fn.results.toList⟩:Fi) = fi) (h:Wp M (.run fi [.code (cd fn)] (Zbx 0 args) []) (Zag d)):Ev M (.pure f args) d []:=
 .pure (.mono (own_wp fn fi hf hb hn hi h) fun _ _ ⟨d0,h1,h2,h3,h4⟩ => ⟨d0,d,h1,(allB_iff _).1 h2,h3,h4,rfl,rfl⟩)
mutual
theorem clean_ren (f:Nat -> Nat):∀ (a:AV),a.clean = true -> renA f a = a
 | .any,h => by simp [AV.clean] at h
 | .bool _,_ => rfl
 | .int _ _,_ => rfl
 | .str _,_ => rfl
 | .nilp,_ => rfl
 | .nilf,_ => rfl
 | .nilm,_ => rfl
 | .mapr _,h => by simp [AV.clean] at h
 | .vnil,_ => rfl
 | .eptr ..,_ => rfl
 | .vec ..,_ => rfl
 | .ptr ..,h => by simp [AV.clean] at h
 | .row ..,h => by simp [AV.clean] at h
 | .ref ..,h => by simp [AV.clean] at h
 | .agg cs,h => by simp only [renA,cleanL_ren f cs (by simpa [AV.clean] using h)]
 | .tup cs,h => by simp only [renA,cleanL_ren f cs (by simpa [AV.clean] using h)]
 | .func fn a b,h => by
  simp only [AV.clean,Bool.and_eq_true] at h
  simp only [renA,cleanL_ren f a h.1,cleanL_ren f b h.2]
theorem cleanL_ren (f:Nat -> Nat):∀ (l:List AV),cleanL l = true -> renL f l = l
 | [],_ => rfl
 | c :: l,h => by
  simp only [cleanL,Bool.and_eq_true] at h
  simp only [renL,clean_ren f c h.1,cleanL_ren f l h.2]
end
mutual
theorem pureA_ren {L K:Heap} {f:Nat -> Nat} (hb:∀ (r:Nat) row,L[r]? = some row -> K[f r]? = some (Zad f row)):∀ (a:AV) {d:AV},pureA L a = some d -> pureA K (renA f a) = some d /\ versA K (renA f a) = versA L a
 | .any,_,h => by simp [pureA] at h
 | .bool b,_,h => ⟨h,rfl⟩
 | .int k n,_,h => ⟨h,rfl⟩
 | .str s,_,h => ⟨h,rfl⟩
 | .nilp,_,h => ⟨h,rfl⟩
 | .nilf,_,h => ⟨h,rfl⟩
 | .nilm,_,h => ⟨h,rfl⟩
 | .mapr _,_,h => by simp [pureA] at h
 | .vnil,_,h => ⟨h,rfl⟩
 | .eptr ..,_,h => ⟨h,rfl⟩
 | .vec ..,_,h => ⟨h,rfl⟩
 | .row r v,_,h => by
  cases hr:L[r]? with
  | none => simp [pureA,hr] at h
  | some row =>
   have h2:=hb r row hr
   obtain ⟨_,s2,_,_,_⟩:=Zat f row
   simp only [pureA,hr] at h
   split at h
   ·rename_i hc
    have e:Zad f row = row:=by simp [Zad,hc]
    exact ⟨by simp only [renA,pureA,h2,e,hc,if_true];exact h,by simp only [renA,versA,Zbz,h2,hr,s2]⟩
   ·simp at h
 | .ref r v lo len,_,h => by
  cases hr:L[r]? with
  | none => simp [pureA,hr] at h
  | some row =>
   have h2:=hb r row hr
   obtain ⟨_,s2,_,_,_⟩:=Zat f row
   simp only [pureA,hr] at h
   split at h
   ·rename_i hc
    have e:Zad f row = row:=by simp [Zad,hc]
    exact ⟨by simp only [renA,pureA,h2,e,hc,if_true];exact h,by simp only [renA,versA,Zbz,h2,hr,s2]⟩
   ·simp at h
 | .ptr r v i j,_,h => by
  cases hr:L[r]? with
  | none => simp [pureA,hr] at h
  | some row =>
   have h2:=hb r row hr
   obtain ⟨s1,s2,_,_,_⟩:=Zat f row
   simp only [pureA,hr] at h
   split at h
   ·rename_i x hx
    split at h
    ·rename_i hcx
     have e:(Zad f row).elems = [x]:=by
      unfold Zad
      cases hc:row.clean with
      | true => simpa using hx
      | false => simp only [cond_false,hx,renL,clean_ren f x hcx]
     exact ⟨by simp only [renA,pureA,h2,e,hcx,s1,if_true];exact h,by simp only [renA,versA,Zbz,h2,hr,s2]⟩
    ·simp at h
   ·simp at h
 | .agg cs,_,h => by
  cases hr:pureL L cs with
  | none => simp [pureA,hr] at h
  | some ds =>
   obtain ⟨h1,h2⟩:=pureL_ren hb cs hr
   exact ⟨by simpa only [renA,pureA,h1,hr] using h,by simp only [renA,versA,h2]⟩
 | .tup cs,_,h => by
  cases hr:pureL L cs with
  | none => simp [pureA,hr] at h
  | some ds =>
   obtain ⟨h1,h2⟩:=pureL_ren hb cs hr
   exact ⟨by simpa only [renA,pureA,h1,hr] using h,by simp only [renA,versA,h2]⟩
 | .func fn a b,_,h => by
  cases hr:pureL L a with
  | none => simp [pureA,hr] at h
  | some ds =>
   cases hr2:pureL L b with
   | none => simp [pureA,hr,hr2] at h
   | some ds2 =>
    obtain ⟨h1,h2⟩:=pureL_ren hb a hr
    obtain ⟨h3,h4⟩:=pureL_ren hb b hr2
    exact ⟨by simpa only [renA,pureA,h1,h3,hr,hr2] using h,by simp only [renA,versA,h2,h4]⟩
theorem pureL_ren {L K:Heap} {f:Nat -> Nat} (hb:∀ (r:Nat) row,L[r]? = some row -> K[f r]? = some (Zad f row)):∀ (l:List AV) {ds:List AV},pureL L l = some ds -> pureL K (renL f l) = some ds /\ versL K (renL f l) = versL L l
 | [],_,h => ⟨h,rfl⟩
 | c :: l,_,h => by
  cases hr:pureA L c with
  | none => simp [pureL,hr] at h
  | some d =>
   cases hr2:pureL L l with
   | none => simp [pureL,hr,hr2] at h
   | some ds2 =>
    obtain ⟨h1,h2⟩:=pureA_ren hb c hr
    obtain ⟨h3,h4⟩:=pureL_ren hb l hr2
    exact ⟨by simpa only [renL,pureL,h1,h3,hr,hr2] using h,by simp only [renL,versL,h2,h4]⟩
end
theorem back_at {L L1:Heap} {rs:List Nat} {rows:List Row} (hrows:Zas L rs = some rows) (hnd:rs.Nodup) (r:Nat) (row:Row) (h:L1[r]? = some row) :
  (ZcY L rs L1)[ZbJ L.length rs r]? = some (Zad (ZbJ L.length rs) row):=by
 obtain ⟨g1,g2⟩:=Zao hrows
 unfold ZcY
 by_cases hlt:r < rs.length
 ·have hb:Nat.blt r rs.length = true:=Nat.blt_eq.mpr hlt
  have e:ZbJ L.length rs r = rs[r]:=by simp [ZbJ,hb,hlt]
  obtain ⟨row0,k1,_⟩:=g2 r _ (List.getElem?_eq_getElem hlt)
  have hin:rs[r] < L.length:=(List.getElem?_eq_some_iff.1 k1).1
  rw [e,List.getElem?_append_left (by rw [Zaq];exact hin)]
  exact Zcx rs _ _ hnd r _ _ (List.getElem?_eq_getElem hlt) (by rw [List.getElem?_map,List.getElem?_take_of_lt hlt,h];rfl) hin
 ·have hb:Nat.blt r rs.length = false:=by
   cases hb:Nat.blt r rs.length with
   | false => rfl
   | true => have:=Nat.blt_eq.mp hb;omega
  have e:ZbJ L.length rs r = L.length + (r - rs.length):=by simp [ZbJ,hb]
  rw [e,List.getElem?_append_right (by rw [Zaq];omega),Zaq,List.getElem?_map,List.getElem?_drop]
  have e2:rs.length + (L.length + (r - rs.length) - L.length) = r:=by omega
  rw [e2,h];rfl
theorem Zbf {M:Mach} {fi:Fi} {k:List Item} {env env':Vars} {L Lc:Heap} {d:AV} (rs:List Nat) (hn:ZbN L rs env = some (env',Lc)) (h:Wp M (.run fi k env' Lc) (Zag d)):Wp M (.run fi k env L) (Zag d):=by
 refine .narrow rs env' Lc hn (.mono h fun v L1 ⟨d0,hq1,hq2,hq3,hq4⟩ => ?_)
 unfold ZbN at hn
 split at hn
 ·rename_i rows hrows
  split at hn
  ·rename_i hc
   simp only [Bool.and_eq_true] at hc
   obtain ⟨p1,p2⟩:=pureA_ren (back_at (L1:=L1) hrows ((ZbF rs).1 hc.1)) v hq1
   exact ⟨d0,p1,by rw [p2];exact hq2,hq3,hq4⟩
  ·simp at hn
 ·simp at hn
end Go.Av

namespace Go.Av
structure EG where
 keep:List (Nat × List (Nat × List Nat))
 hot:List (Nat × List (Nat × List Nat))
 known:List (Nat × List AV × AV):=[]
 rows:List (Nat × List (Nat × List Nat)):=[]
mutual
def beqA:AV -> AV -> Bool
 | .bool a,.bool b => a == b
 | .int k n,.int j m => decide (k = j) && n == m
 | .str a,.str b => a == b
 | .agg a,.agg b => beqAL a b
 | .tup a,.tup b => beqAL a b
 | .vec f es a,.vec g fs b => f == g && (es == fs && beqAL a b)
 | .nilp,.nilp => true
 | .vnil,.vnil => true
 | _,_ => false
def beqAL:List AV -> List AV -> Bool
 | [],[] => true
 | a :: l,b :: m => beqA a b && beqAL l m
 | _,_ => false
end
mutual
theorem beqA_eq:∀ (a b:AV),beqA a b = true -> a = b
 | .bool a,b,h => by cases b <;> simp [beqA] at h;rw [h]
 | .int k n,b,h => by cases b <;> simp [beqA] at h;rw [h.1,h.2]
 | .str a,b,h => by cases b <;> simp [beqA] at h;rw [h]
 | .agg a,b,h => by cases b <;> simp [beqA] at h;rw [beqAL_eq a _ h]
 | .tup a,b,h => by cases b <;> simp [beqA] at h;rw [beqAL_eq a _ h]
 | .vec f es a,b,h => by cases b <;> simp [beqA] at h;rw [h.1,h.2.1,beqAL_eq a _ h.2.2]
 | .nilp,b,h => by cases b <;> simp [beqA] at h;rfl
 | .vnil,b,h => by cases b <;> simp [beqA] at h;rfl
 | .any,b,h => by cases b <;> simp [beqA] at h
 | .ptr ..,b,h => by cases b <;> simp [beqA] at h
 | .eptr ..,b,h => by cases b <;> simp [beqA] at h
 | .row ..,b,h => by cases b <;> simp [beqA] at h
 | .ref ..,b,h => by cases b <;> simp [beqA] at h
 | .func ..,b,h => by cases b <;> simp [beqA] at h
 | .nilf,b,h => by cases b <;> simp [beqA] at h
 | .mapr ..,b,h => by cases b <;> simp [beqA] at h
 | .nilm,b,h => by cases b <;> simp [beqA] at h
theorem beqAL_eq:∀ (a b:List AV),beqAL a b = true -> a = b
 | [],b,h => by cases b <;> simp [beqAL] at h;rfl
 | a :: l,b,h => by
  cases b with
  | nil => simp [beqAL] at h
  | cons b m => simp [beqAL] at h;rw [beqA_eq a b h.1,beqAL_eq l m h.2]
end
def ZdZ (f:Nat) (args:List AV):List (Nat × List AV × AV) -> Option AV
 | [] => none
 | (g,bs,v) :: l => bif Nat.beq f g && beqAL args bs then some v else ZdZ f args l
theorem known_in {f:Nat} {args:List AV} {v:AV}:∀ {l:List (Nat × List AV × AV)},ZdZ f args l = some v -> (f,args,v) ∈ l
 | [],h => by simp [ZdZ] at h
 | (g,bs,u) :: l,h => by
  unfold ZdZ at h
  cases hb:(Nat.beq f g && beqAL args bs) with
  | true =>
   rw [hb] at h
   simp only [cond_true,Option.some.injEq] at h
   simp only [Bool.and_eq_true,Nat.beq_eq] at hb
   rw [h,hb.1,beqAL_eq _ _ hb.2];exact .head _
  | false => rw [hb] at h;exact .tail _ (known_in h)
def ofFn:List (Nat × List (Nat × List Nat)) -> Nat -> List (Nat × List Nat)
 | [],_ => []
 | (f,l) :: t,g => bif Nat.beq f g then l else ofFn t g
def Zd0 (l:List Nat) (i:Nat):Option Ans:=bif l.contains i then some .keep else none
def runX (M:Mach) (fi:Fi) (kp ht kr:List (Nat × List Nat)) (call:Zay):Nat -> List Item -> Vars -> Heap -> Option (AV × Heap)
 | 0,_,_,_ => none
 | n + 1,todo,env,L =>
  match todo with
  | [] => match Zc6 M.P fi env L with
   | some v => some (v,L)
   | none => none
  | .inBlock _ :: k => runX M fi kp ht kr call n k env L
  | .inLoop b :: k => runX M fi kp ht kr call n (.code b :: .inLoop b :: k) env L
  | .code c :: k =>
   match c with
   | .skip => runX M fi kp ht kr call n k env L
   | .seq a b => runX M fi kp ht kr call n (.code a :: .code b :: k) env L
   | .cond c a b => match evV env c with
    | .bool t => runX M fi kp ht kr call n (.code (bif t then a else b) :: k) env L
    | _ => none
   | .block id b => runX M fi kp ht kr call n (.code b :: .inBlock id :: k) env L
   | .loop b => runX M fi kp ht kr call n (.code b :: .inLoop b :: k) env L
   | .exit id => match exitTo id k with
    | some k' => runX M fi kp ht kr call n k' env L
    | none => none
   | .region id ops draw =>
    match (bif draw then ZeL (hotOf ops (Zax ht id)) ops else true) with
    | false => none
    | true =>
     match Zan M.P M.inl call fi.n ops (Zd0 (Zax kr id)) (bif draw then hotOf ops (Zax ht id) else fun _ => 2) (List.range ops.size) ⟨lift env,L,[],[],[]⟩ with
     | some s => match s.asm.all (fun b => b),s.eqs with
      | true,[] => runX M fi kp ht kr call n k (ZcG (Zax kp id) s.env) s.L
      | _,_ => none
     | none => none
   | .ret => match Zc6 M.P fi env L with
    | some v => some (v,L)
    | none => none
   | _ => none
  | _ => none
def ansX (M:Mach) (K:List (Nat × List AV × AV)) (ex:FuncId -> List AV -> Heap -> Option (AV × Heap)):Zay:=fun g args L =>
 match M.inl g with
 | true => match ex g args L with
  | some (v,L') => some (v,some L')
  | none => none
 | false => match ZdZ g args K with
  | some d => some (d,none)
  | none => match ex g args [] with
   | some (v,L') => match pureA L' v with
    | some d => bif (versA L' v).all (fun b => b) && d.clean then some (d,none) else none
    | none => none
   | none => none
def execX (M:Mach) (G:EG):Nat -> FuncId -> List AV -> Heap -> Option (AV × Heap)
 | 0 => fun _ _ _ => none
 | n + 1 => fun f args L =>
  match (M.P ()).funcs[f]? with
  | some fn => match fn.body,fn.name == "runtime.NumGoroutine" with
   | some c,false => runX M ⟨fn.ntmps,fn.results.toList⟩ (ofFn G.keep f) (ofFn G.hot f) (ofFn G.rows f) (ansX M G.known (execX M G n)) 100000 [.code c] (Zbx 0 args) L
   | _,_ => none
  | none => none
def GoodC (inl:FuncId -> Bool) (call:Zay) (c:CF):Prop:=
 (c.own = true /\ inl c.f = true /\ ∃ o,call c.f c.args c.L = some (c.v,o) /\ c.L' = o.getD c.L) \/
 (inl c.f = false /\ ∃ L1,call c.f c.args [] = some (c.v,some L1)) \/
 (c.own = false /\ inl c.f = false /\ call c.f c.args [] = some (c.v,none))
section
variable {P:Unit->Program}
theorem ZaS {x:Option AV} {r:SR} (h:Za7 x = some r):r.calls = []:=by
 unfold Za7 at h;split at h
 ·simp only [Option.some.injEq] at h;subst h;rfl
 ·simp at h
theorem intBin_no {op:BinOp} {k:IntKind} {x y:Int} {r:SR} (h:ZeG op k x y = some r):r.calls = []:=by
 unfold ZeG at h
 split at h <;> first | (simp only [Option.some.injEq] at h;subst h;rfl) | (simp at h)
theorem strBin_no {op:BinOp} {x y:List UInt8} {r:SR} (h:Zev op x y = some r):r.calls = []:=by
 unfold Zev at h
 split at h <;> first | (simp only [Option.some.injEq] at h;subst h;rfl) | (simp at h)
theorem binA_no {op:BinOp} {T:TypeId} {x y:AV} {r:SR} (h:binA P op T x y = some r):r.calls = []:=by
 unfold binA at h
 split at h
 ·simp only [Option.some.injEq] at h;subst h;rfl
 ·simp only [Option.some.injEq] at h;subst h;rfl
 ·split at h
  ·exact intBin_no h
  ·simp at h
 ·exact strBin_no h
 ·split at h
  ·exact ZaS h
  ·simp at h
 ·split at h
  ·exact ZaS h
  ·simp at h
 ·simp at h
theorem boxA_no {L:Heap} {x:AV} {r:SR} (h:boxA L x = some r):r.calls = []:=by
 unfold boxA at h;split at h
 ·simp only [Option.some.injEq] at h;subst h;rfl
 ·simp at h
theorem loadA_no {el:Option AV} {L:Heap} {T:TypeId} {p:AV} {r:SR} (h:loadA P el L T p = some r):r.calls = []:=by
 unfold loadA at h
 repeat' split at h
 all_goals first | (simp only [Option.some.injEq] at h;subst h;rfl) | (simp at h)
theorem storeA_no {el:Option AV} {L:Heap} {T:TypeId} {p v:AV} {r:SR} (h:Zew P el L T p v = some r):r.calls = []:=by
 unfold Zew at h
 repeat' split at h
 all_goals first | (simp only [Option.some.injEq] at h;subst h;rfl) | (simp at h)
theorem Zet {keep:Bool} {L:Heap} {T:TypeId} {len:Nat} {parts:List (Nat × AV)} {r:SR} (h:ZaQ P keep L T len parts = some r):r.calls = []:=by
 unfold ZaQ at h
 cases keep <;> simp only [cond_true,cond_false] at h <;> (repeat' split at h) <;> first | (simp only [Option.some.injEq] at h;subst h;rfl) | (simp at h)
theorem indexAddrA_no {L:Heap} {T:TypeId} {x i:AV} {r:SR} (h:Zbt P L T x i = some r):r.calls = []:=by
 unfold Zbt at h
 repeat' split at h
 all_goals first | (simp only [Option.some.injEq] at h;subst h;rfl) | (simp at h)
theorem indexA_no {T:TypeId} {x i:AV} {r:SR} (h:ZeH P T x i = some r):r.calls = []:=by
 unfold ZeH at h
 repeat' split at h
 all_goals first | (simp only [Option.some.injEq] at h;subst h;rfl) | (simp at h)
theorem sliceA_no {L:Heap} {T:TypeId} {x:AV} {lo hi mx:Option AV} {r:SR} (h:Zey P L T x lo hi mx = some r):r.calls = []:=by
 unfold Zey at h
 repeat' split at h
 all_goals first | (simp only [Option.some.injEq] at h;subst h;rfl) | (simp at h)
theorem ZeM {L:Heap} {T:TypeId} {s x:AV} {r:SR} (h:Zb5 P L T s x = some r):r.calls = []:=by
 unfold Zb5 at h
 repeat' split at h
 all_goals first | (simp only [Option.some.injEq] at h;subst h;rfl) | (simp at h)
theorem clearA_no {L:Heap} {T:TypeId} {d:AV} {r:SR} (h:clearA P L T d = some r):r.calls = []:=by
 unfold clearA at h
 repeat' split at h
 all_goals first | (simp only [Option.some.injEq] at h;subst h;rfl) | (simp at h)
theorem lenA_no {L:Heap} {T:TypeId} {x:AV} {r:SR} (h:lenA P L T x = some r):r.calls = []:=by
 unfold lenA at h
 repeat' split at h
 all_goals first | (simp only [Option.some.injEq] at h;subst h;rfl) | (simp at h)
theorem makeSliceA_no {L:Heap} {T:TypeId} {a b:AV} {r:SR} (h:ZbH P L T a b = some r):r.calls = []:=by
 unfold ZbH at h
 repeat' split at h
 all_goals first | (simp only [Option.some.injEq] at h;subst h;rfl) | (simp at h)
theorem sliceArrA_no {L:Heap} {n:Nat} {e:TypeId} {x:AV} {r:SR} (h:Za3 P L n e x = some r):r.calls = []:=by
 unfold Za3 at h
 repeat' split at h
 all_goals first | (simp only [Option.some.injEq] at h;subst h;rfl) | (simp at h)
theorem appendZ_no {L:Heap} {T:TypeId} {s x:AV} {r:SR} (h:Zc0 P L T s x = some r):r.calls = []:=by
 unfold Zc0 at h
 repeat' split at h
 all_goals first | (simp only [Option.some.injEq] at h;subst h;rfl) | (simp at h)
theorem makeMapA_no {L:Heap} {T:TypeId} {r:SR} (h:ZcC P L T = some r):r.calls = []:=by
 unfold ZcC at h
 repeat' split at h
 all_goals first | (simp only [Option.some.injEq] at h;subst h;rfl) | (simp at h)
theorem lookupA_no {el:Option AV} {L:Heap} {T:TypeId} {m k:AV} {ok:Bool} {r:SR} (h:ZdY P el L T m k ok = some r):r.calls = []:=by
 unfold ZdY at h
 repeat' split at h
 all_goals first | (simp only [Option.some.injEq] at h;subst h;rfl) | (simp at h)
theorem mapUpdateA_no {L:Heap} {T:TypeId} {m k v:AV} {r:SR} (h:ZbG P L T m k v = some r):r.calls = []:=by
 unfold ZbG at h
 repeat' split at h
 all_goals first | (simp only [Option.some.injEq] at h;subst h;rfl) | (simp at h)
theorem mapEntryA_no {el:Option AV} {L:Heap} {T:TypeId} {m k:AV} {r:SR} (h:Zb1 P el L T m k = some r):r.calls = []:=by
 unfold Zb1 at h
 repeat' split at h
 all_goals first | (simp only [Option.some.injEq] at h;subst h;rfl) | (simp at h)
theorem Zes {L:Heap} {m i v:AV} {r:SR} (h:Zbw L m i v = some r):r.calls = []:=by
 unfold Zbw at h
 repeat' split at h
 all_goals first | (simp only [Option.some.injEq] at h;subst h;rfl) | (simp at h)
theorem callF_good {inl:FuncId -> Bool} {call:Zay} {L:Heap} {g:FuncId} {args:List AV} {r:SR} (h:ZcX inl call L g args = some r):∀ c ∈ r.calls,GoodC inl call c:=by
 unfold ZcX at h
 cases hi:inl g with
 | true =>
  rw [hi] at h
  simp only [cond_true] at h
  split at h
  ·rename_i rs args' Lc hin
   split at h
   ·rename_i v o hc
    split at h
    ·simp only [Option.some.injEq] at h
     subst h
     intro c hm
     simp only [List.mem_singleton] at hm
     subst hm
     exact .inl ⟨rfl,hi,o,hc,rfl⟩
    ·simp at h
   ·simp at h
  ·simp at h
 | false =>
  rw [hi] at h
  simp only [cond_false] at h
  split at h
  ·rename_i ds hds
   split at h
   ·rename_i d hc
    split at h
    ·split at h
     all_goals
      simp only [Option.some.injEq] at h
      subst h
      intro c hm
      simp only [List.mem_singleton] at hm
      subst hm
      exact .inr (.inr ⟨rfl,hi,hc⟩)
    ·simp at h
   ·rename_i v L1 hc
    split at h
    ·split at h
     ·split at h
      ·simp only [Option.some.injEq] at h
       subst h
       intro c hm
       simp only [List.mem_singleton] at hm
       subst hm
       exact .inr (.inl ⟨hi,L1,hc⟩)
      ·simp at h
     ·simp at h
    ·simp at h
   ·simp at h
  ·simp at h
theorem Zar {inl:FuncId -> Bool} {call:Zay} {r:SR} (h:r.calls = []):∀ c ∈ r.calls,GoodC inl call c:=by
 rw [h];intro c hc;cases hc
theorem callA_good {inl:FuncId -> Bool} {call:Zay} {ρ:Operand -> AV} {L:Heap} {c:Call} {r:SR} (h:Zbr P inl call ρ L c = some r):∀ c ∈ r.calls,GoodC inl call c:=by
 unfold Zbr at h
 split at h
 ·apply Zar
  split at h
  ·split at h
   ·exact ZeM h
   ·exact ZeM h
   ·exact appendZ_no h
   ·simp at h
  ·exact clearA_no h
  ·exact lenA_no h
  ·exact ZaS h
  ·exact ZaS h
  ·exact ZaS h
  ·simp at h
 ·split at h
  ·exact callF_good h
  ·simp at h
 ·simp at h
theorem stepA_good {inl:FuncId -> Bool} {call:Zay} {ρ:ZaL -> Operand -> AV} {L:Heap} {o:Oper} {r:SR} {an:Option Ans} (han:an = none \/ an = some .keep) (h:ZaM P inl call an ρ L o = some r):∀ c ∈ r.calls,GoodC inl call c:=by
 unfold ZaM at h
 simp only at h
 split at h
 ·simp only [Option.some.injEq] at h;subst h;exact Zar rfl
 ·simp only [Option.some.injEq] at h;subst h;exact Zar rfl
 ·split at h
  ·exact Zar (ZaS h)
  ·exact Zar (ZaS h)
 ·split at h
  ·exact Zar (boxA_no h)
  ·simp at h
 ·exact Zar (boxA_no h)
 ·exact Zar (ZaS h)
 ·exact Zar (Zet h)
 ·exact Zar (loadA_no h)
 ·exact Zar (storeA_no h)
 ·split at h
  ·simp only [Option.some.injEq] at h;subst h;exact Zar rfl
  ·simp only [Option.some.injEq] at h;subst h;exact Zar rfl
  ·simp at h
 ·exact Zar (binA_no h)
 ·exact Zar (ZaS h)
 ·exact Zar (ZaS h)
 ·simp only [Option.some.injEq] at h;subst h;exact Zar rfl
 ·exact Zar (makeSliceA_no h)
 ·split at h
  ·split at h
   ·exact Zar (sliceArrA_no h)
   ·simp at h
  ·exact Zar (sliceA_no h)
 ·exact Zar (ZaS h)
 ·exact Zar (ZaS h)
 ·exact Zar (indexAddrA_no h)
 ·exact Zar (indexA_no h)
 ·split at h
  ·exact Zar (makeMapA_no h)
  ·simp at h
 ·exact Zar (lookupA_no h)
 ·exact Zar (mapUpdateA_no h)
 ·exact Zar (mapEntryA_no h)
 ·exact Zar (Zes h)
 ·split at h
  ·exact Zar (ZaS h)
  ·simp at h
 ·rcases han with rfl | rfl <;> exact callA_good h
 ·simp at h
theorem runOp_good {inl:FuncId -> Bool} {call:Zay} {n:Nat} {ops:Array Oper} {hot:Nat} {o:Oper} {s s':RS} {an:Option Ans} (han:an = none \/ an = some .keep) (h:Za6 P inl call n ops an hot o s = some s') (hs:∀ c ∈ s.calls,GoodC inl call c) :
  ∀ c ∈ s'.calls,GoodC inl call c:=by
 unfold Za6 at h
 split at h
 ·simp at h
 ·split at h
  ·simp only [Option.some.injEq] at h;subst h;exact hs
  ·simp at h
 ·split at h
  ·split at h
   ·simp at h
   ·split at h
    ·simp only [Option.some.injEq] at h;subst h;exact hs
    ·simp at h
  ·rename_i r hr
   have hg:=stepA_good han hr
   split at h
   ·simp at h
   ·split at h
    ·simp at h
    ·split at h
     ·simp only [Option.some.injEq] at h;subst h
      intro c hc
      rcases List.mem_append.1 hc with hc | hc
      ·exact hs c hc
      ·exact hg c hc
     ·simp only [Option.some.injEq] at h;subst h
      intro c hc
      rcases List.mem_append.1 hc with hc | hc
      ·exact hs c hc
      ·obtain ⟨c0,h1,rfl⟩:=List.mem_map.1 hc
       exact hg c0 h1
theorem keepAns_or (l:List Nat) (i:Nat):Zd0 l i = none \/ Zd0 l i = some .keep:=by
 unfold Zd0
 cases l.contains i with
 | true => exact .inr rfl
 | false => exact .inl rfl
theorem runOps_good {inl:FuncId -> Bool} {call:Zay} {n:Nat} {ops:Array Oper} {hot:Nat -> Nat} {ans:Nat -> Option Ans} (hans:∀ i,ans i = none \/ ans i = some .keep):∀ (l:List Nat) {s s':RS},Zan P inl call n ops ans hot l s = some s' -> (∀ c ∈ s.calls,GoodC inl call c) ->
  ∀ c ∈ s'.calls,GoodC inl call c:=by
 intro l
 induction l with
 | nil => intro s s' h hs;simp only [Zan,Option.some.injEq] at h;subst h;exact hs
 | cons i rest ih =>
  intro s s' h hs
  simp only [Zan] at h
  split at h
  ·exact ih h hs
  ·split at h
   ·rename_i s1 h1
    exact ih h (runOp_good (hans _) h1 hs)
   ·simp at h
end
def AnsOk (M:Mach) (call:Zay):Prop:=∀ f args L v o,call f args L = some (v,o) ->
 (M.inl f = true -> Ev M (.own f args L) v (o.getD L)) /\ (M.inl f = false -> o = none /\ Ev M (.pure f args) v [])
theorem runX_sound {M:Mach} {fi:Fi} {kp ht kr:List (Nat × List Nat)} {call:Zay} (hc:AnsOk M call):∀ (n:Nat) {todo:List Item} {env:Vars} {L L':Heap} {v:AV},runX M fi kp ht kr call n todo env L = some (v,L') ->
  Ev M (.run fi todo env L) v L':=by
 intro n
 induction n with
 | zero => intro todo env L L' v h;simp [runX] at h
 | succ n ih =>
  intro todo env L L' v h
  unfold runX at h
  split at h
  ·split at h
   ·rename_i w hf
    simp only [Option.some.injEq,Prod.mk.injEq] at h
    obtain ⟨rfl,rfl⟩:=h
    exact .done hf ⟨rfl,rfl⟩
   ·simp at h
  ·exact .inBlock (ih h)
  ·exact .inLoop (ih h)
  ·split at h
   ·exact .skip (ih h)
   ·exact .seq (ih h)
   ·split at h
    ·rename_i t ht
     exact .cond t ht (ih h)
    ·simp at h
   ·exact .block (ih h)
   ·exact .loop (ih h)
   ·split at h
    ·rename_i k' hk
     exact .exit hk (ih h)
    ·simp at h
   ·split at h
    ·simp at h
    ·rename_i id ops draw _ hd
     split at h
     ·rename_i s hr
      split at h
      ·rename_i ha he
       have hg:=runOps_good (keepAns_or _) _ hr (by intro c hc;cases hc)
       refine .region call (Zd0 (Zax kr id)) _ _ s (fun h1 => ?_) hr (fun b hb => ?_) (fun p hp => ?_) (fun c hcm _ ho => ?_) (fun c hcm _ ho => ?_) (ih h)
       ·subst h1;exact hd
       ·exact (List.all_eq_true.1 ha) b hb
       ·rw [he] at hp;cases hp
       ·rcases hg c hcm with ⟨_,h2,o,h3,h4⟩ | ⟨h2,L1,h3⟩ | ⟨h2,_⟩
        ·rw [h4];exact (hc _ _ _ _ _ h3).1 h2
        ·have:=((hc _ _ _ _ _ h3).2 h2).1;simp at this
        ·rw [ho] at h2;simp at h2
       ·rcases hg c hcm with ⟨h2,_⟩ | ⟨h2,L1,h3⟩ | ⟨_,h2,h3⟩
        ·rw [ho] at h2;simp at h2
        ·have:=((hc _ _ _ _ _ h3).2 h2).1;simp at this
        ·exact ((hc _ _ _ _ _ h3).2 h2).2
      ·simp at h
     ·simp at h
   ·split at h
    ·rename_i w hf
     simp only [Option.some.injEq,Prod.mk.injEq] at h
     obtain ⟨rfl,rfl⟩:=h
     exact .ret hf ⟨rfl,rfl⟩
    ·simp at h
   ·simp at h
  ·simp at h
def KnownOk (M:Mach) (G:EG):Prop:=∀ k ∈ G.known,Ev M (.pure k.1 k.2.1) k.2.2 []
theorem ansX_ok {M:Mach} {G:EG} (hK:KnownOk M G) {ex:FuncId -> List AV -> Heap -> Option (AV × Heap)} (h:∀ f args L v L',ex f args L = some (v,L') -> Ev M (.own f args L) v L'):AnsOk M (ansX M G.known ex):=by
 intro f args L v o hc
 unfold ansX at hc
 split at hc
 ·rename_i hi
  refine ⟨fun _ => ?_,fun h2 => by rw [hi] at h2;simp at h2⟩
  split at hc
  ·rename_i w L' he
   simp only [Option.some.injEq,Prod.mk.injEq] at hc
   obtain ⟨rfl,rfl⟩:=hc
   exact h _ _ _ _ _ he
  ·simp at hc
 ·rename_i hi
  refine ⟨fun h2 => by rw [hi] at h2;simp at h2,fun _ => ?_⟩
  split at hc
  ·rename_i d hd
   simp only [Option.some.injEq,Prod.mk.injEq] at hc
   obtain ⟨rfl,rfl⟩:=hc
   exact ⟨rfl,hK _ (known_in hd)⟩
  split at hc
  ·rename_i w L' he
   split at hc
   ·rename_i d hd
    cases hb:((versA L' w).all (fun b => b) && d.clean) with
    | false => rw [hb] at hc;simp at hc
    | true =>
     rw [hb] at hc
     simp only [cond_true,Option.some.injEq,Prod.mk.injEq] at hc
     obtain ⟨rfl,rfl⟩:=hc
     simp only [Bool.and_eq_true,List.all_eq_true] at hb
     exact ⟨rfl,.pure (.mono (h _ _ _ _ _ he) fun x K ⟨e1,e2⟩ => by subst e1;subst e2;exact ⟨d,d,hd,hb.1,hb.2,.refl d,rfl,rfl⟩)⟩
   ·simp at hc
  ·simp at hc
theorem execX_sound {M:Mach} {G:EG} (hK:KnownOk M G):∀ (n:Nat) (f:FuncId) (args:List AV) (L:Heap) (v:AV) (L':Heap),execX M G n f args L = some (v,L') -> Ev M (.own f args L) v L':=by
 intro n
 induction n with
 | zero => intro f args L v L' h;simp [execX] at h
 | succ n ih =>
  intro f args L v L' h
  unfold execX at h
  split at h
  ·rename_i fn hf
   split at h
   ·rename_i c hb hn
    exact .own fn c hf hb hn (runX_sound (ansX_ok hK fun f args L v L' h => ih f args L v L' h) _ h)
   ·simp at h
  ·simp at h
def execP (M:Mach) (G:EG) (n:Nat) (f:FuncId) (args:List AV):Option AV:=
 match execX M G n f args [] with
 | some (v,L') => match pureA L' v with
  | some d => bif (versA L' v).all (fun b => b) && d.clean then some d else none
  | none => none
 | none => none
theorem Zcp {M:Mach} {G:EG} (hK:KnownOk M G) (n:Nat) {f:FuncId} {args:List AV} {d:AV} (h:execP M G n f args = some d):Ev M (.pure f args) d []:=by
 unfold execP at h
 split at h
 ·rename_i v L' he
  split at h
  ·rename_i d0 hd
   cases hb:((versA L' v).all (fun b => b) && d0.clean) with
   | false => rw [hb] at h;simp at h
   | true =>
    rw [hb] at h
    simp only [cond_true,Option.some.injEq] at h
    subst h
    simp only [Bool.and_eq_true,List.all_eq_true] at hb
    exact .pure (.mono (execX_sound hK n _ _ _ _ _ he) fun x K ⟨e1,e2⟩ => by subst e1;subst e2;exact ⟨d0,d0,hd,hb.1,hb.2,.refl d0,rfl,rfl⟩)
  ·simp at h
 ·simp at h
end Go.Av

namespace Go.Av
open Go.Proofs
noncomputable def M1:Mach:=⟨fun _=>Try.prog,fun f=>[60,59,46,33].contains f⟩
end Go.Av

namespace Go.Av
open Go.Proofs
theorem pack65 (cs:List AV):Zep Try.prog 65 cs = .agg cs:=by
 simp [Zep,aggT,Try.underlying65]
set_option maxRecDepth 100000 in
theorem state_ty {n:Nat} {cs:List AV} (h:Ty Try.prog (n + 1 + 1) 65 cs):∃ x0 x1 x2 x3 x4 x5 x6 x7:Int,cs = [.int .i64 x0,.int .i64 x1,.int .i64 x2,.int .i64 x3,.int .i64 x4,.int .i64 x5,.int .i64 x6,.int .i64 x7]:=by
 have h:=ty_struct Try.underlying65 h
 obtain ⟨a0,b0,rfl,h0,a1,b1,rfl,h1,a2,b2,rfl,h2,a3,b3,rfl,h3,a4,b4,rfl,h4,a5,b5,rfl,h5,a6,b6,rfl,h6,a7,b7,rfl,h7,rfl⟩:=h
 obtain ⟨x0,rfl,_⟩:=Zc1 Try.underlying2 h0
 obtain ⟨x1,rfl,_⟩:=Zc1 Try.underlying2 h1
 obtain ⟨x2,rfl,_⟩:=Zc1 Try.underlying2 h2
 obtain ⟨x3,rfl,_⟩:=Zc1 Try.underlying2 h3
 obtain ⟨x4,rfl,_⟩:=Zc1 Try.underlying2 h4
 obtain ⟨x5,rfl,_⟩:=Zc1 Try.underlying2 h5
 obtain ⟨x6,rfl,_⟩:=Zc1 Try.underlying2 h6
 obtain ⟨x7,rfl,_⟩:=Zc1 Try.underlying2 h7
 exact ⟨x0,x1,x2,x3,x4,x5,x6,x7,rfl⟩
theorem laidOut:laidOutB Try.prog=true:=by kernel_rfl
theorem ownGo:ownKnob Try.prog.godebug=none:=by kernel_rfl
end Go.Av

namespace Go.Av
abbrev vi:Int->AV:=AV.int .i64
abbrev us (l:List Int):List AV:=List.map (AV.int .u32) l
abbrev wi (x:Int):Int:=IntKind.i64.wrap x
abbrev ag (l:List AV):AV:=.agg l
abbrev tu (l:List AV):AV:=.tup l
abbrev vb (b:Bool):AV:=.bool b
abbrev gi {α:Type} (l:List α) (i:Nat):Option α:=l.get?Internal i
theorem b0:allB []:=trivial
theorem bc {b:Bool} {l:List Bool} (h:b=true) (r:allB l):allB (b::l):=⟨h,r⟩
theorem q0:allP []:=trivial
theorem qc {p:Prop} {l:List Prop} (h:p) (r:allP l):allP (p::l):=⟨h,r⟩
theorem c0 {M:Mach}:allC M []:=trivial
theorem cc {M:Mach} {c:CF} {l:List CF} (h:c.cond=true->c.ok M) (r:allC M l):allC M (c::l):=⟨h,r⟩
theorem xq {P A B : Prop} (H : (P -> A) /\ (¬P -> B)) : (P /\ A) \/ (¬P /\ B) := (Classical.em P).elim (fun k => .inl ⟨k, H.1 k⟩) fun k => .inr ⟨k, H.2 k⟩
theorem xm (p:Prop):p\/¬p:=Classical.em p
abbrev pc (f:Nat) (args:List AV) (v:AV):CF:=⟨true,false,f,args,[],v,[]⟩
theorem ce {M:Mach} {f:Nat} {args:List AV} {v:AV} {l:List CF} (h:Ev M (.pure f args) v []) (r:allC M l):allC M (pc f args v::l):=⟨fun _=>h,r⟩
def retP (M:Mach) (fi:Fi) (G:Given) (n:Nat) (ds:List Bool) (todo:List Item) (env:Vars) (L:Heap):Option (AV × List Bool × List Prop × List CF):=
 match path M fi G n ds ⟨todo,env,L,[],[],[]⟩ with
 | some ⟨.code .ret :: _,env',L',asm,eqs,calls⟩ => match Zc6 M.P fi env' L' with
  | some v => match pureA L' v with
   | some d => bif (versA L' v).all id && d.clean then some (d,asm,eqs,calls) else none
   | none => none
  | none => none
 | _ => none
theorem ZcN {M:Mach} {fi:Fi} {G:Given} (n:Nat) (ds:List Bool) {todo:List Item} {env:Vars} {L:Heap} {asm:List Bool} {eqs:List Prop} {calls:List CF} (d:AV) {dq:AV}
  (h:retP M fi G n ds todo env L = some (d,asm,eqs,calls)) (hA:allB asm) (hQ:allP eqs) (hC:allC M calls) (w:Weak d dq):Wp M (.run fi todo env L) (Zag dq):=by
 unfold retP at h
 split at h
 ·rename_i k env' L' asm' eqs' calls' hp
  split at h
  ·rename_i v hf
   split at h
   ·rename_i d' hd
    cases hb:((versA L' v).all id && d'.clean) with
    | false => rw [hb] at h;simp at h
    | true =>
     rw [hb] at h
     simp only [cond_true,Option.some.injEq,Prod.mk.injEq] at h
     obtain ⟨rfl,rfl,rfl,rfl⟩:=h
     rw [Bool.and_eq_true,List.all_eq_true] at hb
     exact Zaf n ds _ hp hA hQ hC (.ret hf ⟨_,hd,(allB_iff _).2 hb.1,hb.2,w⟩)
   ·simp at h
  ·simp at h
 ·simp at h
theorem Zac {M:Mach} {fi:Fi} {G:Given} (n:Nat) (ds:List Bool) {todo:List Item} {env:Vars} {L:Heap} {asm:List Bool} {eqs:List Prop} {calls:List CF} (d:AV) {dq:AV}
  (h:retP M fi G n ds todo env L = some (d,asm,eqs,calls)) (hA:allB asm) (hQ:allP eqs) (hC:allC M calls) (w:d = dq):Wp M (.run fi todo env L) (Zag dq):=
 ZcN n ds d h hA hQ hC (by rw [w];exact .refl _)
theorem pcl {M:Mach} {f:FuncId} {args:List AV} {d:AV} (fn:Func) (fi:Fi) (h0:((M.P ()).funcs[f]?,fn.body,fn.name == "runtime.NumGoroutine",(⟨fn.ntmps,fn.results.toList⟩:Fi)) = (some fn,some (cd fn),false,fi)) (h:Wp M (.run fi [.code (cd fn)] (Zbx 0 args) []) (Zag d)):Ev M (.pure f args) d []:=
 pure_pq fn fi (congrArg (fun x => x.1) h0) (congrArg (fun x => x.2.1) h0) (congrArg (fun x => x.2.2.1) h0) (congrArg (fun x => x.2.2.2) h0) h
abbrev wc (M:Mach) (fi:Fi) (fn:Func) (args:List AV) (d:AV):Prop:=Wp M (.run fi [.code (cd fn)] (Zbx 0 args) []) (Zag d)
end Go.Av

namespace Go.Av
open Go.Proofs
structure Wo where
 l:Int
 v:Int
 deriving Inhabited,DecidableEq
def Wo.a (w:Wo):AV:=.agg [.int .u8 w.l,.int .i64 w.v]
namespace Sp
def grp (c:Int):Int:=
 if c = 0 \/ c = 1000 \/ c = 2000 \/ c = 3000 \/ c = 80000 \/ c = 81000 \/ c = 82000 \/ c = 83000 then 1
 else if c = 90000 \/ c = 91000 then 2
 else if c = 54000 \/ c = 55000 \/ c = 56000 \/ c = 57000 \/ c = 58000 \/ c = 59000 then 3
 else if c = 43000 \/ c = 49000 then 4
 else if c = 98000 \/ c = 99000 then 5 else 0
end Sp
end Go.Av

namespace Go.Av
open Go.Proofs
set_option maxRecDepth 100000
def fi26:Fi:=⟨29,[.tmp 2]⟩
def kp26:List (Nat × List Nat):=[(0,[0]),(1,[3]),(2,[3,4]),(3,[3,4]),(4,[3,4]),(5,[3,4]),(6,[3,4]),(7,[3,4]),(8,[3,4]),(9,[3,4]),(10,[2]),(11,[3,13]),(12,[3,13]),(13,[2]),(14,[3,16]),(15,[3,16]),(16,[3,16]),(17,[3,16]),(18,[3,16]),(19,[3,16]),(20,[2]),(21,[3,23]),(22,[3,23]),(23,[2]),(24,[3,26]),(25,[26]),(26,[2]),(27,[2])]
def fi48:Fi:=⟨17,[.tmp 2]⟩
def kp48:List (Nat × List Nat):=[(0,[0]),(1,[3]),(2,[3,4]),(3,[2]),(4,[3,7]),(5,[2]),(6,[3,10]),(7,[2]),(8,[13]),(9,[2]),(10,[2])]
def mGrp_at (c:Int) (Q:AV->Heap->Prop):Prop:=Wp M1 (.run fi26 (atC (cd Try.f26) []) [(0,.int .i64 c)] []) Q
def mCod1_at  (Q:AV->Heap->Prop):Prop:=Wp M1 (.run fi48 (atC (cd Try.f48) []) [(0,.int .i64 1)] []) Q
def mCod2_at  (Q:AV->Heap->Prop):Prop:=Wp M1 (.run fi48 (atC (cd Try.f48) []) [(0,.int .i64 2)] []) Q
def mCod3_at  (Q:AV->Heap->Prop):Prop:=Wp M1 (.run fi48 (atC (cd Try.f48) []) [(0,.int .i64 3)] []) Q
def mCod4_at  (Q:AV->Heap->Prop):Prop:=Wp M1 (.run fi48 (atC (cd Try.f48) []) [(0,.int .i64 4)] []) Q
def mCod5_at  (Q:AV->Heap->Prop):Prop:=Wp M1 (.run fi48 (atC (cd Try.f48) []) [(0,.int .i64 5)] []) Q
theorem call26 {args:List AV} {d:AV} (h:wc M1 fi26 Try.f26 args d):Ev M1 (.pure 26 args) d []:=pcl _ _ (by kernel_rfl) h
theorem call48 {args:List AV} {d:AV} (h:wc M1 fi48 Try.f48 args d):Ev M1 (.pure 48 args) d []:=pcl _ _ (by kernel_rfl) h
theorem mGrp (c:Int)  (dq:AV) (H :
  ((c = 0) -> vi 1 = dq) /\
  (¬(c = 0) -> ((c = 1000) -> vi 1 = dq) /\
   (¬(c = 1000) -> ((c = 2000) -> vi 1 = dq) /\
    (¬(c = 2000) -> ((c = 3000) -> vi 1 = dq) /\
     (¬(c = 3000) -> ((c = 80000) -> vi 1 = dq) /\
      (¬(c = 80000) -> ((c = 81000) -> vi 1 = dq) /\
       (¬(c = 81000) -> ((c = 82000) -> vi 1 = dq) /\
        (¬(c = 82000) -> ((c = 83000) -> vi 1 = dq) /\
         (¬(c = 83000) -> ((c = 90000) -> vi 2 = dq) /\
          (¬(c = 90000) -> ((c = 91000) -> vi 2 = dq) /\
           (¬(c = 91000) -> ((c = 54000) -> vi 3 = dq) /\
            (¬(c = 54000) -> ((c = 55000) -> vi 3 = dq) /\
             (¬(c = 55000) -> ((c = 56000) -> vi 3 = dq) /\
              (¬(c = 56000) -> ((c = 57000) -> vi 3 = dq) /\
               (¬(c = 57000) -> ((c = 58000) -> vi 3 = dq) /\
                (¬(c = 58000) -> ((c = 59000) -> vi 3 = dq) /\
                 (¬(c = 59000) -> ((c = 43000) -> vi 4 = dq) /\
                  (¬(c = 43000) -> ((c = 49000) -> vi 4 = dq) /\
                   (¬(c = 49000) -> ((c = 98000) -> vi 5 = dq) /\
                    (¬(c = 98000) -> ((c = 99000) -> vi 5 = dq) /\
                     (¬(c = 99000) -> vi 0 = dq))))))))))))))))))))) :
 mGrp_at c (Zag dq):=by
 unfold mGrp_at
 rcases xq H with ⟨d2,H⟩|⟨d2,H⟩
 ·exact Zac (G:=Zae kp26 [] []) 1000 [true,true] (vi 1) (by kernel_rfl) (bc (Zai (i_eq.2 d2)) (bc (Zai (i_eq.2 d2)) b0)) q0 c0 H
 ·rcases xq H with ⟨d5,H⟩|⟨d5,H⟩
  ·exact Zac (G:=Zae kp26 [] []) 1000 [false,true,true] (vi 1) (by kernel_rfl) (bc (Zaa (fun h => d2 (i_eq.1 h))) (bc (Zai (i_eq.2 d5)) (bc (Zai (i_eq.2 d5)) b0))) q0 c0 H
  ·rcases xq H with ⟨d8,H⟩|⟨d8,H⟩
   ·exact Zac (G:=Zae kp26 [] []) 1000 [false,false,true,true] (vi 1) (by kernel_rfl) (bc (Zaa (fun h => d2 (i_eq.1 h))) (bc (Zaa (fun h => d5 (i_eq.1 h))) (bc (Zai (i_eq.2 d8)) (bc (Zai (i_eq.2 d8)) b0)))) q0 c0 H
   ·rcases xq H with ⟨d11,H⟩|⟨d11,H⟩
    ·exact Zac (G:=Zae kp26 [] []) 1000 [false,false,false,true,true] (vi 1) (by kernel_rfl) (bc (Zaa (fun h => d2 (i_eq.1 h))) (bc (Zaa (fun h => d5 (i_eq.1 h))) (bc (Zaa (fun h => d8 (i_eq.1 h))) (bc (Zai (i_eq.2 d11)) (bc (Zai (i_eq.2 d11)) b0))))) q0 c0 H
    ·rcases xq H with ⟨d14,H⟩|⟨d14,H⟩
     ·exact Zac (G:=Zae kp26 [] []) 1000 [false,false,false,false,true,true] (vi 1) (by kernel_rfl) (bc (Zaa (fun h => d2 (i_eq.1 h))) (bc (Zaa (fun h => d5 (i_eq.1 h))) (bc (Zaa (fun h => d8 (i_eq.1 h))) (bc (Zaa (fun h => d11 (i_eq.1 h))) (bc (Zai (i_eq.2 d14)) (bc (Zai (i_eq.2 d14)) b0)))))) q0 c0 H
     ·rcases xq H with ⟨d17,H⟩|⟨d17,H⟩
      ·exact Zac (G:=Zae kp26 [] []) 1000 [false,false,false,false,false,true,true] (vi 1) (by kernel_rfl) (bc (Zaa (fun h => d2 (i_eq.1 h))) (bc (Zaa (fun h => d5 (i_eq.1 h))) (bc (Zaa (fun h => d8 (i_eq.1 h))) (bc (Zaa (fun h => d11 (i_eq.1 h))) (bc (Zaa (fun h => d14 (i_eq.1 h))) (bc (Zai (i_eq.2 d17)) (bc (Zai (i_eq.2 d17)) b0))))))) q0 c0 H
      ·rcases xq H with ⟨d20,H⟩|⟨d20,H⟩
       ·exact Zac (G:=Zae kp26 [] []) 1000 [false,false,false,false,false,false,true,true] (vi 1) (by kernel_rfl) (bc (Zaa (fun h => d2 (i_eq.1 h))) (bc (Zaa (fun h => d5 (i_eq.1 h))) (bc (Zaa (fun h => d8 (i_eq.1 h))) (bc (Zaa (fun h => d11 (i_eq.1 h))) (bc (Zaa (fun h => d14 (i_eq.1 h))) (bc (Zaa (fun h => d17 (i_eq.1 h))) (bc (Zai (i_eq.2 d20)) (bc (Zai (i_eq.2 d20)) b0)))))))) q0 c0 H
       ·rcases xq H with ⟨d23,H⟩|⟨d23,H⟩
        ·exact Zac (G:=Zae kp26 [] []) 1000 [false,false,false,false,false,false,false,true] (vi 1) (by kernel_rfl) (bc (Zaa (fun h => d2 (i_eq.1 h))) (bc (Zaa (fun h => d5 (i_eq.1 h))) (bc (Zaa (fun h => d8 (i_eq.1 h))) (bc (Zaa (fun h => d11 (i_eq.1 h))) (bc (Zaa (fun h => d14 (i_eq.1 h))) (bc (Zaa (fun h => d17 (i_eq.1 h))) (bc (Zaa (fun h => d20 (i_eq.1 h))) (bc (Zai (i_eq.2 d23)) b0)))))))) q0 c0 H
        ·rcases xq H with ⟨d25,H⟩|⟨d25,H⟩
         ·exact Zac (G:=Zae kp26 [] []) 1000 [false,false,false,false,false,false,false,false,true,true] (vi 2) (by kernel_rfl) (bc (Zaa (fun h => d2 (i_eq.1 h))) (bc (Zaa (fun h => d5 (i_eq.1 h))) (bc (Zaa (fun h => d8 (i_eq.1 h))) (bc (Zaa (fun h => d11 (i_eq.1 h))) (bc (Zaa (fun h => d14 (i_eq.1 h))) (bc (Zaa (fun h => d17 (i_eq.1 h))) (bc (Zaa (fun h => d20 (i_eq.1 h))) (bc (Zaa (fun h => d23 (i_eq.1 h))) (bc (Zai (i_eq.2 d25)) (bc (Zai (i_eq.2 d25)) b0)))))))))) q0 c0 H
         ·rcases xq H with ⟨d28,H⟩|⟨d28,H⟩
          ·exact Zac (G:=Zae kp26 [] []) 1000 [false,false,false,false,false,false,false,false,false,true] (vi 2) (by kernel_rfl) (bc (Zaa (fun h => d2 (i_eq.1 h))) (bc (Zaa (fun h => d5 (i_eq.1 h))) (bc (Zaa (fun h => d8 (i_eq.1 h))) (bc (Zaa (fun h => d11 (i_eq.1 h))) (bc (Zaa (fun h => d14 (i_eq.1 h))) (bc (Zaa (fun h => d17 (i_eq.1 h))) (bc (Zaa (fun h => d20 (i_eq.1 h))) (bc (Zaa (fun h => d23 (i_eq.1 h))) (bc (Zaa (fun h => d25 (i_eq.1 h))) (bc (Zai (i_eq.2 d28)) b0)))))))))) q0 c0 H
          ·rcases xq H with ⟨d30,H⟩|⟨d30,H⟩
           ·exact Zac (G:=Zae kp26 [] []) 1000 [false,false,false,false,false,false,false,false,false,false,true,true] (vi 3) (by kernel_rfl) (bc (Zaa (fun h => d2 (i_eq.1 h))) (bc (Zaa (fun h => d5 (i_eq.1 h))) (bc (Zaa (fun h => d8 (i_eq.1 h))) (bc (Zaa (fun h => d11 (i_eq.1 h))) (bc (Zaa (fun h => d14 (i_eq.1 h))) (bc (Zaa (fun h => d17 (i_eq.1 h))) (bc (Zaa (fun h => d20 (i_eq.1 h))) (bc (Zaa (fun h => d23 (i_eq.1 h))) (bc (Zaa (fun h => d25 (i_eq.1 h))) (bc (Zaa (fun h => d28 (i_eq.1 h))) (bc (Zai (i_eq.2 d30)) (bc (Zai (i_eq.2 d30)) b0)))))))))))) q0 c0 H
           ·rcases xq H with ⟨d33,H⟩|⟨d33,H⟩
            ·exact Zac (G:=Zae kp26 [] []) 1000 [false,false,false,false,false,false,false,false,false,false,false,true,true] (vi 3) (by kernel_rfl) (bc (Zaa (fun h => d2 (i_eq.1 h))) (bc (Zaa (fun h => d5 (i_eq.1 h))) (bc (Zaa (fun h => d8 (i_eq.1 h))) (bc (Zaa (fun h => d11 (i_eq.1 h))) (bc (Zaa (fun h => d14 (i_eq.1 h))) (bc (Zaa (fun h => d17 (i_eq.1 h))) (bc (Zaa (fun h => d20 (i_eq.1 h))) (bc (Zaa (fun h => d23 (i_eq.1 h))) (bc (Zaa (fun h => d25 (i_eq.1 h))) (bc (Zaa (fun h => d28 (i_eq.1 h))) (bc (Zaa (fun h => d30 (i_eq.1 h))) (bc (Zai (i_eq.2 d33)) (bc (Zai (i_eq.2 d33)) b0))))))))))))) q0 c0 H
            ·rcases xq H with ⟨d36,H⟩|⟨d36,H⟩
             ·exact Zac (G:=Zae kp26 [] []) 1000 [false,false,false,false,false,false,false,false,false,false,false,false,true,true] (vi 3) (by kernel_rfl) (bc (Zaa (fun h => d2 (i_eq.1 h))) (bc (Zaa (fun h => d5 (i_eq.1 h))) (bc (Zaa (fun h => d8 (i_eq.1 h))) (bc (Zaa (fun h => d11 (i_eq.1 h))) (bc (Zaa (fun h => d14 (i_eq.1 h))) (bc (Zaa (fun h => d17 (i_eq.1 h))) (bc (Zaa (fun h => d20 (i_eq.1 h))) (bc (Zaa (fun h => d23 (i_eq.1 h))) (bc (Zaa (fun h => d25 (i_eq.1 h))) (bc (Zaa (fun h => d28 (i_eq.1 h))) (bc (Zaa (fun h => d30 (i_eq.1 h))) (bc (Zaa (fun h => d33 (i_eq.1 h))) (bc (Zai (i_eq.2 d36)) (bc (Zai (i_eq.2 d36)) b0)))))))))))))) q0 c0 H
             ·rcases xq H with ⟨d39,H⟩|⟨d39,H⟩
              ·exact Zac (G:=Zae kp26 [] []) 1000 [false,false,false,false,false,false,false,false,false,false,false,false,false,true,true] (vi 3) (by kernel_rfl) (bc (Zaa (fun h => d2 (i_eq.1 h))) (bc (Zaa (fun h => d5 (i_eq.1 h))) (bc (Zaa (fun h => d8 (i_eq.1 h))) (bc (Zaa (fun h => d11 (i_eq.1 h))) (bc (Zaa (fun h => d14 (i_eq.1 h))) (bc (Zaa (fun h => d17 (i_eq.1 h))) (bc (Zaa (fun h => d20 (i_eq.1 h))) (bc (Zaa (fun h => d23 (i_eq.1 h))) (bc (Zaa (fun h => d25 (i_eq.1 h))) (bc (Zaa (fun h => d28 (i_eq.1 h))) (bc (Zaa (fun h => d30 (i_eq.1 h))) (bc (Zaa (fun h => d33 (i_eq.1 h))) (bc (Zaa (fun h => d36 (i_eq.1 h))) (bc (Zai (i_eq.2 d39)) (bc (Zai (i_eq.2 d39)) b0))))))))))))))) q0 c0 H
              ·rcases xq H with ⟨d42,H⟩|⟨d42,H⟩
               ·exact Zac (G:=Zae kp26 [] []) 1000 [false,false,false,false,false,false,false,false,false,false,false,false,false,false,true,true] (vi 3) (by kernel_rfl) (bc (Zaa (fun h => d2 (i_eq.1 h))) (bc (Zaa (fun h => d5 (i_eq.1 h))) (bc (Zaa (fun h => d8 (i_eq.1 h))) (bc (Zaa (fun h => d11 (i_eq.1 h))) (bc (Zaa (fun h => d14 (i_eq.1 h))) (bc (Zaa (fun h => d17 (i_eq.1 h))) (bc (Zaa (fun h => d20 (i_eq.1 h))) (bc (Zaa (fun h => d23 (i_eq.1 h))) (bc (Zaa (fun h => d25 (i_eq.1 h))) (bc (Zaa (fun h => d28 (i_eq.1 h))) (bc (Zaa (fun h => d30 (i_eq.1 h))) (bc (Zaa (fun h => d33 (i_eq.1 h))) (bc (Zaa (fun h => d36 (i_eq.1 h))) (bc (Zaa (fun h => d39 (i_eq.1 h))) (bc (Zai (i_eq.2 d42)) (bc (Zai (i_eq.2 d42)) b0)))))))))))))))) q0 c0 H
               ·rcases xq H with ⟨d45,H⟩|⟨d45,H⟩
                ·exact Zac (G:=Zae kp26 [] []) 1000 [false,false,false,false,false,false,false,false,false,false,false,false,false,false,false,true] (vi 3) (by kernel_rfl) (bc (Zaa (fun h => d2 (i_eq.1 h))) (bc (Zaa (fun h => d5 (i_eq.1 h))) (bc (Zaa (fun h => d8 (i_eq.1 h))) (bc (Zaa (fun h => d11 (i_eq.1 h))) (bc (Zaa (fun h => d14 (i_eq.1 h))) (bc (Zaa (fun h => d17 (i_eq.1 h))) (bc (Zaa (fun h => d20 (i_eq.1 h))) (bc (Zaa (fun h => d23 (i_eq.1 h))) (bc (Zaa (fun h => d25 (i_eq.1 h))) (bc (Zaa (fun h => d28 (i_eq.1 h))) (bc (Zaa (fun h => d30 (i_eq.1 h))) (bc (Zaa (fun h => d33 (i_eq.1 h))) (bc (Zaa (fun h => d36 (i_eq.1 h))) (bc (Zaa (fun h => d39 (i_eq.1 h))) (bc (Zaa (fun h => d42 (i_eq.1 h))) (bc (Zai (i_eq.2 d45)) b0)))))))))))))))) q0 c0 H
                ·rcases xq H with ⟨d47,H⟩|⟨d47,H⟩
                 ·exact Zac (G:=Zae kp26 [] []) 1000 [false,false,false,false,false,false,false,false,false,false,false,false,false,false,false,false,true,true] (vi 4) (by kernel_rfl) (bc (Zaa (fun h => d2 (i_eq.1 h))) (bc (Zaa (fun h => d5 (i_eq.1 h))) (bc (Zaa (fun h => d8 (i_eq.1 h))) (bc (Zaa (fun h => d11 (i_eq.1 h))) (bc (Zaa (fun h => d14 (i_eq.1 h))) (bc (Zaa (fun h => d17 (i_eq.1 h))) (bc (Zaa (fun h => d20 (i_eq.1 h))) (bc (Zaa (fun h => d23 (i_eq.1 h))) (bc (Zaa (fun h => d25 (i_eq.1 h))) (bc (Zaa (fun h => d28 (i_eq.1 h))) (bc (Zaa (fun h => d30 (i_eq.1 h))) (bc (Zaa (fun h => d33 (i_eq.1 h))) (bc (Zaa (fun h => d36 (i_eq.1 h))) (bc (Zaa (fun h => d39 (i_eq.1 h))) (bc (Zaa (fun h => d42 (i_eq.1 h))) (bc (Zaa (fun h => d45 (i_eq.1 h))) (bc (Zai (i_eq.2 d47)) (bc (Zai (i_eq.2 d47)) b0)))))))))))))))))) q0 c0 H
                 ·rcases xq H with ⟨d50,H⟩|⟨d50,H⟩
                  ·exact Zac (G:=Zae kp26 [] []) 1000 [false,false,false,false,false,false,false,false,false,false,false,false,false,false,false,false,false,true] (vi 4) (by kernel_rfl) (bc (Zaa (fun h => d2 (i_eq.1 h))) (bc (Zaa (fun h => d5 (i_eq.1 h))) (bc (Zaa (fun h => d8 (i_eq.1 h))) (bc (Zaa (fun h => d11 (i_eq.1 h))) (bc (Zaa (fun h => d14 (i_eq.1 h))) (bc (Zaa (fun h => d17 (i_eq.1 h))) (bc (Zaa (fun h => d20 (i_eq.1 h))) (bc (Zaa (fun h => d23 (i_eq.1 h))) (bc (Zaa (fun h => d25 (i_eq.1 h))) (bc (Zaa (fun h => d28 (i_eq.1 h))) (bc (Zaa (fun h => d30 (i_eq.1 h))) (bc (Zaa (fun h => d33 (i_eq.1 h))) (bc (Zaa (fun h => d36 (i_eq.1 h))) (bc (Zaa (fun h => d39 (i_eq.1 h))) (bc (Zaa (fun h => d42 (i_eq.1 h))) (bc (Zaa (fun h => d45 (i_eq.1 h))) (bc (Zaa (fun h => d47 (i_eq.1 h))) (bc (Zai (i_eq.2 d50)) b0)))))))))))))))))) q0 c0 H
                  ·rcases xq H with ⟨d52,H⟩|⟨d52,H⟩
                   ·exact Zac (G:=Zae kp26 [] []) 1000 [false,false,false,false,false,false,false,false,false,false,false,false,false,false,false,false,false,false,true,true] (vi 5) (by kernel_rfl) (bc (Zaa (fun h => d2 (i_eq.1 h))) (bc (Zaa (fun h => d5 (i_eq.1 h))) (bc (Zaa (fun h => d8 (i_eq.1 h))) (bc (Zaa (fun h => d11 (i_eq.1 h))) (bc (Zaa (fun h => d14 (i_eq.1 h))) (bc (Zaa (fun h => d17 (i_eq.1 h))) (bc (Zaa (fun h => d20 (i_eq.1 h))) (bc (Zaa (fun h => d23 (i_eq.1 h))) (bc (Zaa (fun h => d25 (i_eq.1 h))) (bc (Zaa (fun h => d28 (i_eq.1 h))) (bc (Zaa (fun h => d30 (i_eq.1 h))) (bc (Zaa (fun h => d33 (i_eq.1 h))) (bc (Zaa (fun h => d36 (i_eq.1 h))) (bc (Zaa (fun h => d39 (i_eq.1 h))) (bc (Zaa (fun h => d42 (i_eq.1 h))) (bc (Zaa (fun h => d45 (i_eq.1 h))) (bc (Zaa (fun h => d47 (i_eq.1 h))) (bc (Zaa (fun h => d50 (i_eq.1 h))) (bc (Zai (i_eq.2 d52)) (bc (Zai (i_eq.2 d52)) b0)))))))))))))))))))) q0 c0 H
                   ·rcases xq H with ⟨d55,H⟩|⟨d55,H⟩
                    ·exact Zac (G:=Zae kp26 [] []) 1000 [false,false,false,false,false,false,false,false,false,false,false,false,false,false,false,false,false,false,false,true] (vi 5) (by kernel_rfl) (bc (Zaa (fun h => d2 (i_eq.1 h))) (bc (Zaa (fun h => d5 (i_eq.1 h))) (bc (Zaa (fun h => d8 (i_eq.1 h))) (bc (Zaa (fun h => d11 (i_eq.1 h))) (bc (Zaa (fun h => d14 (i_eq.1 h))) (bc (Zaa (fun h => d17 (i_eq.1 h))) (bc (Zaa (fun h => d20 (i_eq.1 h))) (bc (Zaa (fun h => d23 (i_eq.1 h))) (bc (Zaa (fun h => d25 (i_eq.1 h))) (bc (Zaa (fun h => d28 (i_eq.1 h))) (bc (Zaa (fun h => d30 (i_eq.1 h))) (bc (Zaa (fun h => d33 (i_eq.1 h))) (bc (Zaa (fun h => d36 (i_eq.1 h))) (bc (Zaa (fun h => d39 (i_eq.1 h))) (bc (Zaa (fun h => d42 (i_eq.1 h))) (bc (Zaa (fun h => d45 (i_eq.1 h))) (bc (Zaa (fun h => d47 (i_eq.1 h))) (bc (Zaa (fun h => d50 (i_eq.1 h))) (bc (Zaa (fun h => d52 (i_eq.1 h))) (bc (Zai (i_eq.2 d55)) b0)))))))))))))))))))) q0 c0 H
                    ·exact Zac (G:=Zae kp26 [] []) 1000 [false,false,false,false,false,false,false,false,false,false,false,false,false,false,false,false,false,false,false,false] (vi 0) (by kernel_rfl) (bc (Zaa (fun h => d2 (i_eq.1 h))) (bc (Zaa (fun h => d5 (i_eq.1 h))) (bc (Zaa (fun h => d8 (i_eq.1 h))) (bc (Zaa (fun h => d11 (i_eq.1 h))) (bc (Zaa (fun h => d14 (i_eq.1 h))) (bc (Zaa (fun h => d17 (i_eq.1 h))) (bc (Zaa (fun h => d20 (i_eq.1 h))) (bc (Zaa (fun h => d23 (i_eq.1 h))) (bc (Zaa (fun h => d25 (i_eq.1 h))) (bc (Zaa (fun h => d28 (i_eq.1 h))) (bc (Zaa (fun h => d30 (i_eq.1 h))) (bc (Zaa (fun h => d33 (i_eq.1 h))) (bc (Zaa (fun h => d36 (i_eq.1 h))) (bc (Zaa (fun h => d39 (i_eq.1 h))) (bc (Zaa (fun h => d42 (i_eq.1 h))) (bc (Zaa (fun h => d45 (i_eq.1 h))) (bc (Zaa (fun h => d47 (i_eq.1 h))) (bc (Zaa (fun h => d50 (i_eq.1 h))) (bc (Zaa (fun h => d52 (i_eq.1 h))) (bc (Zaa (fun h => d55 (i_eq.1 h))) b0)))))))))))))))))))) q0 c0 H
theorem mCod1   (dq:AV) (H :
  Weak (AV.vec true 1 [vi 0,vi 1,vi 2,vi 3,vi 80,vi 81,vi 82,vi 83]) dq) :
 mCod1_at  (Zag dq):=by
 unfold mCod1_at
 exact ZcN (G:=Zae kp48 [] []) 1000 [true] (AV.vec true 1 [vi 0,vi 1,vi 2,vi 3,vi 80,vi 81,vi 82,vi 83]) (by kernel_rfl) (bc rfl b0) q0 c0 H
theorem mCod2   (dq:AV) (H :
  Weak (AV.vec true 1 [vi 90,vi 91]) dq) :
 mCod2_at  (Zag dq):=by
 unfold mCod2_at
 exact ZcN (G:=Zae kp48 [] []) 1000 [false,true] (AV.vec true 1 [vi 90,vi 91]) (by kernel_rfl) (bc rfl (bc rfl b0)) q0 c0 H
theorem mCod3   (dq:AV) (H :
  Weak (AV.vec true 1 [vi 54,vi 55,vi 56,vi 57,vi 58,vi 59]) dq) :
 mCod3_at  (Zag dq):=by
 unfold mCod3_at
 exact ZcN (G:=Zae kp48 [] []) 1000 [false,false,true] (AV.vec true 1 [vi 54,vi 55,vi 56,vi 57,vi 58,vi 59]) (by kernel_rfl) (bc rfl (bc rfl (bc rfl b0))) q0 c0 H
theorem mCod4   (dq:AV) (H :
  Weak (AV.vec true 1 [vi 43,vi 49]) dq) :
 mCod4_at  (Zag dq):=by
 unfold mCod4_at
 exact ZcN (G:=Zae kp48 [] []) 1000 [false,false,false,true] (AV.vec true 1 [vi 43,vi 49]) (by kernel_rfl) (bc rfl (bc rfl (bc rfl (bc rfl b0)))) q0 c0 H
theorem mCod5   (dq:AV) (H :
  Weak (AV.vec true 1 [vi 98,vi 99]) dq) :
 mCod5_at  (Zag dq):=by
 unfold mCod5_at
 exact ZcN (G:=Zae kp48 [] []) 1000 [false,false,false,false] (AV.vec true 1 [vi 98,vi 99]) (by kernel_rfl) (bc rfl (bc rfl (bc rfl (bc rfl b0)))) q0 c0 H
end Go.Av

namespace Go.Av
open Go.Proofs
theorem ev48_a:Ev M1 (.pure 48 [.int .i64 1]) (.vec true 1 [.int .i64 0,.int .i64 1,.int .i64 2,.int .i64 3,.int .i64 80,.int .i64 81,.int .i64 82,.int .i64 83]) []:=call48 (mCod1 _ (.refl _))
theorem ev48_b:Ev M1 (.pure 48 [.int .i64 2]) (.vec true 1 [.int .i64 90,.int .i64 91]) []:=call48 (mCod2 _ (.refl _))
theorem ev48_c:Ev M1 (.pure 48 [.int .i64 3]) (.vec true 1 [.int .i64 54,.int .i64 55,.int .i64 56,.int .i64 57,.int .i64 58,.int .i64 59]) []:=call48 (mCod3 _ (.refl _))
theorem ev48_d:Ev M1 (.pure 48 [.int .i64 4]) (.vec true 1 [.int .i64 43,.int .i64 49]) []:=call48 (mCod4 _ (.refl _))
theorem ev48_e:Ev M1 (.pure 48 [.int .i64 5]) (.vec true 1 [.int .i64 98,.int .i64 99]) []:=call48 (mCod5 _ (.refl _))
theorem grp_no {c:Int} (h:∀ k ∈ [0,1000,2000,3000,80000,81000,82000,83000,90000,91000,54000,55000,56000,57000,58000,59000,43000,49000,98000,(99000:Int)],¬c = k):Sp.grp c = 0:=by
 simp only [List.mem_cons,List.not_mem_nil,or_false,forall_eq_or_imp,forall_eq] at h
 unfold Sp.grp
 rw [if_neg (by omega),if_neg (by omega),if_neg (by omega),if_neg (by omega),if_neg (by omega)]
theorem ev26 (c:Int):Ev M1 (.pure 26 [.int .i64 c]) (.int .i64 (Sp.grp c)) []:=by
 have L {k g:Int} (h:c = k) (e:Sp.grp k = g):AV.int .i64 g = .int .i64 (Sp.grp c):=by rw [h,e]
 refine call26 (mGrp _ _ ⟨fun h => L h rfl,fun h1 => ⟨fun h => L h rfl,fun h2 => ⟨fun h => L h rfl,fun h3 => ⟨fun h => L h rfl,fun h4 => ⟨fun h => L h rfl,fun h5 => ⟨fun h => L h rfl,fun h6 => ⟨fun h => L h rfl,fun h7 => ⟨fun h => L h rfl,fun h8 => ⟨fun h => L h rfl,fun h9 => ⟨fun h => L h rfl,fun h10 => ⟨fun h => L h rfl,fun h11 => ⟨fun h => L h rfl,fun h12 => ⟨fun h => L h rfl,fun h13 => ⟨fun h => L h rfl,fun h14 => ⟨fun h => L h rfl,fun h15 => ⟨fun h => L h rfl,fun h16 => ⟨fun h => L h rfl,fun h17 => ⟨fun h => L h rfl,fun h18 => ⟨fun h => L h rfl,fun h19 => ⟨fun h => L h rfl,fun h20 => ?_⟩⟩⟩⟩⟩⟩⟩⟩⟩⟩⟩⟩⟩⟩⟩⟩⟩⟩⟩⟩)
 rw [grp_no (by simp only [List.mem_cons,List.not_mem_nil,or_false,forall_eq_or_imp,forall_eq];exact ⟨h1,h2,h3,h4,h5,h6,h7,h8,h9,h10,h11,h12,h13,h14,h15,h16,h17,h18,h19,h20⟩)]
end Go.Av

namespace Go.Av
open Go.Proofs
set_option maxRecDepth 100000
def fi27:Fi:=⟨26,[.tmp 2]⟩
def kp27:List (Nat × List Nat):=[(0,[0]),(1,[0,3]),(2,[0,3,7]),(3,[0,3]),(4,[0,3,4]),(5,[0,3,4,5]),(6,[0,3,4,5,15]),(7,[0,3,4,5]),(8,[0,3,4,5,24]),(9,[2]),(10,[2])]
def mRg_at (c:Int) (Q:AV->Heap->Prop):Prop:=Wp M1 (.run fi27 (atC (cd Try.f27) []) [(0,.int .i64 c)] []) Q
def mRg1_at (c:Int) (Q:AV->Heap->Prop):Prop:=Wp M1 (.run fi27 (atC (cd Try.f27) [1,0,1,0,0]) [(0,.int .i64 c),(3,.int .i64 1)] []) Q
def mRg2_at (c:Int) (Q:AV->Heap->Prop):Prop:=Wp M1 (.run fi27 (atC (cd Try.f27) [1,0,1,0,0]) [(0,.int .i64 c),(3,.int .i64 2)] []) Q
def mRg3_at (c:Int) (Q:AV->Heap->Prop):Prop:=Wp M1 (.run fi27 (atC (cd Try.f27) [1,0,1,0,0]) [(0,.int .i64 c),(3,.int .i64 3)] []) Q
def mRg4_at (c:Int) (Q:AV->Heap->Prop):Prop:=Wp M1 (.run fi27 (atC (cd Try.f27) [1,0,1,0,0]) [(0,.int .i64 c),(3,.int .i64 4)] []) Q
def mRg5_at (c:Int) (Q:AV->Heap->Prop):Prop:=Wp M1 (.run fi27 (atC (cd Try.f27) [1,0,1,0,0]) [(0,.int .i64 c),(3,.int .i64 5)] []) Q
def mRg6_at (c:Int) (Q:AV->Heap->Prop):Prop:=Wp M1 (.run fi27 (atC (cd Try.f27) [1,0,1,0,0]) [(0,.int .i64 c),(3,.int .i64 6)] []) Q
def ZdU (c:Int) (Q:AV->Heap->Prop):Prop:=Wp M1 (.run fi27 (atC (cd Try.f27) [1,0,1,0,0,1,0,0,1,1,0,0]) [(0,.int .i64 c),(3,.int .i64 1),(4,.vec true 1 [.int .i64 0,.int .i64 1,.int .i64 2,.int .i64 3,.int .i64 80,.int .i64 81,.int .i64 82,.int .i64 83]),(5,.int .i64 0)] []) Q
def ZdT (c:Int) (Q:AV->Heap->Prop):Prop:=Wp M1 (.run fi27 (atC (cd Try.f27) [1,0,1,0,0,1,0,0,1,1,0,0]) [(0,.int .i64 c),(3,.int .i64 1),(4,.vec true 1 [.int .i64 0,.int .i64 1,.int .i64 2,.int .i64 3,.int .i64 80,.int .i64 81,.int .i64 82,.int .i64 83]),(5,.int .i64 1)] []) Q
def ZdS (c:Int) (Q:AV->Heap->Prop):Prop:=Wp M1 (.run fi27 (atC (cd Try.f27) [1,0,1,0,0,1,0,0,1,1,0,0]) [(0,.int .i64 c),(3,.int .i64 1),(4,.vec true 1 [.int .i64 0,.int .i64 1,.int .i64 2,.int .i64 3,.int .i64 80,.int .i64 81,.int .i64 82,.int .i64 83]),(5,.int .i64 2)] []) Q
def ZdR (c:Int) (Q:AV->Heap->Prop):Prop:=Wp M1 (.run fi27 (atC (cd Try.f27) [1,0,1,0,0,1,0,0,1,1,0,0]) [(0,.int .i64 c),(3,.int .i64 1),(4,.vec true 1 [.int .i64 0,.int .i64 1,.int .i64 2,.int .i64 3,.int .i64 80,.int .i64 81,.int .i64 82,.int .i64 83]),(5,.int .i64 3)] []) Q
def ZdQ (c:Int) (Q:AV->Heap->Prop):Prop:=Wp M1 (.run fi27 (atC (cd Try.f27) [1,0,1,0,0,1,0,0,1,1,0,0]) [(0,.int .i64 c),(3,.int .i64 1),(4,.vec true 1 [.int .i64 0,.int .i64 1,.int .i64 2,.int .i64 3,.int .i64 80,.int .i64 81,.int .i64 82,.int .i64 83]),(5,.int .i64 4)] []) Q
def ZdP (c:Int) (Q:AV->Heap->Prop):Prop:=Wp M1 (.run fi27 (atC (cd Try.f27) [1,0,1,0,0,1,0,0,1,1,0,0]) [(0,.int .i64 c),(3,.int .i64 1),(4,.vec true 1 [.int .i64 0,.int .i64 1,.int .i64 2,.int .i64 3,.int .i64 80,.int .i64 81,.int .i64 82,.int .i64 83]),(5,.int .i64 5)] []) Q
def ZdO (c:Int) (Q:AV->Heap->Prop):Prop:=Wp M1 (.run fi27 (atC (cd Try.f27) [1,0,1,0,0,1,0,0,1,1,0,0]) [(0,.int .i64 c),(3,.int .i64 1),(4,.vec true 1 [.int .i64 0,.int .i64 1,.int .i64 2,.int .i64 3,.int .i64 80,.int .i64 81,.int .i64 82,.int .i64 83]),(5,.int .i64 6)] []) Q
def ZdN (c:Int) (Q:AV->Heap->Prop):Prop:=Wp M1 (.run fi27 (atC (cd Try.f27) [1,0,1,0,0,1,0,0,1,1,0,0]) [(0,.int .i64 c),(3,.int .i64 1),(4,.vec true 1 [.int .i64 0,.int .i64 1,.int .i64 2,.int .i64 3,.int .i64 80,.int .i64 81,.int .i64 82,.int .i64 83]),(5,.int .i64 7)] []) Q
def ZdM (c:Int) (Q:AV->Heap->Prop):Prop:=Wp M1 (.run fi27 (atC (cd Try.f27) [1,0,1,0,0,1,0,0,1,1,0,0]) [(0,.int .i64 c),(3,.int .i64 1),(4,.vec true 1 [.int .i64 0,.int .i64 1,.int .i64 2,.int .i64 3,.int .i64 80,.int .i64 81,.int .i64 82,.int .i64 83]),(5,.int .i64 8)] []) Q
def ZdL (c:Int) (Q:AV->Heap->Prop):Prop:=Wp M1 (.run fi27 (atC (cd Try.f27) [1,0,1,0,0,1,0,0,1,1,0,0]) [(0,.int .i64 c),(3,.int .i64 2),(4,.vec true 1 [.int .i64 90,.int .i64 91]),(5,.int .i64 0)] []) Q
def ZdK (c:Int) (Q:AV->Heap->Prop):Prop:=Wp M1 (.run fi27 (atC (cd Try.f27) [1,0,1,0,0,1,0,0,1,1,0,0]) [(0,.int .i64 c),(3,.int .i64 2),(4,.vec true 1 [.int .i64 90,.int .i64 91]),(5,.int .i64 1)] []) Q
def ZdJ (c:Int) (Q:AV->Heap->Prop):Prop:=Wp M1 (.run fi27 (atC (cd Try.f27) [1,0,1,0,0,1,0,0,1,1,0,0]) [(0,.int .i64 c),(3,.int .i64 2),(4,.vec true 1 [.int .i64 90,.int .i64 91]),(5,.int .i64 2)] []) Q
def ZdI (c:Int) (Q:AV->Heap->Prop):Prop:=Wp M1 (.run fi27 (atC (cd Try.f27) [1,0,1,0,0,1,0,0,1,1,0,0]) [(0,.int .i64 c),(3,.int .i64 3),(4,.vec true 1 [.int .i64 54,.int .i64 55,.int .i64 56,.int .i64 57,.int .i64 58,.int .i64 59]),(5,.int .i64 0)] []) Q
def ZdH (c:Int) (Q:AV->Heap->Prop):Prop:=Wp M1 (.run fi27 (atC (cd Try.f27) [1,0,1,0,0,1,0,0,1,1,0,0]) [(0,.int .i64 c),(3,.int .i64 3),(4,.vec true 1 [.int .i64 54,.int .i64 55,.int .i64 56,.int .i64 57,.int .i64 58,.int .i64 59]),(5,.int .i64 1)] []) Q
def ZdG (c:Int) (Q:AV->Heap->Prop):Prop:=Wp M1 (.run fi27 (atC (cd Try.f27) [1,0,1,0,0,1,0,0,1,1,0,0]) [(0,.int .i64 c),(3,.int .i64 3),(4,.vec true 1 [.int .i64 54,.int .i64 55,.int .i64 56,.int .i64 57,.int .i64 58,.int .i64 59]),(5,.int .i64 2)] []) Q
def ZdF (c:Int) (Q:AV->Heap->Prop):Prop:=Wp M1 (.run fi27 (atC (cd Try.f27) [1,0,1,0,0,1,0,0,1,1,0,0]) [(0,.int .i64 c),(3,.int .i64 3),(4,.vec true 1 [.int .i64 54,.int .i64 55,.int .i64 56,.int .i64 57,.int .i64 58,.int .i64 59]),(5,.int .i64 3)] []) Q
def ZdE (c:Int) (Q:AV->Heap->Prop):Prop:=Wp M1 (.run fi27 (atC (cd Try.f27) [1,0,1,0,0,1,0,0,1,1,0,0]) [(0,.int .i64 c),(3,.int .i64 3),(4,.vec true 1 [.int .i64 54,.int .i64 55,.int .i64 56,.int .i64 57,.int .i64 58,.int .i64 59]),(5,.int .i64 4)] []) Q
def ZdD (c:Int) (Q:AV->Heap->Prop):Prop:=Wp M1 (.run fi27 (atC (cd Try.f27) [1,0,1,0,0,1,0,0,1,1,0,0]) [(0,.int .i64 c),(3,.int .i64 3),(4,.vec true 1 [.int .i64 54,.int .i64 55,.int .i64 56,.int .i64 57,.int .i64 58,.int .i64 59]),(5,.int .i64 5)] []) Q
def ZdC (c:Int) (Q:AV->Heap->Prop):Prop:=Wp M1 (.run fi27 (atC (cd Try.f27) [1,0,1,0,0,1,0,0,1,1,0,0]) [(0,.int .i64 c),(3,.int .i64 3),(4,.vec true 1 [.int .i64 54,.int .i64 55,.int .i64 56,.int .i64 57,.int .i64 58,.int .i64 59]),(5,.int .i64 6)] []) Q
def ZdB (c:Int) (Q:AV->Heap->Prop):Prop:=Wp M1 (.run fi27 (atC (cd Try.f27) [1,0,1,0,0,1,0,0,1,1,0,0]) [(0,.int .i64 c),(3,.int .i64 4),(4,.vec true 1 [.int .i64 43,.int .i64 49]),(5,.int .i64 0)] []) Q
def ZdA (c:Int) (Q:AV->Heap->Prop):Prop:=Wp M1 (.run fi27 (atC (cd Try.f27) [1,0,1,0,0,1,0,0,1,1,0,0]) [(0,.int .i64 c),(3,.int .i64 4),(4,.vec true 1 [.int .i64 43,.int .i64 49]),(5,.int .i64 1)] []) Q
def Zdz (c:Int) (Q:AV->Heap->Prop):Prop:=Wp M1 (.run fi27 (atC (cd Try.f27) [1,0,1,0,0,1,0,0,1,1,0,0]) [(0,.int .i64 c),(3,.int .i64 4),(4,.vec true 1 [.int .i64 43,.int .i64 49]),(5,.int .i64 2)] []) Q
def Zdy (c:Int) (Q:AV->Heap->Prop):Prop:=Wp M1 (.run fi27 (atC (cd Try.f27) [1,0,1,0,0,1,0,0,1,1,0,0]) [(0,.int .i64 c),(3,.int .i64 5),(4,.vec true 1 [.int .i64 98,.int .i64 99]),(5,.int .i64 0)] []) Q
def Zdx (c:Int) (Q:AV->Heap->Prop):Prop:=Wp M1 (.run fi27 (atC (cd Try.f27) [1,0,1,0,0,1,0,0,1,1,0,0]) [(0,.int .i64 c),(3,.int .i64 5),(4,.vec true 1 [.int .i64 98,.int .i64 99]),(5,.int .i64 1)] []) Q
def Zdw (c:Int) (Q:AV->Heap->Prop):Prop:=Wp M1 (.run fi27 (atC (cd Try.f27) [1,0,1,0,0,1,0,0,1,1,0,0]) [(0,.int .i64 c),(3,.int .i64 5),(4,.vec true 1 [.int .i64 98,.int .i64 99]),(5,.int .i64 2)] []) Q
theorem call27 {args:List AV} {d:AV} (h:wc M1 fi27 Try.f27 args d):Ev M1 (.pure 27 args) d []:=pcl _ _ (by kernel_rfl) h
theorem mRg (c:Int)  (dq:AV) (H :
  mRg1_at (c) (Zag dq)) :
 mRg_at c (Zag dq):=by
 unfold mRg_at
 exact Zaf (G:=Zae kp27 [] []) 1000 [] ⟨(atC (cd Try.f27) [1,0,1,0,0]),[(0,vi c),(3,vi 1)],[],_,[],_⟩ (by kernel_rfl) b0 q0 c0 (H)
theorem mRg1 (c:Int)  (dq:AV) (H :
  ZdU (c) (Zag dq)) :
 mRg1_at c (Zag dq):=by
 unfold mRg1_at
 exact Zaf (G:=Zae kp27 [(4,1,.call (AV.vec true 1 [vi 0,vi 1,vi 2,vi 3,vi 80,vi 81,vi 82,vi 83]) none)] []) 1000 [true] ⟨(atC (cd Try.f27) [1,0,1,0,0,1,0,0,1,1,0,0]),[(0,vi c),(3,vi 1),(4,AV.vec true 1 [vi 0,vi 1,vi 2,vi 3,vi 80,vi 81,vi 82,vi 83]),(5,vi 0)],[],_,[],_⟩ (by kernel_rfl) (bc rfl b0) q0 (ce (@ev48_a ) c0) (H)
theorem mRg2 (c:Int)  (dq:AV) (H :
  ZdL (c) (Zag dq)) :
 mRg2_at c (Zag dq):=by
 unfold mRg2_at
 exact Zaf (G:=Zae kp27 [(4,1,.call (AV.vec true 1 [vi 90,vi 91]) none)] []) 1000 [true] ⟨(atC (cd Try.f27) [1,0,1,0,0,1,0,0,1,1,0,0]),[(0,vi c),(3,vi 2),(4,AV.vec true 1 [vi 90,vi 91]),(5,vi 0)],[],_,[],_⟩ (by kernel_rfl) (bc rfl b0) q0 (ce (@ev48_b ) c0) (H)
theorem mRg3 (c:Int)  (dq:AV) (H :
  ZdI (c) (Zag dq)) :
 mRg3_at c (Zag dq):=by
 unfold mRg3_at
 exact Zaf (G:=Zae kp27 [(4,1,.call (AV.vec true 1 [vi 54,vi 55,vi 56,vi 57,vi 58,vi 59]) none)] []) 1000 [true] ⟨(atC (cd Try.f27) [1,0,1,0,0,1,0,0,1,1,0,0]),[(0,vi c),(3,vi 3),(4,AV.vec true 1 [vi 54,vi 55,vi 56,vi 57,vi 58,vi 59]),(5,vi 0)],[],_,[],_⟩ (by kernel_rfl) (bc rfl b0) q0 (ce (@ev48_c ) c0) (H)
theorem mRg4 (c:Int)  (dq:AV) (H :
  ZdB (c) (Zag dq)) :
 mRg4_at c (Zag dq):=by
 unfold mRg4_at
 exact Zaf (G:=Zae kp27 [(4,1,.call (AV.vec true 1 [vi 43,vi 49]) none)] []) 1000 [true] ⟨(atC (cd Try.f27) [1,0,1,0,0,1,0,0,1,1,0,0]),[(0,vi c),(3,vi 4),(4,AV.vec true 1 [vi 43,vi 49]),(5,vi 0)],[],_,[],_⟩ (by kernel_rfl) (bc rfl b0) q0 (ce (@ev48_d ) c0) (H)
theorem mRg5 (c:Int)  (dq:AV) (H :
  Zdy (c) (Zag dq)) :
 mRg5_at c (Zag dq):=by
 unfold mRg5_at
 exact Zaf (G:=Zae kp27 [(4,1,.call (AV.vec true 1 [vi 98,vi 99]) none)] []) 1000 [true] ⟨(atC (cd Try.f27) [1,0,1,0,0,1,0,0,1,1,0,0]),[(0,vi c),(3,vi 5),(4,AV.vec true 1 [vi 98,vi 99]),(5,vi 0)],[],_,[],_⟩ (by kernel_rfl) (bc rfl b0) q0 (ce (@ev48_e ) c0) (H)
theorem mRg6 (c:Int)  (dq:AV) (H :
  vi 0 = dq) :
 mRg6_at c (Zag dq):=by
 unfold mRg6_at
 exact Zac (G:=Zae kp27 [] []) 1000 [false] (vi 0) (by kernel_rfl) (bc rfl b0) q0 c0 H
theorem mRg1i0 (c:Int)  (dq:AV) (H :
  ((c = 0) -> vi 1 = dq) /\
  (¬(c = 0) -> ZdT (c) (Zag dq))) :
 ZdU c (Zag dq):=by
 unfold ZdU
 rcases xq H with ⟨d2,H⟩|⟨d2,H⟩
 ·exact Zac (G:=Zae kp27 [] []) 1000 [true,true] (vi 1) (by kernel_rfl) (bc rfl (bc rfl (bc rfl (bc (Zai (i_eq.2 d2)) b0)))) q0 c0 H
 ·exact Zaf (G:=Zae kp27 [] []) 1000 [true,false] ⟨(atC (cd Try.f27) [1,0,1,0,0,1,0,0,1,1,0,0]),[(0,vi c),(3,vi 1),(4,AV.vec true 1 [vi 0,vi 1,vi 2,vi 3,vi 80,vi 81,vi 82,vi 83]),(5,vi 1)],[],_,[],_⟩ (by kernel_rfl) (bc rfl (bc rfl (bc rfl (bc (Zaa (fun h => d2 (i_eq.1 h))) b0)))) q0 c0 (H)
theorem mRg1i1 (c:Int)  (dq:AV) (H :
  ((c = 1000) -> vi 1 = dq) /\
  (¬(c = 1000) -> ZdS (c) (Zag dq))) :
 ZdT c (Zag dq):=by
 unfold ZdT
 rcases xq H with ⟨d2,H⟩|⟨d2,H⟩
 ·exact Zac (G:=Zae kp27 [] []) 1000 [true,true] (vi 1) (by kernel_rfl) (bc rfl (bc rfl (bc rfl (bc (Zai (i_eq.2 d2)) b0)))) q0 c0 H
 ·exact Zaf (G:=Zae kp27 [] []) 1000 [true,false] ⟨(atC (cd Try.f27) [1,0,1,0,0,1,0,0,1,1,0,0]),[(0,vi c),(3,vi 1),(4,AV.vec true 1 [vi 0,vi 1,vi 2,vi 3,vi 80,vi 81,vi 82,vi 83]),(5,vi 2)],[],_,[],_⟩ (by kernel_rfl) (bc rfl (bc rfl (bc rfl (bc (Zaa (fun h => d2 (i_eq.1 h))) b0)))) q0 c0 (H)
theorem mRg1i2 (c:Int)  (dq:AV) (H :
  ((c = 2000) -> vi 1 = dq) /\
  (¬(c = 2000) -> ZdR (c) (Zag dq))) :
 ZdS c (Zag dq):=by
 unfold ZdS
 rcases xq H with ⟨d2,H⟩|⟨d2,H⟩
 ·exact Zac (G:=Zae kp27 [] []) 1000 [true,true] (vi 1) (by kernel_rfl) (bc rfl (bc rfl (bc rfl (bc (Zai (i_eq.2 d2)) b0)))) q0 c0 H
 ·exact Zaf (G:=Zae kp27 [] []) 1000 [true,false] ⟨(atC (cd Try.f27) [1,0,1,0,0,1,0,0,1,1,0,0]),[(0,vi c),(3,vi 1),(4,AV.vec true 1 [vi 0,vi 1,vi 2,vi 3,vi 80,vi 81,vi 82,vi 83]),(5,vi 3)],[],_,[],_⟩ (by kernel_rfl) (bc rfl (bc rfl (bc rfl (bc (Zaa (fun h => d2 (i_eq.1 h))) b0)))) q0 c0 (H)
theorem mRg1i3 (c:Int)  (dq:AV) (H :
  ((c = 3000) -> vi 1 = dq) /\
  (¬(c = 3000) -> ZdQ (c) (Zag dq))) :
 ZdR c (Zag dq):=by
 unfold ZdR
 rcases xq H with ⟨d2,H⟩|⟨d2,H⟩
 ·exact Zac (G:=Zae kp27 [] []) 1000 [true,true] (vi 1) (by kernel_rfl) (bc rfl (bc rfl (bc rfl (bc (Zai (i_eq.2 d2)) b0)))) q0 c0 H
 ·exact Zaf (G:=Zae kp27 [] []) 1000 [true,false] ⟨(atC (cd Try.f27) [1,0,1,0,0,1,0,0,1,1,0,0]),[(0,vi c),(3,vi 1),(4,AV.vec true 1 [vi 0,vi 1,vi 2,vi 3,vi 80,vi 81,vi 82,vi 83]),(5,vi 4)],[],_,[],_⟩ (by kernel_rfl) (bc rfl (bc rfl (bc rfl (bc (Zaa (fun h => d2 (i_eq.1 h))) b0)))) q0 c0 (H)
theorem mRg1i4 (c:Int)  (dq:AV) (H :
  ((c = 80000) -> vi 1 = dq) /\
  (¬(c = 80000) -> ZdP (c) (Zag dq))) :
 ZdQ c (Zag dq):=by
 unfold ZdQ
 rcases xq H with ⟨d2,H⟩|⟨d2,H⟩
 ·exact Zac (G:=Zae kp27 [] []) 1000 [true,true] (vi 1) (by kernel_rfl) (bc rfl (bc rfl (bc rfl (bc (Zai (i_eq.2 d2)) b0)))) q0 c0 H
 ·exact Zaf (G:=Zae kp27 [] []) 1000 [true,false] ⟨(atC (cd Try.f27) [1,0,1,0,0,1,0,0,1,1,0,0]),[(0,vi c),(3,vi 1),(4,AV.vec true 1 [vi 0,vi 1,vi 2,vi 3,vi 80,vi 81,vi 82,vi 83]),(5,vi 5)],[],_,[],_⟩ (by kernel_rfl) (bc rfl (bc rfl (bc rfl (bc (Zaa (fun h => d2 (i_eq.1 h))) b0)))) q0 c0 (H)
theorem mRg1i5 (c:Int)  (dq:AV) (H :
  ((c = 81000) -> vi 1 = dq) /\
  (¬(c = 81000) -> ZdO (c) (Zag dq))) :
 ZdP c (Zag dq):=by
 unfold ZdP
 rcases xq H with ⟨d2,H⟩|⟨d2,H⟩
 ·exact Zac (G:=Zae kp27 [] []) 1000 [true,true] (vi 1) (by kernel_rfl) (bc rfl (bc rfl (bc rfl (bc (Zai (i_eq.2 d2)) b0)))) q0 c0 H
 ·exact Zaf (G:=Zae kp27 [] []) 1000 [true,false] ⟨(atC (cd Try.f27) [1,0,1,0,0,1,0,0,1,1,0,0]),[(0,vi c),(3,vi 1),(4,AV.vec true 1 [vi 0,vi 1,vi 2,vi 3,vi 80,vi 81,vi 82,vi 83]),(5,vi 6)],[],_,[],_⟩ (by kernel_rfl) (bc rfl (bc rfl (bc rfl (bc (Zaa (fun h => d2 (i_eq.1 h))) b0)))) q0 c0 (H)
theorem mRg1i6 (c:Int)  (dq:AV) (H :
  ((c = 82000) -> vi 1 = dq) /\
  (¬(c = 82000) -> ZdN (c) (Zag dq))) :
 ZdO c (Zag dq):=by
 unfold ZdO
 rcases xq H with ⟨d2,H⟩|⟨d2,H⟩
 ·exact Zac (G:=Zae kp27 [] []) 1000 [true,true] (vi 1) (by kernel_rfl) (bc rfl (bc rfl (bc rfl (bc (Zai (i_eq.2 d2)) b0)))) q0 c0 H
 ·exact Zaf (G:=Zae kp27 [] []) 1000 [true,false] ⟨(atC (cd Try.f27) [1,0,1,0,0,1,0,0,1,1,0,0]),[(0,vi c),(3,vi 1),(4,AV.vec true 1 [vi 0,vi 1,vi 2,vi 3,vi 80,vi 81,vi 82,vi 83]),(5,vi 7)],[],_,[],_⟩ (by kernel_rfl) (bc rfl (bc rfl (bc rfl (bc (Zaa (fun h => d2 (i_eq.1 h))) b0)))) q0 c0 (H)
theorem mRg1i7 (c:Int)  (dq:AV) (H :
  ((c = 83000) -> vi 1 = dq) /\
  (¬(c = 83000) -> ZdM (c) (Zag dq))) :
 ZdN c (Zag dq):=by
 unfold ZdN
 rcases xq H with ⟨d2,H⟩|⟨d2,H⟩
 ·exact Zac (G:=Zae kp27 [] []) 1000 [true,true] (vi 1) (by kernel_rfl) (bc rfl (bc rfl (bc rfl (bc (Zai (i_eq.2 d2)) b0)))) q0 c0 H
 ·exact Zaf (G:=Zae kp27 [] []) 1000 [true,false] ⟨(atC (cd Try.f27) [1,0,1,0,0,1,0,0,1,1,0,0]),[(0,vi c),(3,vi 1),(4,AV.vec true 1 [vi 0,vi 1,vi 2,vi 3,vi 80,vi 81,vi 82,vi 83]),(5,vi 8)],[],_,[],_⟩ (by kernel_rfl) (bc rfl (bc rfl (bc rfl (bc (Zaa (fun h => d2 (i_eq.1 h))) b0)))) q0 c0 (H)
theorem mRg1i8 (c:Int)  (dq:AV) (H :
  mRg2_at (c) (Zag dq)) :
 ZdM c (Zag dq):=by
 unfold ZdM
 exact Zaf (G:=Zae kp27 [] []) 1000 [false] ⟨(atC (cd Try.f27) [1,0,1,0,0]),[(0,vi c),(3,vi 2)],[],_,[],_⟩ (by kernel_rfl) (bc rfl b0) q0 c0 (H)
theorem mRg2i0 (c:Int)  (dq:AV) (H :
  ((c = 90000) -> vi 2 = dq) /\
  (¬(c = 90000) -> ZdK (c) (Zag dq))) :
 ZdL c (Zag dq):=by
 unfold ZdL
 rcases xq H with ⟨d2,H⟩|⟨d2,H⟩
 ·exact Zac (G:=Zae kp27 [] []) 1000 [true,true] (vi 2) (by kernel_rfl) (bc rfl (bc rfl (bc rfl (bc (Zai (i_eq.2 d2)) b0)))) q0 c0 H
 ·exact Zaf (G:=Zae kp27 [] []) 1000 [true,false] ⟨(atC (cd Try.f27) [1,0,1,0,0,1,0,0,1,1,0,0]),[(0,vi c),(3,vi 2),(4,AV.vec true 1 [vi 90,vi 91]),(5,vi 1)],[],_,[],_⟩ (by kernel_rfl) (bc rfl (bc rfl (bc rfl (bc (Zaa (fun h => d2 (i_eq.1 h))) b0)))) q0 c0 (H)
theorem mRg2i1 (c:Int)  (dq:AV) (H :
  ((c = 91000) -> vi 2 = dq) /\
  (¬(c = 91000) -> ZdJ (c) (Zag dq))) :
 ZdK c (Zag dq):=by
 unfold ZdK
 rcases xq H with ⟨d2,H⟩|⟨d2,H⟩
 ·exact Zac (G:=Zae kp27 [] []) 1000 [true,true] (vi 2) (by kernel_rfl) (bc rfl (bc rfl (bc rfl (bc (Zai (i_eq.2 d2)) b0)))) q0 c0 H
 ·exact Zaf (G:=Zae kp27 [] []) 1000 [true,false] ⟨(atC (cd Try.f27) [1,0,1,0,0,1,0,0,1,1,0,0]),[(0,vi c),(3,vi 2),(4,AV.vec true 1 [vi 90,vi 91]),(5,vi 2)],[],_,[],_⟩ (by kernel_rfl) (bc rfl (bc rfl (bc rfl (bc (Zaa (fun h => d2 (i_eq.1 h))) b0)))) q0 c0 (H)
theorem mRg2i2 (c:Int)  (dq:AV) (H :
  mRg3_at (c) (Zag dq)) :
 ZdJ c (Zag dq):=by
 unfold ZdJ
 exact Zaf (G:=Zae kp27 [] []) 1000 [false] ⟨(atC (cd Try.f27) [1,0,1,0,0]),[(0,vi c),(3,vi 3)],[],_,[],_⟩ (by kernel_rfl) (bc rfl b0) q0 c0 (H)
theorem mRg3i0 (c:Int)  (dq:AV) (H :
  ((c = 54000) -> vi 3 = dq) /\
  (¬(c = 54000) -> ZdH (c) (Zag dq))) :
 ZdI c (Zag dq):=by
 unfold ZdI
 rcases xq H with ⟨d2,H⟩|⟨d2,H⟩
 ·exact Zac (G:=Zae kp27 [] []) 1000 [true,true] (vi 3) (by kernel_rfl) (bc rfl (bc rfl (bc rfl (bc (Zai (i_eq.2 d2)) b0)))) q0 c0 H
 ·exact Zaf (G:=Zae kp27 [] []) 1000 [true,false] ⟨(atC (cd Try.f27) [1,0,1,0,0,1,0,0,1,1,0,0]),[(0,vi c),(3,vi 3),(4,AV.vec true 1 [vi 54,vi 55,vi 56,vi 57,vi 58,vi 59]),(5,vi 1)],[],_,[],_⟩ (by kernel_rfl) (bc rfl (bc rfl (bc rfl (bc (Zaa (fun h => d2 (i_eq.1 h))) b0)))) q0 c0 (H)
theorem mRg3i1 (c:Int)  (dq:AV) (H :
  ((c = 55000) -> vi 3 = dq) /\
  (¬(c = 55000) -> ZdG (c) (Zag dq))) :
 ZdH c (Zag dq):=by
 unfold ZdH
 rcases xq H with ⟨d2,H⟩|⟨d2,H⟩
 ·exact Zac (G:=Zae kp27 [] []) 1000 [true,true] (vi 3) (by kernel_rfl) (bc rfl (bc rfl (bc rfl (bc (Zai (i_eq.2 d2)) b0)))) q0 c0 H
 ·exact Zaf (G:=Zae kp27 [] []) 1000 [true,false] ⟨(atC (cd Try.f27) [1,0,1,0,0,1,0,0,1,1,0,0]),[(0,vi c),(3,vi 3),(4,AV.vec true 1 [vi 54,vi 55,vi 56,vi 57,vi 58,vi 59]),(5,vi 2)],[],_,[],_⟩ (by kernel_rfl) (bc rfl (bc rfl (bc rfl (bc (Zaa (fun h => d2 (i_eq.1 h))) b0)))) q0 c0 (H)
theorem mRg3i2 (c:Int)  (dq:AV) (H :
  ((c = 56000) -> vi 3 = dq) /\
  (¬(c = 56000) -> ZdF (c) (Zag dq))) :
 ZdG c (Zag dq):=by
 unfold ZdG
 rcases xq H with ⟨d2,H⟩|⟨d2,H⟩
 ·exact Zac (G:=Zae kp27 [] []) 1000 [true,true] (vi 3) (by kernel_rfl) (bc rfl (bc rfl (bc rfl (bc (Zai (i_eq.2 d2)) b0)))) q0 c0 H
 ·exact Zaf (G:=Zae kp27 [] []) 1000 [true,false] ⟨(atC (cd Try.f27) [1,0,1,0,0,1,0,0,1,1,0,0]),[(0,vi c),(3,vi 3),(4,AV.vec true 1 [vi 54,vi 55,vi 56,vi 57,vi 58,vi 59]),(5,vi 3)],[],_,[],_⟩ (by kernel_rfl) (bc rfl (bc rfl (bc rfl (bc (Zaa (fun h => d2 (i_eq.1 h))) b0)))) q0 c0 (H)
theorem mRg3i3 (c:Int)  (dq:AV) (H :
  ((c = 57000) -> vi 3 = dq) /\
  (¬(c = 57000) -> ZdE (c) (Zag dq))) :
 ZdF c (Zag dq):=by
 unfold ZdF
 rcases xq H with ⟨d2,H⟩|⟨d2,H⟩
 ·exact Zac (G:=Zae kp27 [] []) 1000 [true,true] (vi 3) (by kernel_rfl) (bc rfl (bc rfl (bc rfl (bc (Zai (i_eq.2 d2)) b0)))) q0 c0 H
 ·exact Zaf (G:=Zae kp27 [] []) 1000 [true,false] ⟨(atC (cd Try.f27) [1,0,1,0,0,1,0,0,1,1,0,0]),[(0,vi c),(3,vi 3),(4,AV.vec true 1 [vi 54,vi 55,vi 56,vi 57,vi 58,vi 59]),(5,vi 4)],[],_,[],_⟩ (by kernel_rfl) (bc rfl (bc rfl (bc rfl (bc (Zaa (fun h => d2 (i_eq.1 h))) b0)))) q0 c0 (H)
theorem mRg3i4 (c:Int)  (dq:AV) (H :
  ((c = 58000) -> vi 3 = dq) /\
  (¬(c = 58000) -> ZdD (c) (Zag dq))) :
 ZdE c (Zag dq):=by
 unfold ZdE
 rcases xq H with ⟨d2,H⟩|⟨d2,H⟩
 ·exact Zac (G:=Zae kp27 [] []) 1000 [true,true] (vi 3) (by kernel_rfl) (bc rfl (bc rfl (bc rfl (bc (Zai (i_eq.2 d2)) b0)))) q0 c0 H
 ·exact Zaf (G:=Zae kp27 [] []) 1000 [true,false] ⟨(atC (cd Try.f27) [1,0,1,0,0,1,0,0,1,1,0,0]),[(0,vi c),(3,vi 3),(4,AV.vec true 1 [vi 54,vi 55,vi 56,vi 57,vi 58,vi 59]),(5,vi 5)],[],_,[],_⟩ (by kernel_rfl) (bc rfl (bc rfl (bc rfl (bc (Zaa (fun h => d2 (i_eq.1 h))) b0)))) q0 c0 (H)
theorem mRg3i5 (c:Int)  (dq:AV) (H :
  ((c = 59000) -> vi 3 = dq) /\
  (¬(c = 59000) -> ZdC (c) (Zag dq))) :
 ZdD c (Zag dq):=by
 unfold ZdD
 rcases xq H with ⟨d2,H⟩|⟨d2,H⟩
 ·exact Zac (G:=Zae kp27 [] []) 1000 [true,true] (vi 3) (by kernel_rfl) (bc rfl (bc rfl (bc rfl (bc (Zai (i_eq.2 d2)) b0)))) q0 c0 H
 ·exact Zaf (G:=Zae kp27 [] []) 1000 [true,false] ⟨(atC (cd Try.f27) [1,0,1,0,0,1,0,0,1,1,0,0]),[(0,vi c),(3,vi 3),(4,AV.vec true 1 [vi 54,vi 55,vi 56,vi 57,vi 58,vi 59]),(5,vi 6)],[],_,[],_⟩ (by kernel_rfl) (bc rfl (bc rfl (bc rfl (bc (Zaa (fun h => d2 (i_eq.1 h))) b0)))) q0 c0 (H)
theorem mRg3i6 (c:Int)  (dq:AV) (H :
  mRg4_at (c) (Zag dq)) :
 ZdC c (Zag dq):=by
 unfold ZdC
 exact Zaf (G:=Zae kp27 [] []) 1000 [false] ⟨(atC (cd Try.f27) [1,0,1,0,0]),[(0,vi c),(3,vi 4)],[],_,[],_⟩ (by kernel_rfl) (bc rfl b0) q0 c0 (H)
theorem mRg4i0 (c:Int)  (dq:AV) (H :
  ((c = 43000) -> vi 4 = dq) /\
  (¬(c = 43000) -> ZdA (c) (Zag dq))) :
 ZdB c (Zag dq):=by
 unfold ZdB
 rcases xq H with ⟨d2,H⟩|⟨d2,H⟩
 ·exact Zac (G:=Zae kp27 [] []) 1000 [true,true] (vi 4) (by kernel_rfl) (bc rfl (bc rfl (bc rfl (bc (Zai (i_eq.2 d2)) b0)))) q0 c0 H
 ·exact Zaf (G:=Zae kp27 [] []) 1000 [true,false] ⟨(atC (cd Try.f27) [1,0,1,0,0,1,0,0,1,1,0,0]),[(0,vi c),(3,vi 4),(4,AV.vec true 1 [vi 43,vi 49]),(5,vi 1)],[],_,[],_⟩ (by kernel_rfl) (bc rfl (bc rfl (bc rfl (bc (Zaa (fun h => d2 (i_eq.1 h))) b0)))) q0 c0 (H)
theorem mRg4i1 (c:Int)  (dq:AV) (H :
  ((c = 49000) -> vi 4 = dq) /\
  (¬(c = 49000) -> Zdz (c) (Zag dq))) :
 ZdA c (Zag dq):=by
 unfold ZdA
 rcases xq H with ⟨d2,H⟩|⟨d2,H⟩
 ·exact Zac (G:=Zae kp27 [] []) 1000 [true,true] (vi 4) (by kernel_rfl) (bc rfl (bc rfl (bc rfl (bc (Zai (i_eq.2 d2)) b0)))) q0 c0 H
 ·exact Zaf (G:=Zae kp27 [] []) 1000 [true,false] ⟨(atC (cd Try.f27) [1,0,1,0,0,1,0,0,1,1,0,0]),[(0,vi c),(3,vi 4),(4,AV.vec true 1 [vi 43,vi 49]),(5,vi 2)],[],_,[],_⟩ (by kernel_rfl) (bc rfl (bc rfl (bc rfl (bc (Zaa (fun h => d2 (i_eq.1 h))) b0)))) q0 c0 (H)
theorem mRg4i2 (c:Int)  (dq:AV) (H :
  mRg5_at (c) (Zag dq)) :
 Zdz c (Zag dq):=by
 unfold Zdz
 exact Zaf (G:=Zae kp27 [] []) 1000 [false] ⟨(atC (cd Try.f27) [1,0,1,0,0]),[(0,vi c),(3,vi 5)],[],_,[],_⟩ (by kernel_rfl) (bc rfl b0) q0 c0 (H)
theorem mRg5i0 (c:Int)  (dq:AV) (H :
  ((c = 98000) -> vi 5 = dq) /\
  (¬(c = 98000) -> Zdx (c) (Zag dq))) :
 Zdy c (Zag dq):=by
 unfold Zdy
 rcases xq H with ⟨d2,H⟩|⟨d2,H⟩
 ·exact Zac (G:=Zae kp27 [] []) 1000 [true,true] (vi 5) (by kernel_rfl) (bc rfl (bc rfl (bc rfl (bc (Zai (i_eq.2 d2)) b0)))) q0 c0 H
 ·exact Zaf (G:=Zae kp27 [] []) 1000 [true,false] ⟨(atC (cd Try.f27) [1,0,1,0,0,1,0,0,1,1,0,0]),[(0,vi c),(3,vi 5),(4,AV.vec true 1 [vi 98,vi 99]),(5,vi 1)],[],_,[],_⟩ (by kernel_rfl) (bc rfl (bc rfl (bc rfl (bc (Zaa (fun h => d2 (i_eq.1 h))) b0)))) q0 c0 (H)
theorem mRg5i1 (c:Int)  (dq:AV) (H :
  ((c = 99000) -> vi 5 = dq) /\
  (¬(c = 99000) -> Zdw (c) (Zag dq))) :
 Zdx c (Zag dq):=by
 unfold Zdx
 rcases xq H with ⟨d2,H⟩|⟨d2,H⟩
 ·exact Zac (G:=Zae kp27 [] []) 1000 [true,true] (vi 5) (by kernel_rfl) (bc rfl (bc rfl (bc rfl (bc (Zai (i_eq.2 d2)) b0)))) q0 c0 H
 ·exact Zaf (G:=Zae kp27 [] []) 1000 [true,false] ⟨(atC (cd Try.f27) [1,0,1,0,0,1,0,0,1,1,0,0]),[(0,vi c),(3,vi 5),(4,AV.vec true 1 [vi 98,vi 99]),(5,vi 2)],[],_,[],_⟩ (by kernel_rfl) (bc rfl (bc rfl (bc rfl (bc (Zaa (fun h => d2 (i_eq.1 h))) b0)))) q0 c0 (H)
theorem mRg5i2 (c:Int)  (dq:AV) (H :
  mRg6_at (c) (Zag dq)) :
 Zdw c (Zag dq):=by
 unfold Zdw
 exact Zaf (G:=Zae kp27 [] []) 1000 [false] ⟨(atC (cd Try.f27) [1,0,1,0,0]),[(0,vi c),(3,vi 6)],[],_,[],_⟩ (by kernel_rfl) (bc rfl b0) q0 c0 (H)
end Go.Av

namespace Go.Av
open Go.Proofs
theorem ev27 (c:Int):Ev M1 (.pure 27 [.int .i64 c]) (.int .i64 (Sp.grp c)) []:=by
 have L {k g:Int} (h:c = k) (e:Sp.grp k = g):AV.int .i64 g = .int .i64 (Sp.grp c):=by rw [h,e]
 refine call27 (mRg _ _ ?_)
 refine mRg1 _ _ ?_
 refine mRg1i0 _ _ ⟨fun h => L h rfl,fun h1_0 => ?_⟩
 refine mRg1i1 _ _ ⟨fun h => L h rfl,fun h1_1 => ?_⟩
 refine mRg1i2 _ _ ⟨fun h => L h rfl,fun h1_2 => ?_⟩
 refine mRg1i3 _ _ ⟨fun h => L h rfl,fun h1_3 => ?_⟩
 refine mRg1i4 _ _ ⟨fun h => L h rfl,fun h1_4 => ?_⟩
 refine mRg1i5 _ _ ⟨fun h => L h rfl,fun h1_5 => ?_⟩
 refine mRg1i6 _ _ ⟨fun h => L h rfl,fun h1_6 => ?_⟩
 refine mRg1i7 _ _ ⟨fun h => L h rfl,fun h1_7 => ?_⟩
 refine mRg1i8 _ _ ?_
 refine mRg2 _ _ ?_
 refine mRg2i0 _ _ ⟨fun h => L h rfl,fun h2_0 => ?_⟩
 refine mRg2i1 _ _ ⟨fun h => L h rfl,fun h2_1 => ?_⟩
 refine mRg2i2 _ _ ?_
 refine mRg3 _ _ ?_
 refine mRg3i0 _ _ ⟨fun h => L h rfl,fun h3_0 => ?_⟩
 refine mRg3i1 _ _ ⟨fun h => L h rfl,fun h3_1 => ?_⟩
 refine mRg3i2 _ _ ⟨fun h => L h rfl,fun h3_2 => ?_⟩
 refine mRg3i3 _ _ ⟨fun h => L h rfl,fun h3_3 => ?_⟩
 refine mRg3i4 _ _ ⟨fun h => L h rfl,fun h3_4 => ?_⟩
 refine mRg3i5 _ _ ⟨fun h => L h rfl,fun h3_5 => ?_⟩
 refine mRg3i6 _ _ ?_
 refine mRg4 _ _ ?_
 refine mRg4i0 _ _ ⟨fun h => L h rfl,fun h4_0 => ?_⟩
 refine mRg4i1 _ _ ⟨fun h => L h rfl,fun h4_1 => ?_⟩
 refine mRg4i2 _ _ ?_
 refine mRg5 _ _ ?_
 refine mRg5i0 _ _ ⟨fun h => L h rfl,fun h5_0 => ?_⟩
 refine mRg5i1 _ _ ⟨fun h => L h rfl,fun h5_1 => ?_⟩
 refine mRg5i2 _ _ ?_
 refine mRg6 _ _ ?_
 rw [grp_no (by simp only [List.mem_cons,List.not_mem_nil,or_false,forall_eq_or_imp,forall_eq];exact ⟨h1_0,h1_1,h1_2,h1_3,h1_4,h1_5,h1_6,h1_7,h2_0,h2_1,h3_0,h3_1,h3_2,h3_3,h3_4,h3_5,h4_0,h4_1,h5_0,h5_1⟩)]
end Go.Av

namespace Go.Av
open Go.Proofs
set_option maxRecDepth 100000
def fi47:Fi:=⟨58,[.tmp 2]⟩
def kp47:List (Nat × List Nat):=[(0,[1]),(1,[1,3]),(2,[1,3,4]),(3,[3,4,11,12,13]),(4,[3,4,11,12,13,14]),(5,[3,4,6,11,12,13]),(6,[3,4,6,11,12,13,18]),(7,[3,4,6,11,12,13,18,19]),(8,[3,4,7,11,12,13]),(9,[3,4,7,11,12,13,30]),(10,[2]),(11,[3,4,11,12,13]),(12,[3,4,6,11,12,13,18,33]),(13,[3,4,6,11,12,13,37]),(14,[2]),(15,[3,4,6,11,12,13,18,38]),(16,[3,4,6,11,12,13,38]),(17,[3,4,6,11,12,13,49]),(18,[2]),(19,[3,4,6,11,12,13,53]),(20,[2]),(21,[3,4,11,12,13]),(22,[3,4,11,12,13]),(23,[2])]
def fi63:Fi:=⟨13,[.tmp 2]⟩
def kp63:List (Nat × List Nat):=[(0,[1]),(1,[1,5]),(2,[2]),(3,[2])]
def fi64:Fi:=⟨22,[.tmp 2]⟩
def kp64:List (Nat × List Nat):=[(0,[1]),(1,[1,4]),(2,[1,4,5]),(3,[2]),(4,[1,4,10]),(5,[1,10]),(6,[2]),(7,[2])]
def mCls_at (l v:Int) (Q:AV->Heap->Prop):Prop:=Wp M1 (.run fi63 (atC (cd Try.f63) []) [(0,.agg [.int .u8 l,.int .i64 v])] []) Q
def mWhl_at (l v:Int) (Q:AV->Heap->Prop):Prop:=Wp M1 (.run fi64 (atC (cd Try.f64) []) [(0,.agg [.int .u8 l,.int .i64 v])] []) Q
def mCk_at (sk f:Bool) (ws:List Wo) (cm:List UInt8) (Q:AV->Heap->Prop):Prop:=Wp M1 (.run fi47 (atC (cd Try.f47) []) [(0,.agg [.bool sk,.vec f 2 (ws.map Wo.a),.str cm])] []) Q
def ZbA (f:Bool) (ws:List Wo) (n i:Int) (ms gs:List AV) (Q:AV->Heap->Prop):Prop:=Wp M1 (.run fi47 (atC (cd Try.f47) [1,1,1,0,1,0,0]) [(3,.mapr 0),(4,.mapr 1),(11,.vec f 2 (ws.map Wo.a)),(12,.int .i64 n),(13,.int .i64 i)] [⟨ms,2,0,false,true⟩,⟨gs,2,0,false,true⟩]) Q
theorem call47 {args:List AV} {d:AV} (h:wc M1 fi47 Try.f47 args d):Ev M1 (.pure 47 args) d []:=pcl _ _ (by kernel_rfl) h
theorem call63 {args:List AV} {d:AV} (h:wc M1 fi63 Try.f63 args d):Ev M1 (.pure 63 args) d []:=pcl _ _ (by kernel_rfl) h
theorem call64 {args:List AV} {d:AV} (h:wc M1 fi64 Try.f64 args d):Ev M1 (.pure 64 args) d []:=pcl _ _ (by kernel_rfl) h
theorem mCls (l v:Int)  (dq:AV) (H :
  ((l = 71) -> vi (Sp.grp v) = dq) /\
  (¬(l = 71) -> (-9223372036854775808 <= l /\ l <= 9223372036854775807) /\
   (-9223372036854775808 <= 10 + l /\ 10 + l <= 9223372036854775807) /\
   vi (10 + l) = dq)) :
 mCls_at l v (Zag dq):=by
 unfold mCls_at
 rcases xq H with ⟨d2,H⟩|⟨d2,H⟩
 ·exact Zac (G:=Zae kp63 [(2,2,.call (vi (Sp.grp v)) none)] []) 1000 [true] (vi (Sp.grp v)) (by kernel_rfl) (bc rfl (bc (Zai (i_eq.2 d2)) (bc rfl b0))) q0 (ce (@ev27 (v)) c0) H
 ·obtain ⟨k3,H⟩:=H
  have w4:wi l = l:=wI64 k3
  obtain ⟨k5,H⟩:=H
  have w6:wi (10 + l) = 10 + l:=wI64 k5
  exact Zac (G:=Zae kp63 [] []) 1000 [false] (vi (wi (10 + wi l))) (by kernel_rfl) (bc rfl (bc (Zaa (fun h => d2 (i_eq.1 h))) (bc rfl b0))) q0 c0 (by (try rw [w4]);(try rw [w6]);all_goals exact H)
theorem mWhl (l v:Int)  (dq:AV) (H :
  ((l = 70) -> vb (decide (v >= 0)) = dq) /\
  (¬(l = 70) -> ((l = 84) -> vb (bif decide (v >= 0) then v.tmod 1000 == 0 else false) = dq) /\
   (¬(l = 84) -> ((l = 72) -> vb (bif decide (v >= 0) then v.tmod 1000 == 0 else false) = dq) /\
    (¬(l = 72) -> vb true = dq)))) :
 mWhl_at l v (Zag dq):=by
 unfold mWhl_at
 rcases xq H with ⟨d2,H⟩|⟨d2,H⟩
 ·exact Zac (G:=Zae kp64 [] []) 1000 [true] (asm:=[0 == 0,(l == 70) == true,true]) (vb (decide (v >= 0))) (by kernel_rfl) (bc (beq_self_eq_true _) (bc (Zai (i_eq.2 d2)) (bc rfl b0))) q0 c0 H
 ·rcases xq H with ⟨d4,H⟩|⟨d4,H⟩
  ·exact Zac (G:=Zae kp64 [] []) 1000 [false,true,true] (asm:=[0 == 0,(l == 70) == false,(l == 84) == true,(l == 84) == true,true,!(decide (v >= 0) == true && true) || true,!(decide (v >= 0) == true && true) || true]) (vb (bif decide (v >= 0) then v.tmod 1000 == 0 else false)) (by kernel_rfl) (bc (beq_self_eq_true _) (bc (Zaa (fun h => d2 (i_eq.1 h))) (bc (Zai (i_eq.2 d4)) (bc (Zai (i_eq.2 d4)) (bc rfl (bc (Bool.or_true _) (bc (Bool.or_true _) b0))))))) q0 c0 H
  ·rcases xq H with ⟨d7,H⟩|⟨d7,H⟩
   ·exact Zac (G:=Zae kp64 [] []) 1000 [false,false,true] (asm:=[0 == 0,(l == 70) == false,(l == 84) == false,(l == 72) == true,true,!(decide (v >= 0) == true && true) || true,!(decide (v >= 0) == true && true) || true]) (vb (bif decide (v >= 0) then v.tmod 1000 == 0 else false)) (by kernel_rfl) (bc (beq_self_eq_true _) (bc (Zaa (fun h => d2 (i_eq.1 h))) (bc (Zaa (fun h => d4 (i_eq.1 h))) (bc (Zai (i_eq.2 d7)) (bc rfl (bc (Bool.or_true _) (bc (Bool.or_true _) b0))))))) q0 c0 H
   ·exact Zac (G:=Zae kp64 [] []) 1000 [false,false,false] (asm:=[0 == 0,(l == 70) == false,(l == 84) == false,(l == 72) == false]) (vb true) (by kernel_rfl) (bc (beq_self_eq_true _) (bc (Zaa (fun h => d2 (i_eq.1 h))) (bc (Zaa (fun h => d4 (i_eq.1 h))) (bc (Zaa (fun h => d7 (i_eq.1 h))) b0)))) q0 c0 H
theorem mCk (sk f:Bool) (ws:List Wo) (cm:List UInt8)  (dq:AV) (H :
  ZbA (f) (ws) ((↑ws.length:Int)) (0) ([]) ([]) (Zag dq)) :
 mCk_at sk f ws cm (Zag dq):=by
 unfold mCk_at
 have w1:(List.map Wo.a ws).length = ws.length:=List.length_map ..
 exact Zaf (G:=Zae kp47 [] []) 1000 [] ⟨(atC (cd Try.f47) [1,1,1,0,1,0,0]),[(3,AV.mapr 1),(4,AV.mapr 2),(11,AV.vec f 2 (List.map Wo.a ws)),(12,vi (↑(List.map Wo.a ws).length:Int)),(13,vi 0)],[⟨[ag [vb sk,AV.vec f 2 (List.map Wo.a ws),AV.str cm]],3,0,false,false⟩,⟨[],2,0,false,true⟩,⟨[],2,0,false,true⟩],_,[],_⟩ (by kernel_rfl) (bc rfl b0) q0 c0 (by (try rw [w1]);all_goals exact Zbf [1,2] (by kernel_rfl) H)
noncomputable abbrev zNmD1 (ws:List Wo) (i:Int):=ag [AV.int IntKind.u8 (ws.getD i.toNat default).l,vi (ws.getD i.toNat default).v]
noncomputable abbrev zNmD2 (ws:List Wo) (i:Int):=bif decide ((ws.getD i.toNat default).v<0) then true else (ws.getD i.toNat default).v.tmod 1000 != 0
theorem mCkL (f:Bool) (ws:List Wo) (n i:Int) (ms gs:List AV)  (dq:AV) (H :
  ((i < n) -> (0 <= i) /\
   (i.toNat < ws.length) /\
   (((ws.getD i.toNat default).l = 71) -> ((¬(Sp.grp (ws.getD i.toNat default).v = 0)) -> (Zam IntKind.i64 gs = true)) /\
    ((¬(Sp.grp (ws.getD i.toNat default).v = 0)) -> (ZaG gs = true)) /\
    (((Sp.grp (ws.getD i.toNat default).v = 0) \/ (mapB (Sp.grp (ws.getD i.toNat default).v) gs = true)) -> vi 1 = dq) /\
    (¬((Sp.grp (ws.getD i.toNat default).v = 0) \/ (mapB (Sp.grp (ws.getD i.toNat default).v) gs = true)) -> (Zam IntKind.i64 gs = true) /\
     (-9223372036854775808 <= i + 1 /\ i + 1 <= 9223372036854775807) /\
     ZbA (f) (ws) (n) (i + 1) (ms) (ZaF IntKind.i64 (Sp.grp (ws.getD i.toNat default).v) (vb true) gs) (Zag dq))) /\
   (¬((ws.getD i.toNat default).l = 71) -> (((ws.getD i.toNat default).l = 70) -> (((ws.getD i.toNat default).v < 0) -> vi 1 = dq) /\
     (¬((ws.getD i.toNat default).v < 0) -> (Zam IntKind.u8 ms = true) /\
      (ZaG ms = true) /\
      ((mapB (ws.getD i.toNat default).l ms = true) -> vi 1 = dq) /\
      (¬(mapB (ws.getD i.toNat default).l ms = true) -> (-9223372036854775808 <= i + 1 /\ i + 1 <= 9223372036854775807) /\
       ZbA (f) (ws) (n) (i + 1) (ZaF IntKind.u8 (ws.getD i.toNat default).l (vb true) ms) (gs) (Zag dq)))) /\
    (¬((ws.getD i.toNat default).l = 70) -> (((ws.getD i.toNat default).l = 84) -> ((((ws.getD i.toNat default).v < 0) \/ (¬(ws.getD i.toNat default).v.tmod 1000 = 0)) -> vi 1 = dq) /\
      (¬(((ws.getD i.toNat default).v < 0) \/ (¬(ws.getD i.toNat default).v.tmod 1000 = 0)) -> (Zam IntKind.u8 ms = true) /\
       (ZaG ms = true) /\
       ((mapB (ws.getD i.toNat default).l ms = true) -> vi 1 = dq) /\
       (¬(mapB (ws.getD i.toNat default).l ms = true) -> (-9223372036854775808 <= i + 1 /\ i + 1 <= 9223372036854775807) /\
        ZbA (f) (ws) (n) (i + 1) (ZaF IntKind.u8 (ws.getD i.toNat default).l (vb true) ms) (gs) (Zag dq)))) /\
     (¬((ws.getD i.toNat default).l = 84) -> (((ws.getD i.toNat default).l = 72) -> ((((ws.getD i.toNat default).v < 0) \/ (¬(ws.getD i.toNat default).v.tmod 1000 = 0)) -> vi 1 = dq) /\
       (¬(((ws.getD i.toNat default).v < 0) \/ (¬(ws.getD i.toNat default).v.tmod 1000 = 0)) -> (Zam IntKind.u8 ms = true) /\
        (ZaG ms = true) /\
        ((mapB (ws.getD i.toNat default).l ms = true) -> vi 1 = dq) /\
        (¬(mapB (ws.getD i.toNat default).l ms = true) -> (-9223372036854775808 <= i + 1 /\ i + 1 <= 9223372036854775807) /\
         ZbA (f) (ws) (n) (i + 1) (ZaF IntKind.u8 (ws.getD i.toNat default).l (vb true) ms) (gs) (Zag dq)))) /\
      (¬((ws.getD i.toNat default).l = 72) -> (Zam IntKind.u8 ms = true) /\
       (ZaG ms = true) /\
       ((mapB (ws.getD i.toNat default).l ms = true) -> vi 1 = dq) /\
       (¬(mapB (ws.getD i.toNat default).l ms = true) -> (-9223372036854775808 <= i + 1 /\ i + 1 <= 9223372036854775807) /\
        ZbA (f) (ws) (n) (i + 1) (ZaF IntKind.u8 (ws.getD i.toNat default).l (vb true) ms) (gs) (Zag dq))))))) /\
  (¬(i < n) -> vi 0 = dq)) :
 ZbA f ws n i ms gs (Zag dq):=by
 unfold ZbA
 rcases xq H with ⟨d2,H⟩|⟨d2,H⟩
 ·obtain ⟨k4,H⟩:=H
  have w5:(List.map Wo.a ws).length = ws.length:=List.length_map ..
  have i6:(decide (i.toNat < (List.map Wo.a ws).length)) = true ↔ (i.toNat < ws.length):=(by (try rw [w5]);all_goals exact ZaX)
  obtain ⟨k7,H⟩:=H
  refine Zaf (G:=Zae kp47 [(5,1,.elem ((zNmD1 ws i)))] []) 15 [true] ⟨(atC (cd Try.f47) [1,1,1,0,1,0,0,1,1,0,0,1,0,1,0,1]),[(3,AV.mapr 0),(4,AV.mapr 1),(6,AV.ptr 2 0 0 0),(11,AV.vec f 2 (List.map Wo.a ws)),(12,vi n),(13,vi i),(18,AV.int IntKind.u8 (ws.getD i.toNat default).l),(19,vb ((ws.getD i.toNat default).l == 71))],[⟨ms,2,0,false,true⟩,⟨gs,2,0,false,true⟩,⟨[(zNmD1 ws i)],2,0,false,false⟩],[(decide (i < n)) == true,decide (0 <= i),decide (i.toNat < (List.map Wo.a ws).length),true,0 == 0],[((List.map Wo.a ws).get?Internal i.toNat = some ((zNmD1 ws i)))],_⟩ (by kernel_rfl) (bc (Zai (ZaX.2 d2)) (bc (ZaX.2 k4) (bc (i6.2 k7) (bc rfl (bc (beq_self_eq_true _) b0))))) (qc (Zeb k7) q0) c0 ?_
  rcases xq H with ⟨d9,H⟩|⟨d9,H⟩
  ·obtain ⟨k11,k13,H⟩:=H
   refine Zaf (G:=Zae kp47 [(8,2,.call (vi (Sp.grp (ws.getD i.toNat default).v)) none)] []) 6 [true] ⟨(atC (cd Try.f47) [1,1,1,0,1,0,0,1,1,0,0,1,0,1,0,1,0,1,0,1]),[(3,AV.mapr 0),(4,AV.mapr 1),(7,vi (Sp.grp (ws.getD i.toNat default).v)),(11,AV.vec f 2 (List.map Wo.a ws)),(12,vi n),(13,vi i),(30,vb (bif Sp.grp (ws.getD i.toNat default).v == 0 then true else mapB (Sp.grp (ws.getD i.toNat default).v) gs))],[⟨ms,2,0,false,true⟩,⟨gs,2,0,false,true⟩,⟨[(zNmD1 ws i)],2,0,false,false⟩],[((ws.getD i.toNat default).l == 71) == true,true,!((Sp.grp (ws.getD i.toNat default).v == 0) == false && true) || Zam IntKind.i64 gs,!((Sp.grp (ws.getD i.toNat default).v == 0) == false && true) || ZaG gs],[],_⟩ (by kernel_rfl) (bc (Zai (i_eq.2 d9)) (bc rfl (bc ((i_imp (i_at (i_bf i_eq)) (ZaW _)).2 k11) (bc ((i_imp (i_at (i_bf i_eq)) (ZaW _)).2 k13) b0)))) q0 (ce (@ev26 ((ws.getD i.toNat default).v)) c0) ?_
   rcases xq H with ⟨d15,H⟩|⟨d15,H⟩
   ·exact Zac (G:=Zae kp47 [] []) 1000 [true] (asm:=[(bif Sp.grp (ws.getD i.toNat default).v == 0 then true else mapB (Sp.grp (ws.getD i.toNat default).v) gs) == true]) (vi 1) (by kernel_rfl) (bc (Zai ((Zer i_eq (ZaW _)).2 d15)) b0) q0 c0 H
   ·obtain ⟨k17,k18,H⟩:=H
    have w19:wi (i + 1) = i + 1:=wI64 k18
    exact Zaf (G:=Zae kp47 [] []) 1000 [false] ⟨(atC (cd Try.f47) [1,1,1,0,1,0,0]),[(3,AV.mapr 0),(4,AV.mapr 1),(11,AV.vec f 2 (List.map Wo.a ws)),(12,vi n),(13,vi (wi (i + 1)))],[⟨ms,2,0,false,true⟩,⟨ZaF IntKind.i64 (Sp.grp (ws.getD i.toNat default).v) (vb true) gs,2,0,false,true⟩,⟨[(zNmD1 ws i)],2,0,false,false⟩],[(bif Sp.grp (ws.getD i.toNat default).v == 0 then true else mapB (Sp.grp (ws.getD i.toNat default).v) gs) == false,Zam IntKind.i64 gs],[],_⟩ (by kernel_rfl) (bc (Zaa (fun h => d15 ((Zer i_eq (ZaW _)).1 h))) (bc ((ZaW _).2 k17) b0)) q0 c0 (by (try rw [w19]);all_goals exact Zbf [0,1] (by kernel_rfl) H)
  ·rcases xq H with ⟨d21,H⟩|⟨d21,H⟩
   ·rcases xq H with ⟨d23,H⟩|⟨d23,H⟩
    ·exact Zac (G:=Zae kp47 [] []) 1000 [false,true,true] (vi 1) (by kernel_rfl) (bc (Zaa (fun h => d9 (i_eq.1 h))) (bc (Zai (i_eq.2 d21)) (bc rfl (bc (Zai (ZaX.2 d23)) b0)))) q0 c0 H
    ·obtain ⟨k25,k27,H⟩:=H
     rcases xq H with ⟨d29,H⟩|⟨d29,H⟩
     ·exact Zac (G:=Zae kp47 [] []) 1000 [false,true,false,true] (asm:=[((ws.getD i.toNat default).l == 71) == false,((ws.getD i.toNat default).l == 70) == true,true,(decide ((ws.getD i.toNat default).v < 0)) == false,true,Zam IntKind.u8 ms,ZaG ms,(mapB (ws.getD i.toNat default).l ms) == true]) (vi 1) (by kernel_rfl) (bc (Zaa (fun h => d9 (i_eq.1 h))) (bc (Zai (i_eq.2 d21)) (bc rfl (bc (Zaa (fun h => d23 (ZaX.1 h))) (bc rfl (bc ((ZaW _).2 k25) (bc ((ZaW _).2 k27) (bc (Zai ((ZaW _).2 d29)) b0)))))))) q0 c0 H
     ·obtain ⟨k31,H⟩:=H
      have w32:wi (i + 1) = i + 1:=wI64 k31
      exact Zaf (G:=Zae kp47 [] []) 1000 [false,true,false,false] ⟨(atC (cd Try.f47) [1,1,1,0,1,0,0]),[(3,AV.mapr 0),(4,AV.mapr 1),(11,AV.vec f 2 (List.map Wo.a ws)),(12,vi n),(13,vi (wi (i + 1)))],[⟨ZaF IntKind.u8 (ws.getD i.toNat default).l (vb true) ms,2,0,false,true⟩,⟨gs,2,0,false,true⟩,⟨[(zNmD1 ws i)],2,0,false,false⟩],[((ws.getD i.toNat default).l == 71) == false,((ws.getD i.toNat default).l == 70) == true,true,(decide ((ws.getD i.toNat default).v < 0)) == false,true,Zam IntKind.u8 ms,ZaG ms,(mapB (ws.getD i.toNat default).l ms) == false,true,Zam IntKind.u8 ms],[],_⟩ (by kernel_rfl) (bc (Zaa (fun h => d9 (i_eq.1 h))) (bc (Zai (i_eq.2 d21)) (bc rfl (bc (Zaa (fun h => d23 (ZaX.1 h))) (bc rfl (bc ((ZaW _).2 k25) (bc ((ZaW _).2 k27) (bc (Zaa (fun h => d29 ((ZaW _).1 h))) (bc rfl (bc ((ZaW _).2 k25) b0)))))))))) q0 c0 (by (try rw [w32]);all_goals exact Zbf [0,1] (by kernel_rfl) H)
   ·rcases xq H with ⟨d34,H⟩|⟨d34,H⟩
    ·rcases xq H with ⟨d37,H⟩|⟨d37,H⟩
     ·exact Zac (G:=Zae kp47 [] []) 1000 [false,false,true,true,true] (asm:=[((ws.getD i.toNat default).l == 71) == false,((ws.getD i.toNat default).l == 70) == false,((ws.getD i.toNat default).l == 84) == true,((ws.getD i.toNat default).l == 84) == true,true,!(decide ((ws.getD i.toNat default).v < 0) == false && true) || true,!(decide ((ws.getD i.toNat default).v < 0) == false && true) || true,(zNmD2 ws i) == true]) (vi 1) (by kernel_rfl) (bc (Zaa (fun h => d9 (i_eq.1 h))) (bc (Zaa (fun h => d21 (i_eq.1 h))) (bc (Zai (i_eq.2 d34)) (bc (Zai (i_eq.2 d34)) (bc rfl (bc (Bool.or_true _) (bc (Bool.or_true _) (bc (Zai ((Zer ZaX i_ne).2 d37)) b0)))))))) q0 c0 H
     ·obtain ⟨k39,k41,H⟩:=H
      rcases xq H with ⟨d43,H⟩|⟨d43,H⟩
      ·exact Zac (G:=Zae kp47 [] []) 1000 [false,false,true,true,false,true] (asm:=[((ws.getD i.toNat default).l == 71) == false,((ws.getD i.toNat default).l == 70) == false,((ws.getD i.toNat default).l == 84) == true,((ws.getD i.toNat default).l == 84) == true,true,!(decide ((ws.getD i.toNat default).v < 0) == false && true) || true,!(decide ((ws.getD i.toNat default).v < 0) == false && true) || true,(zNmD2 ws i) == false,true,Zam IntKind.u8 ms,ZaG ms,(mapB (ws.getD i.toNat default).l ms) == true]) (vi 1) (by kernel_rfl) (bc (Zaa (fun h => d9 (i_eq.1 h))) (bc (Zaa (fun h => d21 (i_eq.1 h))) (bc (Zai (i_eq.2 d34)) (bc (Zai (i_eq.2 d34)) (bc rfl (bc (Bool.or_true _) (bc (Bool.or_true _) (bc (Zaa (fun h => d37 ((Zer ZaX i_ne).1 h))) (bc rfl (bc ((ZaW _).2 k39) (bc ((ZaW _).2 k41) (bc (Zai ((ZaW _).2 d43)) b0)))))))))))) q0 c0 H
      ·obtain ⟨k45,H⟩:=H
       have w46:wi (i + 1) = i + 1:=wI64 k45
       exact Zaf (G:=Zae kp47 [] []) 1000 [false,false,true,true,false,false] ⟨(atC (cd Try.f47) [1,1,1,0,1,0,0]),[(3,AV.mapr 0),(4,AV.mapr 1),(11,AV.vec f 2 (List.map Wo.a ws)),(12,vi n),(13,vi (wi (i + 1)))],[⟨ZaF IntKind.u8 (ws.getD i.toNat default).l (vb true) ms,2,0,false,true⟩,⟨gs,2,0,false,true⟩,⟨[(zNmD1 ws i)],2,0,false,false⟩],[((ws.getD i.toNat default).l == 71) == false,((ws.getD i.toNat default).l == 70) == false,((ws.getD i.toNat default).l == 84) == true,((ws.getD i.toNat default).l == 84) == true,true,!(decide ((ws.getD i.toNat default).v < 0) == false && true) || true,!(decide ((ws.getD i.toNat default).v < 0) == false && true) || true,(zNmD2 ws i) == false,true,Zam IntKind.u8 ms,ZaG ms,(mapB (ws.getD i.toNat default).l ms) == false,true,Zam IntKind.u8 ms],[],_⟩ (by kernel_rfl) (bc (Zaa (fun h => d9 (i_eq.1 h))) (bc (Zaa (fun h => d21 (i_eq.1 h))) (bc (Zai (i_eq.2 d34)) (bc (Zai (i_eq.2 d34)) (bc rfl (bc (Bool.or_true _) (bc (Bool.or_true _) (bc (Zaa (fun h => d37 ((Zer ZaX i_ne).1 h))) (bc rfl (bc ((ZaW _).2 k39) (bc ((ZaW _).2 k41) (bc (Zaa (fun h => d43 ((ZaW _).1 h))) (bc rfl (bc ((ZaW _).2 k39) b0)))))))))))))) q0 c0 (by (try rw [w46]);all_goals exact Zbf [0,1] (by kernel_rfl) H)
    ·rcases xq H with ⟨d48,H⟩|⟨d48,H⟩
     ·rcases xq H with ⟨d50,H⟩|⟨d50,H⟩
      ·exact Zac (G:=Zae kp47 [] []) 1000 [false,false,false,true,true] (asm:=[((ws.getD i.toNat default).l == 71) == false,((ws.getD i.toNat default).l == 70) == false,((ws.getD i.toNat default).l == 84) == false,((ws.getD i.toNat default).l == 72) == true,true,!(decide ((ws.getD i.toNat default).v < 0) == false && true) || true,!(decide ((ws.getD i.toNat default).v < 0) == false && true) || true,(zNmD2 ws i) == true]) (vi 1) (by kernel_rfl) (bc (Zaa (fun h => d9 (i_eq.1 h))) (bc (Zaa (fun h => d21 (i_eq.1 h))) (bc (Zaa (fun h => d34 (i_eq.1 h))) (bc (Zai (i_eq.2 d48)) (bc rfl (bc (Bool.or_true _) (bc (Bool.or_true _) (bc (Zai ((Zer ZaX i_ne).2 d50)) b0)))))))) q0 c0 H
      ·obtain ⟨k52,k54,H⟩:=H
       rcases xq H with ⟨d56,H⟩|⟨d56,H⟩
       ·exact Zac (G:=Zae kp47 [] []) 1000 [false,false,false,true,false,true] (asm:=[((ws.getD i.toNat default).l == 71) == false,((ws.getD i.toNat default).l == 70) == false,((ws.getD i.toNat default).l == 84) == false,((ws.getD i.toNat default).l == 72) == true,true,!(decide ((ws.getD i.toNat default).v < 0) == false && true) || true,!(decide ((ws.getD i.toNat default).v < 0) == false && true) || true,(zNmD2 ws i) == false,true,Zam IntKind.u8 ms,ZaG ms,(mapB (ws.getD i.toNat default).l ms) == true]) (vi 1) (by kernel_rfl) (bc (Zaa (fun h => d9 (i_eq.1 h))) (bc (Zaa (fun h => d21 (i_eq.1 h))) (bc (Zaa (fun h => d34 (i_eq.1 h))) (bc (Zai (i_eq.2 d48)) (bc rfl (bc (Bool.or_true _) (bc (Bool.or_true _) (bc (Zaa (fun h => d50 ((Zer ZaX i_ne).1 h))) (bc rfl (bc ((ZaW _).2 k52) (bc ((ZaW _).2 k54) (bc (Zai ((ZaW _).2 d56)) b0)))))))))))) q0 c0 H
       ·obtain ⟨k58,H⟩:=H
        have w59:wi (i + 1) = i + 1:=wI64 k58
        exact Zaf (G:=Zae kp47 [] []) 1000 [false,false,false,true,false,false] ⟨(atC (cd Try.f47) [1,1,1,0,1,0,0]),[(3,AV.mapr 0),(4,AV.mapr 1),(11,AV.vec f 2 (List.map Wo.a ws)),(12,vi n),(13,vi (wi (i + 1)))],[⟨ZaF IntKind.u8 (ws.getD i.toNat default).l (vb true) ms,2,0,false,true⟩,⟨gs,2,0,false,true⟩,⟨[(zNmD1 ws i)],2,0,false,false⟩],[((ws.getD i.toNat default).l == 71) == false,((ws.getD i.toNat default).l == 70) == false,((ws.getD i.toNat default).l == 84) == false,((ws.getD i.toNat default).l == 72) == true,true,!(decide ((ws.getD i.toNat default).v < 0) == false && true) || true,!(decide ((ws.getD i.toNat default).v < 0) == false && true) || true,(zNmD2 ws i) == false,true,Zam IntKind.u8 ms,ZaG ms,(mapB (ws.getD i.toNat default).l ms) == false,true,Zam IntKind.u8 ms],[],_⟩ (by kernel_rfl) (bc (Zaa (fun h => d9 (i_eq.1 h))) (bc (Zaa (fun h => d21 (i_eq.1 h))) (bc (Zaa (fun h => d34 (i_eq.1 h))) (bc (Zai (i_eq.2 d48)) (bc rfl (bc (Bool.or_true _) (bc (Bool.or_true _) (bc (Zaa (fun h => d50 ((Zer ZaX i_ne).1 h))) (bc rfl (bc ((ZaW _).2 k52) (bc ((ZaW _).2 k54) (bc (Zaa (fun h => d56 ((ZaW _).1 h))) (bc rfl (bc ((ZaW _).2 k52) b0)))))))))))))) q0 c0 (by (try rw [w59]);all_goals exact Zbf [0,1] (by kernel_rfl) H)
     ·obtain ⟨k61,k63,H⟩:=H
      rcases xq H with ⟨d65,H⟩|⟨d65,H⟩
      ·exact Zac (G:=Zae kp47 [] []) 1000 [false,false,false,false,true] (asm:=[((ws.getD i.toNat default).l == 71) == false,((ws.getD i.toNat default).l == 70) == false,((ws.getD i.toNat default).l == 84) == false,((ws.getD i.toNat default).l == 72) == false,true,Zam IntKind.u8 ms,ZaG ms,(mapB (ws.getD i.toNat default).l ms) == true]) (vi 1) (by kernel_rfl) (bc (Zaa (fun h => d9 (i_eq.1 h))) (bc (Zaa (fun h => d21 (i_eq.1 h))) (bc (Zaa (fun h => d34 (i_eq.1 h))) (bc (Zaa (fun h => d48 (i_eq.1 h))) (bc rfl (bc ((ZaW _).2 k61) (bc ((ZaW _).2 k63) (bc (Zai ((ZaW _).2 d65)) b0)))))))) q0 c0 H
      ·obtain ⟨k67,H⟩:=H
       have w68:wi (i + 1) = i + 1:=wI64 k67
       exact Zaf (G:=Zae kp47 [] []) 1000 [false,false,false,false,false] ⟨(atC (cd Try.f47) [1,1,1,0,1,0,0]),[(3,AV.mapr 0),(4,AV.mapr 1),(11,AV.vec f 2 (List.map Wo.a ws)),(12,vi n),(13,vi (wi (i + 1)))],[⟨ZaF IntKind.u8 (ws.getD i.toNat default).l (vb true) ms,2,0,false,true⟩,⟨gs,2,0,false,true⟩,⟨[(zNmD1 ws i)],2,0,false,false⟩],[((ws.getD i.toNat default).l == 71) == false,((ws.getD i.toNat default).l == 70) == false,((ws.getD i.toNat default).l == 84) == false,((ws.getD i.toNat default).l == 72) == false,true,Zam IntKind.u8 ms,ZaG ms,(mapB (ws.getD i.toNat default).l ms) == false,true,Zam IntKind.u8 ms],[],_⟩ (by kernel_rfl) (bc (Zaa (fun h => d9 (i_eq.1 h))) (bc (Zaa (fun h => d21 (i_eq.1 h))) (bc (Zaa (fun h => d34 (i_eq.1 h))) (bc (Zaa (fun h => d48 (i_eq.1 h))) (bc rfl (bc ((ZaW _).2 k61) (bc ((ZaW _).2 k63) (bc (Zaa (fun h => d65 ((ZaW _).1 h))) (bc rfl (bc ((ZaW _).2 k61) b0)))))))))) q0 c0 (by (try rw [w68]);all_goals exact Zbf [0,1] (by kernel_rfl) H)
 ·exact Zac (G:=Zae kp47 [] []) 1000 [false] (vi 0) (by kernel_rfl) (bc (Zaa (fun h => d2 (ZaX.1 h))) b0) q0 c0 H
end Go.Av

namespace Go.Av
open Go.Proofs
namespace Sp
def chk:List Wo -> List AV -> List AV -> Int
 | [],_,_ => 0
 | w :: ws,ms,gs =>
  if w.l = 71 then if grp w.v = 0 \/ mapB (grp w.v) gs = true then 1 else chk ws ms (ZaF .i64 (grp w.v) (.bool true) gs)
  else if w.l = 70 /\ w.v < 0 then 1
  else if (w.l = 84 \/ w.l = 72) /\ (w.v < 0 \/ ¬w.v.tmod 1000 = 0) then 1
  else if mapB w.l ms = true then 1 else chk ws (ZaF .u8 w.l (.bool true) ms) gs
def cls (w:Wo):Int:=if w.l=71 then grp w.v else 10+w.l
def whl (w:Wo):Prop:=(w.l=70->w.v>=0)/\(w.l=84\/w.l=72->w.v>=0/\w.v.tmod 1000=0)
instance (w:Wo):Decidable (whl w):=by unfold whl;infer_instance
def okl (l:Int):Prop:=0<=l/\l<=255
end Sp
def SetM (k:IntKind) (ms:List AV):Prop:=Zam k ms=true/\ZaG ms=true
theorem setM_nil (k:IntKind):SetM k []:=⟨rfl,rfl⟩
theorem setM_put {k:IntKind} {n:Int}:∀ {ms:List AV},SetM k ms -> SetM k (ZaF k n (.bool true) ms)
 | [],_ => ⟨by simp [ZaF,Zam],by simp [ZaF,ZaG]⟩
 | x :: l,h => by
  obtain ⟨h1,h2⟩:=h
  unfold ZaG at h2
  split at h2
  ·rename_i e;cases e
  ·rename_i k' m b l' e
   simp only [List.cons.injEq] at e
   obtain ⟨rfl,rfl⟩:=e
   simp only [Zam,Bool.and_eq_true,decide_eq_true_eq] at h1
   obtain ⟨rfl,h1⟩:=h1
   simp only [ZaF]
   cases n == m with
   | true => exact ⟨by simp [Zam,h1],by simp [ZaG,h2]⟩
   | false =>
    obtain ⟨q1,q2⟩:=setM_put (n:=n) ⟨h1,h2⟩
    exact ⟨by simp [Zam,q1],by simp [ZaG,q2]⟩
  ·cases h2
theorem ck_loop {f:Bool} {ws:List Wo} (hn:ws.length <= 100000) (m:Nat):∀ (i:Nat) (ms gs:List AV),i + m = ws.length -> SetM .u8 ms -> SetM .i64 gs ->
  ZbA f ws ws.length i ms gs (Zag (.int .i64 (Sp.chk (ws.drop i) ms gs))):=by
 induction m with
 | zero =>
  intro i ms gs e hm hg
  refine mCkL _ _ _ _ _ _ _ ⟨fun x => by omega,fun _ => ?_⟩
  rw [List.drop_eq_nil_of_le (by omega)];rfl
 | succ m ih =>
  intro i ms gs e hm hg
  have hi:i < ws.length:=by omega
  refine mCkL _ _ _ _ _ _ _ ⟨fun x => ?_,fun x => by omega⟩
  rw [Int.toNat_natCast,show (i:Int) + 1 = ((i + 1:Nat):Int) by omega,drop_getD hi]
  generalize ws.getD i default = w
  have one:∀ h:¬w.l = 71,¬(w.l = 70 /\ w.v < 0) -> ¬((w.l = 84 \/ w.l = 72) /\ (w.v < 0 \/ ¬w.v.tmod 1000 = 0)) -> (Zam IntKind.u8 ms = true) /\ (ZaG ms = true) /\
    ((mapB w.l ms = true) -> AV.int .i64 1 = .int .i64 (Sp.chk (w :: ws.drop (i + 1)) ms gs)) /\
    (¬(mapB w.l ms = true) -> (-9223372036854775808 <= ((i + 1:Nat):Int) /\ ((i + 1:Nat):Int) <= 9223372036854775807) /\
     ZbA f ws ws.length (i + 1:Nat) (ZaF .u8 w.l (.bool true) ms) gs (Zag (.int .i64 (Sp.chk (w :: ws.drop (i + 1)) ms gs)))):=by
   intro h1 h2 h3
   refine ⟨hm.1,hm.2,fun k => ?_,fun k => ⟨by omega,?_⟩⟩
   ·rw [Sp.chk,if_neg h1,if_neg h2,if_neg h3,if_pos k]
   ·rw [Sp.chk,if_neg h1,if_neg h2,if_neg h3,if_neg k];exact ih (i + 1) _ _ (by omega) (setM_put hm) hg
  refine ⟨by omega,hi,fun k1 => ⟨fun _ => hg.1,fun _ => hg.2,fun k2 => ?_,fun k2 => ⟨hg.1,by omega,?_⟩⟩,fun k1 => ⟨fun k2 => ⟨fun k3 => ?_,fun k3 => ?_⟩,fun k2 => ⟨fun k3 => ⟨fun k4 => ?_,fun k4 => ?_⟩,fun k3 => ⟨fun k4 => ⟨fun k5 => ?_,fun k5 => ?_⟩,fun k4 => ?_⟩⟩⟩⟩
  ·rw [Sp.chk,if_pos k1,if_pos k2]
  ·rw [Sp.chk,if_pos k1,if_neg k2];exact ih (i + 1) _ _ (by omega) hm (setM_put hg)
  ·rw [Sp.chk,if_neg k1,if_pos ⟨k2,k3⟩]
  ·exact one k1 (fun x => k3 x.2) (fun x => by omega)
  ·rw [Sp.chk,if_neg k1,if_neg (by omega),if_pos ⟨.inl k3,k4⟩]
  ·exact one k1 (fun x => by omega) (fun x => k4 x.2)
  ·rw [Sp.chk,if_neg k1,if_neg (by omega),if_pos ⟨.inr k4,k5⟩]
  ·exact one k1 (fun x => by omega) (fun x => k5 x.2)
  ·exact one k1 (fun x => by omega) (fun x => by omega)
theorem ev47 (sk f:Bool) (ws:List Wo) (cm:List UInt8) (h:ws.length <= 100000):Ev M1 (.pure 47 [.agg [.bool sk,.vec f 2 (ws.map Wo.a),.str cm]]) (.int .i64 (Sp.chk ws [] [])) []:=
 call47 (mCk _ _ _ _ _ (ck_loop h ws.length 0 [] [] (by omega) (setM_nil _) (setM_nil _)))
theorem ev63 (l v:Int) (h:Sp.okl l):Ev M1 (.pure 63 [.agg [.int .u8 l,.int .i64 v]]) (.int .i64 (Sp.cls ⟨l,v⟩)) []:=by
 obtain ⟨h1,h2⟩:=h
 refine call63 (mCls _ _ _ ⟨fun k => ?_,fun k => ⟨by omega,by omega,?_⟩⟩)
 ·unfold Sp.cls;rw [if_pos k]
 ·unfold Sp.cls;rw [if_neg k]
theorem ev64 (l v:Int):Ev M1 (.pure 64 [.agg [.int .u8 l,.int .i64 v]]) (.bool (decide (Sp.whl ⟨l,v⟩))) []:=by
 have E (h:l = 84 \/ l = 72):(bif decide (v >= 0) then v.tmod 1000 == 0 else false) = decide (Sp.whl ⟨l,v⟩):=by
  have e:Sp.whl ⟨l,v⟩ ↔ (v >= 0 /\ v.tmod 1000 = 0):=by
   unfold Sp.whl;simp only;generalize v.tmod 1000 = t;omega
  rw [bif_and,Bool.eq_iff_iff,Bool.and_eq_true,decide_eq_true_eq,beq_iff_eq,decide_eq_true_eq]
  exact e.symm
 refine call64 (mWhl _ _ _ ⟨fun k => congrArg AV.bool ?_,fun k => ⟨fun j => congrArg AV.bool ?_,fun j => ⟨fun i => congrArg AV.bool ?_,fun i => congrArg AV.bool ?_⟩⟩⟩)
 ·refine decide_eq_decide.2 ?_;unfold Sp.whl;simp only;omega
 ·exact E (by omega)
 ·exact E (by omega)
 ·rw [eq_comm,decide_eq_true_eq];unfold Sp.whl;simp only;omega
end Go.Av

namespace Go.Av
open Go.Proofs
set_option maxRecDepth 100000
def fi50:Fi:=⟨45,[.tmp 4]⟩
def kp50:List (Nat × List Nat):=[(0,[2,3]),(1,[2,3,26]),(2,[4]),(3,[2,3,5]),(4,[2,3,5,31]),(5,[2,3,5]),(6,[2,3,5,44]),(7,[4]),(8,[4])]
def fi52:Fi:=⟨43,[.tmp 2]⟩
def kp52:List (Nat × List Nat):=[(0,[1]),(1,[1,3]),(2,[1,3,10]),(3,[1,3]),(4,[1,3,4]),(5,[1,3,4,29]),(6,[2]),(7,[1,3,4,5]),(8,[1,3,4,5,32]),(9,[1,3,4,5]),(10,[1,3,4,5,42]),(11,[2]),(12,[2])]
def mRc_at (sk f:Bool) (ws:List Wo) (cm:List UInt8) (Q:AV->Heap->Prop):Prop:=Wp M1 (.run fi52 (atC (cd Try.f52) []) [(0,.agg [.bool sk,.vec f 2 (ws.map Wo.a),.str cm])] []) Q
def ZcQ (sk f:Bool) (ws:List Wo) (cm:List UInt8) (i:Int) (Q:AV->Heap->Prop):Prop:=Wp M1 (.run fi52 (atC (cd Try.f52) [1,0,1,0,0]) [(1,.ptr 0 0 0 0),(3,.int .i64 i)] [⟨[.agg [.bool sk,.vec f 2 (ws.map Wo.a),.str cm]],3,0,false,false⟩]) Q
def ZdV (sk f:Bool) (ws:List Wo) (cm:List UInt8) (i c k:Int) (Q:AV->Heap->Prop):Prop:=Wp M1 (.run fi52 (atC (cd Try.f52) [1,0,1,0,0,1,0,0,1,1,1,0,0]) [(1,.ptr 0 0 0 0),(3,.int .i64 i),(4,.int .i64 c),(5,.int .i64 k)] [⟨[.agg [.bool sk,.vec f 2 (ws.map Wo.a),.str cm]],3,0,false,false⟩]) Q
def mEq_at (f g:Bool) (ws:List Wo) (Q:AV->Heap->Prop):Prop:=Wp M1 (.run fi50 (atC (cd Try.f50) []) [(0,.agg [.bool false,.vec f 2 (ws.map Wo.a),.str []]),(1,.agg [.bool false,.vec g 2 (ws.map Wo.a),.str []])] []) Q
def ZdW (f g:Bool) (ws:List Wo) (i:Int) (Q:AV->Heap->Prop):Prop:=Wp M1 (.run fi50 (atC (cd Try.f50) [1,1,0,1,0,0]) [(2,.ptr 0 0 0 0),(3,.ptr 1 0 0 0),(5,.int .i64 i)] [⟨[.agg [.bool false,.vec f 2 (ws.map Wo.a),.str []]],3,0,false,false⟩,⟨[.agg [.bool false,.vec g 2 (ws.map Wo.a),.str []]],3,0,false,false⟩]) Q
theorem call50 {args:List AV} {d:AV} (h:wc M1 fi50 Try.f50 args d):Ev M1 (.pure 50 args) d []:=pcl _ _ (by kernel_rfl) h
theorem call52 {args:List AV} {d:AV} (h:wc M1 fi52 Try.f52 args d):Ev M1 (.pure 52 args) d []:=pcl _ _ (by kernel_rfl) h
theorem mRc (sk f:Bool) (ws:List Wo) (cm:List UInt8)  (dq:AV) (H :
  ZcQ (sk) (f) (ws) (cm) (0) (Zag dq)) :
 mRc_at sk f ws cm (Zag dq):=by
 unfold mRc_at
 exact Zaf (G:=Zae kp52 [] []) 1000 [] ⟨(atC (cd Try.f52) [1,0,1,0,0]),[(1,AV.ptr 0 0 0 0),(3,vi 0)],[⟨[ag [vb sk,AV.vec f 2 (List.map Wo.a ws),AV.str cm]],3,0,false,false⟩],_,[],_⟩ (by kernel_rfl) b0 q0 c0 (H)
noncomputable abbrev zNmE1 (ws:List Wo) (i:Int):=ag [AV.int IntKind.u8 (ws.getD i.toNat default).l,vi (ws.getD i.toNat default).v]
theorem mRcI (sk f:Bool) (ws:List Wo) (cm:List UInt8) (i:Int)  (dq:AV) (H :
  ((i < (↑ws.length:Int)) -> (Sp.okl (ws.getD i.toNat default).l) /\
   (0 <= i) /\
   (i.toNat < ws.length) /\
   (((Sp.cls { l:=(ws.getD i.toNat default).l,v:=(ws.getD i.toNat default).v } = 0) \/ (¬(Sp.whl { l:=(ws.getD i.toNat default).l,v:=(ws.getD i.toNat default).v }))) -> vi 1 = dq) /\
   (¬((Sp.cls { l:=(ws.getD i.toNat default).l,v:=(ws.getD i.toNat default).v } = 0) \/ (¬(Sp.whl { l:=(ws.getD i.toNat default).l,v:=(ws.getD i.toNat default).v }))) -> ZdV (sk) (f) (ws) (cm) (i) (Sp.cls { l:=(ws.getD i.toNat default).l,v:=(ws.getD i.toNat default).v }) (0) (Zag dq))) /\
  (¬(i < (↑ws.length:Int)) -> vi 0 = dq)) :
 ZcQ sk f ws cm i (Zag dq):=by
 unfold ZcQ
 have w1:(List.map Wo.a ws).length = ws.length:=List.length_map ..
 have i2:(decide (i < (↑(List.map Wo.a ws).length:Int))) = true ↔ (i < (↑ws.length:Int)):=(by (try rw [w1]);all_goals exact ZaX)
 rcases xq H with ⟨d3,H⟩|⟨d3,H⟩
 ·obtain ⟨k4,k6,H⟩:=H
  have i7:(decide (i.toNat < (List.map Wo.a ws).length)) = true ↔ (i.toNat < ws.length):=(by (try rw [w1]);all_goals exact ZaX)
  obtain ⟨k8,H⟩:=H
  have i11:(!((Sp.cls { l:=(ws.getD i.toNat default).l,v:=(ws.getD i.toNat default).v } == 0) == false && true) || decide (i.toNat < (List.map Wo.a ws).length)) = true ↔ ((¬(Sp.cls { l:=(ws.getD i.toNat default).l,v:=(ws.getD i.toNat default).v } = 0)) -> (i.toNat < ws.length)):=(by (try rw [w1]);all_goals exact (i_imp (i_at (i_bf i_eq)) ZaX))
  refine Zaf (G:=Zae kp52 [(4,4,.elem ((zNmE1 ws i))),(4,5,.call (vi (Sp.cls { l:=(ws.getD i.toNat default).l,v:=(ws.getD i.toNat default).v })) none),(5,7,.elem ((zNmE1 ws i))),(5,8,.call (vb (decide (Sp.whl { l:=(ws.getD i.toNat default).l,v:=(ws.getD i.toNat default).v }))) none)] []) 12 [true] ⟨(atC (cd Try.f52) [1,0,1,0,0,1,0,0,1,0,1]),[(1,AV.ptr 0 0 0 0),(3,vi i),(4,vi (Sp.cls { l:=(ws.getD i.toNat default).l,v:=(ws.getD i.toNat default).v })),(29,vb (bif Sp.cls { l:=(ws.getD i.toNat default).l,v:=(ws.getD i.toNat default).v } == 0 then true else !decide (Sp.whl { l:=(ws.getD i.toNat default).l,v:=(ws.getD i.toNat default).v })))],[⟨[ag [vb sk,AV.vec f 2 (List.map Wo.a ws),AV.str cm]],3,0,false,false⟩],[true,(decide (i < (↑(List.map Wo.a ws).length:Int))) == true,true,decide (0 <= i),decide (i.toNat < (List.map Wo.a ws).length),!((Sp.cls { l:=(ws.getD i.toNat default).l,v:=(ws.getD i.toNat default).v } == 0) == false && true) || true,!((Sp.cls { l:=(ws.getD i.toNat default).l,v:=(ws.getD i.toNat default).v } == 0) == false && true) || decide (0 <= i),!((Sp.cls { l:=(ws.getD i.toNat default).l,v:=(ws.getD i.toNat default).v } == 0) == false && true) || decide (i.toNat < (List.map Wo.a ws).length)],[((List.map Wo.a ws).get?Internal i.toNat = some ((zNmE1 ws i))),(((Sp.cls { l:=(ws.getD i.toNat default).l,v:=(ws.getD i.toNat default).v } == 0) == false && true) = true -> (List.map Wo.a ws).get?Internal i.toNat = some ((zNmE1 ws i)))],[⟨true,false,63,[(zNmE1 ws i)],[],vi (Sp.cls { l:=(ws.getD i.toNat default).l,v:=(ws.getD i.toNat default).v }),[]⟩,⟨(Sp.cls { l:=(ws.getD i.toNat default).l,v:=(ws.getD i.toNat default).v } == 0) == false && true && true,false,64,[(zNmE1 ws i)],[],vb (decide (Sp.whl { l:=(ws.getD i.toNat default).l,v:=(ws.getD i.toNat default).v })),[]⟩]⟩ (by kernel_rfl) (bc rfl (bc (Zai (i2.2 d3)) (bc rfl (bc (ZaX.2 k6) (bc (i7.2 k8) (bc (Bool.or_true _) (bc ((i_imp (i_at (i_bf i_eq)) ZaX).2 (fun _ => k6)) (bc (i11.2 (fun _ => k8)) b0)))))))) (qc (Zeb k8) (qc (fun h => Zeb k8) q0)) (cc (fun _ => (@ev63 ((ws.getD i.toNat default).l) ((ws.getD i.toNat default).v) k4)) (cc (fun hc => ((@ev64 ((ws.getD i.toNat default).l) ((ws.getD i.toNat default).v)):Ev M1 (Conf.pure 64 [(zNmE1 ws i)]) (vb (decide (Sp.whl { l:=(ws.getD i.toNat default).l,v:=(ws.getD i.toNat default).v }))) [])) c0)) ?_
  rcases xq H with ⟨d14,H⟩|⟨d14,H⟩
  ·exact Zac (G:=Zae kp52 [] []) 1000 [true] (vi 1) (by kernel_rfl) (bc (Zai ((Zer i_eq (i_not ZaX)).2 d14)) b0) q0 c0 H
  ·exact Zaf (G:=Zae kp52 [] []) 1000 [false] ⟨(atC (cd Try.f52) [1,0,1,0,0,1,0,0,1,1,1,0,0]),[(1,AV.ptr 0 0 0 0),(3,vi i),(4,vi (Sp.cls { l:=(ws.getD i.toNat default).l,v:=(ws.getD i.toNat default).v })),(5,vi 0)],[⟨[ag [vb sk,AV.vec f 2 (List.map Wo.a ws),AV.str cm]],3,0,false,false⟩],_,[],_⟩ (by kernel_rfl) (bc (Zaa (fun h => d14 ((Zer i_eq (i_not ZaX)).1 h))) b0) q0 c0 (H)
 ·exact Zac (G:=Zae kp52 [] []) 1000 [false] (vi 0) (by kernel_rfl) (bc rfl (bc (Zaa (fun h => d3 (i2.1 h))) b0)) q0 c0 H
theorem mRcK (sk f:Bool) (ws:List Wo) (cm:List UInt8) (i c k:Int)  (dq:AV) (H :
  ((k < i) -> (Sp.okl (ws.getD k.toNat default).l) /\
   (0 <= k) /\
   (k.toNat < ws.length) /\
   ((Sp.cls { l:=(ws.getD k.toNat default).l,v:=(ws.getD k.toNat default).v } = c) -> vi 1 = dq) /\
   (¬(Sp.cls { l:=(ws.getD k.toNat default).l,v:=(ws.getD k.toNat default).v } = c) -> (-9223372036854775808 <= k + 1 /\ k + 1 <= 9223372036854775807) /\
    ZdV (sk) (f) (ws) (cm) (i) (c) (k + 1) (Zag dq))) /\
  (¬(k < i) -> (-9223372036854775808 <= i + 1 /\ i + 1 <= 9223372036854775807) /\
   ZcQ (sk) (f) (ws) (cm) (i + 1) (Zag dq))) :
 ZdV sk f ws cm i c k (Zag dq):=by
 unfold ZdV
 rcases xq H with ⟨d2,H⟩|⟨d2,H⟩
 ·obtain ⟨k3,k5,H⟩:=H
  have w6:(List.map Wo.a ws).length = ws.length:=List.length_map ..
  have i7:(decide (k.toNat < (List.map Wo.a ws).length)) = true ↔ (k.toNat < ws.length):=(by (try rw [w6]);all_goals exact ZaX)
  obtain ⟨k8,H⟩:=H
  refine Zaf (G:=Zae kp52 [(10,4,.elem (ag [AV.int IntKind.u8 (ws.getD k.toNat default).l,vi (ws.getD k.toNat default).v])),(10,5,.call (vi (Sp.cls { l:=(ws.getD k.toNat default).l,v:=(ws.getD k.toNat default).v })) none)] []) 9 [true] ⟨(atC (cd Try.f52) [1,0,1,0,0,1,0,0,1,1,1,0,0,1,0,0,1]),[(1,AV.ptr 0 0 0 0),(3,vi i),(4,vi c),(5,vi k),(42,vb (Sp.cls { l:=(ws.getD k.toNat default).l,v:=(ws.getD k.toNat default).v } == c))],[⟨[ag [vb sk,AV.vec f 2 (List.map Wo.a ws),AV.str cm]],3,0,false,false⟩],_,[((List.map Wo.a ws).get?Internal k.toNat = some (ag [AV.int IntKind.u8 (ws.getD k.toNat default).l,vi (ws.getD k.toNat default).v]))],_⟩ (by kernel_rfl) (bc (Zai (ZaX.2 d2)) (bc rfl (bc (ZaX.2 k5) (bc (i7.2 k8) b0)))) (qc (Zeb k8) q0) (ce (@ev63 ((ws.getD k.toNat default).l) ((ws.getD k.toNat default).v) k3) c0) ?_
  rcases xq H with ⟨d10,H⟩|⟨d10,H⟩
  ·exact Zac (G:=Zae kp52 [] []) 1000 [true] (vi 1) (by kernel_rfl) (bc (Zai (i_eq.2 d10)) b0) q0 c0 H
  ·obtain ⟨k11,H⟩:=H
   have w12:wi (k + 1) = k + 1:=wI64 k11
   exact Zaf (G:=Zae kp52 [] []) 1000 [false] ⟨(atC (cd Try.f52) [1,0,1,0,0,1,0,0,1,1,1,0,0]),[(1,AV.ptr 0 0 0 0),(3,vi i),(4,vi c),(5,vi (wi (k + 1)))],[⟨[ag [vb sk,AV.vec f 2 (List.map Wo.a ws),AV.str cm]],3,0,false,false⟩],_,[],_⟩ (by kernel_rfl) (bc (Zaa (fun h => d10 (i_eq.1 h))) b0) q0 c0 (by (try rw [w12]);all_goals exact H)
 ·obtain ⟨k13,H⟩:=H
  have w14:wi (i + 1) = i + 1:=wI64 k13
  exact Zaf (G:=Zae kp52 [] []) 1000 [false] ⟨(atC (cd Try.f52) [1,0,1,0,0]),[(1,AV.ptr 0 0 0 0),(3,vi (wi (i + 1)))],[⟨[ag [vb sk,AV.vec f 2 (List.map Wo.a ws),AV.str cm]],3,0,false,false⟩],_,[],_⟩ (by kernel_rfl) (bc (Zaa (fun h => d2 (ZaX.1 h))) b0) q0 c0 (by (try rw [w14]);all_goals exact H)
theorem mEq (f g:Bool) (ws:List Wo)  (dq:AV) (H :
  ((¬(↑ws.length:Int) = (↑ws.length:Int)) -> vb false = dq) /\
  (¬(¬(↑ws.length:Int) = (↑ws.length:Int)) -> ZdW (f) (g) (ws) (0) (Zag dq))) :
 mEq_at f g ws (Zag dq):=by
 unfold mEq_at
 have w1:(List.map Wo.a ws).length = ws.length:=List.length_map ..
 have i2:((↑(List.map Wo.a ws).length:Int) != (↑(List.map Wo.a ws).length:Int)) = true ↔ (¬(↑ws.length:Int) = (↑ws.length:Int)):=(by (try rw [w1]);all_goals exact i_ne)
 rcases xq H with ⟨d3,H⟩|⟨d3,H⟩
 ·exact Zac (G:=Zae kp50 [] []) 1000 [true] (vb false) (by kernel_rfl) (bc rfl (bc rfl (bc rfl (bc rfl (bc rfl (bc rfl (bc (Zai (i2.2 d3)) b0))))))) q0 c0 H
 ·exact Zaf (G:=Zae kp50 [] []) 1000 [false] ⟨(atC (cd Try.f50) [1,1,0,1,0,0]),[(2,AV.ptr 0 0 0 0),(3,AV.ptr 1 0 0 0),(5,vi 0)],[⟨[ag [vb false,AV.vec f 2 (List.map Wo.a ws),AV.str []]],3,0,false,false⟩,⟨[ag [vb false,AV.vec g 2 (List.map Wo.a ws),AV.str []]],3,0,false,false⟩],_,[],_⟩ (by kernel_rfl) (bc rfl (bc rfl (bc rfl (bc rfl (bc rfl (bc rfl (bc (Zaa (fun h => d3 (i2.1 h))) b0))))))) q0 c0 (H)
noncomputable abbrev zNmE2 (ws:List Wo) (i:Int):=ag [AV.int IntKind.u8 (ws.getD i.toNat default).l,vi (ws.getD i.toNat default).v]
theorem mEqL (f g:Bool) (ws:List Wo) (i:Int)  (dq:AV) (H :
  ((i < (↑ws.length:Int)) -> (0 <= i) /\
   (i.toNat < ws.length) /\
   ((¬(((ws.getD i.toNat default).l = (ws.getD i.toNat default).l) /\ ((ws.getD i.toNat default).v = (ws.getD i.toNat default).v))) -> vb false = dq) /\
   (¬(¬(((ws.getD i.toNat default).l = (ws.getD i.toNat default).l) /\ ((ws.getD i.toNat default).v = (ws.getD i.toNat default).v))) -> (-9223372036854775808 <= i + 1 /\ i + 1 <= 9223372036854775807) /\
    ZdW (f) (g) (ws) (i + 1) (Zag dq))) /\
  (¬(i < (↑ws.length:Int)) -> vb true = dq)) :
 ZdW f g ws i (Zag dq):=by
 unfold ZdW
 have w1:(List.map Wo.a ws).length = ws.length:=List.length_map ..
 have i2:(decide (i < (↑(List.map Wo.a ws).length:Int))) = true ↔ (i < (↑ws.length:Int)):=(by (try rw [w1]);all_goals exact ZaX)
 rcases xq H with ⟨d3,H⟩|⟨d3,H⟩
 ·obtain ⟨k5,H⟩:=H
  have i6:(decide (i.toNat < (List.map Wo.a ws).length)) = true ↔ (i.toNat < ws.length):=(by (try rw [w1]);all_goals exact ZaX)
  obtain ⟨k7,H⟩:=H
  have i9:(decide (i.toNat < (List.map Wo.a ws).length)) = true ↔ (i.toNat < ws.length):=(by (try rw [w1]);all_goals exact ZaX)
  refine Zaf (G:=Zae kp50 [(6,4,.elem (zNmE2 ws i)),(6,9,.elem (zNmE2 ws i))] []) 9 [true] ⟨(atC (cd Try.f50) [1,1,0,1,0,0,1,0,0,1]),[(2,AV.ptr 0 0 0 0),(3,AV.ptr 1 0 0 0),(5,vi i),(44,vb !((ws.getD i.toNat default).l == (ws.getD i.toNat default).l && ((ws.getD i.toNat default).v == (ws.getD i.toNat default).v && true)))],[⟨[ag [vb false,AV.vec f 2 (List.map Wo.a ws),AV.str []]],3,0,false,false⟩,⟨[ag [vb false,AV.vec g 2 (List.map Wo.a ws),AV.str []]],3,0,false,false⟩],_,[((List.map Wo.a ws).get?Internal i.toNat = some (zNmE2 ws i)),((List.map Wo.a ws).get?Internal i.toNat = some (zNmE2 ws i))],_⟩ (by kernel_rfl) (bc rfl (bc (Zai (i2.2 d3)) (bc rfl (bc (ZaX.2 k5) (bc (i6.2 k7) (bc rfl (bc (ZaX.2 k5) (bc (i9.2 k7) b0)))))))) (qc (Zeb k7) (qc (Zeb k7) q0)) c0 ?_
  rcases xq H with ⟨d11,H⟩|⟨d11,H⟩
  ·exact Zac (G:=Zae kp50 [] []) 1000 [true] (vb false) (by kernel_rfl) (bc (Zai ((i_not (i_and i_eq (i_at i_eq))).2 d11)) b0) q0 c0 H
  ·obtain ⟨k12,H⟩:=H
   have w13:wi (i + 1) = i + 1:=wI64 k12
   exact Zaf (G:=Zae kp50 [] []) 1000 [false] ⟨(atC (cd Try.f50) [1,1,0,1,0,0]),[(2,AV.ptr 0 0 0 0),(3,AV.ptr 1 0 0 0),(5,vi (wi (i + 1)))],[⟨[ag [vb false,AV.vec f 2 (List.map Wo.a ws),AV.str []]],3,0,false,false⟩,⟨[ag [vb false,AV.vec g 2 (List.map Wo.a ws),AV.str []]],3,0,false,false⟩],_,[],_⟩ (by kernel_rfl) (bc (Zaa (fun h => d11 ((i_not (i_and i_eq (i_at i_eq))).1 h))) b0) q0 c0 (by (try rw [w13]);all_goals exact H)
 ·exact Zac (G:=Zae kp50 [] []) 1000 [false] (vb true) (by kernel_rfl) (bc rfl (bc (Zaa (fun h => d3 (i2.1 h))) b0)) q0 c0 H
end Go.Av

namespace Go.Av
open Go.Proofs
def linT:List (Nat × List (Nat × List Nat)):=[(26,[(0,[0]),(1,[3]),(2,[3,4]),(3,[3,4]),(4,[3,4]),(5,[3,4]),(6,[3,4]),(7,[3,4]),(8,[3,4]),(9,[3,4]),(10,[2]),(11,[3,13]),(12,[3,13]),(13,[2]),(14,[3,16]),(15,[3,16]),(16,[3,16]),(17,[3,16]),(18,[3,16]),(19,[3,16]),(20,[2]),(21,[3,23]),(22,[3,23]),(23,[2]),(24,[3,26]),(25,[26]),(26,[2]),(27,[2])]),
 (32,[(0,[1,2]),(1,[1,2,3]),(2,[1,2,3,16,17,18]),(3,[1,2,3,16,17,18,19]),(4,[1,2,3,5,16,17,18]),(5,[1,2,3,16,17,18]),(6,[1,2,3,16,17,18]),(7,[2,3]),(8,[2])]),
 (34,[(0,[1,2]),(1,[2])]),
 (51,[(0,[2,3,4]),(1,[2,3,4,7]),(2,[2,3,4,7,8]),(3,[2,3,4,5]),(4,[2,4]),(5,[2,3,4,7,26]),(6,[2,4]),(7,[2,3,4,7,31]),(8,[2,4]),(9,[2,3,4,36]),(10,[2,4]),(11,[4])])]
def awkT:List (Nat × List (Nat × List Nat)):=[(25,[(0,[]),(1,[1,2]),(2,[1,2,3,4]),(3,[1,2,3,4,5,6]),(4,[0])]),
 (26,[(0,[0]),(1,[3]),(2,[3,4]),(3,[3,4]),(4,[3,4]),(5,[3,4]),(6,[3,4]),(7,[3,4]),(8,[3,4]),(9,[3,4]),(10,[2]),(11,[3,13]),(12,[3,13]),(13,[2]),(14,[3,16]),(15,[3,16]),(16,[3,16]),(17,[3,16]),(18,[3,16]),(19,[3,16]),(20,[2]),(21,[3,23]),(22,[3,23]),(23,[2]),(24,[3,26]),(25,[26]),(26,[2]),(27,[2])]),
 (28,[(0,[0]),(1,[0])]),
 (33,[(0,[0,1]),(1,[0,1,10]),(2,[4]),(3,[0,1,5]),(4,[0,1,5,14]),(5,[0,1,5]),(6,[0,1,5,26]),(7,[4]),(8,[4])]),
 (35,[(0,[2,3,4]),(1,[2,3,4,6]),(2,[2,3,4,6,12]),(3,[4,5]),(4,[2,4,16,17,18]),(5,[2,4,16,17,18,19]),(6,[2,4,8,16,17,18]),(7,[2,4,16,17,18]),(8,[2,4,16,17,18]),(9,[4,5])]),
 (45,[(0,[0,2]),(1,[2,3]),(2,[2])]),
 (46,[(0,[1,2]),(1,[1,2,6]),(2,[2,6,12,13,14]),(3,[2,6,12,13,14,15]),(4,[2,6,8,12,13,14]),(5,[2,6,8,9,10,12,13,14]),(6,[2,6,8,9,10,12,13,14,25]),(7,[4,5]),(8,[2,6,8,9,11,12,13,14]),(9,[2,6,9,11,12,13,14]),(10,[2,6,9,11,12,13,14,46]),(11,[2,6,9,12,13,14]),(12,[2,6,12,13,14]),(13,[2,6,12,13,14]),(14,[4,5])]),
 (47,[(0,[1]),(1,[1,3]),(2,[1,3,4]),(3,[3,4,11,12,13]),(4,[3,4,11,12,13,14]),(5,[3,4,6,11,12,13]),(6,[3,4,6,11,12,13,18]),(7,[3,4,6,11,12,13,18,19]),(8,[3,4,7,11,12,13]),(9,[3,4,7,11,12,13,30]),(10,[2]),(11,[3,4,11,12,13]),(12,[3,4,6,11,12,13,18,33]),(13,[3,4,6,11,12,13,37]),(14,[2]),(15,[3,4,6,11,12,13,18,38]),(16,[3,4,6,11,12,13,38]),(17,[3,4,6,11,12,13,49]),(18,[2]),(19,[3,4,6,11,12,13,53]),(20,[2]),(21,[3,4,11,12,13]),(22,[3,4,11,12,13]),(23,[2])]),
 (50,[(0,[2,3]),(1,[2,3,26]),(2,[4]),(3,[2,3,5]),(4,[2,3,5,31]),(5,[2,3,5]),(6,[2,3,5,44]),(7,[4]),(8,[4])]),
 (51,[(0,[2,3,4]),(1,[2,3,4,7]),(2,[2,3,4,7,8]),(3,[2,3,4,5]),(4,[2,4]),(5,[2,3,4,7,26]),(6,[2,4]),(7,[2,3,4,7,31]),(8,[2,4]),(9,[2,3,4,36]),(10,[2,4]),(11,[4])]),
 (58,[(0,[0,2]),(1,[0,2,16]),(2,[2,3,4]),(3,[0,2,5]),(4,[0,2,5,6]),(5,[0,2,5,6,24]),(6,[0,2,5,6]),(7,[0,2,5,6,7]),(8,[0,2,5,6,33]),(9,[0,2,5,6,7]),(10,[0,2,5,6,37]),(11,[2,3,4]),(12,[0,2,5,6,43]),(13,[2,5,8,9,10]),(14,[2,5,8,9,10,52]),(15,[2,3,4]),(16,[2,5]),(17,[2,3,4]),(18,[0,2,5,6,68]),(19,[2,3,4]),(20,[0,2,5,6,74]),(21,[2,3,4]),(22,[0,2,5,6,11]),(23,[0,2,5,6,11,88]),(24,[0,2,5,6,11]),(25,[0,2,5,6,11,12,13]),(26,[0,2,5,6,11,12,13,101]),(27,[2,3,4]),(28,[0,2,5,11]),(29,[0,2,5,11,118]),(30,[2,3,4]),(31,[0,2,5,11,123]),(32,[2,3,4]),(33,[0,2,5,6]),(34,[2,3,4])]),
 (59,[(0,[0,1]),(1,[0,1,5]),(2,[0,1,5,12]),(3,[4]),(4,[0,1,5,6]),(5,[0,1,5,6,19]),(6,[0,1,5,6]),(7,[0,1,5,6,7]),(8,[0,1,5,6,7,29]),(9,[0,1,5,6]),(10,[0,1,5,6]),(11,[0,5]),(12,[4])]),
 (60,[(0,[0]),(1,[0,4]),(2,[2]),(3,[2])]),
 (61,[(0,[1,2]),(1,[3])]),
 (62,[(0,[2,3]),(1,[2,3,6]),(2,[4]),(3,[2,3,6,7]),(4,[2,3,16]),(5,[4]),(6,[2,3,6,17]),(7,[2,3,6,17]),(8,[2,3,17]),(9,[4])]),
 (65,[(0,[0]),(1,[2])]),
 (68,[(0,[0,1]),(1,[0,1,7]),(2,[0,1,7,19]),(3,[0,1,7]),(4,[0,1,7,26]),(5,[4,5,6]),(6,[0,1,7,43]),(7,[4,5,6]),(8,[0,1,7,49]),(9,[4,5,6]),(10,[4,5,6])]),
 (69,[(0,[0]),(1,[2])]),
 (70,[(0,[0]),(1,[0,4,5,6]),(2,[0,4,5,6,7,8]),(3,[0,4,5,6,7,8,9]),(4,[0,4,5,6,7,8,9,14]),(5,[0,4,5,6,7,8,9]),(6,[2,3]),(7,[0,4,5,6,7,8,9,17]),(8,[0,4,5,6,7,8,9]),(9,[0,4,5,6,7,8,9,26]),(10,[0,4,5,6,7,8,9]),(11,[0,4,5,6,7,8,9,39]),(12,[0,4,5,6,7,8,9]),(13,[0,4,5,6,7,8,9,63]),(14,[0,4,5,6,7,8,9]),(15,[0,4,5,6,7,8,9,64]),(16,[0,4,5,6,7,8,9]),(17,[4,5,6,7,8,91]),(18,[2,3]),(19,[4,5,6,7,8,97]),(20,[4,5,6,7,8]),(21,[7,8,10]),(22,[7,10,110]),(23,[2,3]),(24,[10,111]),(25,[2,3]),(26,[2,3])]),
 (71,[(0,[0,1]),(1,[0,1,7,8]),(2,[0,1,7,8,9]),(3,[0,1,5,7,8]),(4,[0,1,5,7,8,16]),(5,[4]),(6,[0,1,7,8]),(7,[4])]),
 (73,[(0,[0]),(1,[0,12]),(2,[0,14]),(3,[2]),(4,[0]),(5,[0,3]),(6,[0,3,4]),(7,[0,3,4,22]),(8,[0,3,4]),(9,[0,3,4,28]),(10,[0,3,4]),(11,[0,3,40]),(12,[2]),(13,[2])])]
noncomputable def awkG:EG:=⟨awkT,[],[],[(51,[(3,[5])])]⟩
end Go.Av

namespace Go.Av
open Go.Proofs
structure Ms where
 m:Int
 d:Int
 w:Int
 l:Int
 r:Int
 f:Int
 t:Int
 h:Int
namespace Sp
def rok (ws:List Wo):Prop:=∀ i,i<ws.length->¬cls (ws.getD i default)=0/\whl (ws.getD i default) /\ ∀ k,k<i->¬cls (ws.getD k default)=cls (ws.getD i default)
open Classical in
noncomputable def rchk (ws:List Wo):Int:=if rok ws then 0 else 1
def okls (ws:List Wo):Prop:=ws.length<=100000 /\ ∀ w ∈ ws,okl w.l
def lw (s:Ms):List Wo:=[⟨71,s.m⟩,⟨71,s.d⟩,⟨71,s.w⟩,⟨71,s.l⟩,⟨71,s.r⟩,⟨70,s.f⟩,⟨84,s.t⟩,⟨72,s.h⟩]
def put (s:Ms) (w:Wo):Ms:=
 if w.l = 71 then
  if grp w.v = 1 then { s with m:=w.v } else if grp w.v = 2 then { s with d:=w.v } else if grp w.v = 3 then { s with w:=w.v } else if grp w.v = 4 then { s with l:=w.v } else { s with r:=w.v }
 else if w.l = 70 then { s with f:=w.v } else if w.l = 84 then { s with t:=w.v } else { s with h:=w.v }
def okPut (w:Wo):Prop:=(w.l=71/\¬grp w.v=0)\/w.l=70\/w.l=84\/w.l=72
end Sp
theorem rc_no {ws:List Wo} (h:¬Sp.rok ws):AV.int .i64 1 = .int .i64 (Sp.rchk ws):=by unfold Sp.rchk;rw [if_neg h]
theorem rc_in {sk f:Bool} {ws:List Wo} {cm:List UInt8} (ho:Sp.okls ws) {i:Nat} (hi:i < ws.length) (hk:ZcQ sk f ws cm (i + 1:Nat) (Zag (.int .i64 (Sp.rchk ws))) \/ ∃ k,k < i /\ Sp.cls (ws.getD k default) = Sp.cls (ws.getD i default)) (m:Nat):∀ k:Nat,k + m = i ->
  (∀ j,j < k -> ¬Sp.cls (ws.getD j default) = Sp.cls (ws.getD i default)) -> ZdV sk f ws cm i (Sp.cls (ws.getD i default)) k (Zag (.int .i64 (Sp.rchk ws))):=by
 have hl:=ho.1
 induction m with
 | zero =>
  intro k e hn
  refine mRcK _ _ _ _ _ _ _ _ ⟨fun x => by omega,fun _ => ⟨by omega,?_⟩⟩
  rw [show (i:Int) + 1 = ((i + 1:Nat):Int) by omega]
  rcases hk with hk | ⟨j,h1,h2⟩
  ·exact hk
  ·exact absurd h2 (hn j (by omega))
 | succ m ih =>
  intro k e hn
  refine mRcK _ _ _ _ _ _ _ _ ⟨fun _ => ?_,fun x => by omega⟩
  rw [Int.toNat_natCast,show (k:Int) + 1 = ((k + 1:Nat):Int) by omega]
  have hkl:k < ws.length:=by omega
  refine ⟨ho.2 _ (getD_mem hkl),by omega,hkl,fun c => rc_no fun r => (r i hi).2.2 k (by omega) c,fun c => ⟨by omega,ih (k + 1) (by omega) fun j hj => ?_⟩⟩
  by_cases ej:j = k
  ·subst ej;exact c
  ·exact hn j (by omega)
theorem rc_loop {sk f:Bool} {ws:List Wo} {cm:List UInt8} (ho:Sp.okls ws) (m:Nat):∀ i:Nat,i + m = ws.length ->
  (∀ j,j < i -> ¬Sp.cls (ws.getD j default) = 0 /\ Sp.whl (ws.getD j default) /\ ∀ k,k < j -> ¬Sp.cls (ws.getD k default) = Sp.cls (ws.getD j default)) ->
  ZcQ sk f ws cm i (Zag (.int .i64 (Sp.rchk ws))):=by
 induction m with
 | zero =>
  intro i e hd
  refine mRcI _ _ _ _ _ _ ⟨fun x => by omega,fun _ => ?_⟩
  unfold Sp.rchk;rw [if_pos (show Sp.rok ws from fun j hj => hd j (by omega))]
 | succ m ih =>
  intro i e hd
  have hi:i < ws.length:=by omega
  refine mRcI _ _ _ _ _ _ ⟨fun x => ?_,fun x => by omega⟩
  rw [Int.toNat_natCast]
  refine ⟨ho.2 _ (getD_mem hi),by omega,hi,fun c => rc_no fun r => ?_,fun c => ?_⟩
  ·rcases c with c | c
   ·exact (r i hi).1 c
   ·exact c (r i hi).2.1
  ·refine rc_in ho hi ?_ i 0 (by omega) (by intro j hj;omega)
   by_cases hk:∃ k,k < i /\ Sp.cls (ws.getD k default) = Sp.cls (ws.getD i default)
   ·exact .inr hk
   ·refine .inl (ih (i + 1) (by omega) fun j hj => ?_)
    by_cases ej:j = i
    ·subst ej
     exact ⟨fun x => c (.inl x),Classical.not_not.1 fun x => c (.inr x),fun k h1 h2 => hk ⟨k,h1,h2⟩⟩
    ·exact hd j (by omega)
theorem ev52 (sk f:Bool) (ws:List Wo) (cm:List UInt8) (h:Sp.okls ws):Ev M1 (.pure 52 [.agg [.bool sk,.vec f 2 (ws.map Wo.a),.str cm]]) (.int .i64 (Sp.rchk ws)) []:=
 call52 (mRc _ _ _ _ _ (rc_loop h ws.length 0 (by omega) (by intro j hj;omega)))
theorem eq_loop {f g:Bool} {ws:List Wo} (hl:ws.length <= 100000) (m:Nat):∀ i:Nat,i + m = ws.length -> ZdW f g ws i (Zag (.bool true)):=by
 induction m with
 | zero => exact fun i e => mEqL _ _ _ _ _ ⟨fun x => by omega,fun _ => rfl⟩
 | succ m ih =>
  intro i e
  refine mEqL _ _ _ _ _ ⟨fun x => ?_,fun x => by omega⟩
  rw [Int.toNat_natCast,show (i:Int) + 1 = ((i + 1:Nat):Int) by omega]
  exact ⟨by omega,by omega,fun k => absurd ⟨rfl,rfl⟩ k,fun _ => ⟨by omega,ih (i + 1) (by omega)⟩⟩
theorem ev50 (f g:Bool) (ws:List Wo) (h:ws.length <= 100000):Ev M1 (.pure 50 [.agg [.bool false,.vec f 2 (ws.map Wo.a),.str []],.agg [.bool false,.vec g 2 (ws.map Wo.a),.str []]]) (.bool true) []:=
 call50 (mEq _ _ _ _ ⟨fun k => absurd rfl k,fun _ => eq_loop h ws.length 0 (by omega)⟩)
noncomputable def linG:EG:=⟨linT,[],[],[(51,[(3,[5])])]⟩
theorem linK:KnownOk M1 linG:=fun _ h=>nomatch h
set_option maxRecDepth 1000000 in
theorem ev32 (s0 s1 s2 s3 s4 s5 s6 s7:Int):Ev M1 (.pure 32 [.agg [.int .i64 s0,.int .i64 s1,.int .i64 s2,.int .i64 s3,.int .i64 s4,.int .i64 s5,.int .i64 s6,.int .i64 s7]]) (.agg [.bool false,.vec false 2 ((Sp.lw ⟨s0,s1,s2,s3,s4,s5,s6,s7⟩).map Wo.a),.str []]) []:=Zcp linK 10 (by kernel_rfl)
set_option maxRecDepth 1000000 in
theorem ev34 (s0 s1 s2 s3 s4 s5 s6 s7:Int):Ev M1 (.pure 34 [.agg [.int .i64 s0,.int .i64 s1,.int .i64 s2,.int .i64 s3,.int .i64 s4,.int .i64 s5,.int .i64 s6,.int .i64 s7]]) (.agg [.bool false,.vec true 2 ((Sp.lw ⟨s0,s1,s2,s3,s4,s5,s6,s7⟩).map Wo.a),.str []]) []:=Zcp linK 10 (by kernel_rfl)
set_option maxRecDepth 1000000 in
theorem ev51 (s0 s1 s2 s3 s4 s5 s6 s7 l v:Int) (h:Sp.okPut ⟨l,v⟩):Ev M1 (.pure 51 [.agg [.int .i64 s0,.int .i64 s1,.int .i64 s2,.int .i64 s3,.int .i64 s4,.int .i64 s5,.int .i64 s6,.int .i64 s7],.agg [.int .u8 l,.int .i64 v]])
  (.agg [.int .i64 (Sp.put ⟨s0,s1,s2,s3,s4,s5,s6,s7⟩ ⟨l,v⟩).m,.int .i64 (Sp.put ⟨s0,s1,s2,s3,s4,s5,s6,s7⟩ ⟨l,v⟩).d,.int .i64 (Sp.put ⟨s0,s1,s2,s3,s4,s5,s6,s7⟩ ⟨l,v⟩).w,.int .i64 (Sp.put ⟨s0,s1,s2,s3,s4,s5,s6,s7⟩ ⟨l,v⟩).l,.int .i64 (Sp.put ⟨s0,s1,s2,s3,s4,s5,s6,s7⟩ ⟨l,v⟩).r,.int .i64 (Sp.put ⟨s0,s1,s2,s3,s4,s5,s6,s7⟩ ⟨l,v⟩).f,.int .i64 (Sp.put ⟨s0,s1,s2,s3,s4,s5,s6,s7⟩ ⟨l,v⟩).t,.int .i64 (Sp.put ⟨s0,s1,s2,s3,s4,s5,s6,s7⟩ ⟨l,v⟩).h]) []:=by
 rcases h with ⟨h1,h2⟩ | h | h | h
 ·simp only at h1 h2
  subst h1
  have hv:v ∈ [0,1000,2000,3000,80000,81000,82000,83000,90000,91000,54000,55000,56000,57000,58000,59000,43000,49000,98000,(99000:Int)]:=Classical.not_not.1 fun x => h2 (grp_no fun k hk e => x (e ▸ hk))
  simp only [List.mem_cons,List.not_mem_nil,or_false] at hv
  rcases hv with rfl | rfl | rfl | rfl | rfl | rfl | rfl | rfl | rfl | rfl | rfl | rfl | rfl | rfl | rfl | rfl | rfl | rfl | rfl | rfl <;> exact Zcp linK 10 (by kernel_rfl)
 ·simp only at h;subst h;exact Zcp linK 10 (by kernel_rfl)
 ·simp only at h;subst h;exact Zcp linK 10 (by kernel_rfl)
 ·simp only at h;subst h;exact Zcp linK 10 (by kernel_rfl)
end Go.Av

namespace Go.Av
open Go.Proofs
set_option maxRecDepth 100000
def fi33:Fi:=⟨27,[.tmp 4]⟩
def kp33:List (Nat × List Nat):=[(0,[0,1]),(1,[0,1,10]),(2,[4]),(3,[0,1,5]),(4,[0,1,5,14]),(5,[0,1,5]),(6,[0,1,5,26]),(7,[4]),(8,[4])]
def fi35:Fi:=⟨27,[.cell 4 66,.tmp 5]⟩
def kp35:List (Nat × List Nat):=[(0,[2,3,4]),(1,[2,3,4,6]),(2,[2,3,4,6,12]),(3,[4,5]),(4,[2,4,16,17,18]),(5,[2,4,16,17,18,19]),(6,[2,4,8,16,17,18]),(7,[2,4,16,17,18]),(8,[2,4,16,17,18]),(9,[4,5])]
def fi36:Fi:=⟨32,[.tmp 2]⟩
def kp36:List (Nat × List Nat):=[(0,[1]),(1,[1,3]),(2,[1,3,4]),(3,[1,3,4,17]),(4,[1,3,4]),(5,[1,3,4,27]),(6,[2]),(7,[2])]
def mSa_at (f g:Bool) (ws:List Wo) (Q:AV->Heap->Prop):Prop:=Wp M1 (.run fi33 (atC (cd Try.f33) []) [(0,.vec true 3 [.agg [.bool false,.vec f 2 (ws.map Wo.a),.str []]]),(1,.vec true 3 [.agg [.bool false,.vec g 2 (ws.map Wo.a),.str []]])] []) Q
def mSa0_at (f g:Bool) (ws:List Wo) (Q:AV->Heap->Prop):Prop:=Wp M1 (.run fi33 (atC (cd Try.f33) [1,1,0,1,0,0]) [(0,.vec true 3 [.agg [.bool false,.vec f 2 (ws.map Wo.a),.str []]]),(1,.vec true 3 [.agg [.bool false,.vec g 2 (ws.map Wo.a),.str []]]),(5,.int .i64 0)] []) Q
def mSa1_at (f g:Bool) (ws:List Wo) (Q:AV->Heap->Prop):Prop:=Wp M1 (.run fi33 (atC (cd Try.f33) [1,1,0,1,0,0]) [(0,.vec true 3 [.agg [.bool false,.vec f 2 (ws.map Wo.a),.str []]]),(1,.vec true 3 [.agg [.bool false,.vec g 2 (ws.map Wo.a),.str []]]),(5,.int .i64 1)] []) Q
def mAp_at (s0 s1 s2 s3 s4 s5 s6 s7:Int) (sk f:Bool) (ws:List Wo) (cm:List UInt8) (Q:AV->Heap->Prop):Prop:=Wp M1 (.run fi35 (atC (cd Try.f35) []) [(0,.agg [.int .i64 s0,.int .i64 s1,.int .i64 s2,.int .i64 s3,.int .i64 s4,.int .i64 s5,.int .i64 s6,.int .i64 s7]),(1,.agg [.bool sk,.vec f 2 (ws.map Wo.a),.str cm])] []) Q
def ZdX (s0 s1 s2 s3 s4 s5 s6 s7:Int) (f:Bool) (ws:List Wo) (n i:Int) (Q:AV->Heap->Prop):Prop:=Wp M1 (.run fi35 (atC (cd Try.f35) [1,1,0,1,0,0]) [(2,.ptr 0 0 0 0),(4,.ptr 1 0 0 0),(16,.vec f 2 (ws.map Wo.a)),(17,.int .i64 n),(18,.int .i64 i)] [⟨[.agg [.int .i64 s0,.int .i64 s1,.int .i64 s2,.int .i64 s3,.int .i64 s4,.int .i64 s5,.int .i64 s6,.int .i64 s7]],8,0,false,false⟩,⟨[.agg [.int .i64 0,.int .i64 0,.int .i64 0,.int .i64 0,.int .i64 0,.int .i64 0,.int .i64 0,.int .i64 0]],8,0,false,false⟩]) Q
def mRe_at (s0 s1 s2 s3 s4 s5 s6 s7:Int) (Q:AV->Heap->Prop):Prop:=Wp M1 (.run fi36 (atC (cd Try.f36) []) [(0,.agg [.int .i64 s0,.int .i64 s1,.int .i64 s2,.int .i64 s3,.int .i64 s4,.int .i64 s5,.int .i64 s6,.int .i64 s7])] []) Q
def mRe0_at (s0 s1 s2 s3 s4 s5 s6 s7:Int) (Q:AV->Heap->Prop):Prop:=Wp M1 (.run fi36 (atC (cd Try.f36) [1,1,0,1,0,0]) [(1,.ptr 0 0 0 0),(3,.vec true 1 [.int .i64 s0,.int .i64 s1,.int .i64 s2,.int .i64 s3,.int .i64 s4]),(4,.int .i64 0)] [⟨[.agg [.int .i64 s0,.int .i64 s1,.int .i64 s2,.int .i64 s3,.int .i64 s4,.int .i64 s5,.int .i64 s6,.int .i64 s7]],8,0,false,false⟩]) Q
def mRe1_at (s0 s1 s2 s3 s4 s5 s6 s7:Int) (Q:AV->Heap->Prop):Prop:=Wp M1 (.run fi36 (atC (cd Try.f36) [1,1,0,1,0,0]) [(1,.ptr 0 0 0 0),(3,.vec true 1 [.int .i64 s0,.int .i64 s1,.int .i64 s2,.int .i64 s3,.int .i64 s4]),(4,.int .i64 1)] [⟨[.agg [.int .i64 s0,.int .i64 s1,.int .i64 s2,.int .i64 s3,.int .i64 s4,.int .i64 s5,.int .i64 s6,.int .i64 s7]],8,0,false,false⟩]) Q
def mRe2_at (s0 s1 s2 s3 s4 s5 s6 s7:Int) (Q:AV->Heap->Prop):Prop:=Wp M1 (.run fi36 (atC (cd Try.f36) [1,1,0,1,0,0]) [(1,.ptr 0 0 0 0),(3,.vec true 1 [.int .i64 s0,.int .i64 s1,.int .i64 s2,.int .i64 s3,.int .i64 s4]),(4,.int .i64 2)] [⟨[.agg [.int .i64 s0,.int .i64 s1,.int .i64 s2,.int .i64 s3,.int .i64 s4,.int .i64 s5,.int .i64 s6,.int .i64 s7]],8,0,false,false⟩]) Q
def mRe3_at (s0 s1 s2 s3 s4 s5 s6 s7:Int) (Q:AV->Heap->Prop):Prop:=Wp M1 (.run fi36 (atC (cd Try.f36) [1,1,0,1,0,0]) [(1,.ptr 0 0 0 0),(3,.vec true 1 [.int .i64 s0,.int .i64 s1,.int .i64 s2,.int .i64 s3,.int .i64 s4]),(4,.int .i64 3)] [⟨[.agg [.int .i64 s0,.int .i64 s1,.int .i64 s2,.int .i64 s3,.int .i64 s4,.int .i64 s5,.int .i64 s6,.int .i64 s7]],8,0,false,false⟩]) Q
def mRe4_at (s0 s1 s2 s3 s4 s5 s6 s7:Int) (Q:AV->Heap->Prop):Prop:=Wp M1 (.run fi36 (atC (cd Try.f36) [1,1,0,1,0,0]) [(1,.ptr 0 0 0 0),(3,.vec true 1 [.int .i64 s0,.int .i64 s1,.int .i64 s2,.int .i64 s3,.int .i64 s4]),(4,.int .i64 4)] [⟨[.agg [.int .i64 s0,.int .i64 s1,.int .i64 s2,.int .i64 s3,.int .i64 s4,.int .i64 s5,.int .i64 s6,.int .i64 s7]],8,0,false,false⟩]) Q
def mRe5_at (s0 s1 s2 s3 s4 s5 s6 s7:Int) (Q:AV->Heap->Prop):Prop:=Wp M1 (.run fi36 (atC (cd Try.f36) [1,1,0,1,0,0]) [(1,.ptr 0 0 0 0),(3,.vec true 1 [.int .i64 s0,.int .i64 s1,.int .i64 s2,.int .i64 s3,.int .i64 s4]),(4,.int .i64 5)] [⟨[.agg [.int .i64 s0,.int .i64 s1,.int .i64 s2,.int .i64 s3,.int .i64 s4,.int .i64 s5,.int .i64 s6,.int .i64 s7]],8,0,false,false⟩]) Q
theorem owncall33 {args:List AV} {L:Heap} {Q:AV -> Heap -> Prop} (h:Wp M1 (.run fi33 [.code (cd Try.f33)] (Zbx 0 args) L) Q):Wp M1 (.own 33 args L) Q:=
 own_wp Try.f33 fi33 (by kernel_rfl) (by kernel_rfl) (by kernel_rfl) (by kernel_rfl) h
theorem call35 {args:List AV} {d:AV} (h:wc M1 fi35 Try.f35 args d):Ev M1 (.pure 35 args) d []:=pcl _ _ (by kernel_rfl) h
theorem call36 {args:List AV} {d:AV} (h:wc M1 fi36 Try.f36 args d):Ev M1 (.pure 36 args) d []:=pcl _ _ (by kernel_rfl) h
theorem mSa (f g:Bool) (ws:List Wo)  (Q:AV -> Heap -> Prop) (H :
  mSa0_at (f) (g) (ws) Q) :
 mSa_at f g ws Q:=by
 unfold mSa_at
 exact Zaf (G:=Zae kp33 [] []) 1000 [false] ⟨(atC (cd Try.f33) [1,1,0,1,0,0]),[(0,AV.vec true 3 [ag [vb false,AV.vec f 2 (List.map Wo.a ws),AV.str []]]),(1,AV.vec true 3 [ag [vb false,AV.vec g 2 (List.map Wo.a ws),AV.str []]]),(5,vi 0)],[],_,[],_⟩ (by kernel_rfl) (bc rfl b0) q0 c0 (H)
theorem mSa0 (f g:Bool) (ws:List Wo)  (Q:AV -> Heap -> Prop) (H :
  (ws.length <= 100000) /\
  mSa1_at (f) (g) (ws) Q) :
 mSa0_at f g ws Q:=by
 unfold mSa0_at
 obtain ⟨k1,H⟩:=H
 exact Zaf (G:=Zae kp33 [(6,8,.call (vb true) none)] []) 1000 [true,false] ⟨(atC (cd Try.f33) [1,1,0,1,0,0]),[(0,AV.vec true 3 [ag [vb false,AV.vec f 2 (List.map Wo.a ws),AV.str []]]),(1,AV.vec true 3 [ag [vb false,AV.vec g 2 (List.map Wo.a ws),AV.str []]]),(5,vi 1)],[],_,[],_⟩ (by kernel_rfl) (bc rfl (bc rfl (bc rfl (bc rfl (bc rfl (bc rfl b0)))))) q0 (ce (@ev50 (f) (g) (ws) k1) c0) (H)
theorem mSa1 (f g:Bool) (ws:List Wo)  (Q:AV -> Heap -> Prop) (H :
  Q (vb true) []) :
 mSa1_at f g ws Q:=by
 unfold mSa1_at
 exact path_ret (G:=Zae kp33 [] []) 1000 [false] (k:=((atC (cd Try.f33) [1,1,1,1])).tail) (env':=[(4,vb true)]) (L':=[]) (asm:=[false == false]) (eqs:=[]) (calls:=[]) (vb true) (by kernel_rfl) (by kernel_rfl) (allB_cons rfl allB_nil) allP_nil allC_nil H
noncomputable abbrev zNmF1:=ag [vi 0,vi 0,vi 0,vi 0,vi 0,vi 0,vi 0,vi 0]
theorem mAp (s0 s1 s2 s3 s4 s5 s6 s7:Int) (sk f:Bool) (ws:List Wo) (cm:List UInt8)  (dq:AV) (H :
  (ws.length <= 100000) /\
  ((¬Sp.chk ws [] [] = 0) -> tu [ag [vi 0,vi 0,vi 0,vi 0,vi 0,vi 0,vi 0,vi 0],vi (Sp.chk ws [] [])] = dq) /\
  (¬(¬Sp.chk ws [] [] = 0) -> ZdX (s0) (s1) (s2) (s3) (s4) (s5) (s6) (s7) (f) (ws) ((↑ws.length:Int)) (0) (Zag dq))) :
 mAp_at s0 s1 s2 s3 s4 s5 s6 s7 sk f ws cm (Zag dq):=by
 unfold mAp_at
 obtain ⟨k1,H⟩:=H
 refine Zaf (G:=Zae kp35 [(1,1,.call (vi (Sp.chk ws [] [])) none)] []) 7 [] ⟨(atC (cd Try.f35) [1,0,1,1]),[(2,AV.ptr 0 0 0 0),(3,AV.ptr 1 0 0 0),(4,AV.ptr 2 0 0 0),(6,vi (Sp.chk ws [] [])),(12,vb (Sp.chk ws [] [] != 0))],[⟨[ag [vi s0,vi s1,vi s2,vi s3,vi s4,vi s5,vi s6,vi s7]],8,0,false,false⟩,⟨[ag [vb sk,AV.vec f 2 (List.map Wo.a ws),AV.str cm]],3,0,false,false⟩,⟨[zNmF1],8,0,false,false⟩],_,[],_⟩ (by kernel_rfl) (bc rfl b0) q0 (ce (@ev47 (sk) (f) (ws) (cm) k1) c0) ?_
 rcases xq H with ⟨d3,H⟩|⟨d3,H⟩
 ·exact Zac (G:=Zae kp35 [] []) 1000 [true] (tu [zNmF1,vi (Sp.chk ws [] [])]) (by kernel_rfl) (bc (Zai (i_ne.2 d3)) (bc rfl b0)) q0 c0 H
 ·have w4:(List.map Wo.a ws).length = ws.length:=List.length_map ..
  exact Zaf (G:=Zae kp35 [] []) 1000 [false] ⟨(atC (cd Try.f35) [1,1,0,1,0,0]),[(2,AV.ptr 0 0 0 0),(4,AV.ptr 2 0 0 0),(16,AV.vec f 2 (List.map Wo.a ws)),(17,vi (↑(List.map Wo.a ws).length:Int)),(18,vi 0)],[⟨[ag [vi s0,vi s1,vi s2,vi s3,vi s4,vi s5,vi s6,vi s7]],8,0,false,false⟩,⟨[ag [vb sk,AV.vec f 2 (List.map Wo.a ws),AV.str cm]],3,0,false,false⟩,⟨[zNmF1],8,0,false,false⟩],_,[],_⟩ (by kernel_rfl) (bc (Zaa (fun h => d3 (i_ne.1 h))) (bc rfl b0)) q0 c0 (by (try rw [w4]);all_goals exact Zbf [0,2] (by kernel_rfl) H)
noncomputable abbrev zNmF2 (ws:List Wo) (i:Int):=ag [AV.int IntKind.u8 (ws.getD i.toNat default).l,vi (ws.getD i.toNat default).v]
theorem mApL (s0 s1 s2 s3 s4 s5 s6 s7:Int) (f:Bool) (ws:List Wo) (n i:Int)  (dq:AV) (H :
  ((i < n) -> (0 <= i) /\
   (i.toNat < ws.length) /\
   (Sp.okPut { l:=(ws.getD i.toNat default).l,v:=(ws.getD i.toNat default).v }) /\
   (-9223372036854775808 <= i + 1 /\ i + 1 <= 9223372036854775807) /\
   ZdX ((Sp.put { m:=s0,d:=s1,w:=s2,l:=s3,r:=s4,f:=s5,t:=s6,h:=s7 } { l:=(ws.getD i.toNat default).l,v:=(ws.getD i.toNat default).v }).m) ((Sp.put { m:=s0,d:=s1,w:=s2,l:=s3,r:=s4,f:=s5,t:=s6,h:=s7 } { l:=(ws.getD i.toNat default).l,v:=(ws.getD i.toNat default).v }).d) ((Sp.put { m:=s0,d:=s1,w:=s2,l:=s3,r:=s4,f:=s5,t:=s6,h:=s7 } { l:=(ws.getD i.toNat default).l,v:=(ws.getD i.toNat default).v }).w) ((Sp.put { m:=s0,d:=s1,w:=s2,l:=s3,r:=s4,f:=s5,t:=s6,h:=s7 } { l:=(ws.getD i.toNat default).l,v:=(ws.getD i.toNat default).v }).l) ((Sp.put { m:=s0,d:=s1,w:=s2,l:=s3,r:=s4,f:=s5,t:=s6,h:=s7 } { l:=(ws.getD i.toNat default).l,v:=(ws.getD i.toNat default).v }).r) ((Sp.put { m:=s0,d:=s1,w:=s2,l:=s3,r:=s4,f:=s5,t:=s6,h:=s7 } { l:=(ws.getD i.toNat default).l,v:=(ws.getD i.toNat default).v }).f) ((Sp.put { m:=s0,d:=s1,w:=s2,l:=s3,r:=s4,f:=s5,t:=s6,h:=s7 } { l:=(ws.getD i.toNat default).l,v:=(ws.getD i.toNat default).v }).t) ((Sp.put { m:=s0,d:=s1,w:=s2,l:=s3,r:=s4,f:=s5,t:=s6,h:=s7 } { l:=(ws.getD i.toNat default).l,v:=(ws.getD i.toNat default).v }).h) (f) (ws) (n) (i + 1) (Zag dq)) /\
  (¬(i < n) -> tu [ag [vi s0,vi s1,vi s2,vi s3,vi s4,vi s5,vi s6,vi s7],vi 0] = dq)) :
 ZdX s0 s1 s2 s3 s4 s5 s6 s7 f ws n i (Zag dq):=by
 unfold ZdX
 rcases xq H with ⟨d2,H⟩|⟨d2,H⟩
 ·obtain ⟨k4,H⟩:=H
  have w5:(List.map Wo.a ws).length = ws.length:=List.length_map ..
  have i6:(decide (i.toNat < (List.map Wo.a ws).length)) = true ↔ (i.toNat < ws.length):=(by (try rw [w5]);all_goals exact ZaX)
  obtain ⟨k7,k8,k9,H⟩:=H
  have w10:wi (i + 1) = i + 1:=wI64 k9
  exact Zaf (G:=Zae kp35 [(6,1,.elem ((zNmF2 ws i))),(7,2,.call (ag [vi (Sp.put { m:=s0,d:=s1,w:=s2,l:=s3,r:=s4,f:=s5,t:=s6,h:=s7 } { l:=(ws.getD i.toNat default).l,v:=(ws.getD i.toNat default).v }).m,vi (Sp.put { m:=s0,d:=s1,w:=s2,l:=s3,r:=s4,f:=s5,t:=s6,h:=s7 } { l:=(ws.getD i.toNat default).l,v:=(ws.getD i.toNat default).v }).d,vi (Sp.put { m:=s0,d:=s1,w:=s2,l:=s3,r:=s4,f:=s5,t:=s6,h:=s7 } { l:=(ws.getD i.toNat default).l,v:=(ws.getD i.toNat default).v }).w,vi (Sp.put { m:=s0,d:=s1,w:=s2,l:=s3,r:=s4,f:=s5,t:=s6,h:=s7 } { l:=(ws.getD i.toNat default).l,v:=(ws.getD i.toNat default).v }).l,vi (Sp.put { m:=s0,d:=s1,w:=s2,l:=s3,r:=s4,f:=s5,t:=s6,h:=s7 } { l:=(ws.getD i.toNat default).l,v:=(ws.getD i.toNat default).v }).r,vi (Sp.put { m:=s0,d:=s1,w:=s2,l:=s3,r:=s4,f:=s5,t:=s6,h:=s7 } { l:=(ws.getD i.toNat default).l,v:=(ws.getD i.toNat default).v }).f,vi (Sp.put { m:=s0,d:=s1,w:=s2,l:=s3,r:=s4,f:=s5,t:=s6,h:=s7 } { l:=(ws.getD i.toNat default).l,v:=(ws.getD i.toNat default).v }).t,vi (Sp.put { m:=s0,d:=s1,w:=s2,l:=s3,r:=s4,f:=s5,t:=s6,h:=s7 } { l:=(ws.getD i.toNat default).l,v:=(ws.getD i.toNat default).v }).h]) none)] []) 1000 [true] ⟨(atC (cd Try.f35) [1,1,0,1,0,0]),[(2,AV.ptr 0 0 0 0),(4,AV.ptr 1 0 0 0),(16,AV.vec f 2 (List.map Wo.a ws)),(17,vi n),(18,vi (wi (i + 1)))],[⟨[ag [vi (Sp.put { m:=s0,d:=s1,w:=s2,l:=s3,r:=s4,f:=s5,t:=s6,h:=s7 } { l:=(ws.getD i.toNat default).l,v:=(ws.getD i.toNat default).v }).m,vi (Sp.put { m:=s0,d:=s1,w:=s2,l:=s3,r:=s4,f:=s5,t:=s6,h:=s7 } { l:=(ws.getD i.toNat default).l,v:=(ws.getD i.toNat default).v }).d,vi (Sp.put { m:=s0,d:=s1,w:=s2,l:=s3,r:=s4,f:=s5,t:=s6,h:=s7 } { l:=(ws.getD i.toNat default).l,v:=(ws.getD i.toNat default).v }).w,vi (Sp.put { m:=s0,d:=s1,w:=s2,l:=s3,r:=s4,f:=s5,t:=s6,h:=s7 } { l:=(ws.getD i.toNat default).l,v:=(ws.getD i.toNat default).v }).l,vi (Sp.put { m:=s0,d:=s1,w:=s2,l:=s3,r:=s4,f:=s5,t:=s6,h:=s7 } { l:=(ws.getD i.toNat default).l,v:=(ws.getD i.toNat default).v }).r,vi (Sp.put { m:=s0,d:=s1,w:=s2,l:=s3,r:=s4,f:=s5,t:=s6,h:=s7 } { l:=(ws.getD i.toNat default).l,v:=(ws.getD i.toNat default).v }).f,vi (Sp.put { m:=s0,d:=s1,w:=s2,l:=s3,r:=s4,f:=s5,t:=s6,h:=s7 } { l:=(ws.getD i.toNat default).l,v:=(ws.getD i.toNat default).v }).t,vi (Sp.put { m:=s0,d:=s1,w:=s2,l:=s3,r:=s4,f:=s5,t:=s6,h:=s7 } { l:=(ws.getD i.toNat default).l,v:=(ws.getD i.toNat default).v }).h]],8,0,false,false⟩,⟨[ag [vi 0,vi 0,vi 0,vi 0,vi 0,vi 0,vi 0,vi 0]],8,0,false,false⟩,⟨[(zNmF2 ws i)],2,0,false,false⟩],_,[((List.map Wo.a ws).get?Internal i.toNat = some ((zNmF2 ws i)))],_⟩ (by kernel_rfl) (bc (Zai (ZaX.2 d2)) (bc (ZaX.2 k4) (bc (i6.2 k7) (bc rfl (bc rfl (bc rfl (bc rfl b0))))))) (qc (Zeb k7) q0) (ce (@ev51 (s0) (s1) (s2) (s3) (s4) (s5) (s6) (s7) ((ws.getD i.toNat default).l) ((ws.getD i.toNat default).v) k8) c0) (by (try rw [w10]);all_goals exact Zbf [0,1] (by kernel_rfl) H)
 ·exact Zac (G:=Zae kp35 [] []) 1000 [false] (tu [ag [vi s0,vi s1,vi s2,vi s3,vi s4,vi s5,vi s6,vi s7],vi 0]) (by kernel_rfl) (bc (Zaa (fun h => d2 (ZaX.1 h))) (bc rfl (bc rfl b0))) q0 c0 H
theorem mRe (s0 s1 s2 s3 s4 s5 s6 s7:Int)  (dq:AV) (H :
  mRe0_at (s0) (s1) (s2) (s3) (s4) (s5) (s6) (s7) (Zag dq)) :
 mRe_at s0 s1 s2 s3 s4 s5 s6 s7 (Zag dq):=by
 unfold mRe_at
 exact Zaf (G:=Zae kp36 [] []) 1000 [] ⟨(atC (cd Try.f36) [1,1,0,1,0,0]),[(1,AV.ptr 0 0 0 0),(3,AV.vec true 1 [vi s0,vi s1,vi s2,vi s3,vi s4]),(4,vi 0)],[⟨[ag [vi s0,vi s1,vi s2,vi s3,vi s4,vi s5,vi s6,vi s7]],8,0,false,false⟩],_,[],_⟩ (by kernel_rfl) (bc rfl (bc rfl (bc rfl (bc rfl (bc rfl b0))))) q0 c0 (H)
theorem mRe0 (s0 s1 s2 s3 s4 s5 s6 s7:Int)  (dq:AV) (H :
  ((¬Sp.grp s0 = 1) -> vb false = dq) /\
  (¬(¬Sp.grp s0 = 1) -> mRe1_at (s0) (s1) (s2) (s3) (s4) (s5) (s6) (s7) (Zag dq))) :
 mRe0_at s0 s1 s2 s3 s4 s5 s6 s7 (Zag dq):=by
 unfold mRe0_at
 refine Zaf (G:=Zae kp36 [(5,4,.call (vi (Sp.grp s0)) none)] []) 9 [true] ⟨(atC (cd Try.f36) [1,1,0,1,0,0,1,0,0,1]),[(1,AV.ptr 0 0 0 0),(3,AV.vec true 1 [vi s0,vi s1,vi s2,vi s3,vi s4]),(4,vi 0),(27,vb (Sp.grp s0 != 1))],[⟨[ag [vi s0,vi s1,vi s2,vi s3,vi s4,vi s5,vi s6,vi s7]],8,0,false,false⟩],_,[],_⟩ (by kernel_rfl) (bc rfl (bc rfl (bc rfl b0))) q0 (ce (@ev27 (s0)) c0) ?_
 rcases xq H with ⟨d2,H⟩|⟨d2,H⟩
 ·exact Zac (G:=Zae kp36 [] []) 1000 [true] (vb false) (by kernel_rfl) (bc (Zai (i_ne.2 d2)) b0) q0 c0 H
 ·exact Zaf (G:=Zae kp36 [] []) 1000 [false] ⟨(atC (cd Try.f36) [1,1,0,1,0,0]),[(1,AV.ptr 0 0 0 0),(3,AV.vec true 1 [vi s0,vi s1,vi s2,vi s3,vi s4]),(4,vi 1)],[⟨[ag [vi s0,vi s1,vi s2,vi s3,vi s4,vi s5,vi s6,vi s7]],8,0,false,false⟩],_,[],_⟩ (by kernel_rfl) (bc (Zaa (fun h => d2 (i_ne.1 h))) b0) q0 c0 (H)
theorem mRe1 (s0 s1 s2 s3 s4 s5 s6 s7:Int)  (dq:AV) (H :
  ((¬Sp.grp s1 = 2) -> vb false = dq) /\
  (¬(¬Sp.grp s1 = 2) -> mRe2_at (s0) (s1) (s2) (s3) (s4) (s5) (s6) (s7) (Zag dq))) :
 mRe1_at s0 s1 s2 s3 s4 s5 s6 s7 (Zag dq):=by
 unfold mRe1_at
 refine Zaf (G:=Zae kp36 [(5,4,.call (vi (Sp.grp s1)) none)] []) 9 [true] ⟨(atC (cd Try.f36) [1,1,0,1,0,0,1,0,0,1]),[(1,AV.ptr 0 0 0 0),(3,AV.vec true 1 [vi s0,vi s1,vi s2,vi s3,vi s4]),(4,vi 1),(27,vb (Sp.grp s1 != 2))],[⟨[ag [vi s0,vi s1,vi s2,vi s3,vi s4,vi s5,vi s6,vi s7]],8,0,false,false⟩],_,[],_⟩ (by kernel_rfl) (bc rfl (bc rfl (bc rfl b0))) q0 (ce (@ev27 (s1)) c0) ?_
 rcases xq H with ⟨d2,H⟩|⟨d2,H⟩
 ·exact Zac (G:=Zae kp36 [] []) 1000 [true] (vb false) (by kernel_rfl) (bc (Zai (i_ne.2 d2)) b0) q0 c0 H
 ·exact Zaf (G:=Zae kp36 [] []) 1000 [false] ⟨(atC (cd Try.f36) [1,1,0,1,0,0]),[(1,AV.ptr 0 0 0 0),(3,AV.vec true 1 [vi s0,vi s1,vi s2,vi s3,vi s4]),(4,vi 2)],[⟨[ag [vi s0,vi s1,vi s2,vi s3,vi s4,vi s5,vi s6,vi s7]],8,0,false,false⟩],_,[],_⟩ (by kernel_rfl) (bc (Zaa (fun h => d2 (i_ne.1 h))) b0) q0 c0 (H)
theorem mRe2 (s0 s1 s2 s3 s4 s5 s6 s7:Int)  (dq:AV) (H :
  ((¬Sp.grp s2 = 3) -> vb false = dq) /\
  (¬(¬Sp.grp s2 = 3) -> mRe3_at (s0) (s1) (s2) (s3) (s4) (s5) (s6) (s7) (Zag dq))) :
 mRe2_at s0 s1 s2 s3 s4 s5 s6 s7 (Zag dq):=by
 unfold mRe2_at
 refine Zaf (G:=Zae kp36 [(5,4,.call (vi (Sp.grp s2)) none)] []) 9 [true] ⟨(atC (cd Try.f36) [1,1,0,1,0,0,1,0,0,1]),[(1,AV.ptr 0 0 0 0),(3,AV.vec true 1 [vi s0,vi s1,vi s2,vi s3,vi s4]),(4,vi 2),(27,vb (Sp.grp s2 != 3))],[⟨[ag [vi s0,vi s1,vi s2,vi s3,vi s4,vi s5,vi s6,vi s7]],8,0,false,false⟩],_,[],_⟩ (by kernel_rfl) (bc rfl (bc rfl (bc rfl b0))) q0 (ce (@ev27 (s2)) c0) ?_
 rcases xq H with ⟨d2,H⟩|⟨d2,H⟩
 ·exact Zac (G:=Zae kp36 [] []) 1000 [true] (vb false) (by kernel_rfl) (bc (Zai (i_ne.2 d2)) b0) q0 c0 H
 ·exact Zaf (G:=Zae kp36 [] []) 1000 [false] ⟨(atC (cd Try.f36) [1,1,0,1,0,0]),[(1,AV.ptr 0 0 0 0),(3,AV.vec true 1 [vi s0,vi s1,vi s2,vi s3,vi s4]),(4,vi 3)],[⟨[ag [vi s0,vi s1,vi s2,vi s3,vi s4,vi s5,vi s6,vi s7]],8,0,false,false⟩],_,[],_⟩ (by kernel_rfl) (bc (Zaa (fun h => d2 (i_ne.1 h))) b0) q0 c0 (H)
theorem mRe3 (s0 s1 s2 s3 s4 s5 s6 s7:Int)  (dq:AV) (H :
  ((¬Sp.grp s3 = 4) -> vb false = dq) /\
  (¬(¬Sp.grp s3 = 4) -> mRe4_at (s0) (s1) (s2) (s3) (s4) (s5) (s6) (s7) (Zag dq))) :
 mRe3_at s0 s1 s2 s3 s4 s5 s6 s7 (Zag dq):=by
 unfold mRe3_at
 refine Zaf (G:=Zae kp36 [(5,4,.call (vi (Sp.grp s3)) none)] []) 9 [true] ⟨(atC (cd Try.f36) [1,1,0,1,0,0,1,0,0,1]),[(1,AV.ptr 0 0 0 0),(3,AV.vec true 1 [vi s0,vi s1,vi s2,vi s3,vi s4]),(4,vi 3),(27,vb (Sp.grp s3 != 4))],[⟨[ag [vi s0,vi s1,vi s2,vi s3,vi s4,vi s5,vi s6,vi s7]],8,0,false,false⟩],_,[],_⟩ (by kernel_rfl) (bc rfl (bc rfl (bc rfl b0))) q0 (ce (@ev27 (s3)) c0) ?_
 rcases xq H with ⟨d2,H⟩|⟨d2,H⟩
 ·exact Zac (G:=Zae kp36 [] []) 1000 [true] (vb false) (by kernel_rfl) (bc (Zai (i_ne.2 d2)) b0) q0 c0 H
 ·exact Zaf (G:=Zae kp36 [] []) 1000 [false] ⟨(atC (cd Try.f36) [1,1,0,1,0,0]),[(1,AV.ptr 0 0 0 0),(3,AV.vec true 1 [vi s0,vi s1,vi s2,vi s3,vi s4]),(4,vi 4)],[⟨[ag [vi s0,vi s1,vi s2,vi s3,vi s4,vi s5,vi s6,vi s7]],8,0,false,false⟩],_,[],_⟩ (by kernel_rfl) (bc (Zaa (fun h => d2 (i_ne.1 h))) b0) q0 c0 (H)
theorem mRe4 (s0 s1 s2 s3 s4 s5 s6 s7:Int)  (dq:AV) (H :
  ((¬Sp.grp s4 = 5) -> vb false = dq) /\
  (¬(¬Sp.grp s4 = 5) -> mRe5_at (s0) (s1) (s2) (s3) (s4) (s5) (s6) (s7) (Zag dq))) :
 mRe4_at s0 s1 s2 s3 s4 s5 s6 s7 (Zag dq):=by
 unfold mRe4_at
 refine Zaf (G:=Zae kp36 [(5,4,.call (vi (Sp.grp s4)) none)] []) 9 [true] ⟨(atC (cd Try.f36) [1,1,0,1,0,0,1,0,0,1]),[(1,AV.ptr 0 0 0 0),(3,AV.vec true 1 [vi s0,vi s1,vi s2,vi s3,vi s4]),(4,vi 4),(27,vb (Sp.grp s4 != 5))],[⟨[ag [vi s0,vi s1,vi s2,vi s3,vi s4,vi s5,vi s6,vi s7]],8,0,false,false⟩],_,[],_⟩ (by kernel_rfl) (bc rfl (bc rfl (bc rfl b0))) q0 (ce (@ev27 (s4)) c0) ?_
 rcases xq H with ⟨d2,H⟩|⟨d2,H⟩
 ·exact Zac (G:=Zae kp36 [] []) 1000 [true] (vb false) (by kernel_rfl) (bc (Zai (i_ne.2 d2)) b0) q0 c0 H
 ·exact Zaf (G:=Zae kp36 [] []) 1000 [false] ⟨(atC (cd Try.f36) [1,1,0,1,0,0]),[(1,AV.ptr 0 0 0 0),(3,AV.vec true 1 [vi s0,vi s1,vi s2,vi s3,vi s4]),(4,vi 5)],[⟨[ag [vi s0,vi s1,vi s2,vi s3,vi s4,vi s5,vi s6,vi s7]],8,0,false,false⟩],_,[],_⟩ (by kernel_rfl) (bc (Zaa (fun h => d2 (i_ne.1 h))) b0) q0 c0 (H)
theorem mRe5 (s0 s1 s2 s3 s4 s5 s6 s7:Int)  (dq:AV) (H :
  (Sp.okls (Sp.lw { m:=s0,d:=s1,w:=s2,l:=s3,r:=s4,f:=s5,t:=s6,h:=s7 })) /\
  vb (Sp.rchk (Sp.lw { m:=s0,d:=s1,w:=s2,l:=s3,r:=s4,f:=s5,t:=s6,h:=s7 }) == 0) = dq) :
 mRe5_at s0 s1 s2 s3 s4 s5 s6 s7 (Zag dq):=by
 unfold mRe5_at
 obtain ⟨k1,H⟩:=H
 exact Zac (G:=Zae kp36 [(7,1,.call (ag [vb false,AV.vec true 2 (List.map Wo.a (Sp.lw { m:=s0,d:=s1,w:=s2,l:=s3,r:=s4,f:=s5,t:=s6,h:=s7 })),AV.str []]) none),(7,2,.call (vi (Sp.rchk (Sp.lw { m:=s0,d:=s1,w:=s2,l:=s3,r:=s4,f:=s5,t:=s6,h:=s7 }))) none)] []) 1000 [false] (vb (Sp.rchk (Sp.lw { m:=s0,d:=s1,w:=s2,l:=s3,r:=s4,f:=s5,t:=s6,h:=s7 }) == 0)) (by kernel_rfl) (bc rfl (bc rfl b0)) q0 (ce (@ev34 (s0) (s1) (s2) (s3) (s4) (s5) (s6) (s7)) (ce (@ev52 (false) (true) (Sp.lw { m:=s0,d:=s1,w:=s2,l:=s3,r:=s4,f:=s5,t:=s6,h:=s7 }) ([]) k1) c0)) H
end Go.Av

namespace Go.Av
open Go.Proofs
namespace Sp
def ms0:Ms:=⟨0,0,0,0,0,0,0,0⟩
def apl (t:Ms) (ws:List Wo):Ms:=if chk ws [] []=0 then ws.foldl put t else ms0
def okAp (ws:List Wo):Prop:=ws.length<=100000/\(chk ws [] []=0 -> ∀ w ∈ ws,okPut w)
def reg (s:Ms):Prop:=grp s.m=1/\grp s.d=2/\grp s.w=3/\grp s.l=4/\grp s.r=5/\rok (lw s)
open Classical in
noncomputable def regb (s:Ms):Bool:=if reg s then true else false
theorem okls_lw (s:Ms):okls (lw s):=⟨by simp [lw],by
 intro w hw
 simp only [lw,List.mem_cons,List.not_mem_nil,or_false] at hw
 rcases hw with rfl | rfl | rfl | rfl | rfl | rfl | rfl | rfl <;> exact ⟨by simp only;omega,by simp only;omega⟩⟩
end Sp
theorem evo33 (f g:Bool) (ws:List Wo) (h:ws.length <= 100000) :
  Ev M1 (.own 33 [.vec true 3 [.agg [.bool false,.vec f 2 (ws.map Wo.a),.str []]],.vec true 3 [.agg [.bool false,.vec g 2 (ws.map Wo.a),.str []]]] []) (.bool true) []:=
 owncall33 (mSa _ _ _ _ (mSa0 _ _ _ _ ⟨h,mSa1 _ _ _ _ ⟨rfl,rfl⟩⟩))
def msA (s:Ms):AV:=.agg [.int .i64 s.m,.int .i64 s.d,.int .i64 s.w,.int .i64 s.l,.int .i64 s.r,.int .i64 s.f,.int .i64 s.t,.int .i64 s.h]
theorem ap_loop {f:Bool} {ws:List Wo} (hl:ws.length <= 100000) (ho:∀ w ∈ ws,Sp.okPut w) (m:Nat):∀ (i:Nat) (s:Ms),i + m = ws.length ->
  ZdX s.m s.d s.w s.l s.r s.f s.t s.h f ws ws.length i (Zag (.tup [msA ((ws.drop i).foldl Sp.put s),.int .i64 0])):=by
 induction m with
 | zero =>
  intro i s e
  refine mApL _ _ _ _ _ _ _ _ _ _ _ _ _ ⟨fun x => by omega,fun _ => ?_⟩
  rw [List.drop_eq_nil_of_le (by omega)];rfl
 | succ m ih =>
  intro i s e
  have hi:i < ws.length:=by omega
  refine mApL _ _ _ _ _ _ _ _ _ _ _ _ _ ⟨fun x => ?_,fun x => by omega⟩
  rw [Int.toNat_natCast,show (i:Int) + 1 = ((i + 1:Nat):Int) by omega,drop_getD hi]
  exact ⟨by omega,hi,ho _ (getD_mem hi),by omega,ih (i + 1) (Sp.put s (ws.getD i default)) (by omega)⟩
theorem ev35 (s0 s1 s2 s3 s4 s5 s6 s7:Int) (sk f:Bool) (ws:List Wo) (cm:List UInt8) (h:Sp.okAp ws):Ev M1 (.pure 35 [.agg [.int .i64 s0,.int .i64 s1,.int .i64 s2,.int .i64 s3,.int .i64 s4,.int .i64 s5,.int .i64 s6,.int .i64 s7],.agg [.bool sk,.vec f 2 (ws.map Wo.a),.str cm]])
  (.tup [.agg [.int .i64 (Sp.apl ⟨s0,s1,s2,s3,s4,s5,s6,s7⟩ ws).m,.int .i64 (Sp.apl ⟨s0,s1,s2,s3,s4,s5,s6,s7⟩ ws).d,.int .i64 (Sp.apl ⟨s0,s1,s2,s3,s4,s5,s6,s7⟩ ws).w,.int .i64 (Sp.apl ⟨s0,s1,s2,s3,s4,s5,s6,s7⟩ ws).l,.int .i64 (Sp.apl ⟨s0,s1,s2,s3,s4,s5,s6,s7⟩ ws).r,.int .i64 (Sp.apl ⟨s0,s1,s2,s3,s4,s5,s6,s7⟩ ws).f,.int .i64 (Sp.apl ⟨s0,s1,s2,s3,s4,s5,s6,s7⟩ ws).t,.int .i64 (Sp.apl ⟨s0,s1,s2,s3,s4,s5,s6,s7⟩ ws).h],.int .i64 (Sp.chk ws [] [])]) []:=by
 refine call35 (mAp _ _ _ _ _ _ _ _ _ _ _ _ _ ⟨h.1,fun k => ?_,fun k => ?_⟩)
 ·unfold Sp.apl;rw [if_neg k];rfl
 ·have k:Sp.chk ws [] [] = 0:=Classical.not_not.1 k
  unfold Sp.apl;rw [if_pos k,k]
  exact ap_loop h.1 (h.2 k) ws.length 0 ⟨s0,s1,s2,s3,s4,s5,s6,s7⟩ (by omega)
theorem ev36 (s0 s1 s2 s3 s4 s5 s6 s7:Int):Ev M1 (.pure 36 [.agg [.int .i64 s0,.int .i64 s1,.int .i64 s2,.int .i64 s3,.int .i64 s4,.int .i64 s5,.int .i64 s6,.int .i64 s7]]) (.bool (Sp.regb ⟨s0,s1,s2,s3,s4,s5,s6,s7⟩)) []:=by
 have no (h:¬Sp.reg ⟨s0,s1,s2,s3,s4,s5,s6,s7⟩):AV.bool false = .bool (Sp.regb ⟨s0,s1,s2,s3,s4,s5,s6,s7⟩):=by
  unfold Sp.regb;rw [if_neg h]
 refine call36 (mRe _ _ _ _ _ _ _ _ _ (mRe0 _ _ _ _ _ _ _ _ _ ⟨fun k => no fun r => k r.1,fun k0 => mRe1 _ _ _ _ _ _ _ _ _ ⟨fun k => no fun r => k r.2.1,fun k1 => mRe2 _ _ _ _ _ _ _ _ _ ⟨fun k => no fun r => k r.2.2.1,fun k2 =>
  mRe3 _ _ _ _ _ _ _ _ _ ⟨fun k => no fun r => k r.2.2.2.1,fun k3 => mRe4 _ _ _ _ _ _ _ _ _ ⟨fun k => no fun r => k r.2.2.2.2.1,fun k4 => mRe5 _ _ _ _ _ _ _ _ _ ⟨Sp.okls_lw _,congrArg AV.bool ?_⟩⟩⟩⟩⟩⟩))
 unfold Sp.regb Sp.rchk
 by_cases r:Sp.rok (Sp.lw ⟨s0,s1,s2,s3,s4,s5,s6,s7⟩)
 ·rw [if_pos r,if_pos (show Sp.reg _ from ⟨Classical.not_not.1 k0,Classical.not_not.1 k1,Classical.not_not.1 k2,Classical.not_not.1 k3,Classical.not_not.1 k4,r⟩)];rfl
 ·rw [if_neg r,if_neg (fun h:Sp.reg _ => r h.2.2.2.2.2)];rfl
theorem lw_chk {s:Ms} (h:Sp.reg s):Sp.chk (Sp.lw s) [] [] = 0:=by
 obtain ⟨h1,h2,h3,h4,h5,r⟩:=h
 have rf:=(r 5 (by simp [Sp.lw])).2.1.1 rfl
 have rt:=(r 6 (by simp [Sp.lw])).2.1.2 (.inl rfl)
 have rh:=(r 7 (by simp [Sp.lw])).2.1.2 (.inr rfl)
 simp only [Sp.lw,List.getD_cons_zero,List.getD_cons_succ] at rf rt rh
 obtain ⟨t1,t2⟩:=rt;obtain ⟨g1,g2⟩:=rh
 simp [Sp.chk,Sp.lw,h1,h2,h3,h4,h5,mapB,ZaF,t2,g2,Int.not_lt.2 t1,Int.not_lt.2 g1,Int.not_lt.2 rf]
theorem lw_apl {s:Ms} (h:Sp.reg s) (t:Ms):Sp.apl t (Sp.lw s) = s:=by
 unfold Sp.apl;rw [if_pos (lw_chk h)]
 obtain ⟨h1,h2,h3,h4,h5,-⟩:=h
 cases s
 simp only at h1 h2 h3 h4 h5
 simp [Sp.put,Sp.lw,h1,h2,h3,h4,h5]
theorem lw_ok (s:Ms):Sp.okAp (Sp.lw s):=⟨by simp [Sp.lw],fun k w hw => by
 have grps:¬Sp.grp s.m = 0 /\ ¬Sp.grp s.d = 0 /\ ¬Sp.grp s.w = 0 /\ ¬Sp.grp s.l = 0 /\ ¬Sp.grp s.r = 0:=by
  unfold Sp.lw at k
  refine ⟨fun e => ?_,fun e => ?_,fun e => ?_,fun e => ?_,fun e => ?_⟩
  ·rw [Sp.chk,if_pos rfl,if_pos (.inl e)] at k;exact absurd k (by decide)
  ·rw [Sp.chk,if_pos rfl] at k;split at k
   ·exact absurd k (by decide)
   rw [Sp.chk,if_pos rfl,if_pos (.inl e)] at k;exact absurd k (by decide)
  ·rw [Sp.chk,if_pos rfl] at k;split at k
   ·exact absurd k (by decide)
   rw [Sp.chk,if_pos rfl] at k;split at k
   ·exact absurd k (by decide)
   rw [Sp.chk,if_pos rfl,if_pos (.inl e)] at k;exact absurd k (by decide)
  ·rw [Sp.chk,if_pos rfl] at k;split at k
   ·exact absurd k (by decide)
   rw [Sp.chk,if_pos rfl] at k;split at k
   ·exact absurd k (by decide)
   rw [Sp.chk,if_pos rfl] at k;split at k
   ·exact absurd k (by decide)
   rw [Sp.chk,if_pos rfl,if_pos (.inl e)] at k;exact absurd k (by decide)
  ·rw [Sp.chk,if_pos rfl] at k;split at k
   ·exact absurd k (by decide)
   rw [Sp.chk,if_pos rfl] at k;split at k
   ·exact absurd k (by decide)
   rw [Sp.chk,if_pos rfl] at k;split at k
   ·exact absurd k (by decide)
   rw [Sp.chk,if_pos rfl] at k;split at k
   ·exact absurd k (by decide)
   rw [Sp.chk,if_pos rfl,if_pos (.inl e)] at k;exact absurd k (by decide)
 obtain ⟨a,b,c,d,e⟩:=grps
 simp only [Sp.lw,List.mem_cons,List.not_mem_nil,or_false] at hw
 rcases hw with rfl | rfl | rfl | rfl | rfl | rfl | rfl | rfl
 ·exact .inl ⟨rfl,a⟩
 ·exact .inl ⟨rfl,b⟩
 ·exact .inl ⟨rfl,c⟩
 ·exact .inl ⟨rfl,d⟩
 ·exact .inl ⟨rfl,e⟩
 ·exact .inr (.inl rfl)
 ·exact .inr (.inr (.inl rfl))
 ·exact .inr (.inr (.inr rfl))⟩
end Go.Av

namespace Go.Av
open Go.Proofs
set_option maxRecDepth 1000000 in
theorem ev25:Ev M1 (.pure 25 []) (.bool true) []:=Zcp (G:=awkG) (fun _ h=>nomatch h) 30 (by kernel_rfl)
end Go.Av

namespace Go.Av
open Go.Proofs
set_option maxRecDepth 100000
end Go.Av

namespace Go.Av
open Go.Proofs
end Go.Av

namespace Go.Av
open Go.Proofs
set_option maxRecDepth 100000
def fi10:Fi:=⟨37,[.tmp 4]⟩
def kp10:List (Nat × List Nat):=[(0,[2,3]),(1,[2,3,9]),(2,[4]),(3,[2,3,5]),(4,[2,3,5,18]),(5,[4]),(6,[2,6,7]),(7,[4])]
def mMl_at (s0 s1 s2 s3 s4 s5 s6 s7:Int) (t0 t1 t2 t3 t4 t5 t6 t7:Int) (Q:AV->Heap->Prop):Prop:=Wp M1 (.run fi10 (atC (cd Try.f10) []) [(0,.agg [.int .i64 s0,.int .i64 s1,.int .i64 s2,.int .i64 s3,.int .i64 s4,.int .i64 s5,.int .i64 s6,.int .i64 s7]),(1,.agg [.int .i64 t0,.int .i64 t1,.int .i64 t2,.int .i64 t3,.int .i64 t4,.int .i64 t5,.int .i64 t6,.int .i64 t7])] []) Q
theorem call10 {args:List AV} {d:AV} (h:wc M1 fi10 Try.f10 args d):Ev M1 (.pure 10 args) d []:=pcl _ _ (by kernel_rfl) h
noncomputable abbrev zNmG1 (s0:Int) (s1:Int) (s2:Int) (s3:Int) (s4:Int) (s5:Int) (s6:Int) (s7:Int):=ag [vi s0,vi s1,vi s2,vi s3,vi s4,vi s5,vi s6,vi s7]
theorem mMl (s0 s1 s2 s3 s4 s5 s6 s7:Int) (t0 t1 t2 t3 t4 t5 t6 t7:Int)  (dq:AV) (H :
  ((Sp.lw { m:=s0,d:=s1,w:=s2,l:=s3,r:=s4,f:=s5,t:=s6,h:=s7 }).length <= 100000) /\
  (Sp.okAp (Sp.lw { m:=s0,d:=s1,w:=s2,l:=s3,r:=s4,f:=s5,t:=s6,h:=s7 })) /\
  (vb (bif !Sp.regb { m:=s0,d:=s1,w:=s2,l:=s3,r:=s4,f:=s5,t:=s6,h:=s7 } then true else bif Sp.chk (Sp.lw { m:=s0,d:=s1,w:=s2,l:=s3,r:=s4,f:=s5,t:=s6,h:=s7 }) [] [] == 0 then (Sp.apl { m:=t0,d:=t1,w:=t2,l:=t3,r:=t4,f:=t5,t:=t6,h:=t7 } (Sp.lw { m:=s0,d:=s1,w:=s2,l:=s3,r:=s4,f:=s5,t:=s6,h:=s7 })).m == s0 && ((Sp.apl { m:=t0,d:=t1,w:=t2,l:=t3,r:=t4,f:=t5,t:=t6,h:=t7 } (Sp.lw { m:=s0,d:=s1,w:=s2,l:=s3,r:=s4,f:=s5,t:=s6,h:=s7 })).d == s1 && ((Sp.apl { m:=t0,d:=t1,w:=t2,l:=t3,r:=t4,f:=t5,t:=t6,h:=t7 } (Sp.lw { m:=s0,d:=s1,w:=s2,l:=s3,r:=s4,f:=s5,t:=s6,h:=s7 })).w == s2 && ((Sp.apl { m:=t0,d:=t1,w:=t2,l:=t3,r:=t4,f:=t5,t:=t6,h:=t7 } (Sp.lw { m:=s0,d:=s1,w:=s2,l:=s3,r:=s4,f:=s5,t:=s6,h:=s7 })).l == s3 && ((Sp.apl { m:=t0,d:=t1,w:=t2,l:=t3,r:=t4,f:=t5,t:=t6,h:=t7 } (Sp.lw { m:=s0,d:=s1,w:=s2,l:=s3,r:=s4,f:=s5,t:=s6,h:=s7 })).r == s4 && ((Sp.apl { m:=t0,d:=t1,w:=t2,l:=t3,r:=t4,f:=t5,t:=t6,h:=t7 } (Sp.lw { m:=s0,d:=s1,w:=s2,l:=s3,r:=s4,f:=s5,t:=s6,h:=s7 })).f == s5 && ((Sp.apl { m:=t0,d:=t1,w:=t2,l:=t3,r:=t4,f:=t5,t:=t6,h:=t7 } (Sp.lw { m:=s0,d:=s1,w:=s2,l:=s3,r:=s4,f:=s5,t:=s6,h:=s7 })).t == s6 && ((Sp.apl { m:=t0,d:=t1,w:=t2,l:=t3,r:=t4,f:=t5,t:=t6,h:=t7 } (Sp.lw { m:=s0,d:=s1,w:=s2,l:=s3,r:=s4,f:=s5,t:=s6,h:=s7 })).h == s7 && true))))))) else false)) = dq) :
 mMl_at s0 s1 s2 s3 s4 s5 s6 s7 t0 t1 t2 t3 t4 t5 t6 t7 (Zag dq):=by
 unfold mMl_at
 obtain ⟨k1,k2,H⟩:=H
 exact Zac (G:=Zae kp10 [(1,0,.call (vb true) none),(3,1,.call (ag [vb false,AV.vec false 2 (List.map Wo.a (Sp.lw { m:=s0,d:=s1,w:=s2,l:=s3,r:=s4,f:=s5,t:=s6,h:=s7 })),AV.str []]) none),(4,3,.call (ag [vb false,AV.vec true 2 (List.map Wo.a (Sp.lw { m:=s0,d:=s1,w:=s2,l:=s3,r:=s4,f:=s5,t:=s6,h:=s7 })),AV.str []]) none),(4,5,.call (vb true) none),(6,2,.call (tu [ag [vi (Sp.apl { m:=t0,d:=t1,w:=t2,l:=t3,r:=t4,f:=t5,t:=t6,h:=t7 } (Sp.lw { m:=s0,d:=s1,w:=s2,l:=s3,r:=s4,f:=s5,t:=s6,h:=s7 })).m,vi (Sp.apl { m:=t0,d:=t1,w:=t2,l:=t3,r:=t4,f:=t5,t:=t6,h:=t7 } (Sp.lw { m:=s0,d:=s1,w:=s2,l:=s3,r:=s4,f:=s5,t:=s6,h:=s7 })).d,vi (Sp.apl { m:=t0,d:=t1,w:=t2,l:=t3,r:=t4,f:=t5,t:=t6,h:=t7 } (Sp.lw { m:=s0,d:=s1,w:=s2,l:=s3,r:=s4,f:=s5,t:=s6,h:=s7 })).w,vi (Sp.apl { m:=t0,d:=t1,w:=t2,l:=t3,r:=t4,f:=t5,t:=t6,h:=t7 } (Sp.lw { m:=s0,d:=s1,w:=s2,l:=s3,r:=s4,f:=s5,t:=s6,h:=s7 })).l,vi (Sp.apl { m:=t0,d:=t1,w:=t2,l:=t3,r:=t4,f:=t5,t:=t6,h:=t7 } (Sp.lw { m:=s0,d:=s1,w:=s2,l:=s3,r:=s4,f:=s5,t:=s6,h:=s7 })).r,vi (Sp.apl { m:=t0,d:=t1,w:=t2,l:=t3,r:=t4,f:=t5,t:=t6,h:=t7 } (Sp.lw { m:=s0,d:=s1,w:=s2,l:=s3,r:=s4,f:=s5,t:=s6,h:=s7 })).f,vi (Sp.apl { m:=t0,d:=t1,w:=t2,l:=t3,r:=t4,f:=t5,t:=t6,h:=t7 } (Sp.lw { m:=s0,d:=s1,w:=s2,l:=s3,r:=s4,f:=s5,t:=s6,h:=s7 })).t,vi (Sp.apl { m:=t0,d:=t1,w:=t2,l:=t3,r:=t4,f:=t5,t:=t6,h:=t7 } (Sp.lw { m:=s0,d:=s1,w:=s2,l:=s3,r:=s4,f:=s5,t:=s6,h:=s7 })).h],vi (Sp.chk (Sp.lw { m:=s0,d:=s1,w:=s2,l:=s3,r:=s4,f:=s5,t:=s6,h:=s7 }) [] [])]) none),(7,1,.call (vb (Sp.regb { m:=s0,d:=s1,w:=s2,l:=s3,r:=s4,f:=s5,t:=s6,h:=s7 })) none)] [(4,[1005])]) 1000 [false,false] (asm:=[false == false,true,true,true,true,false == false,true,true,true,true,!((Sp.chk (Sp.lw { m:=s0,d:=s1,w:=s2,l:=s3,r:=s4,f:=s5,t:=s6,h:=s7 }) [] [] == 0) == true && ((!Sp.regb { m:=s0,d:=s1,w:=s2,l:=s3,r:=s4,f:=s5,t:=s6,h:=s7 }) == false && true)) || true,!((Sp.chk (Sp.lw { m:=s0,d:=s1,w:=s2,l:=s3,r:=s4,f:=s5,t:=s6,h:=s7 }) [] [] == 0) == true && ((!Sp.regb { m:=s0,d:=s1,w:=s2,l:=s3,r:=s4,f:=s5,t:=s6,h:=s7 }) == false && true)) || true]) (calls:=[⟨true,false,25,[],[],vb true,[]⟩,⟨true,false,32,[(zNmG1 s0 s1 s2 s3 s4 s5 s6 s7)],[],ag [vb false,AV.vec false 2 (List.map Wo.a (Sp.lw { m:=s0,d:=s1,w:=s2,l:=s3,r:=s4,f:=s5,t:=s6,h:=s7 })),AV.str []],[]⟩,⟨true,false,34,[(zNmG1 s0 s1 s2 s3 s4 s5 s6 s7)],[],ag [vb false,AV.vec true 2 (List.map Wo.a (Sp.lw { m:=s0,d:=s1,w:=s2,l:=s3,r:=s4,f:=s5,t:=s6,h:=s7 })),AV.str []],[]⟩,⟨true,true,33,[AV.vec true 3 [ag [vb false,AV.vec false 2 (List.map Wo.a (Sp.lw { m:=s0,d:=s1,w:=s2,l:=s3,r:=s4,f:=s5,t:=s6,h:=s7 })),AV.str []]],AV.vec true 3 [ag [vb false,AV.vec true 2 (List.map Wo.a (Sp.lw { m:=s0,d:=s1,w:=s2,l:=s3,r:=s4,f:=s5,t:=s6,h:=s7 })),AV.str []]]],[],vb true,[]⟩,⟨true,false,35,[ag [vi t0,vi t1,vi t2,vi t3,vi t4,vi t5,vi t6,vi t7],ag [vb false,AV.vec false 2 (List.map Wo.a (Sp.lw { m:=s0,d:=s1,w:=s2,l:=s3,r:=s4,f:=s5,t:=s6,h:=s7 })),AV.str []]],[],tu [ag [vi (Sp.apl { m:=t0,d:=t1,w:=t2,l:=t3,r:=t4,f:=t5,t:=t6,h:=t7 } (Sp.lw { m:=s0,d:=s1,w:=s2,l:=s3,r:=s4,f:=s5,t:=s6,h:=s7 })).m,vi (Sp.apl { m:=t0,d:=t1,w:=t2,l:=t3,r:=t4,f:=t5,t:=t6,h:=t7 } (Sp.lw { m:=s0,d:=s1,w:=s2,l:=s3,r:=s4,f:=s5,t:=s6,h:=s7 })).d,vi (Sp.apl { m:=t0,d:=t1,w:=t2,l:=t3,r:=t4,f:=t5,t:=t6,h:=t7 } (Sp.lw { m:=s0,d:=s1,w:=s2,l:=s3,r:=s4,f:=s5,t:=s6,h:=s7 })).w,vi (Sp.apl { m:=t0,d:=t1,w:=t2,l:=t3,r:=t4,f:=t5,t:=t6,h:=t7 } (Sp.lw { m:=s0,d:=s1,w:=s2,l:=s3,r:=s4,f:=s5,t:=s6,h:=s7 })).l,vi (Sp.apl { m:=t0,d:=t1,w:=t2,l:=t3,r:=t4,f:=t5,t:=t6,h:=t7 } (Sp.lw { m:=s0,d:=s1,w:=s2,l:=s3,r:=s4,f:=s5,t:=s6,h:=s7 })).r,vi (Sp.apl { m:=t0,d:=t1,w:=t2,l:=t3,r:=t4,f:=t5,t:=t6,h:=t7 } (Sp.lw { m:=s0,d:=s1,w:=s2,l:=s3,r:=s4,f:=s5,t:=s6,h:=s7 })).f,vi (Sp.apl { m:=t0,d:=t1,w:=t2,l:=t3,r:=t4,f:=t5,t:=t6,h:=t7 } (Sp.lw { m:=s0,d:=s1,w:=s2,l:=s3,r:=s4,f:=s5,t:=s6,h:=s7 })).t,vi (Sp.apl { m:=t0,d:=t1,w:=t2,l:=t3,r:=t4,f:=t5,t:=t6,h:=t7 } (Sp.lw { m:=s0,d:=s1,w:=s2,l:=s3,r:=s4,f:=s5,t:=s6,h:=s7 })).h],vi (Sp.chk (Sp.lw { m:=s0,d:=s1,w:=s2,l:=s3,r:=s4,f:=s5,t:=s6,h:=s7 }) [] [])],[]⟩,⟨true,false,36,[(zNmG1 s0 s1 s2 s3 s4 s5 s6 s7)],[],vb (Sp.regb { m:=s0,d:=s1,w:=s2,l:=s3,r:=s4,f:=s5,t:=s6,h:=s7 }),[]⟩]) (vb (bif !Sp.regb { m:=s0,d:=s1,w:=s2,l:=s3,r:=s4,f:=s5,t:=s6,h:=s7 } then true else bif Sp.chk (Sp.lw { m:=s0,d:=s1,w:=s2,l:=s3,r:=s4,f:=s5,t:=s6,h:=s7 }) [] [] == 0 then (Sp.apl { m:=t0,d:=t1,w:=t2,l:=t3,r:=t4,f:=t5,t:=t6,h:=t7 } (Sp.lw { m:=s0,d:=s1,w:=s2,l:=s3,r:=s4,f:=s5,t:=s6,h:=s7 })).m == s0 && ((Sp.apl { m:=t0,d:=t1,w:=t2,l:=t3,r:=t4,f:=t5,t:=t6,h:=t7 } (Sp.lw { m:=s0,d:=s1,w:=s2,l:=s3,r:=s4,f:=s5,t:=s6,h:=s7 })).d == s1 && ((Sp.apl { m:=t0,d:=t1,w:=t2,l:=t3,r:=t4,f:=t5,t:=t6,h:=t7 } (Sp.lw { m:=s0,d:=s1,w:=s2,l:=s3,r:=s4,f:=s5,t:=s6,h:=s7 })).w == s2 && ((Sp.apl { m:=t0,d:=t1,w:=t2,l:=t3,r:=t4,f:=t5,t:=t6,h:=t7 } (Sp.lw { m:=s0,d:=s1,w:=s2,l:=s3,r:=s4,f:=s5,t:=s6,h:=s7 })).l == s3 && ((Sp.apl { m:=t0,d:=t1,w:=t2,l:=t3,r:=t4,f:=t5,t:=t6,h:=t7 } (Sp.lw { m:=s0,d:=s1,w:=s2,l:=s3,r:=s4,f:=s5,t:=s6,h:=s7 })).r == s4 && ((Sp.apl { m:=t0,d:=t1,w:=t2,l:=t3,r:=t4,f:=t5,t:=t6,h:=t7 } (Sp.lw { m:=s0,d:=s1,w:=s2,l:=s3,r:=s4,f:=s5,t:=s6,h:=s7 })).f == s5 && ((Sp.apl { m:=t0,d:=t1,w:=t2,l:=t3,r:=t4,f:=t5,t:=t6,h:=t7 } (Sp.lw { m:=s0,d:=s1,w:=s2,l:=s3,r:=s4,f:=s5,t:=s6,h:=s7 })).t == s6 && ((Sp.apl { m:=t0,d:=t1,w:=t2,l:=t3,r:=t4,f:=t5,t:=t6,h:=t7 } (Sp.lw { m:=s0,d:=s1,w:=s2,l:=s3,r:=s4,f:=s5,t:=s6,h:=s7 })).h == s7 && true))))))) else false)) (by kernel_rfl) (bc rfl (bc rfl (bc rfl (bc rfl (bc rfl (bc rfl (bc rfl (bc rfl (bc rfl (bc rfl (bc (Bool.or_true _) (bc (Bool.or_true _) b0)))))))))))) q0 (cc (fun _ => (@ev25 )) (cc (fun _ => (@ev32 (s0) (s1) (s2) (s3) (s4) (s5) (s6) (s7))) (cc (fun _ => (@ev34 (s0) (s1) (s2) (s3) (s4) (s5) (s6) (s7))) (cc (fun _ => (@evo33 (false) (true) (Sp.lw { m:=s0,d:=s1,w:=s2,l:=s3,r:=s4,f:=s5,t:=s6,h:=s7 }) k1)) (cc (fun _ => (@ev35 (t0) (t1) (t2) (t3) (t4) (t5) (t6) (t7) (false) (false) (Sp.lw { m:=s0,d:=s1,w:=s2,l:=s3,r:=s4,f:=s5,t:=s6,h:=s7 }) ([]) k2)) (cc (fun _ => (@ev36 (s0) (s1) (s2) (s3) (s4) (s5) (s6) (s7))) c0)))))) H
end Go.Av

namespace Go.Av
open Go.Proofs
theorem ml_ev (s0 s1 s2 s3 s4 s5 s6 s7 t0 t1 t2 t3 t4 t5 t6 t7:Int):Ev M1 (.pure 10 [.agg [.int .i64 s0,.int .i64 s1,.int .i64 s2,.int .i64 s3,.int .i64 s4,.int .i64 s5,.int .i64 s6,.int .i64 s7],.agg [.int .i64 t0,.int .i64 t1,.int .i64 t2,.int .i64 t3,.int .i64 t4,.int .i64 t5,.int .i64 t6,.int .i64 t7]]) (.bool true) []:=by
 refine call10 (mMl _ _ _ _ _ _ _ _ _ _ _ _ _ _ _ _ _ ⟨by simp [Sp.lw],lw_ok _,congrArg AV.bool ?_⟩)
 by_cases h:Sp.reg ⟨s0,s1,s2,s3,s4,s5,s6,s7⟩
 ·simp [lw_chk h,lw_apl h]
 ·unfold Sp.regb;rw [if_neg h];rfl
end Go.Av
