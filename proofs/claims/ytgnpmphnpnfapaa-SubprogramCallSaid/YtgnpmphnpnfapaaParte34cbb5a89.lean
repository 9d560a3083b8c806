/- PART 4 of the texts of a claim, joined by a program: what each part shows stands at its head. -/
import Derived.Test.YtgnpmphnpnfapaaPart57167872fc

namespace Go.Av
open Go.Proofs
namespace Sp
def cnt (ws:List Wo) (c:Int):Int:=(codes ws c).length
def lastD (l:List Int) (d:Int):Int:=l.foldl (fun _ x => x) d
def lp (ws:List Wo):Int:=whV (lastD (codes ws 80) 0)
def lt (ws:List Wo):Int:=whV (lastD (codes ws 76) 1000)
def okL (w:Wo):Bool:=if w.l = 80 \/ w.l = 76 then whB w.v else decide (w.l = 77 \/ w.l = 78)
def okC (ws:List Wo):Bool:=ws.all okL && decide (cnt ws 77 = 1 /\ cnt ws 80 = 1 /\ cnt ws 76 <= 1 /\ cnt ws 78 <= 1)
def cIs (ws:List Wo):Bool:=hasW ws 77 98000 && okC ws
def cN (ws:List Wo):Int:=if cIs ws = true then lp ws else 0
def cT (ws:List Wo):Int:=if cIs ws = true then lt ws else 0
def cE (ws:List Wo):Int:=if (hasW ws 77 98000 && !okC ws) = true then 1 else 0
def okW (ws:List Wo):Prop:=ws.length <= 1000000 /\ ∀ w ∈ ws,okV w.v
end Sp
theorem codes_snoc (pre:List Wo) (w:Wo) (c:Int):Sp.codes (pre ++ [w]) c = if w.l = c then Sp.codes pre c ++ [w.v] else Sp.codes pre c:=by
 unfold Sp.codes
 rw [List.filter_append,List.map_append]
 by_cases h:w.l = c
 ·rw [List.filter_cons_of_pos (by simpa using h),if_pos h];rfl
 ·rw [List.filter_cons_of_neg (by simpa using h),if_neg h];simp
theorem last_snoc (l:List Int) (x d:Int):Sp.lastD (l ++ [x]) d = x:=by unfold Sp.lastD;rw [List.foldl_append];rfl
theorem cnt_snoc (pre:List Wo) (w:Wo) (c:Int):Sp.cnt (pre ++ [w]) c = if w.l = c then Sp.cnt pre c + 1 else Sp.cnt pre c:=by
 unfold Sp.cnt
 rw [codes_snoc]
 split
 ·simp
 ·rfl
theorem lp_snoc (pre:List Wo) (w:Wo):Sp.lp (pre ++ [w]) = if w.l = 80 then Sp.whV w.v else Sp.lp pre:=by
 unfold Sp.lp
 rw [codes_snoc]
 split
 ·rw [last_snoc]
 ·rfl
theorem lt_snoc (pre:List Wo) (w:Wo):Sp.lt (pre ++ [w]) = if w.l = 76 then Sp.whV w.v else Sp.lt pre:=by
 unfold Sp.lt
 rw [codes_snoc]
 split
 ·rw [last_snoc]
 ·rfl
theorem cnt_le (ws:List Wo) (c:Int):0 <= Sp.cnt ws c /\ Sp.cnt ws c <= ws.length:=by
 have:=codes_len ws c
 unfold Sp.cnt
 omega
theorem takeW {ws:List Wo} {i:Nat} (h:i < ws.length):ws.take (i + 1) = ws.take i ++ [ws.getD i default]:=by
 rw [List.take_succ_eq_append_getElem h,List.getD_eq_getElem?_getD,List.getElem?_eq_getElem h];rfl
theorem all_take {ws:List Wo} {i:Nat} (h:i < ws.length):(ws.take (i + 1)).all Sp.okL = ((ws.take i).all Sp.okL && Sp.okL (ws.getD i default)):=by
 rw [takeW h,List.all_append];simp
def NumM (ms:List AV):Prop:=mapKeys .u8 ms = true /\ mapIs .i64 ms = true
theorem numM_put {n x:Int}:∀ {ms:List AV},NumM ms -> NumM (mapPut .u8 n (.int .i64 x) ms) /\ ∀ c,mapI c (mapPut .u8 n (.int .i64 x) ms) = if c = n then x else mapI c ms
 | [],_ => ⟨⟨by simp [mapPut,mapKeys],by simp [mapPut,mapIs]⟩,fun c => by
   simp only [mapPut,mapI]
   by_cases h:c = n
   ·subst h;simp
   ·rw [if_neg h,show (c == n) = false by simpa using h];rfl⟩
 | y :: l,h => by
  obtain ⟨h1,h2⟩:=h
  unfold mapIs at h2
  split at h2
  ·rename_i e;cases e
  ·rename_i k' m j b l' e
   simp only [List.cons.injEq] at e
   obtain ⟨rfl,rfl⟩:=e
   simp only [mapKeys,Bool.and_eq_true,decide_eq_true_eq] at h1
   obtain ⟨rfl,h1⟩:=h1
   simp only [Bool.and_eq_true,decide_eq_true_eq] at h2
   obtain ⟨rfl,h2⟩:=h2
   simp only [mapPut]
   by_cases hn:n = m
   ·subst hn
    simp only [beq_self_eq_true,cond_true]
    refine ⟨⟨by simp [mapKeys,h1],by simp [mapIs,h2]⟩,fun c => ?_⟩
    simp only [mapI]
    by_cases h:c = n
    ·subst h;simp
    ·rw [if_neg h,show (c == n) = false by simpa using h];rfl
   ·have e:(n == m) = false:=by simpa using hn
    rw [e,cond_false]
    obtain ⟨⟨q1,q2⟩,q3⟩:=numM_put (n:=n) (x:=x) ⟨h1,h2⟩
    refine ⟨⟨by simp [mapKeys,q1],by simp [mapIs,q2]⟩,fun c => ?_⟩
    simp only [mapI]
    by_cases h:c = m
    ·subst h
     have:(c == c) = true:=by simp
     rw [this,cond_true,cond_true,if_neg (fun e => hn e.symm)]
    ·have:(c == m) = false:=by simpa using h
     rw [this,cond_false,cond_false,q3]
  ·cases h2
theorem whV_0:Sp.whV 0 = 0:=by decide
theorem whV_1:Sp.whV 1000 = 1:=by decide
theorem okV_at {ws:List Wo} (h:Sp.okW ws) {i:Nat} (hi:i < ws.length):Sp.okV (ws.getD i default).v:=h.2 _ (getD_mem hi)
theorem suKa_loop {f:Bool} {ws:List Wo} {dq:AV} (hl:Sp.okW ws) (hq:AV.tup [.int .i64 (if Sp.okC ws = true then Sp.lp ws else 0),.int .i64 (if Sp.okC ws = true then Sp.lt ws else 0),.bool (Sp.okC ws),.int .i64 (if Sp.okC ws = true then 0 else 1)] = dq) :
  ∀ (k i:Nat) (ms:List AV),i + k = ws.length -> NumM ms -> (∀ c,mapI c ms = Sp.cnt (ws.take i) c) -> suKa_at f ws ms (Sp.lp (ws.take i)) (Sp.lt (ws.take i)) ws.length i ((ws.take i).all Sp.okL) (PureQ dq):=by
 have hlen:=hl.1
 intro k
 induction k with
 | zero =>
  intro i ms hi hm hc
  rw [List.take_of_length_le (show ws.length <= i by omega)] at hc ⊢
  have e:Sp.okC ws = (ws.all Sp.okL && decide (Sp.cnt ws 77 = 1 /\ Sp.cnt ws 80 = 1 /\ Sp.cnt ws 76 <= 1 /\ Sp.cnt ws 78 <= 1)):=rfl
  refine suKa _ _ _ _ _ _ _ _ _ ⟨fun h => by omega,fun _ => ⟨fun _ => hm.1,fun _ => hm.2,fun _ => hm.1,fun _ => hm.2,fun _ => hm.1,fun _ => hm.2,fun _ => hm.1,fun _ => hm.2,fun h => ?_,fun h => ?_⟩⟩
  ·simp only [hc] at h
   have hn:Sp.okC ws = false:=by
    cases ha:ws.all Sp.okL with
    | false => rw [e,ha,Bool.false_and]
    | true => rw [e,ha,Bool.true_and];rw [ha] at h;exact decide_eq_false (by simp at h;omega)
   rw [hn] at hq
   exact hq
  ·simp only [hc] at h
   have hn:Sp.okC ws = true:=by
    cases ha:ws.all Sp.okL with
    | false => rw [ha] at h;simp at h
    | true => rw [e,ha,Bool.true_and];rw [ha] at h;exact decide_eq_true (by simp at h;omega)
   rw [hn] at hq
   exact hq
 | succ k ih =>
  intro i ms hi hm hc
  have hil:i < ws.length:=by omega
  have hv:=okV_at hl hil
  have ha:=all_take hil
  have hp:=lp_snoc (ws.take i) (ws.getD i default)
  have ht:=lt_snoc (ws.take i) (ws.getD i default)
  have hn:∀ c,Sp.cnt (ws.take (i + 1)) c = if (ws.getD i default).l = c then Sp.cnt (ws.take i) c + 1 else Sp.cnt (ws.take i) c:=fun c => by rw [takeW hil,cnt_snoc]
  rw [<- takeW hil] at hp ht
  refine suKa _ _ _ _ _ _ _ _ _ ⟨fun _ => ?_,fun h => by omega⟩
  rw [Int.toNat_natCast]
  generalize ws.getD i default = w at hv ha hp ht hn ⊢
  obtain ⟨n1,n2⟩:=numM_put (n:=w.l) (x:=mapI w.l ms + 1) hm
  have hc':∀ c,mapI c (mapPut .u8 w.l (.int .i64 (mapI w.l ms + 1)) ms) = Sp.cnt (ws.take (i + 1)) c:=by
   intro c
   rw [n2,hn]
   by_cases h:c = w.l
   ·subst h;rw [if_pos rfl,if_pos rfl,hc]
   ·rw [if_neg h,if_neg (fun e => h e.symm),hc]
  have cb:=cnt_le (ws.take i) w.l
  have cl:(ws.take i).length <= ws.length:=by rw [List.length_take];omega
  have next:=ih (i + 1) _ (by omega) n1 hc'
  rw [hp,ht,ha] at next
  have eb:∀ a b:Bool,(bif a then b else false) = (a && b):=fun a b => by cases a <;> rfl
  refine ⟨by omega,by omega,hm.1,hm.2,by rw [hc];omega,hv,fun h => ⟨by omega,?_⟩,fun h1 => ⟨fun h => ⟨by omega,?_⟩,fun h2 => ⟨fun h => ⟨by omega,?_⟩,fun h3 => ⟨fun h => ⟨by omega,?_⟩,fun h4 => ⟨by omega,?_⟩⟩⟩⟩⟩
  ·rw [if_pos h,if_neg (by omega),show Sp.okL w = Sp.whB w.v by unfold Sp.okL;rw [if_pos (.inl h)]] at next
   rw [eb];exact next
  ·rw [if_neg h1,if_pos h,show Sp.okL w = Sp.whB w.v by unfold Sp.okL;rw [if_pos (.inr h)]] at next
   rw [eb];exact next
  ·rw [if_neg h1,if_neg h2,show Sp.okL w = true by unfold Sp.okL;rw [if_neg (by omega)];exact decide_eq_true (.inl h),Bool.and_true] at next
   exact next
  ·rw [if_neg h1,if_neg h2,show Sp.okL w = true by unfold Sp.okL;rw [if_neg (by omega)];exact decide_eq_true (.inr h),Bool.and_true] at next
   exact next
  ·rw [if_neg h1,if_neg h2,show Sp.okL w = false by unfold Sp.okL;rw [if_neg (by omega)];exact decide_eq_false (by omega),Bool.and_false] at next
   exact next
theorem ev13 (sk f:Bool) (ws:List Wo) (cm:List UInt8) (h:Sp.okW ws):Ev M1 (.pure 13 [bkA sk f ws cm]) (.tup [.int .i64 (Sp.cN ws),.int .i64 (Sp.cT ws),.bool (Sp.cIs ws),.int .i64 (Sp.cE ws)]) []:=by
 unfold Sp.cN Sp.cT Sp.cE Sp.cIs
 refine call13 (suK sk f ws cm _ ⟨h.1,fun k => ?_,fun k => ?_⟩)
 ·have k:Sp.hasW ws 77 98000 = false:=by simpa using k
  simp only [k,Bool.false_and]
  rfl
 ·have k:Sp.hasW ws 77 98000 = true:=by simpa using k
  simp only [k,Bool.true_and]
  have:=suKa_loop (f:=f) h rfl ws.length 0 [] (by omega) ⟨rfl,rfl⟩ (fun c => rfl)
  rw [List.take_zero,show Sp.lp [] = 0 from whV_0,show Sp.lt [] = 1 from whV_1] at this
  cases hc:Sp.okC ws with
  | true => rw [hc] at this;exact this
  | false => rw [hc] at this;exact this
def Sp.rp (ws:List Wo):Int:=Sp.whR (Sp.lastD (Sp.codes ws 80) 0)
def Sp.rt (ws:List Wo):Int:=Sp.whR (Sp.lastD (Sp.codes ws 76) 1000)
theorem rp_snoc (pre:List Wo) (w:Wo):Sp.rp (pre ++ [w]) = if w.l = 80 then Sp.whR w.v else Sp.rp pre:=by
 unfold Sp.rp
 rw [codes_snoc]
 split
 ·rw [last_snoc]
 ·rfl
theorem rt_snoc (pre:List Wo) (w:Wo):Sp.rt (pre ++ [w]) = if w.l = 76 then Sp.whR w.v else Sp.rt pre:=by
 unfold Sp.rt
 rw [codes_snoc]
 split
 ·rw [last_snoc]
 ·rfl
def Sp.lets (ws:List Wo):Bool:=ws.all fun w => decide (w.l = 77 \/ w.l = 80 \/ w.l = 76 \/ w.l = 78)
theorem whR_pos {x:Int}:Sp.whR x = 0 ↔ Sp.whB x = false:=by
 unfold Sp.whR
 cases h:Sp.whB x with
 | false => simp
 | true =>
  unfold Sp.whB at h
  simp only [decide_eq_true_eq] at h
  simp [Sp.whV];omega
theorem mem_codes {ws:List Wo} {c x:Int}:x ∈ Sp.codes ws c ↔ ∃ w ∈ ws,w.l = c /\ w.v = x:=by
 unfold Sp.codes
 simp only [List.mem_map,List.mem_filter,decide_eq_true_eq]
 exact ⟨fun ⟨w,⟨h1,h2⟩,h3⟩ => ⟨w,h1,h2,h3⟩,fun ⟨w,h1,h2,h3⟩ => ⟨w,⟨h1,h2⟩,h3⟩⟩
theorem okC_iff {ws:List Wo}:Sp.okC ws = true ↔ (Sp.lets ws = true /\ ¬((((((¬Sp.cnt ws 77 = 1) \/ (¬Sp.cnt ws 80 = 1)) \/ (Sp.cnt ws 76 > 1)) \/ (Sp.cnt ws 78 > 1)) \/ (Sp.rp ws = 0)) \/ (Sp.rt ws = 0))):=by
 unfold Sp.okC Sp.lets
 simp only [Bool.and_eq_true,List.all_eq_true,decide_eq_true_eq]
 have one:∀ c d,Sp.cnt ws c = 1 -> ∃ x,Sp.codes ws c = [x] /\ Sp.lastD (Sp.codes ws c) d = x:=by
  intro c d h
  unfold Sp.cnt at h
  match hc:Sp.codes ws c,h with
  | [x],_ => exact ⟨x,rfl,rfl⟩
 have none:∀ c d,Sp.cnt ws c = 0 -> Sp.lastD (Sp.codes ws c) d = d /\ Sp.codes ws c = []:=by
  intro c d h
  unfold Sp.cnt at h
  have:Sp.codes ws c = []:=List.length_eq_zero_iff.1 (by omega)
  exact ⟨by rw [this];rfl,this⟩
 constructor
 ·rintro ⟨h1,h2,h3,h4,h5⟩
  refine ⟨fun w hw => ?_,?_⟩
  ·have:=h1 w hw
   unfold Sp.okL at this
   split at this
   ·rename_i k;omega
   ·simp only [decide_eq_true_eq] at this;omega
  ·have c4:=cnt_le ws 76
   have p0:¬Sp.rp ws = 0:=by
    obtain ⟨x,e1,e2⟩:=one 80 0 h3
    unfold Sp.rp
    rw [e2,whR_pos]
    obtain ⟨w,hw,k1,k2⟩:=mem_codes.1 (show x ∈ Sp.codes ws 80 by rw [e1];simp)
    have:=h1 w hw
    unfold Sp.okL at this
    rw [if_pos (.inl k1),k2] at this
    rw [this];simp
   have t0:¬Sp.rt ws = 0:=by
    unfold Sp.rt
    rw [whR_pos]
    by_cases hz:Sp.cnt ws 76 = 0
    ·rw [(none 76 1000 hz).1];decide
    ·obtain ⟨x,e1,e2⟩:=one 76 1000 (by omega)
     rw [e2]
     obtain ⟨w,hw,k1,k2⟩:=mem_codes.1 (show x ∈ Sp.codes ws 76 by rw [e1];simp)
     have:=h1 w hw
     unfold Sp.okL at this
     rw [if_pos (.inr k1),k2] at this
     rw [this];simp
   omega
 ·rintro ⟨h1,h2⟩
  have g1:Sp.cnt ws 77 = 1 /\ Sp.cnt ws 80 = 1 /\ Sp.cnt ws 76 <= 1 /\ Sp.cnt ws 78 <= 1 /\ ¬Sp.rp ws = 0 /\ ¬Sp.rt ws = 0:=by omega
  obtain ⟨a1,a2,a3,a4,a5,a6⟩:=g1
  refine ⟨fun w hw => ?_,a1,a2,a3,a4⟩
  have hl:=h1 w hw
  unfold Sp.okL
  split
  ·rename_i k
   rcases k with k | k
   ·obtain ⟨x,e1,e2⟩:=one 80 0 a2
    have hx:w.v ∈ Sp.codes ws 80:=mem_codes.2 ⟨w,hw,k,rfl⟩
    rw [e1,List.mem_singleton] at hx
    unfold Sp.rp at a5
    rw [e2,whR_pos,<- hx] at a5
    simpa using a5
   ·have hx:w.v ∈ Sp.codes ws 76:=mem_codes.2 ⟨w,hw,k,rfl⟩
    have hz:¬Sp.cnt ws 76 = 0:=fun hz => by rw [(none 76 1000 hz).2] at hx;cases hx
    have:=cnt_le ws 76
    obtain ⟨x,e1,e2⟩:=one 76 1000 (by omega)
    rw [e1,List.mem_singleton] at hx
    unfold Sp.rt at a6
    rw [e2,whR_pos,<- hx] at a6
    simpa using a6
  ·exact decide_eq_true (by omega)
theorem okC_vals {ws:List Wo} (h:Sp.okC ws = true):Sp.rp ws = Sp.lp ws /\ Sp.rt ws = Sp.lt ws:=by
 have hi:=(okC_iff.1 h).2
 have g:¬Sp.rp ws = 0 /\ ¬Sp.rt ws = 0:=by omega
 unfold Sp.rp Sp.rt at g
 rw [whR_pos,whR_pos] at g
 unfold Sp.rp Sp.rt Sp.lp Sp.lt Sp.whR
 rw [if_pos (by simpa using g.1),if_pos (by simpa using g.2)]
 exact ⟨rfl,rfl⟩
theorem suRa_loop {sk f:Bool} {ws:List Wo} {cm:List UInt8} {dq:AV} (hl:Sp.okW ws) (hq:AV.tup [.int .i64 (if Sp.okC ws = true then Sp.lp ws else 0),.int .i64 (if Sp.okC ws = true then Sp.lt ws else 0),.bool (Sp.okC ws),.int .i64 (if Sp.okC ws = true then 0 else 1)] = dq) :
  ∀ (k i:Nat),i + k = ws.length -> Sp.lets (ws.take i) = true -> suRa_at sk f ws cm (Sp.rp (ws.take i)) (Sp.rt (ws.take i)) (Sp.cnt (ws.take i) 80) (Sp.cnt (ws.take i) 76) (Sp.cnt (ws.take i) 77) (Sp.cnt (ws.take i) 78) i (PureQ dq):=by
 have hlen:=hl.1
 intro k
 induction k with
 | zero =>
  intro i hi hs
  rw [List.take_of_length_le (show ws.length <= i by omega)] at hs ⊢
  refine suRa _ _ _ _ _ _ _ _ _ _ _ _ ⟨fun h => by omega,fun _ => ⟨fun h => ?_,fun h => ?_⟩⟩
  ·have hn:Sp.okC ws = false:=by
    cases hc:Sp.okC ws with
    | false => rfl
    | true => exact absurd h (okC_iff.1 hc).2
   rw [hn] at hq
   exact hq
  ·have hn:Sp.okC ws = true:=okC_iff.2 ⟨hs,h⟩
   obtain ⟨e1,e2⟩:=okC_vals hn
   rw [hn] at hq
   rw [e1,e2]
   exact hq
 | succ k ih =>
  intro i hi hs
  have hil:i < ws.length:=by omega
  have hv:=okV_at hl hil
  have hp:=rp_snoc (ws.take i) (ws.getD i default)
  have ht:=rt_snoc (ws.take i) (ws.getD i default)
  have hn:∀ c,Sp.cnt (ws.take (i + 1)) c = if (ws.getD i default).l = c then Sp.cnt (ws.take i) c + 1 else Sp.cnt (ws.take i) c:=fun c => by rw [takeW hil,cnt_snoc]
  have hs':Sp.lets (ws.take (i + 1)) = (Sp.lets (ws.take i) && decide ((ws.getD i default).l = 77 \/ (ws.getD i default).l = 80 \/ (ws.getD i default).l = 76 \/ (ws.getD i default).l = 78)):=by
   unfold Sp.lets
   rw [takeW hil,List.all_append];simp
  have hmem:ws.getD i default ∈ ws:=getD_mem hil
  rw [<- takeW hil] at hp ht
  refine suRa _ _ _ _ _ _ _ _ _ _ _ _ ⟨fun _ => ?_,fun h => by omega⟩
  rw [Int.toNat_natCast]
  generalize ws.getD i default = w at hv hs' hp ht hn hmem ⊢
  have cb:=fun c => cnt_le (ws.take i) c
  have c1:=cb 77
  have c2:=cb 80
  have c3:=cb 76
  have c4:=cb 78
  have cl:(ws.take i).length <= ws.length:=by rw [List.length_take];omega
  have next:=ih (i + 1) (by omega)
  rw [hs',hs,Bool.true_and,hp,ht,hn,hn,hn,hn] at next
  refine ⟨by omega,by omega,fun h => ⟨by omega,by omega,?_⟩,fun h1 => ⟨fun h => ⟨by omega,hv,by omega,?_⟩,fun h2 => ⟨fun h => ⟨by omega,hv,by omega,?_⟩,fun h3 => ⟨fun h => ⟨by omega,by omega,?_⟩,fun h4 => ?_⟩⟩⟩⟩
  ·have:=next (decide_eq_true (.inl h))
   simp only [h,if_true,show ¬(77:Int) = 80 by omega,show ¬(77:Int) = 76 by omega,show ¬(77:Int) = 78 by omega,if_false] at this
   exact this
  ·have:=next (decide_eq_true (.inr (.inl h)))
   simp only [h,if_true,show ¬(80:Int) = 77 by omega,show ¬(80:Int) = 76 by omega,show ¬(80:Int) = 78 by omega,if_false] at this
   exact this
  ·have:=next (decide_eq_true (.inr (.inr (.inl h))))
   simp only [h,if_true,show ¬(76:Int) = 77 by omega,show ¬(76:Int) = 80 by omega,show ¬(76:Int) = 78 by omega,if_false] at this
   exact this
  ·have:=next (decide_eq_true (.inr (.inr (.inr h))))
   simp only [h,if_true,show ¬(78:Int) = 77 by omega,show ¬(78:Int) = 80 by omega,show ¬(78:Int) = 76 by omega,if_false] at this
   exact this
  ·have hnn:Sp.okC ws = false:=by
    cases hc:Sp.okC ws with
    | false => rfl
    | true =>
     have:=(okC_iff.1 hc).1
     unfold Sp.lets at this
     have:=List.all_eq_true.1 this w hmem
     simp only [decide_eq_true_eq] at this
     omega
   rw [hnn] at hq
   exact hq
theorem ev14 (sk f:Bool) (ws:List Wo) (cm:List UInt8) (h:Sp.okW ws):Ev M1 (.pure 14 [bkA sk f ws cm]) (.tup [.int .i64 (Sp.cN ws),.int .i64 (Sp.cT ws),.bool (Sp.cIs ws),.int .i64 (Sp.cE ws)]) []:=by
 unfold Sp.cN Sp.cT Sp.cE Sp.cIs
 refine call14 (suR sk f ws cm _ ⟨h.1,fun k => ?_,fun k => ?_⟩)
 ·have k:Sp.hasW ws 77 98000 = false:=by simpa using k
  simp only [k,Bool.false_and]
  rfl
 ·have k:Sp.hasW ws 77 98000 = true:=by simpa using k
  simp only [k,Bool.true_and]
  have:=suRa_loop (sk:=sk) (f:=f) (cm:=cm) h rfl ws.length 0 (by omega) rfl
  rw [List.take_zero,show Sp.rp [] = 0 by decide,show Sp.rt [] = 1 by decide] at this
  cases hc:Sp.okC ws with
  | true => rw [hc] at this;exact this
  | false => rw [hc] at this;exact this
end Go.Av

namespace Go.Av
open Go.Proofs
set_option maxRecDepth 100000
def fi3:Fi:=⟨52,[.tmp 2]⟩
def kp3:List (Nat × List Nat):=[(0,[1]),(1,[1,18]),(2,[2]),(3,[1,3,4,5,6]),(4,[3,4,5,6,7,8,9,10]),(5,[2])]
def suZ_at (sk f:Bool) (ws:List Wo) (cm:List UInt8) (Q:AV -> Heap -> Prop):Prop:=Wp M1 (.run fi3 (atC (cd Try.f3) []) [(0,.agg [.bool sk,.vec f 2 (ws.map Wo.a),.str cm])] []) Q
theorem call3 {args:List AV} {d:AV} (h:wc M1 fi3 Try.f3 args d):Ev M1 (.pure 3 args) d []:=pcl _ _ (by kernel_rfl) h
noncomputable abbrev zSpE1 (ws:List Wo):=tu [vi (Sp.cN ws),vi (Sp.cT ws),vb (Sp.cIs ws),vi (Sp.cE ws)]
theorem suZ (sk f:Bool) (ws:List Wo) (cm:List UInt8)  (dq:AV) (H :
  ∃ (b1:Bool),
  (Ev M1 (Conf.pure 12 [AV.vec true 3 [ag [vb sk,AV.vec f 2 (List.map Wo.a ws),AV.str cm]],vi 1]) (vb b1) []) /\
  ((¬(b1 = true)) -> vb true = dq) /\
  (¬(¬(b1 = true)) -> (Sp.okW ws) /\
   vb (bif bif bif Sp.cN ws == Sp.cN ws then Sp.cT ws == Sp.cT ws else false then Sp.cIs ws == Sp.cIs ws else false then Sp.cE ws == Sp.cE ws else false) = dq)) :
 suZ_at sk f ws cm (PureQ dq):=by
 unfold suZ_at
 obtain ⟨b1,H⟩:=H
 obtain ⟨k1,H⟩:=H
 refine path_wp (G:=given kp3 [(1,0,.call (vb true) none),(1,5,.call (vb b1) none)] []) 5 [] ⟨(atC (cd Try.f3) [1,0,1]),[(1,AV.ptr 0 0 0 0),(18,vb !b1)],[⟨[ag [vb sk,AV.vec f 2 (List.map Wo.a ws),AV.str cm]],3,0,false,false⟩],_,[],_⟩ (by kernel_rfl) (bc rfl b0) q0 (ce (@ev11 ) (ce k1 c0)) ?_
 rcases xm (¬(b1 = true)) with d3 | d3
 ·have H:=H.1 d3
  exact path_re (G:=given kp3 [(2,0,.call (vb true) none)] []) 1000 [true] (asm:=[(!b1) == true]) (vb true) (by kernel_rfl) (bc (beq_t ((i_not (i_var _)).2 d3)) b0) q0 (ce (@ev11 ) c0) H
 ·have H:=H.2 d3
  obtain ⟨k4,H⟩:=H
  exact path_re (G:=given kp3 [(3,1,.call (zSpE1 ws) none),(4,1,.call (zSpE1 ws) none)] []) 1000 [false] (asm:=[(!b1) == false,true,true]) (vb (bif bif bif Sp.cN ws == Sp.cN ws then Sp.cT ws == Sp.cT ws else false then Sp.cIs ws == Sp.cIs ws else false then Sp.cE ws == Sp.cE ws else false)) (by kernel_rfl) (bc (beq_f (fun h => d3 ((i_not (i_var _)).1 h))) (bc rfl (bc rfl b0))) q0 (ce (@ev13 (sk) (f) (ws) (cm) k4) (ce (@ev14 (sk) (f) (ws) (cm) k4) c0)) H
end Go.Av

namespace Go.Av
open Go.Proofs
theorem valB_okW {ws:List Wo} {cm:List UInt8} (h:Sp.valB ws cm = true):Sp.okW ws:=by
 unfold Sp.valB at h
 simp only [Bool.and_eq_true,decide_eq_true_eq,List.all_eq_true] at h
 obtain ⟨⟨h1,_⟩,h2,_⟩:=h
 refine ⟨by omega,fun w hw => ?_⟩
 have:=h2 w hw
 unfold Sp.woB at this
 simp only [decide_eq_true_eq] at this
 unfold Sp.okV
 omega
theorem vals_at {l:List Bk} {m:Int} (h:Sp.vals l m = true):(l.length:Int) <= m /\ ∀ b ∈ l,Sp.valB b.ws b.cm = true:=by
 unfold Sp.vals Sp.fewB at h
 simp only [Bool.and_eq_true,decide_eq_true_eq,List.all_eq_true] at h
 exact ⟨h.1.1,h.2⟩
theorem ev3 (sk f:Bool) (ws:List Wo) (cm:List UInt8):Ev M1 (.pure 3 [bkA sk f ws cm]) (.bool true) []:=by
 refine call3 (suZ sk f ws cm _ ⟨Sp.vals [⟨sk,f,ws,cm⟩] 1,ev12 true [⟨sk,f,ws,cm⟩] 1 (by unfold Sp.mO;omega),fun _ => rfl,fun h => ⟨?_,by simp⟩⟩)
 exact valB_okW ((vals_at (Classical.not_not.1 h)).2 ⟨sk,f,ws,cm⟩ (List.mem_singleton.2 rfl))
end Go.Av
