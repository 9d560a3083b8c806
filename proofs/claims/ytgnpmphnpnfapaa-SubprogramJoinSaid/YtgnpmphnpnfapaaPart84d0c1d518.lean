/- PART 4 of the texts of a claim, joined by a program: what each part shows stands at its head. -/
import Derived.Test.YtgnpmphnpnfapaaParte8dfbff21c

namespace Go.Av
open Go.Proofs
namespace Sp
def cnt (ws:List Wo) (c:Int):Int:=(codes ws c).length
def lastD (l:List Int) (d:Int):Int:=l.foldl (fun _ x => x) d
def lp (ws:List Wo):Int:=whV (lastD (codes ws 80) 0)
def lt (ws:List Wo):Int:=whV (lastD (codes ws 76) 1000)
def okL (w:Wo):Bool:=if w.l = 80 \/ w.l = 76 then whB w.v else decide (w.l = 77 \/ w.l = 78)
def okC (ws:List Wo):Bool:=ws.all okL && decide (cnt ws 77 = 1 /\ cnt ws 80 = 1 /\ cnt ws 76 <= 1 /\ cnt ws 78 <= 1)
def cIs (ws:List Wo):Bool:=hasW ws 77 98000 && okC ws
def cN (ws:List Wo):Int:=if cIs ws = true then lp ws else 0
def cT (ws:List Wo):Int:=if cIs ws = true then lt ws else 0
def cE (ws:List Wo):Int:=if (hasW ws 77 98000 && !okC ws) = true then 1 else 0
def okW (ws:List Wo):Prop:=ws.length <= 1000000 /\ ∀ w ∈ ws,okV w.v
end Sp
theorem codes_snoc (pre:List Wo) (w:Wo) (c:Int):Sp.codes (pre ++ [w]) c = if w.l = c then Sp.codes pre c ++ [w.v] else Sp.codes pre c:=by
 unfold Sp.codes
 rw [List.filter_append,List.map_append]
 by_cases h:w.l = c
 ·rw [List.filter_cons_of_pos (by simpa using h),if_pos h];rfl
 ·rw [List.filter_cons_of_neg (by simpa using h),if_neg h];simp
theorem last_snoc (l:List Int) (x d:Int):Sp.lastD (l ++ [x]) d = x:=by unfold Sp.lastD;rw [List.foldl_append];rfl
theorem cnt_snoc (pre:List Wo) (w:Wo) (c:Int):Sp.cnt (pre ++ [w]) c = if w.l = c then Sp.cnt pre c + 1 else Sp.cnt pre c:=by
 unfold Sp.cnt
 rw [codes_snoc]
 split
 ·simp
 ·rfl
theorem cnt_le (ws:List Wo) (c:Int):0 <= Sp.cnt ws c /\ Sp.cnt ws c <= ws.length:=by
 have:=codes_len ws c
 unfold Sp.cnt
 omega
theorem takeW {ws:List Wo} {i:Nat} (h:i < ws.length):ws.take (i + 1) = ws.take i ++ [ws.getD i default]:=by
 rw [List.take_succ_eq_append_getElem h,List.getD_eq_getElem?_getD,List.getElem?_eq_getElem h];rfl
theorem okV_at {ws:List Wo} (h:Sp.okW ws) {i:Nat} (hi:i < ws.length):Sp.okV (ws.getD i default).v:=h.2 _ (getD_mem hi)
def Sp.rp (ws:List Wo):Int:=Sp.whR (Sp.lastD (Sp.codes ws 80) 0)
def Sp.rt (ws:List Wo):Int:=Sp.whR (Sp.lastD (Sp.codes ws 76) 1000)
theorem rp_snoc (pre:List Wo) (w:Wo):Sp.rp (pre ++ [w]) = if w.l = 80 then Sp.whR w.v else Sp.rp pre:=by
 unfold Sp.rp
 rw [codes_snoc]
 split
 ·rw [last_snoc]
 ·rfl
theorem rt_snoc (pre:List Wo) (w:Wo):Sp.rt (pre ++ [w]) = if w.l = 76 then Sp.whR w.v else Sp.rt pre:=by
 unfold Sp.rt
 rw [codes_snoc]
 split
 ·rw [last_snoc]
 ·rfl
def Sp.lets (ws:List Wo):Bool:=ws.all fun w => decide (w.l = 77 \/ w.l = 80 \/ w.l = 76 \/ w.l = 78)
theorem whR_pos {x:Int}:Sp.whR x = 0 ↔ Sp.whB x = false:=by
 unfold Sp.whR
 cases h:Sp.whB x with
 | false => simp
 | true =>
  unfold Sp.whB at h
  simp only [decide_eq_true_eq] at h
  simp [Sp.whV];omega
theorem mem_codes {ws:List Wo} {c x:Int}:x ∈ Sp.codes ws c ↔ ∃ w ∈ ws,w.l = c /\ w.v = x:=by
 unfold Sp.codes
 simp only [List.mem_map,List.mem_filter,decide_eq_true_eq]
 exact ⟨fun ⟨w,⟨h1,h2⟩,h3⟩ => ⟨w,h1,h2,h3⟩,fun ⟨w,h1,h2,h3⟩ => ⟨w,⟨h1,h2⟩,h3⟩⟩
theorem okC_iff {ws:List Wo}:Sp.okC ws = true ↔ (Sp.lets ws = true /\ ¬((((((¬Sp.cnt ws 77 = 1) \/ (¬Sp.cnt ws 80 = 1)) \/ (Sp.cnt ws 76 > 1)) \/ (Sp.cnt ws 78 > 1)) \/ (Sp.rp ws = 0)) \/ (Sp.rt ws = 0))):=by
 unfold Sp.okC Sp.lets
 simp only [Bool.and_eq_true,List.all_eq_true,decide_eq_true_eq]
 have one:∀ c d,Sp.cnt ws c = 1 -> ∃ x,Sp.codes ws c = [x] /\ Sp.lastD (Sp.codes ws c) d = x:=by
  intro c d h
  unfold Sp.cnt at h
  match hc:Sp.codes ws c,h with
  | [x],_ => exact ⟨x,rfl,rfl⟩
 have none:∀ c d,Sp.cnt ws c = 0 -> Sp.lastD (Sp.codes ws c) d = d /\ Sp.codes ws c = []:=by
  intro c d h
  unfold Sp.cnt at h
  have:Sp.codes ws c = []:=List.length_eq_zero_iff.1 (by omega)
  exact ⟨by rw [this];rfl,this⟩
 constructor
 ·rintro ⟨h1,h2,h3,h4,h5⟩
  refine ⟨fun w hw => ?_,?_⟩
  ·have:=h1 w hw
   unfold Sp.okL at this
   split at this
   ·rename_i k;omega
   ·simp only [decide_eq_true_eq] at this;omega
  ·have c4:=cnt_le ws 76
   have p0:¬Sp.rp ws = 0:=by
    obtain ⟨x,e1,e2⟩:=one 80 0 h3
    unfold Sp.rp
    rw [e2,whR_pos]
    obtain ⟨w,hw,k1,k2⟩:=mem_codes.1 (show x ∈ Sp.codes ws 80 by rw [e1];simp)
    have:=h1 w hw
    unfold Sp.okL at this
    rw [if_pos (.inl k1),k2] at this
    rw [this];simp
   have t0:¬Sp.rt ws = 0:=by
    unfold Sp.rt
    rw [whR_pos]
    by_cases hz:Sp.cnt ws 76 = 0
    ·rw [(none 76 1000 hz).1];decide
    ·obtain ⟨x,e1,e2⟩:=one 76 1000 (by omega)
     rw [e2]
     obtain ⟨w,hw,k1,k2⟩:=mem_codes.1 (show x ∈ Sp.codes ws 76 by rw [e1];simp)
     have:=h1 w hw
     unfold Sp.okL at this
     rw [if_pos (.inr k1),k2] at this
     rw [this];simp
   omega
 ·rintro ⟨h1,h2⟩
  have g1:Sp.cnt ws 77 = 1 /\ Sp.cnt ws 80 = 1 /\ Sp.cnt ws 76 <= 1 /\ Sp.cnt ws 78 <= 1 /\ ¬Sp.rp ws = 0 /\ ¬Sp.rt ws = 0:=by omega
  obtain ⟨a1,a2,a3,a4,a5,a6⟩:=g1
  refine ⟨fun w hw => ?_,a1,a2,a3,a4⟩
  have hl:=h1 w hw
  unfold Sp.okL
  split
  ·rename_i k
   rcases k with k | k
   ·obtain ⟨x,e1,e2⟩:=one 80 0 a2
    have hx:w.v ∈ Sp.codes ws 80:=mem_codes.2 ⟨w,hw,k,rfl⟩
    rw [e1,List.mem_singleton] at hx
    unfold Sp.rp at a5
    rw [e2,whR_pos,<- hx] at a5
    simpa using a5
   ·have hx:w.v ∈ Sp.codes ws 76:=mem_codes.2 ⟨w,hw,k,rfl⟩
    have hz:¬Sp.cnt ws 76 = 0:=fun hz => by rw [(none 76 1000 hz).2] at hx;cases hx
    have:=cnt_le ws 76
    obtain ⟨x,e1,e2⟩:=one 76 1000 (by omega)
    rw [e1,List.mem_singleton] at hx
    unfold Sp.rt at a6
    rw [e2,whR_pos,<- hx] at a6
    simpa using a6
  ·exact decide_eq_true (by omega)
theorem okC_vals {ws:List Wo} (h:Sp.okC ws = true):Sp.rp ws = Sp.lp ws /\ Sp.rt ws = Sp.lt ws:=by
 have hi:=(okC_iff.1 h).2
 have g:¬Sp.rp ws = 0 /\ ¬Sp.rt ws = 0:=by omega
 unfold Sp.rp Sp.rt at g
 rw [whR_pos,whR_pos] at g
 unfold Sp.rp Sp.rt Sp.lp Sp.lt Sp.whR
 rw [if_pos (by simpa using g.1),if_pos (by simpa using g.2)]
 exact ⟨rfl,rfl⟩
theorem suRa_loop {sk f:Bool} {ws:List Wo} {cm:List UInt8} {dq:AV} (hl:Sp.okW ws) (hq:AV.tup [.int .i64 (if Sp.okC ws = true then Sp.lp ws else 0),.int .i64 (if Sp.okC ws = true then Sp.lt ws else 0),.bool (Sp.okC ws),.int .i64 (if Sp.okC ws = true then 0 else 1)] = dq) :
  ∀ (k i:Nat),i + k = ws.length -> Sp.lets (ws.take i) = true -> suRa_at sk f ws cm (Sp.rp (ws.take i)) (Sp.rt (ws.take i)) (Sp.cnt (ws.take i) 80) (Sp.cnt (ws.take i) 76) (Sp.cnt (ws.take i) 77) (Sp.cnt (ws.take i) 78) i (PureQ dq):=by
 have hlen:=hl.1
 intro k
 induction k with
 | zero =>
  intro i hi hs
  rw [List.take_of_length_le (show ws.length <= i by omega)] at hs ⊢
  refine suRa _ _ _ _ _ _ _ _ _ _ _ _ ⟨fun h => by omega,fun _ => ⟨fun h => ?_,fun h => ?_⟩⟩
  ·have hn:Sp.okC ws = false:=by
    cases hc:Sp.okC ws with
    | false => rfl
    | true => exact absurd h (okC_iff.1 hc).2
   rw [hn] at hq
   exact hq
  ·have hn:Sp.okC ws = true:=okC_iff.2 ⟨hs,h⟩
   obtain ⟨e1,e2⟩:=okC_vals hn
   rw [hn] at hq
   rw [e1,e2]
   exact hq
 | succ k ih =>
  intro i hi hs
  have hil:i < ws.length:=by omega
  have hv:=okV_at hl hil
  have hp:=rp_snoc (ws.take i) (ws.getD i default)
  have ht:=rt_snoc (ws.take i) (ws.getD i default)
  have hn:∀ c,Sp.cnt (ws.take (i + 1)) c = if (ws.getD i default).l = c then Sp.cnt (ws.take i) c + 1 else Sp.cnt (ws.take i) c:=fun c => by rw [takeW hil,cnt_snoc]
  have hs':Sp.lets (ws.take (i + 1)) = (Sp.lets (ws.take i) && decide ((ws.getD i default).l = 77 \/ (ws.getD i default).l = 80 \/ (ws.getD i default).l = 76 \/ (ws.getD i default).l = 78)):=by
   unfold Sp.lets
   rw [takeW hil,List.all_append];simp
  have hmem:ws.getD i default ∈ ws:=getD_mem hil
  rw [<- takeW hil] at hp ht
  refine suRa _ _ _ _ _ _ _ _ _ _ _ _ ⟨fun _ => ?_,fun h => by omega⟩
  rw [Int.toNat_natCast]
  generalize ws.getD i default = w at hv hs' hp ht hn hmem ⊢
  have cb:=fun c => cnt_le (ws.take i) c
  have c1:=cb 77
  have c2:=cb 80
  have c3:=cb 76
  have c4:=cb 78
  have cl:(ws.take i).length <= ws.length:=by rw [List.length_take];omega
  have next:=ih (i + 1) (by omega)
  rw [hs',hs,Bool.true_and,hp,ht,hn,hn,hn,hn] at next
  refine ⟨by omega,by omega,fun h => ⟨by omega,by omega,?_⟩,fun h1 => ⟨fun h => ⟨by omega,hv,by omega,?_⟩,fun h2 => ⟨fun h => ⟨by omega,hv,by omega,?_⟩,fun h3 => ⟨fun h => ⟨by omega,by omega,?_⟩,fun h4 => ?_⟩⟩⟩⟩
  ·have:=next (decide_eq_true (.inl h))
   simp only [h,if_true,show ¬(77:Int) = 80 by omega,show ¬(77:Int) = 76 by omega,show ¬(77:Int) = 78 by omega,if_false] at this
   exact this
  ·have:=next (decide_eq_true (.inr (.inl h)))
   simp only [h,if_true,show ¬(80:Int) = 77 by omega,show ¬(80:Int) = 76 by omega,show ¬(80:Int) = 78 by omega,if_false] at this
   exact this
  ·have:=next (decide_eq_true (.inr (.inr (.inl h))))
   simp only [h,if_true,show ¬(76:Int) = 77 by omega,show ¬(76:Int) = 80 by omega,show ¬(76:Int) = 78 by omega,if_false] at this
   exact this
  ·have:=next (decide_eq_true (.inr (.inr (.inr h))))
   simp only [h,if_true,show ¬(78:Int) = 77 by omega,show ¬(78:Int) = 80 by omega,show ¬(78:Int) = 76 by omega,if_false] at this
   exact this
  ·have hnn:Sp.okC ws = false:=by
    cases hc:Sp.okC ws with
    | false => rfl
    | true =>
     have:=(okC_iff.1 hc).1
     unfold Sp.lets at this
     have:=List.all_eq_true.1 this w hmem
     simp only [decide_eq_true_eq] at this
     omega
   rw [hnn] at hq
   exact hq
theorem ev14 (sk f:Bool) (ws:List Wo) (cm:List UInt8) (h:Sp.okW ws):Ev M1 (.pure 14 [bkA sk f ws cm]) (.tup [.int .i64 (Sp.cN ws),.int .i64 (Sp.cT ws),.bool (Sp.cIs ws),.int .i64 (Sp.cE ws)]) []:=by
 unfold Sp.cN Sp.cT Sp.cE Sp.cIs
 refine call14 (suR sk f ws cm _ ⟨h.1,fun k => ?_,fun k => ?_⟩)
 ·have k:Sp.hasW ws 77 98000 = false:=by simpa using k
  simp only [k,Bool.false_and]
  rfl
 ·have k:Sp.hasW ws 77 98000 = true:=by simpa using k
  simp only [k,Bool.true_and]
  have:=suRa_loop (sk:=sk) (f:=f) (cm:=cm) h rfl ws.length 0 (by omega) rfl
  rw [List.take_zero,show Sp.rp [] = 0 by decide,show Sp.rt [] = 1 by decide] at this
  cases hc:Sp.okC ws with
  | true => rw [hc] at this;exact this
  | false => rw [hc] at this;exact this
end Go.Av

namespace Go.Av
open Go.Proofs
set_option maxRecDepth 100000
end Go.Av

namespace Go.Av
open Go.Proofs
theorem valB_okW {ws:List Wo} {cm:List UInt8} (h:Sp.valB ws cm = true):Sp.okW ws:=by
 unfold Sp.valB at h
 simp only [Bool.and_eq_true,decide_eq_true_eq,List.all_eq_true] at h
 obtain ⟨⟨h1,_⟩,h2,_⟩:=h
 refine ⟨by omega,fun w hw => ?_⟩
 have:=h2 w hw
 unfold Sp.woB at this
 simp only [decide_eq_true_eq] at this
 unfold Sp.okV
 omega
theorem vals_at {l:List Bk} {m:Int} (h:Sp.vals l m = true):(l.length:Int) <= m /\ ∀ b ∈ l,Sp.valB b.ws b.cm = true:=by
 unfold Sp.vals Sp.fewB at h
 simp only [Bool.and_eq_true,decide_eq_true_eq,List.all_eq_true] at h
 exact ⟨h.1.1,h.2⟩
end Go.Av

namespace Go.Av
open Go.Proofs
set_option maxRecDepth 100000
def fi48:Fi:=⟨45,[.tmp 4]⟩
def kp48:List (Nat × List Nat):=[(0,[2,3]),(1,[2,3,26]),(2,[4]),(3,[2,3,5]),(4,[2,3,5,31]),(5,[2,3,5]),(6,[2,3,5,44]),(7,[4]),(8,[4])]
def fi61:Fi:=⟨17,[.tmp 2]⟩
def kp61:List (Nat × List Nat):=[(0,[1]),(1,[2])]
def fi64:Fi:=⟨5,[.tmp 2]⟩
def kp64:List (Nat × List Nat):=[(0,[1]),(1,[2])]
def fi65:Fi:=⟨5,[.tmp 2]⟩
def kp65:List (Nat × List Nat):=[(0,[1]),(1,[2])]
def fi66:Fi:=⟨10,[.tmp 4]⟩
def kp66:List (Nat × List Nat):=[(0,[1,2]),(1,[4])]
def fi77:Fi:=⟨15,[.tmp 2]⟩
def kp77:List (Nat × List Nat):=[(0,[1]),(1,[2])]
def suMk_at (sk f:Bool) (ws:List Wo) (cm:List UInt8) (Q:AV -> Heap -> Prop):Prop:=Wp M1 (.run fi77 (atC (cd Try.f77) []) [(0,.agg [.bool sk,.vec f 2 (ws.map Wo.a),.str cm])] []) Q
def suLt_at (sk f:Bool) (ws:List Wo) (cm:List UInt8) (c:Int) (Q:AV -> Heap -> Prop):Prop:=Wp M1 (.run fi66 (atC (cd Try.f66) []) [(0,.agg [.bool sk,.vec f 2 (ws.map Wo.a),.str cm]),(1,.int .u8 c)] []) Q
def suEn_at (sk f:Bool) (ws:List Wo) (cm:List UInt8) (Q:AV -> Heap -> Prop):Prop:=Wp M1 (.run fi64 (atC (cd Try.f64) []) [(0,.agg [.bool sk,.vec f 2 (ws.map Wo.a),.str cm])] []) Q
def suRe_at (sk f:Bool) (ws:List Wo) (cm:List UInt8) (Q:AV -> Heap -> Prop):Prop:=Wp M1 (.run fi65 (atC (cd Try.f65) []) [(0,.agg [.bool sk,.vec f 2 (ws.map Wo.a),.str cm])] []) Q
def suPl_at (sk f:Bool) (ws:List Wo) (cm:List UInt8) (Q:AV -> Heap -> Prop):Prop:=Wp M1 (.run fi61 (atC (cd Try.f61) []) [(0,.agg [.bool sk,.vec f 2 (ws.map Wo.a),.str cm])] []) Q
def suEq_at (sk f tk g:Bool) (ws vs:List Wo) (cm dm:List UInt8) (Q:AV -> Heap -> Prop):Prop:=Wp M1 (.run fi48 (atC (cd Try.f48) []) [(0,.agg [.bool sk,.vec f 2 (ws.map Wo.a),.str cm]),(1,.agg [.bool tk,.vec g 2 (vs.map Wo.a),.str dm])] []) Q
def suEqa_at (sk f tk g:Bool) (ws vs:List Wo) (cm dm:List UInt8) (i:Int) (Q:AV -> Heap -> Prop):Prop:=Wp M1 (.run fi48 (atC (cd Try.f48) [1,1,0,1,0,0]) [(2,.ptr 0 0 0 0),(3,.ptr 1 0 0 0),(5,.int .i64 i)] [⟨[.agg [.bool sk,.vec f 2 (ws.map Wo.a),.str cm]],3,0,false,false⟩,⟨[.agg [.bool tk,.vec g 2 (vs.map Wo.a),.str dm]],3,0,false,false⟩]) Q
theorem call48 {args:List AV} {d:AV} (h:wc M1 fi48 Try.f48 args d):Ev M1 (.pure 48 args) d []:=pcl _ _ (by kernel_rfl) h
theorem call61 {args:List AV} {d:AV} (h:wc M1 fi61 Try.f61 args d):Ev M1 (.pure 61 args) d []:=pcl _ _ (by kernel_rfl) h
theorem call64 {args:List AV} {d:AV} (h:wc M1 fi64 Try.f64 args d):Ev M1 (.pure 64 args) d []:=pcl _ _ (by kernel_rfl) h
theorem call65 {args:List AV} {d:AV} (h:wc M1 fi65 Try.f65 args d):Ev M1 (.pure 65 args) d []:=pcl _ _ (by kernel_rfl) h
theorem call66 {args:List AV} {d:AV} (h:wc M1 fi66 Try.f66 args d):Ev M1 (.pure 66 args) d []:=pcl _ _ (by kernel_rfl) h
theorem call77 {args:List AV} {d:AV} (h:wc M1 fi77 Try.f77 args d):Ev M1 (.pure 77 args) d []:=pcl _ _ (by kernel_rfl) h
theorem suMk (sk f:Bool) (ws:List Wo) (cm:List UInt8)  (dq:AV) (H :
  (Sp.few6 ws.length) /\
  vb (bif bif decide ((↑(Sp.codes ws 79).length:Int) > 0) then true else Sp.hasW ws 77 30000 then true else Sp.hasW ws 77 99000) = dq) :
 suMk_at sk f ws cm (PureQ dq):=by
 unfold suMk_at
 obtain ⟨k1,H⟩:=H
 have w2:(List.map (vi) (Sp.codes ws 79)).length = (Sp.codes ws 79).length:=List.length_map ..
 have i3:(decide ((↑(List.map (vi) (Sp.codes ws 79)).length:Int) > 0) == false && true && true) = true ↔ (¬((↑(Sp.codes ws 79).length:Int) > 0)):=(by (try rw [w2]);all_goals exact (i_at (i_at (i_bf i_dec))))
 have i4:((bif decide ((↑(List.map (vi) (Sp.codes ws 79)).length:Int) > 0) then true else Sp.hasW ws 77 30000) == false && true && true) = true ↔ (¬(((↑(Sp.codes ws 79).length:Int) > 0) \/ (Sp.hasW ws 77 30000 = true))):=(by (try rw [w2]);all_goals exact (i_at (i_at (i_bf (i_bor i_dec (i_var _))))))
 exact path_re (G:=given kp77 [(1,1,.call (vf (List.map (vi) (Sp.codes ws 79))) none),(1,6,.call (vb (Sp.hasW ws 77 30000)) none),(1,10,.call (vb (Sp.hasW ws 77 99000)) none)] []) 1000 [] (asm:=[true,!(decide ((↑(List.map (vi) (Sp.codes ws 79)).length:Int) > 0) == false && true) || true,!((bif decide ((↑(List.map (vi) (Sp.codes ws 79)).length:Int) > 0) then true else Sp.hasW ws 77 30000) == false && true) || true]) (calls:=[⟨true,false,70,[ag [vb sk,AV.vec f 2 (List.map Wo.a ws),AV.str cm],AV.int IntKind.u8 79],[],vf (List.map (vi) (Sp.codes ws 79)),[]⟩,⟨decide ((↑(List.map (vi) (Sp.codes ws 79)).length:Int) > 0) == false && true && true,false,40,[ag [vb sk,AV.vec f 2 (List.map Wo.a ws),AV.str cm],AV.int IntKind.u8 77,vi 30000],[],vb (Sp.hasW ws 77 30000),[]⟩,⟨(bif decide ((↑(List.map (vi) (Sp.codes ws 79)).length:Int) > 0) then true else Sp.hasW ws 77 30000) == false && true && true,false,40,[ag [vb sk,AV.vec f 2 (List.map Wo.a ws),AV.str cm],AV.int IntKind.u8 77,vi 99000],[],vb (Sp.hasW ws 77 99000),[]⟩]) (vb (bif bif decide ((↑(List.map (vi) (Sp.codes ws 79)).length:Int) > 0) then true else Sp.hasW ws 77 30000 then true else Sp.hasW ws 77 99000)) (by kernel_rfl) (bc rfl (bc (Bool.or_true _) (bc (Bool.or_true _) b0))) q0 (cc (fun _ => (@ev70 (sk) (f) (ws) (cm) (79) k1)) (cc (fun hc => ((@ev40 (sk) (f) (ws) (cm) (77) (30000) k1):Ev M1 (Conf.pure 40 [ag [vb sk,AV.vec f 2 (List.map Wo.a ws),AV.str cm],AV.int IntKind.u8 77,vi 30000]) (vb (Sp.hasW ws 77 30000)) [])) (cc (fun hc => ((@ev40 (sk) (f) (ws) (cm) (77) (99000) k1):Ev M1 (Conf.pure 40 [ag [vb sk,AV.vec f 2 (List.map Wo.a ws),AV.str cm],AV.int IntKind.u8 77,vi 99000]) (vb (Sp.hasW ws 77 99000)) [])) c0))) (by (try rw [w2]);all_goals exact H)
theorem suLt (sk f:Bool) (ws:List Wo) (cm:List UInt8) (c:Int)  (dq:AV) (H :
  (Sp.few6 ws.length) /\
  vb (decide ((↑(Sp.codes ws c).length:Int) > 0)) = dq) :
 suLt_at sk f ws cm c (PureQ dq):=by
 unfold suLt_at
 obtain ⟨k1,H⟩:=H
 have w2:(List.map (vi) (Sp.codes ws c)).length = (Sp.codes ws c).length:=List.length_map ..
 exact path_re (G:=given kp66 [(1,2,.call (vf (List.map (vi) (Sp.codes ws c))) none)] []) 1000 [] (vb (decide ((↑(List.map (vi) (Sp.codes ws c)).length:Int) > 0))) (by kernel_rfl) (bc rfl b0) q0 (ce (@ev81 (sk) (f) (ws) (cm) (c) k1) c0) (by (try rw [w2]);all_goals exact H)
theorem suEn (sk f:Bool) (ws:List Wo) (cm:List UInt8)  (dq:AV) (H :
  (Sp.few6 ws.length) /\
  vb (Sp.hasW ws 77 30000) = dq) :
 suEn_at sk f ws cm (PureQ dq):=by
 unfold suEn_at
 obtain ⟨k1,H⟩:=H
 exact path_re (G:=given kp64 [(1,1,.call (vb (Sp.hasW ws 77 30000)) none)] []) 1000 [] (vb (Sp.hasW ws 77 30000)) (by kernel_rfl) (bc rfl b0) q0 (ce (@ev42 (sk) (f) (ws) (cm) (77) (30000) k1) c0) H
theorem suRe (sk f:Bool) (ws:List Wo) (cm:List UInt8)  (dq:AV) (H :
  (Sp.few6 ws.length) /\
  vb (Sp.hasW ws 77 99000) = dq) :
 suRe_at sk f ws cm (PureQ dq):=by
 unfold suRe_at
 obtain ⟨k1,H⟩:=H
 exact path_re (G:=given kp65 [(1,1,.call (vb (Sp.hasW ws 77 99000)) none)] []) 1000 [] (vb (Sp.hasW ws 77 99000)) (by kernel_rfl) (bc rfl b0) q0 (ce (@ev42 (sk) (f) (ws) (cm) (77) (99000) k1) c0) H
theorem suPl (sk f:Bool) (ws:List Wo) (cm:List UInt8)  (dq:AV) (H :
  (vb (bif bif (↑ws.length:Int) == 1 then !sk else false then cm == [] else false)) = dq) :
 suPl_at sk f ws cm (PureQ dq):=by
 unfold suPl_at
 have w1:(List.map Wo.a ws).length = ws.length:=List.length_map ..
 exact path_re (G:=given kp61 [] []) 1000 [] (asm:=[true,!(((↑(List.map Wo.a ws).length:Int) == 1) == true && true) || true,!((bif (↑(List.map Wo.a ws).length:Int) == 1 then !sk else false) == true && true) || true]) (vb (bif bif (↑(List.map Wo.a ws).length:Int) == 1 then !sk else false then cm == [] else false)) (by kernel_rfl) (bc rfl (bc (Bool.or_true _) (bc (Bool.or_true _) b0))) q0 c0 (by (try rw [w1]);all_goals exact H)
theorem suEq (sk f tk g:Bool) (ws vs:List Wo) (cm dm:List UInt8)  (dq:AV) (H :
  ((((¬(sk = tk)) \/ (¬cm = dm)) \/ (¬(↑ws.length:Int) = (↑vs.length:Int))) -> vb false = dq) /\
  (¬(((¬(sk = tk)) \/ (¬cm = dm)) \/ (¬(↑ws.length:Int) = (↑vs.length:Int))) -> suEqa_at (sk) (f) (tk) (g) (ws) (vs) (cm) (dm) (0) (PureQ dq))) :
 suEq_at sk f tk g ws vs cm dm (PureQ dq):=by
 unfold suEq_at
 have w1:(List.map Wo.a ws).length = ws.length:=List.length_map ..
 have w2:(List.map Wo.a vs).length = vs.length:=List.length_map ..
 have i3:(bif bif !sk == tk then true else !cm == dm then true else (↑(List.map Wo.a ws).length:Int) != (↑(List.map Wo.a vs).length:Int)) = true ↔ (((¬(sk = tk)) \/ (¬cm = dm)) \/ (¬(↑ws.length:Int) = (↑vs.length:Int))):=(by (try rw [w1]);(try rw [w2]);all_goals exact (i_bor (i_bor (i_not i_eq) i_neq) i_ne))
 rcases xm (((¬(sk = tk)) \/ (¬cm = dm)) \/ (¬(↑ws.length:Int) = (↑vs.length:Int))) with d4 | d4
 ·have H:=H.1 d4
  exact path_re (G:=given kp48 [] []) 1000 [true] (asm:=[true,true,!((!sk == tk) == false && true) || true,!((!sk == tk) == false && true) || true,!((bif !sk == tk then true else !cm == dm) == false && true) || true,!((bif !sk == tk then true else !cm == dm) == false && true) || true,(bif bif !sk == tk then true else !cm == dm then true else (↑(List.map Wo.a ws).length:Int) != (↑(List.map Wo.a vs).length:Int)) == true]) (vb false) (by kernel_rfl) (bc rfl (bc rfl (bc (Bool.or_true _) (bc (Bool.or_true _) (bc (Bool.or_true _) (bc (Bool.or_true _) (bc (beq_t (i3.2 d4)) b0))))))) q0 c0 H
 ·have H:=H.2 d4
  exact path_wp (G:=given kp48 [] []) 1000 [false] ⟨(atC (cd Try.f48) [1,1,0,1,0,0]),[(2,AV.ptr 0 0 0 0),(3,AV.ptr 1 0 0 0),(5,vi 0)],[⟨[ag [vb sk,AV.vec f 2 (List.map Wo.a ws),AV.str cm]],3,0,false,false⟩,⟨[ag [vb tk,AV.vec g 2 (List.map Wo.a vs),AV.str dm]],3,0,false,false⟩],[true,true,!((!sk == tk) == false && true) || true,!((!sk == tk) == false && true) || true,!((bif !sk == tk then true else !cm == dm) == false && true) || true,!((bif !sk == tk then true else !cm == dm) == false && true) || true,(bif bif !sk == tk then true else !cm == dm then true else (↑(List.map Wo.a ws).length:Int) != (↑(List.map Wo.a vs).length:Int)) == false],[],_⟩ (by kernel_rfl) (bc rfl (bc rfl (bc (Bool.or_true _) (bc (Bool.or_true _) (bc (Bool.or_true _) (bc (Bool.or_true _) (bc (beq_f (fun h => d4 (i3.1 h))) b0))))))) q0 c0 (H)
theorem suEqa (sk f tk g:Bool) (ws vs:List Wo) (cm dm:List UInt8) (i:Int)  (dq:AV) (H :
  ((i < (↑ws.length:Int)) -> (0 <= i) /\
   (i.toNat < ws.length) /\
   (i.toNat < vs.length) /\
   ((¬(((ws.getD i.toNat default).l = (vs.getD i.toNat default).l) /\ ((ws.getD i.toNat default).v = (vs.getD i.toNat default).v))) -> vb false = dq) /\
   (¬(¬(((ws.getD i.toNat default).l = (vs.getD i.toNat default).l) /\ ((ws.getD i.toNat default).v = (vs.getD i.toNat default).v))) -> (-9223372036854775808 <= i + 1 /\ i + 1 <= 9223372036854775807) /\
    suEqa_at (sk) (f) (tk) (g) (ws) (vs) (cm) (dm) (i + 1) (PureQ dq))) /\
  (¬(i < (↑ws.length:Int)) -> vb true = dq)) :
 suEqa_at sk f tk g ws vs cm dm i (PureQ dq):=by
 unfold suEqa_at
 have w1:(List.map Wo.a ws).length = ws.length:=List.length_map ..
 have i2:(decide (i < (↑(List.map Wo.a ws).length:Int))) = true ↔ (i < (↑ws.length:Int)):=(by (try rw [w1]);all_goals exact i_dec)
 rcases xm (i < (↑ws.length:Int)) with d3 | d3
 ·have H:=H.1 d3
  obtain ⟨k5,H⟩:=H
  have i6:(decide (i.toNat < (List.map Wo.a ws).length)) = true ↔ (i.toNat < ws.length):=(by (try rw [w1]);all_goals exact i_dec)
  obtain ⟨k7,H⟩:=H
  have w9:(List.map Wo.a vs).length = vs.length:=List.length_map ..
  have i10:(decide (i.toNat < (List.map Wo.a vs).length)) = true ↔ (i.toNat < vs.length):=(by (try rw [w9]);all_goals exact i_dec)
  obtain ⟨k11,H⟩:=H
  refine path_wp (G:=given kp48 [(6,4,.elem (ag [AV.int IntKind.u8 (ws.getD i.toNat default).l,vi (ws.getD i.toNat default).v])),(6,9,.elem (ag [AV.int IntKind.u8 (vs.getD i.toNat default).l,vi (vs.getD i.toNat default).v]))] []) 9 [true] ⟨(atC (cd Try.f48) [1,1,0,1,0,0,1,0,0,1]),[(2,AV.ptr 0 0 0 0),(3,AV.ptr 1 0 0 0),(5,vi i),(44,vb !((ws.getD i.toNat default).l == (vs.getD i.toNat default).l && ((ws.getD i.toNat default).v == (vs.getD i.toNat default).v && true)))],[⟨[ag [vb sk,AV.vec f 2 (List.map Wo.a ws),AV.str cm]],3,0,false,false⟩,⟨[ag [vb tk,AV.vec g 2 (List.map Wo.a vs),AV.str dm]],3,0,false,false⟩],_,[((List.map Wo.a ws).get?Internal i.toNat = some (ag [AV.int IntKind.u8 (ws.getD i.toNat default).l,vi (ws.getD i.toNat default).v])),((List.map Wo.a vs).get?Internal i.toNat = some (ag [AV.int IntKind.u8 (vs.getD i.toNat default).l,vi (vs.getD i.toNat default).v]))],_⟩ (by kernel_rfl) (bc rfl (bc (beq_t (i2.2 d3)) (bc rfl (bc (i_dec.2 k5) (bc (i6.2 k7) (bc rfl (bc (i_dec.2 k5) (bc (i10.2 k11) b0)))))))) (qc (el_map k7) (qc (el_map k11) q0)) c0 ?_
  rcases xm (¬(((ws.getD i.toNat default).l = (vs.getD i.toNat default).l) /\ ((ws.getD i.toNat default).v = (vs.getD i.toNat default).v))) with d13 | d13
  ·have H:=H.1 d13
   exact path_re (G:=given kp48 [] []) 1000 [true] (vb false) (by kernel_rfl) (bc (beq_t ((i_not (i_and i_eq (i_at i_eq))).2 d13)) b0) q0 c0 H
  ·have H:=H.2 d13
   obtain ⟨k14,H⟩:=H
   have w15:wi (i + 1) = i + 1:=wI64 k14
   exact path_wp (G:=given kp48 [] []) 1000 [false] ⟨(atC (cd Try.f48) [1,1,0,1,0,0]),[(2,AV.ptr 0 0 0 0),(3,AV.ptr 1 0 0 0),(5,vi (wi (i + 1)))],[⟨[ag [vb sk,AV.vec f 2 (List.map Wo.a ws),AV.str cm]],3,0,false,false⟩,⟨[ag [vb tk,AV.vec g 2 (List.map Wo.a vs),AV.str dm]],3,0,false,false⟩],_,[],_⟩ (by kernel_rfl) (bc (beq_f (fun h => d13 ((i_not (i_and i_eq (i_at i_eq))).1 h))) b0) q0 c0 (by (try rw [w15]);all_goals exact H)
 ·have H:=H.2 d3
  exact path_re (G:=given kp48 [] []) 1000 [false] (vb true) (by kernel_rfl) (bc rfl (bc (beq_f (fun h => d3 (i2.1 h))) b0)) q0 c0 H
end Go.Av

namespace Go.Av
open Go.Proofs
namespace Sp
def letB (ws:List Wo) (c:Int):Bool:=decide (0 < (codes ws c).length)
def endB (ws:List Wo):Bool:=hasW ws 77 30000
def backB (ws:List Wo):Bool:=hasW ws 77 99000
def mkB (ws:List Wo):Bool:=letB ws 79 || (endB ws || backB ws)
def plB (sk:Bool) (ws:List Wo) (cm:List UInt8):Bool:=decide (ws.length = 1 /\ sk = false /\ cm = [])
def onB (sk:Bool) (ws:List Wo) (cm:List UInt8) (c:Int):Bool:=decide (ws.length = 1 /\ (ws.getD 0 default).l = c /\ sk = false /\ cm = [])
def eqB (sk tk:Bool) (ws vs:List Wo) (cm dm:List UInt8):Bool:=decide (sk = tk /\ cm = dm /\ ws = vs)
end Sp
theorem gt_pos (n:Nat):decide ((n:Int) > 0) = decide (0 < n):=decide_eq_decide.2 (by omega)
theorem ev77 (sk f:Bool) (ws:List Wo) (cm:List UInt8) (h:Sp.few6 ws.length):Ev M1 (.pure 77 [bkA sk f ws cm]) (.bool (Sp.mkB ws)) []:=by
 refine call77 (suMk sk f ws cm _ ⟨h,?_⟩)
 unfold Sp.mkB Sp.letB Sp.endB Sp.backB
 rw [gt_pos]
 cases decide (0 < (Sp.codes ws 79).length) <;> cases Sp.hasW ws 77 30000 <;> rfl
theorem ev66 (sk f:Bool) (ws:List Wo) (cm:List UInt8) (c:Int) (h:Sp.few6 ws.length):Ev M1 (.pure 66 [bkA sk f ws cm,.int .u8 c]) (.bool (Sp.letB ws c)) []:=
 call66 (suLt sk f ws cm c _ ⟨h,by rw [gt_pos];rfl⟩)
theorem ev64 (sk f:Bool) (ws:List Wo) (cm:List UInt8) (h:Sp.few6 ws.length):Ev M1 (.pure 64 [bkA sk f ws cm]) (.bool (Sp.endB ws)) []:=
 call64 (suEn sk f ws cm _ ⟨h,rfl⟩)
theorem ev65 (sk f:Bool) (ws:List Wo) (cm:List UInt8) (h:Sp.few6 ws.length):Ev M1 (.pure 65 [bkA sk f ws cm]) (.bool (Sp.backB ws)) []:=
 call65 (suRe sk f ws cm _ ⟨h,rfl⟩)
theorem ev61 (sk f:Bool) (ws:List Wo) (cm:List UInt8):Ev M1 (.pure 61 [bkA sk f ws cm]) (.bool (Sp.plB sk ws cm)) []:=by
 refine call61 (suPl sk f ws cm _ ?_)
 congr 1
 unfold Sp.plB
 have e:((ws.length:Int) == 1) = decide (ws.length = 1):=by rw [Bool.eq_iff_iff];simp;omega
 rw [e]
 by_cases h1:ws.length = 1 <;> cases sk <;> by_cases h4:cm = [] <;> simp [h1,h4]
theorem wo_eq {a b:Wo}:a = b ↔ a.l = b.l /\ a.v = b.v:=⟨fun h => by rw [h];exact ⟨rfl,rfl⟩,fun ⟨h1,h2⟩ => by cases a;cases b;simp_all⟩
theorem suEq_loop {sk f tk g:Bool} {ws vs:List Wo} {cm dm:List UInt8} {dq:AV} (he:ws.length = vs.length) (hl:ws.length <= 1000000):∀ (k i:Nat),i + k = ws.length -> AV.bool (decide (ws.drop i = vs.drop i)) = dq -> suEqa_at sk f tk g ws vs cm dm i (PureQ dq):=by
 intro k
 induction k with
 | zero =>
  intro i hi hq
  rw [List.drop_eq_nil_of_le (by omega),List.drop_eq_nil_of_le (by omega)] at hq
  exact suEqa _ _ _ _ _ _ _ _ _ _ ⟨fun h => by omega,fun _ => hq⟩
 | succ k ih =>
  intro i hi hq
  rw [drop_getD (show i < ws.length by omega),drop_getD (show i < vs.length by omega)] at hq
  refine suEqa _ _ _ _ _ _ _ _ _ _ ⟨fun _ => ?_,fun h => by omega⟩
  rw [Int.toNat_natCast]
  refine ⟨by omega,by omega,by omega,fun h => ?_,fun h => ⟨by omega,ih (i + 1) (by omega) ?_⟩⟩
  ·rw [decide_eq_false (fun e => h (wo_eq.1 (List.cons.inj e).1))] at hq
   exact hq
  ·rw [<- hq]
   congr 1
   rw [decide_eq_decide]
   have:=wo_eq.2 (Classical.not_not.1 h)
   rw [this];simp
theorem ev48 (sk f tk g:Bool) (ws vs:List Wo) (cm dm:List UInt8) (h:Sp.few6 ws.length):Ev M1 (.pure 48 [bkA sk f ws cm,bkA tk g vs dm]) (.bool (Sp.eqB sk tk ws vs cm dm)) []:=by
 unfold Sp.eqB
 refine call48 (suEq sk f tk g ws vs cm dm _ ⟨fun k => ?_,fun k => suEq_loop (by omega) h ws.length 0 (by omega) ?_⟩)
 ·rw [decide_eq_false]
  rintro ⟨rfl,rfl,rfl⟩
  simp at k
 ·have k1:sk = tk:=Classical.byContradiction fun e => k (.inl (.inl e))
  have k2:cm = dm:=Classical.byContradiction fun e => k (.inl (.inr e))
  congr 1
  rw [decide_eq_decide]
  simp [k1,k2]
end Go.Av

namespace Go.Av
open Go.Proofs
set_option maxRecDepth 100000
def fi18:Fi:=⟨27,[.tmp 4]⟩
def kp18:List (Nat × List Nat):=[(0,[0,1]),(1,[0,1,10]),(2,[4]),(3,[0,1,5]),(4,[0,1,5,14]),(5,[0,1,5]),(6,[0,1,5,26]),(7,[4]),(8,[4])]
def fi59:Fi:=⟨23,[.tmp 2,.tmp 3]⟩
def kp59:List (Nat × List Nat):=[(0,[1]),(1,[1,14]),(2,[2,3]),(3,[2,3])]
def suBg_at (sk f:Bool) (ws:List Wo) (cm:List UInt8) (Q:AV -> Heap -> Prop):Prop:=Wp M1 (.run fi59 (atC (cd Try.f59) []) [(0,.agg [.bool sk,.vec f 2 (ws.map Wo.a),.str cm])] []) Q
def suSm_at (g h:Bool) (l q:List Bk) (Q:AV -> Heap -> Prop):Prop:=Wp M1 (.run fi18 (atC (cd Try.f18) []) [(0,.vec g 3 (l.map Bk.a)),(1,.vec h 3 (q.map Bk.a))] []) Q
def suSma_at (g h:Bool) (l q:List Bk) (i:Int) (Q:AV -> Heap -> Prop):Prop:=Wp M1 (.run fi18 (atC (cd Try.f18) [1,1,0,1,0,0]) [(0,.vec g 3 (l.map Bk.a)),(1,.vec h 3 (q.map Bk.a)),(5,.int .i64 i)] []) Q
theorem call18 {args:List AV} {d:AV} (h:wc M1 fi18 Try.f18 args d):Ev M1 (.pure 18 args) d []:=pcl _ _ (by kernel_rfl) h
theorem call59 {args:List AV} {d:AV} (h:wc M1 fi59 Try.f59 args d):Ev M1 (.pure 59 args) d []:=pcl _ _ (by kernel_rfl) h
noncomputable abbrev zSpG2 (ws:List Wo):=ag [AV.int IntKind.u8 (ws.getD 0 default).l,vi (ws.getD 0 default).v]
theorem suBg (sk f:Bool) (ws:List Wo) (cm:List UInt8)  (dq:AV) (H :
  ((¬(¬(Sp.plB sk ws cm = true))) -> (0 < ws.length)) /\
  (((¬(Sp.plB sk ws cm = true)) \/ (¬(ws.getD 0 default).l = 79)) -> tu [vi 0,vb false] = dq) /\
  (¬((¬(Sp.plB sk ws cm = true)) \/ (¬(ws.getD 0 default).l = 79)) -> (Sp.okV (ws.getD 0 default).v) /\
   (0 < ws.length) /\
   tu [vi (Sp.whV (ws.getD 0 default).v),vb (Sp.whB (ws.getD 0 default).v)] = dq)) :
 suBg_at sk f ws cm (PureQ dq):=by
 unfold suBg_at
 have w1:(List.map Wo.a ws).length = ws.length:=List.length_map ..
 have i2:(!((!Sp.plB sk ws cm) == false && true) || decide (0 < (List.map Wo.a ws).length)) = true ↔ ((¬(¬(Sp.plB sk ws cm = true))) -> (0 < ws.length)):=(by (try rw [w1]);all_goals exact (i_imp (i_at (i_bf (i_not (i_var _)))) i_dec))
 obtain ⟨k3,H⟩:=H
 refine path_wp (G:=given kp59 [(1,1,.call (vb (Sp.plB sk ws cm)) none),(1,8,.elem (zSpG2 ws))] []) 5 [] ⟨(atC (cd Try.f59) [1,0,1]),[(1,AV.ptr 0 0 0 0),(14,vb (bif !Sp.plB sk ws cm then true else (ws.getD 0 default).l != 79))],[⟨[ag [vb sk,AV.vec f 2 (List.map Wo.a ws),AV.str cm]],3,0,false,false⟩],[true,!((!Sp.plB sk ws cm) == false && true) || true,!((!Sp.plB sk ws cm) == false && true) || true,!((!Sp.plB sk ws cm) == false && true) || decide (0 < (List.map Wo.a ws).length)],[(((!Sp.plB sk ws cm) == false && true) = true -> (List.map Wo.a ws).get?Internal 0 = some (zSpG2 ws))],_⟩ (by kernel_rfl) (bc rfl (bc (Bool.or_true _) (bc (Bool.or_true _) (bc (i2.2 k3) b0)))) (qc (fun h => el_map (k3 ((i_at (i_bf (i_not (i_var _)))).1 h))) q0) (ce (@ev61 (sk) (f) (ws) (cm)) c0) ?_
 rcases xm ((¬(Sp.plB sk ws cm = true)) \/ (¬(ws.getD 0 default).l = 79)) with d6 | d6
 ·have H:=H.1 d6
  exact path_re (G:=given kp59 [] []) 1000 [true] (asm:=[(bif !Sp.plB sk ws cm then true else (ws.getD 0 default).l != 79) == true]) (tu [vi 0,vb false]) (by kernel_rfl) (bc (beq_t ((i_bor (i_not (i_var _)) i_ne).2 d6)) b0) q0 c0 H
 ·have H:=H.2 d6
  obtain ⟨k7,H⟩:=H
  have i8:(decide (0 < (List.map Wo.a ws).length)) = true ↔ (0 < ws.length):=(by (try rw [w1]);all_goals exact i_dec)
  obtain ⟨k9,H⟩:=H
  exact path_re (G:=given kp59 [(3,4,.elem (zSpG2 ws)),(3,5,.call (tu [vi (Sp.whV (ws.getD 0 default).v),vb (Sp.whB (ws.getD 0 default).v)]) none)] []) 1000 [false] (asm:=[(bif !Sp.plB sk ws cm then true else (ws.getD 0 default).l != 79) == false,true,true,decide (0 < (List.map Wo.a ws).length)]) (eqs:=[((List.map Wo.a ws).get?Internal 0 = some (zSpG2 ws))]) (tu [vi (Sp.whV (ws.getD 0 default).v),vb (Sp.whB (ws.getD 0 default).v)]) (by kernel_rfl) (bc (beq_f (fun h => d6 ((i_bor (i_not (i_var _)) i_ne).1 h))) (bc rfl (bc rfl (bc (i8.2 k9) b0)))) (qc (el_map k9) q0) (ce (@ev41 ((ws.getD 0 default).v) k7) c0) H
theorem suSm (g h:Bool) (l q:List Bk)  (dq:AV) (H :
  ((¬(↑l.length:Int) = (↑q.length:Int)) -> vb false = dq) /\
  (¬(¬(↑l.length:Int) = (↑q.length:Int)) -> suSma_at (g) (h) (l) (q) (0) (PureQ dq))) :
 suSm_at g h l q (PureQ dq):=by
 unfold suSm_at
 have w1:(List.map Bk.a l).length = l.length:=List.length_map ..
 have w2:(List.map Bk.a q).length = q.length:=List.length_map ..
 have i3:((↑(List.map Bk.a l).length:Int) != (↑(List.map Bk.a q).length:Int)) = true ↔ (¬(↑l.length:Int) = (↑q.length:Int)):=(by (try rw [w1]);(try rw [w2]);all_goals exact i_ne)
 rcases xm (¬(↑l.length:Int) = (↑q.length:Int)) with d4 | d4
 ·have H:=H.1 d4
  exact path_re (G:=given kp18 [] []) 1000 [true] (vb false) (by kernel_rfl) (bc (beq_t (i3.2 d4)) b0) q0 c0 H
 ·have H:=H.2 d4
  exact path_wp (G:=given kp18 [] []) 1000 [false] ⟨(atC (cd Try.f18) [1,1,0,1,0,0]),[(0,AV.vec g 3 (List.map Bk.a l)),(1,AV.vec h 3 (List.map Bk.a q)),(5,vi 0)],[],_,[],_⟩ (by kernel_rfl) (bc (beq_f (fun h => d4 (i3.1 h))) b0) q0 c0 (H)
theorem suSma (g h:Bool) (l q:List Bk) (i:Int)  (dq:AV) (H :
  ((i < (↑l.length:Int)) -> (Sp.few6 (l.getD i.toNat default).3.length) /\
   (0 <= i) /\
   (i.toNat < l.length) /\
   (i.toNat < q.length) /\
   ((¬(Sp.eqB (l.getD i.toNat default).1 (q.getD i.toNat default).1 (l.getD i.toNat default).3 (q.getD i.toNat default).3 (l.getD i.toNat default).4 (q.getD i.toNat default).4 = true)) -> vb false = dq) /\
   (¬(¬(Sp.eqB (l.getD i.toNat default).1 (q.getD i.toNat default).1 (l.getD i.toNat default).3 (q.getD i.toNat default).3 (l.getD i.toNat default).4 (q.getD i.toNat default).4 = true)) -> (-9223372036854775808 <= i + 1 /\ i + 1 <= 9223372036854775807) /\
    suSma_at (g) (h) (l) (q) (i + 1) (PureQ dq))) /\
  (¬(i < (↑l.length:Int)) -> vb true = dq)) :
 suSma_at g h l q i (PureQ dq):=by
 unfold suSma_at
 have w1:(List.map Bk.a l).length = l.length:=List.length_map ..
 have i2:(decide (i < (↑(List.map Bk.a l).length:Int))) = true ↔ (i < (↑l.length:Int)):=(by (try rw [w1]);all_goals exact i_dec)
 rcases xm (i < (↑l.length:Int)) with d3 | d3
 ·have H:=H.1 d3
  obtain ⟨k4,H⟩:=H
  obtain ⟨k6,H⟩:=H
  have i7:(decide (i.toNat < (List.map Bk.a l).length)) = true ↔ (i.toNat < l.length):=(by (try rw [w1]);all_goals exact i_dec)
  obtain ⟨k8,H⟩:=H
  have w10:(List.map Bk.a q).length = q.length:=List.length_map ..
  have i11:(decide (i.toNat < (List.map Bk.a q).length)) = true ↔ (i.toNat < q.length):=(by (try rw [w10]);all_goals exact i_dec)
  obtain ⟨k12,H⟩:=H
  refine path_wp (G:=given kp18 [(6,3,.elem (ag [vb (l.getD i.toNat default).1,AV.vec (l.getD i.toNat default).2 2 (List.map Wo.a (l.getD i.toNat default).3),AV.str (l.getD i.toNat default).4])),(6,7,.elem (ag [vb (q.getD i.toNat default).1,AV.vec (q.getD i.toNat default).2 2 (List.map Wo.a (q.getD i.toNat default).3),AV.str (q.getD i.toNat default).4])),(6,8,.call (vb (Sp.eqB (l.getD i.toNat default).1 (q.getD i.toNat default).1 (l.getD i.toNat default).3 (q.getD i.toNat default).3 (l.getD i.toNat default).4 (q.getD i.toNat default).4)) none)] []) 9 [true] ⟨(atC (cd Try.f18) [1,1,0,1,0,0,1,0,0,1]),[(0,AV.vec g 3 (List.map Bk.a l)),(1,AV.vec h 3 (List.map Bk.a q)),(5,vi i),(26,vb !Sp.eqB (l.getD i.toNat default).1 (q.getD i.toNat default).1 (l.getD i.toNat default).3 (q.getD i.toNat default).3 (l.getD i.toNat default).4 (q.getD i.toNat default).4)],[],_,[((List.map Bk.a l).get?Internal i.toNat = some (ag [vb (l.getD i.toNat default).1,AV.vec (l.getD i.toNat default).2 2 (List.map Wo.a (l.getD i.toNat default).3),AV.str (l.getD i.toNat default).4])),((List.map Bk.a q).get?Internal i.toNat = some (ag [vb (q.getD i.toNat default).1,AV.vec (q.getD i.toNat default).2 2 (List.map Wo.a (q.getD i.toNat default).3),AV.str (q.getD i.toNat default).4]))],_⟩ (by kernel_rfl) (bc (beq_t (i2.2 d3)) (bc (i_dec.2 k6) (bc (i7.2 k8) (bc (i_dec.2 k6) (bc (i11.2 k12) b0))))) (qc (el_map k8) (qc (el_map k12) q0)) (ce (@ev48 ((l.getD i.toNat default).1) ((l.getD i.toNat default).2) ((q.getD i.toNat default).1) ((q.getD i.toNat default).2) ((l.getD i.toNat default).3) ((q.getD i.toNat default).3) ((l.getD i.toNat default).4) ((q.getD i.toNat default).4) k4) c0) ?_
  rcases xm (¬(Sp.eqB (l.getD i.toNat default).1 (q.getD i.toNat default).1 (l.getD i.toNat default).3 (q.getD i.toNat default).3 (l.getD i.toNat default).4 (q.getD i.toNat default).4 = true)) with d14 | d14
  ·have H:=H.1 d14
   exact path_re (G:=given kp18 [] []) 1000 [true] (asm:=[(!Sp.eqB (l.getD i.toNat default).1 (q.getD i.toNat default).1 (l.getD i.toNat default).3 (q.getD i.toNat default).3 (l.getD i.toNat default).4 (q.getD i.toNat default).4) == true]) (vb false) (by kernel_rfl) (bc (beq_t ((i_not (i_var _)).2 d14)) b0) q0 c0 H
  ·have H:=H.2 d14
   obtain ⟨k15,H⟩:=H
   have w16:wi (i + 1) = i + 1:=wI64 k15
   exact path_wp (G:=given kp18 [] []) 1000 [false] ⟨(atC (cd Try.f18) [1,1,0,1,0,0]),[(0,AV.vec g 3 (List.map Bk.a l)),(1,AV.vec h 3 (List.map Bk.a q)),(5,vi (wi (i + 1)))],[],[(!Sp.eqB (l.getD i.toNat default).1 (q.getD i.toNat default).1 (l.getD i.toNat default).3 (q.getD i.toNat default).3 (l.getD i.toNat default).4 (q.getD i.toNat default).4) == false],[],_⟩ (by kernel_rfl) (bc (beq_f (fun h => d14 ((i_not (i_var _)).1 h))) b0) q0 c0 (by (try rw [w16]);all_goals exact H)
 ·have H:=H.2 d3
  exact path_re (G:=given kp18 [] []) 1000 [false] (vb true) (by kernel_rfl) (bc (beq_f (fun h => d3 (i2.1 h))) b0) q0 c0 H
end Go.Av

namespace Go.Av
open Go.Proofs
def Bk.key (b:Bk):Bool × List Wo × List UInt8:=(b.sk,b.ws,b.cm)
namespace Sp
def foldB (ws:List Wo):Bool:=!(mkB ws) && (!(letB ws 78) && !(hasW ws 77 98000))
def bgV (sk:Bool) (ws:List Wo) (cm:List UInt8):Int:=if plB sk ws cm = true /\ (ws.getD 0 default).l = 79 then whV (ws.getD 0 default).v else 0
def bgB (sk:Bool) (ws:List Wo) (cm:List UInt8):Bool:=if plB sk ws cm = true /\ (ws.getD 0 default).l = 79 then whB (ws.getD 0 default).v else false
def same (b c:Bk):Bool:=eqB b.sk c.sk b.ws c.ws b.cm c.cm
def sameL (l q:List Bk):Bool:=decide (l.map Bk.key = q.map Bk.key)
def okBs (l:List Bk):Prop:=l.length <= 1000000 /\ ∀ b ∈ l,okW b.ws
end Sp
theorem same_iff {b c:Bk}:Sp.same b c = true ↔ b.key = c.key:=by
 unfold Sp.same Sp.eqB Bk.key
 simp only [decide_eq_true_eq,Prod.mk.injEq]
 exact ⟨fun ⟨h1,h2,h3⟩ => ⟨h1,h3,h2⟩,fun ⟨h1,h2,h3⟩ => ⟨h1,h3,h2⟩⟩
theorem pl_len {sk:Bool} {ws:List Wo} {cm:List UInt8} (h:Sp.plB sk ws cm = true):ws.length = 1:=by
 unfold Sp.plB at h
 exact (of_decide_eq_true h).1
theorem ev59 (sk f:Bool) (ws:List Wo) (cm:List UInt8) (h:Sp.okW ws):Ev M1 (.pure 59 [bkA sk f ws cm]) (.tup [.int .i64 (Sp.bgV sk ws cm),.bool (Sp.bgB sk ws cm)]) []:=by
 refine call59 (suBg sk f ws cm _ ⟨fun k => ?_,fun k => ?_,fun k => ?_⟩)
 ·have:=pl_len (Classical.not_not.1 k);omega
 ·have hn:¬(Sp.plB sk ws cm = true /\ (ws.getD 0 default).l = 79):=fun ⟨k1,k2⟩ => k.elim (fun x => x k1) (fun x => x k2)
  unfold Sp.bgV Sp.bgB
  rw [if_neg hn,if_neg hn]
 ·have k1:Sp.plB sk ws cm = true:=Classical.byContradiction fun x => k (.inl x)
  have k2:(ws.getD 0 default).l = 79:=Classical.byContradiction fun x => k (.inr x)
  have hl:=pl_len k1
  unfold Sp.bgV Sp.bgB
  rw [if_pos ⟨k1,k2⟩,if_pos ⟨k1,k2⟩]
  exact ⟨okV_at h (by omega),by omega,rfl⟩
theorem suSm_loop {g h:Bool} {l q:List Bk} {dq:AV} (hk:Sp.okBs l) (he:l.length = q.length):∀ (k i:Nat),i + k = l.length -> AV.bool (Sp.sameL (l.drop i) (q.drop i)) = dq -> suSma_at g h l q i (PureQ dq):=by
 have hl:=hk.1
 intro k
 induction k with
 | zero =>
  intro i hi hq
  rw [List.drop_eq_nil_of_le (by omega),List.drop_eq_nil_of_le (by omega)] at hq
  exact suSma _ _ _ _ _ _ ⟨fun h => by omega,fun _ => hq⟩
 | succ k ih =>
  intro i hi hq
  have hm:=hk.2 _ (getD_mem (show i < l.length by omega))
  rw [drop_getD (show i < l.length by omega),drop_getD (show i < q.length by omega)] at hq
  unfold Sp.sameL at hq
  rw [List.map_cons,List.map_cons] at hq
  refine suSma _ _ _ _ _ _ ⟨fun _ => ?_,fun h => by omega⟩
  rw [Int.toNat_natCast]
  refine ⟨hm.1,by omega,by omega,by omega,fun h => ?_,fun h => ⟨by omega,ih (i + 1) (by omega) ?_⟩⟩
  ·rw [decide_eq_false (fun e => h (same_iff.2 (List.cons.inj e).1))] at hq
   exact hq
  ·rw [<- hq]
   congr 1
   unfold Sp.sameL
   rw [decide_eq_decide]
   have:=same_iff.1 (Classical.not_not.1 h)
   rw [this];simp
theorem ev18 (g h:Bool) (l q:List Bk) (hk:Sp.okBs l):Ev M1 (.pure 18 [bsA g l,bsA h q]) (.bool (Sp.sameL l q)) []:=by
 refine call18 (suSm g h l q _ ⟨fun k => ?_,fun k => suSm_loop hk (by omega) l.length 0 (by omega) rfl⟩)
 unfold Sp.sameL
 rw [decide_eq_false (fun e => k (by have:=congrArg List.length e;simp only [List.length_map] at this;omega))]
end Go.Av

namespace Go.Av
open Go.Proofs
set_option maxRecDepth 100000
end Go.Av

namespace Go.Av
open Go.Proofs
namespace Sp
def rn (l:List Bk) (i k:Nat) (j:Nat):Bool:=foldB (l.getD (i + j) default).ws && same (l.getD (i + j) default) (l.getD (k + j) default)
def runB (l:List Bk) (i k n:Int):Bool:=(List.range' 0 n.toNat).all (rn l i.toNat k.toNat)
def runR (l:List Bk) (i k n:Int):Bool:=if k + n > (l.length:Int) then false else runB l i k n
end Sp
end Go.Av

namespace Go.Av
open Go.Proofs
set_option maxRecDepth 100000
def fi22:Fi:=⟨8,[.tmp 2]⟩
def kp22:List (Nat × List Nat):=[(0,[0]),(1,[0,4]),(2,[2]),(3,[2])]
def suKe_at (g:Bool) (Q:AV -> Heap -> Prop):Prop:=Wp M1 (.run fi22 (atC (cd Try.f22) []) [(0,.vec g 3 [])] []) Q
def suKc_at (g:Bool) (y:Bk) (l:List Bk) (Q:AV -> Heap -> Prop):Prop:=Wp M1 (.run fi22 (atC (cd Try.f22) []) [(0,.vec g 3 ((y :: l).map Bk.a))] []) Q
def suKf_at (g:Bool) (y:Bk) (l:List Bk) (Q:AV -> Heap -> Prop):Prop:=Wp M1 (.run fi22 (atC (cd Try.f22) []) [(0,.vec g 3 ((y :: l).map Bk.a))] []) Q
def svCn_at (g:Bool) (Q:AV -> Heap -> Prop):Prop:=Wp M1 (.run fi22 (atC (cd Try.f22) []) [(0,.vec g 3 [])] []) Q
theorem call22 {args:List AV} {d:AV} (h:wc M1 fi22 Try.f22 args d):Ev M1 (.pure 22 args) d []:=pcl _ _ (by kernel_rfl) h
theorem owncall22 {args:List AV} {L:Heap} {Q:AV -> Heap -> Prop} (h:Wp M1 (.run fi22 [.code (cd Try.f22)] (argVars 0 args) L) Q):Wp M1 (.own 22 args L) Q:=
 own_wp Try.f22 fi22 (by kernel_rfl) (by kernel_rfl) (by kernel_rfl) (by kernel_rfl) h
theorem suKe (g:Bool)  (dq:AV) (H :
  (Weak (AV.vnil) dq) /\
  (Weak (AV.vec true 3 []) dq)) :
 suKe_at g (PureQ dq):=by
 unfold suKe_at
 refine path_wp (G:=given kp22 [] []) 4 [] ⟨(atC (cd Try.f22) [1,0,0]),[(0,AV.vec g 3 [])],[],_,[],_⟩ (by kernel_rfl) b0 q0 c0 (wp_nil 1 [0,4] (e1:=[(0,AV.vec g 3 []),(4,vb true)]) (e2:=[(0,AV.vec g 3 []),(4,vb false)]) (L1:=[]) (L2:=[]) (a1:=[]) (a2:=[]) (v1:=[(4,[],vb true),(3,[],AV.vec g 3 []),(0,[],AV.vec g 3 [])]) (v2:=[(4,[],vb false),(3,[],AV.vec g 3 []),(0,[],AV.vec g 3 [])]) (by kernel_rfl) (by kernel_rfl) allB_nil allB_nil (by kernel_rfl) (by kernel_rfl) ?_ ?_)
 ·have H:=H.1
  exact path_rq (G:=given kp22 [] []) 1000 [true] (AV.vnil) (by kernel_rfl) (bc rfl b0) q0 c0 H
 ·have H:=H.2
  exact path_rq (G:=given kp22 [] []) 1000 [false] (AV.vec true 3 []) (by kernel_rfl) (bc rfl b0) q0 c0 H
theorem suKc (g:Bool) (y:Bk) (l:List Bk)  (dq:AV) (H :
  ((0 + (l.length + 1)) * 48 <= 1099511627776) /\
  Weak (AV.vec false 3 (ag [vb y.1,AV.vec y.2 2 (List.map Wo.a y.3),AV.str y.4] :: List.map Bk.a l)) dq) :
 suKc_at g y l (PureQ dq):=by
 unfold suKc_at
 have w1:(List.map Bk.a l).length = l.length:=List.length_map ..
 have i2:(decide ((0 + ((List.map Bk.a l).length + 1)) * 48 <= 1099511627776)) = true ↔ ((0 + (l.length + 1)) * 48 <= 1099511627776):=(by (try rw [w1]);all_goals exact i_dec)
 obtain ⟨k3,H⟩:=H
 exact path_ret (G:=given kp22 [] []) 1000 [false] (k:=((atC (cd Try.f22) [1,1,1])).tail) (env':=[(2,AV.row 0 0)]) (L':=[⟨ag [vb y.1,AV.vec y.2 2 (List.map Wo.a y.3),AV.str y.4] :: List.map Bk.a l,3,0,false,true⟩]) (asm:=[false == false,decide ((0 + ((List.map Bk.a l).length + 1)) * 48 <= 1099511627776)]) (eqs:=[]) (calls:=[]) (AV.row 0 0) (by kernel_rfl) (by kernel_rfl) (allB_cons rfl (allB_cons (i2.2 k3) allB_nil)) allP_nil allC_nil (pq_weak (d:=(AV.vec false 3 (ag [vb y.1,AV.vec y.2 2 (List.map Wo.a y.3),AV.str y.4] :: List.map Bk.a l))) (bs:=[0 == 0]) (by kernel_rfl) (by kernel_rfl) (allB_cons (beq_self_eq_true _) allB_nil) (by kernel_rfl) H)
theorem suKf (g:Bool) (y:Bk) (l:List Bk)  (Q:AV -> Heap -> Prop) (H :
  ((0 + (l.length + 1)) * 48 <= 1099511627776) /\
  Q (AV.row 0 0) [{ elems:=ag [vb y.1,AV.vec y.2 2 (List.map Wo.a y.3),AV.str y.4] :: List.map Bk.a l,es:=3,ver:=0,frozen:=false,clean:=true }]) :
 suKf_at g y l Q:=by
 unfold suKf_at
 have w1:(List.map Bk.a l).length = l.length:=List.length_map ..
 have i2:(decide ((0 + ((List.map Bk.a l).length + 1)) * 48 <= 1099511627776)) = true ↔ ((0 + (l.length + 1)) * 48 <= 1099511627776):=(by (try rw [w1]);all_goals exact i_dec)
 obtain ⟨k3,H⟩:=H
 exact path_ret (G:=given kp22 [] []) 1000 [false] (k:=((atC (cd Try.f22) [1,1,1])).tail) (env':=[(2,AV.row 0 0)]) (L':=[⟨ag [vb y.1,AV.vec y.2 2 (List.map Wo.a y.3),AV.str y.4] :: List.map Bk.a l,3,0,false,true⟩]) (asm:=[false == false,decide ((0 + ((List.map Bk.a l).length + 1)) * 48 <= 1099511627776)]) (eqs:=[]) (calls:=[]) (AV.row 0 0) (by kernel_rfl) (by kernel_rfl) (allB_cons rfl (allB_cons (i2.2 k3) allB_nil)) allP_nil allC_nil H
theorem svCn (g:Bool)  (Q:AV -> Heap -> Prop) (H :
  (Q (AV.vnil) []) /\
  (Q (AV.vec true 3 []) [])) :
 svCn_at g Q:=by
 unfold svCn_at
 refine path_wp (G:=given kp22 [] []) 4 [] ⟨(atC (cd Try.f22) [1,0,0]),[(0,AV.vec g 3 [])],[],_,[],_⟩ (by kernel_rfl) b0 q0 c0 (wp_nil 1 [0,4] (e1:=[(0,AV.vec g 3 []),(4,vb true)]) (e2:=[(0,AV.vec g 3 []),(4,vb false)]) (L1:=[]) (L2:=[]) (a1:=[]) (a2:=[]) (v1:=[(4,[],vb true),(3,[],AV.vec g 3 []),(0,[],AV.vec g 3 [])]) (v2:=[(4,[],vb false),(3,[],AV.vec g 3 []),(0,[],AV.vec g 3 [])]) (by kernel_rfl) (by kernel_rfl) allB_nil allB_nil (by kernel_rfl) (by kernel_rfl) ?_ ?_)
 ·have H:=H.1
  exact path_ret (G:=given kp22 [] []) 1000 [true] (k:=((atC (cd Try.f22) [1,0,1,0,1])).tail) (env':=[(2,AV.vnil)]) (L':=[]) (asm:=[true == true]) (eqs:=[]) (calls:=[]) (AV.vnil) (by kernel_rfl) (by kernel_rfl) (allB_cons rfl allB_nil) allP_nil allC_nil H
 ·have H:=H.2
  exact path_ret (G:=given kp22 [] []) 1000 [false] (k:=((atC (cd Try.f22) [1,1,1])).tail) (env':=[(2,AV.vec true 3 [])]) (L':=[]) (asm:=[false == false]) (eqs:=[]) (calls:=[]) (AV.vec true 3 []) (by kernel_rfl) (by kernel_rfl) (allB_cons rfl allB_nil) allP_nil allC_nil H
end Go.Av

namespace Go.Av
open Go.Proofs
theorem ev22 (g:Bool) (l:List Bk) (h:Sp.few6 l.length):Ev M1 (.pure 22 [bsA g l]) (bsA false l) []:=by
 unfold Sp.few6 at h
 cases l with
 | nil => exact call22 (suKe g _ ⟨.vnil 3,.full 3 []⟩)
 | cons y l => exact call22 (suKc g y l _ ⟨by simp at h;omega,.refl _⟩)
theorem evf22 (g:Bool) (l:List Bk) (h:l.length <= 1000000 /\ 0 < l.length):Ev M1 (.own 22 [bsA g l] []) (.row 0 0) [⟨l.map Bk.a,3,0,false,true⟩]:=by
 cases l with
 | nil => simp at h
 | cons y l => exact owncall22 (suKf g y l _ ⟨by simp at h;omega,rfl,rfl⟩)
namespace Sp
def hasRun (l:List Bk) (n i:Nat):Nat -> Nat -> Bool
 | 0,_ => false
 | c + 1,k => runB l i k n || hasRun l n i c (k + 1)
def findF (l:List Bk) (n:Nat):Nat -> Nat -> Int
 | 0,_ => -1
 | c + 1,i => if hasRun l n i (l.length + 1 - (i + 2 * n)) (i + n) = true then i else findF l n c (i + 1)
def fst (l:List Bk) (n:Int):Int:=findF l n.toNat (l.length + 1 - 2 * n.toNat) 0
end Sp
end Go.Av

namespace Go.Av
open Go.Proofs
set_option maxRecDepth 100000
end Go.Av

namespace Go.Av
open Go.Proofs
abbrev sbA (g:Bool) (s:List Sb):AV:=.vec g 2 (s.map Sb.a)
namespace Sp
def callB (m:Int):Bk:=⟨false,true,[⟨77,98000⟩,⟨80,1000 * m⟩],[]⟩
def build (l:List Bk) (m:Int) (n a:Nat):Nat -> Nat -> List Bk
 | 0,_ => []
 | f + 1,i => if i < l.length then (if runR l a i n = true then callB m :: build l m n a f (i + n) else l.getD i default :: build l m n a f (i + 1)) else []
end Sp
theorem weak_tup2' {a a' b:AV} (h:Weak a a'):Weak (.tup [a,b]) (.tup [a',b]):=by
 refine .tup _ _ rfl fun i x y hx hy => ?_
 match i with
 | 0 => simp at hx hy;subst hx;subst hy;exact h
 | 1 => simp at hx hy;subst hx;subst hy;exact .refl _
 | i + 2 => simp at hx
theorem weak_agg2 {a a' b b':AV} (h:Weak a a') (k:Weak b b'):Weak (.agg [a,b]) (.agg [a',b']):=by
 refine .agg _ _ rfl fun i x y hx hy => ?_
 match i with
 | 0 => simp at hx hy;subst hx;subst hy;exact h
 | 1 => simp at hx hy;subst hx;subst hy;exact k
 | i + 2 => simp at hx
end Go.Av

namespace Go.Av
open Go.Proofs
set_option maxRecDepth 100000
end Go.Av

namespace Go.Av
open Go.RowKit
mutual
def meltA (L:Heap) (fs:List Nat):AV -> AV
 | .row r v => bif fs.contains r then (match L[r]? with
  | some row => bif row.clean then .vec false row.es row.elems else .row r v
  | none => .row r v) else .row r v
 | .agg cs => .agg (meltL L fs cs)
 | .tup cs => .tup (meltL L fs cs)
 | .any => .any | .bool b => .bool b | .int k n => .int k n | .str s => .str s | .flt b => .flt b | .nilp => .nilp | .vnil => .vnil | .nilf => .nilf | .nilm => .nilm
 | .ptr r v i j => .ptr r v i j | .eptr es xs i j => .eptr es xs i j | .vec f es xs => .vec f es xs | .ref r v lo len => .ref r v lo len | .func fn a b => .func fn a b | .mapr r => .mapr r
def meltL (L:Heap) (fs:List Nat):List AV -> List AV
 | [] => []
 | c :: r => meltA L fs c :: meltL L fs r
end
mutual
def meltT (L:Heap) (fs:List Nat):AV -> List Bool
 | .row r v => bif fs.contains r then (match L[r]? with
  | some row => [row.ver == v]
  | none => []) else []
 | .agg cs => meltTL L fs cs
 | .tup cs => meltTL L fs cs
 | _ => []
def meltTL (L:Heap) (fs:List Nat):List AV -> List Bool
 | [] => []
 | c :: r => meltT L fs c ++ meltTL L fs r
end
end Go.Av

namespace Go.Av
open Go.Proofs
end Go.Av

namespace Go.Av
open Go.Proofs
end Go.Av

namespace Go.Av
open Go.Proofs
set_option maxRecDepth 100000
def fi24:Fi:=⟨57,[.tmp 4]⟩
def kp24:List (Nat × List Nat):=[(0,[2,3]),(1,[2,3,20]),(2,[4]),(3,[2,3,5]),(4,[2,3,5,25]),(5,[2,3,5]),(6,[2,3,5,56]),(7,[4]),(8,[4])]
def fi25:Fi:=⟨28,[.cell 2 34]⟩
def kp25:List (Nat × List Nat):=[(0,[1,2]),(1,[1,2,3]),(2,[2,3,10,11,12]),(3,[2,3,10,11,12,13]),(4,[2,3,5,10,11,12]),(5,[2,3,10,11,12]),(6,[2,3,10,11,12]),(7,[2])]
def suBk_at (g:Bool) (l:List Bk) (h:Bool) (s:List Sb) (Q:AV -> Heap -> Prop):Prop:=Wp M1 (.run fi25 (atC (cd Try.f25) []) [(0,.agg [.vec g 3 (l.map Bk.a),.vec h 2 (s.map Sb.a)])] []) Q
def suBkz_at (g:Bool) (l:List Bk) (h:Bool) (s:List Sb) (n i:Int) (Q:AV -> Heap -> Prop):Prop:=Wp M1 (.run fi25 (atC (cd Try.f25) [1,1,0,1,0,0]) [(2,.ptr 0 0 0 0),(3,.ptr 1 0 0 0),(10,.vec h 2 (s.map Sb.a)),(11,.int .i64 n),(12,.int .i64 i)] [⟨[.agg [.vnil,.vnil]],2,0,false,false⟩,⟨[.agg [.vec g 3 (l.map Bk.a),.vnil]],2,0,false,false⟩]) Q
def suBka_at (g:Bool) (l:List Bk) (h:Bool) (s:List Sb) (n i:Int) (o:List Sb) (v:Nat) (Q:AV -> Heap -> Prop):Prop:=Wp M1 (.run fi25 (atC (cd Try.f25) [1,1,0,1,0,0]) [(2,.ptr 0 0 0 0),(3,.ptr 1 0 0 0),(10,.vec h 2 (s.map Sb.a)),(11,.int .i64 n),(12,.int .i64 i)] [⟨[.agg [.vnil,.vnil]],2,0,false,false⟩,⟨[.agg [.vec g 3 (l.map Bk.a),.row 2 v]],2,0,false,false⟩,⟨o.map Sb.a,2,v,false,true⟩]) Q
def suPs_at (g:Bool) (l:List Bk) (h:Bool) (s:List Sb) (g2 h2:Bool) (l2:List Bk) (s2:List Sb) (Q:AV -> Heap -> Prop):Prop:=Wp M1 (.run fi24 (atC (cd Try.f24) []) [(0,.agg [.vec g 3 (l.map Bk.a),.vec h 2 (s.map Sb.a)]),(1,.agg [.vec g2 3 (l2.map Bk.a),.vec h2 2 (s2.map Sb.a)])] []) Q
def suPsa_at (g:Bool) (l:List Bk) (h:Bool) (s:List Sb) (g2 h2:Bool) (l2:List Bk) (s2:List Sb) (i:Int) (Q:AV -> Heap -> Prop):Prop:=Wp M1 (.run fi24 (atC (cd Try.f24) [1,1,0,1,0,0]) [(2,.ptr 0 0 0 0),(3,.ptr 1 0 0 0),(5,.int .i64 i)] [⟨[.agg [.vec g 3 (l.map Bk.a),.vec h 2 (s.map Sb.a)]],2,0,false,false⟩,⟨[.agg [.vec g2 3 (l2.map Bk.a),.vec h2 2 (s2.map Sb.a)]],2,0,false,false⟩]) Q
theorem call24 {args:List AV} {d:AV} (h:wc M1 fi24 Try.f24 args d):Ev M1 (.pure 24 args) d []:=pcl _ _ (by kernel_rfl) h
theorem call25 {args:List AV} {d:AV} (h:wc M1 fi25 Try.f25 args d):Ev M1 (.pure 25 args) d []:=pcl _ _ (by kernel_rfl) h
theorem suBk (g:Bool) (l:List Bk) (h:Bool) (s:List Sb)  (dq:AV) (H :
  suBkz_at (g) (l) (h) (s) ((↑s.length:Int)) (0) (PureQ dq)) :
 suBk_at g l h s (PureQ dq):=by
 unfold suBk_at
 have w1:(List.map Sb.a s).length = s.length:=List.length_map ..
 exact path_wp (G:=given kp25 [] []) 1000 [] ⟨(atC (cd Try.f25) [1,1,0,1,0,0]),[(2,AV.ptr 1 0 0 0),(3,AV.ptr 2 0 0 0),(10,AV.vec h 2 (List.map Sb.a s)),(11,vi (↑(List.map Sb.a s).length:Int)),(12,vi 0)],[⟨[ag [AV.vec g 3 (List.map Bk.a l),AV.vec h 2 (List.map Sb.a s)]],2,0,false,false⟩,⟨[ag [AV.vnil,AV.vnil]],2,0,false,false⟩,⟨[ag [AV.vec g 3 (List.map Bk.a l),AV.vnil]],2,0,false,false⟩],_,[],_⟩ (by kernel_rfl) (bc rfl (bc rfl (bc rfl b0))) q0 c0 (by (try rw [w1]);all_goals exact wp_narrow [1,2] (by kernel_rfl) H)
theorem suBkz (g:Bool) (l:List Bk) (h:Bool) (s:List Sb) (n i:Int)  (dq:AV) (H :
  ((i < n) -> (0 <= i) /\
   (i.toNat < s.length) /\
   (-9223372036854775808 <= i + 1 /\ i + 1 <= 9223372036854775807) /\
   suBka_at (g) (l) (h) (s) (n) (i + 1) ([{ n:=(s.getD i.toNat default).n,f:=(s.getD i.toNat default).2,bl:=(s.getD i.toNat default).3 }]) (0) (PureQ dq)) /\
  (¬(i < n) -> Weak (ag [AV.vec g 3 (List.map Bk.a l),AV.vnil]) dq)) :
 suBkz_at g l h s n i (PureQ dq):=by
 unfold suBkz_at
 rcases xm (i < n) with d2 | d2
 ·have H:=H.1 d2
  obtain ⟨k4,H⟩:=H
  have w5:(List.map Sb.a s).length = s.length:=List.length_map ..
  have i6:(decide (i.toNat < (List.map Sb.a s).length)) = true ↔ (i.toNat < s.length):=(by (try rw [w5]);all_goals exact i_dec)
  obtain ⟨k7,H⟩:=H
  obtain ⟨k8,H⟩:=H
  have w9:wi (i + 1) = i + 1:=wI64 k8
  have w10:[ag [vi (s.getD i.toNat default).n,AV.vec (s.getD i.toNat default).2 3 (List.map Bk.a (s.getD i.toNat default).3)]] = List.map Sb.a [{ n:=(s.getD i.toNat default).n,f:=(s.getD i.toNat default).2,bl:=(s.getD i.toNat default).3 }]:=rfl
  exact path_wp (G:=given kp25 [(4,1,.elem (ag [vi (s.getD i.toNat default).n,AV.vec (s.getD i.toNat default).2 3 (List.map Bk.a (s.getD i.toNat default).3)]))] []) 1000 [true] ⟨(atC (cd Try.f25) [1,1,0,1,0,0]),[(2,AV.ptr 0 0 0 0),(3,AV.ptr 1 0 0 0),(10,AV.vec h 2 (List.map Sb.a s)),(11,vi n),(12,vi (wi (i + 1)))],[⟨[ag [AV.vnil,AV.vnil]],2,0,false,false⟩,⟨[ag [AV.vec g 3 (List.map Bk.a l),AV.row 3 0]],2,0,false,false⟩,⟨[ag [vi (s.getD i.toNat default).n,AV.vec (s.getD i.toNat default).2 3 (List.map Bk.a (s.getD i.toNat default).3)]],2,0,false,false⟩,⟨[ag [vi (s.getD i.toNat default).n,AV.vec (s.getD i.toNat default).2 3 (List.map Bk.a (s.getD i.toNat default).3)]],2,0,false,true⟩],_,[((List.map Sb.a s).get?Internal i.toNat = some (ag [vi (s.getD i.toNat default).n,AV.vec (s.getD i.toNat default).2 3 (List.map Bk.a (s.getD i.toNat default).3)]))],_⟩ (by kernel_rfl) (bc (beq_t (i_dec.2 d2)) (bc (i_dec.2 k4) (bc (i6.2 k7) (bc rfl (bc rfl (bc rfl (bc rfl (bc rfl (bc rfl b0))))))))) (qc (el_map k7) q0) c0 (by (try rw [w9]);(try rw [w10]);all_goals exact wp_narrow [0,1,3] (by kernel_rfl) H)
 ·have H:=H.2 d2
  exact path_rq (G:=given kp25 [] []) 1000 [false] (ag [AV.vec g 3 (List.map Bk.a l),AV.vnil]) (by kernel_rfl) (bc (beq_f (fun h => d2 (i_dec.1 h))) (bc rfl (bc rfl b0))) q0 c0 H
theorem suBka (g:Bool) (l:List Bk) (h:Bool) (s:List Sb) (n i:Int) (o:List Sb) (v:Nat)  (dq:AV) (H :
  ((i < n) -> (0 <= i) /\
   (i.toNat < s.length) /\
   ((o.length + 1) * 32 <= 1099511627776) /\
   (-9223372036854775808 <= i + 1 /\ i + 1 <= 9223372036854775807) /\
   suBka_at (g) (l) (h) (s) (n) (i + 1) (o ++ [{ n:=(s.getD i.toNat default).n,f:=(s.getD i.toNat default).2,bl:=(s.getD i.toNat default).3 }]) (v + 1) (PureQ dq)) /\
  (¬(i < n) -> Weak (ag [AV.vec g 3 (List.map Bk.a l),AV.vec false 2 (List.map Sb.a o)]) dq)) :
 suBka_at g l h s n i o v (PureQ dq):=by
 unfold suBka_at
 rcases xm (i < n) with d2 | d2
 ·have H:=H.1 d2
  obtain ⟨k4,H⟩:=H
  have w5:(List.map Sb.a s).length = s.length:=List.length_map ..
  have i6:(decide (i.toNat < (List.map Sb.a s).length)) = true ↔ (i.toNat < s.length):=(by (try rw [w5]);all_goals exact i_dec)
  obtain ⟨k7,H⟩:=H
  have w8:(List.map Sb.a o).length = o.length:=List.length_map ..
  have i9:(decide (((List.map Sb.a o).length + 1) * 32 <= 1099511627776)) = true ↔ ((o.length + 1) * 32 <= 1099511627776):=(by (try rw [w8]);all_goals exact i_dec)
  obtain ⟨k10,H⟩:=H
  have w11:List.map Sb.a o ++ [ag [vi (s.getD i.toNat default).n,AV.vec (s.getD i.toNat default).2 3 (List.map Bk.a (s.getD i.toNat default).3)]] = List.map Sb.a (o ++ [{ n:=(s.getD i.toNat default).n,f:=(s.getD i.toNat default).2,bl:=(s.getD i.toNat default).3 }]):=(lm_app rfl rfl)
  obtain ⟨k12,H⟩:=H
  have w13:wi (i + 1) = i + 1:=wI64 k12
  exact path_wp (G:=given kp25 [(4,1,.elem (ag [vi (s.getD i.toNat default).n,AV.vec (s.getD i.toNat default).2 3 (List.map Bk.a (s.getD i.toNat default).3)]))] []) 1000 [true] ⟨(atC (cd Try.f25) [1,1,0,1,0,0]),[(2,AV.ptr 0 0 0 0),(3,AV.ptr 1 0 0 0),(10,AV.vec h 2 (List.map Sb.a s)),(11,vi n),(12,vi (wi (i + 1)))],[⟨[ag [AV.vnil,AV.vnil]],2,0,false,false⟩,⟨[ag [AV.vec g 3 (List.map Bk.a l),AV.row 2 (v + 1)]],2,0,false,false⟩,⟨List.map Sb.a o ++ [ag [vi (s.getD i.toNat default).n,AV.vec (s.getD i.toNat default).2 3 (List.map Bk.a (s.getD i.toNat default).3)]],2,v + 1,false,true⟩,⟨[ag [vi (s.getD i.toNat default).n,AV.vec (s.getD i.toNat default).2 3 (List.map Bk.a (s.getD i.toNat default).3)]],2,0,false,false⟩],[(decide (i < n)) == true,decide (0 <= i),decide (i.toNat < (List.map Sb.a s).length),true,true,true,true,v == v,decide (((List.map Sb.a o).length + 1) * 32 <= 1099511627776),true],[((List.map Sb.a s).get?Internal i.toNat = some (ag [vi (s.getD i.toNat default).n,AV.vec (s.getD i.toNat default).2 3 (List.map Bk.a (s.getD i.toNat default).3)]))],_⟩ (by kernel_rfl) (bc (beq_t (i_dec.2 d2)) (bc (i_dec.2 k4) (bc (i6.2 k7) (bc rfl (bc rfl (bc rfl (bc rfl (bc (beq_self_eq_true _) (bc (i9.2 k10) (bc rfl b0)))))))))) (qc (el_map k7) q0) c0 (by (try rw [w11]);(try rw [w13]);all_goals exact wp_narrow [0,1,2] (by kernel_rfl) H)
 ·have H:=H.2 d2
  exact path_ret (G:=given kp25 [] []) 1000 [false] (k:=((atC (cd Try.f25) [1,1,1,1])).tail) (env':=[(2,AV.ptr 0 0 0 0)]) (L':=[⟨[ag [AV.vec g 3 (List.map Bk.a l),AV.row 2 v]],2,0,false,false⟩,⟨[ag [AV.vec g 3 (List.map Bk.a l),AV.row 2 v]],2,0,false,false⟩,⟨List.map Sb.a o,2,v,false,true⟩]) (asm:=[(decide (i < n)) == false,true,true]) (eqs:=[]) (calls:=[]) (ag [AV.vec g 3 (List.map Bk.a l),AV.row 2 v]) (by kernel_rfl) (by kernel_rfl) (allB_cons (beq_f (fun h => d2 (i_dec.1 h))) (allB_cons rfl (allB_cons rfl allB_nil))) allP_nil allC_nil (pq_weak (d:=(ag [AV.vec g 3 (List.map Bk.a l),AV.vec false 2 (List.map Sb.a o)])) (bs:=[v == v]) (by kernel_rfl) (by kernel_rfl) (allB_cons (beq_self_eq_true _) allB_nil) (by kernel_rfl) H)
theorem suPs (g:Bool) (l:List Bk) (h:Bool) (s:List Sb) (g2 h2:Bool) (l2:List Bk) (s2:List Sb)  (dq:AV) (H :
  (Sp.okBs l) /\
  (((¬(Sp.sameL l l2 = true)) \/ (¬(↑s.length:Int) = (↑s2.length:Int))) -> vb false = dq) /\
  (¬((¬(Sp.sameL l l2 = true)) \/ (¬(↑s.length:Int) = (↑s2.length:Int))) -> suPsa_at (g) (l) (h) (s) (g2) (h2) (l2) (s2) (0) (PureQ dq))) :
 suPs_at g l h s g2 h2 l2 s2 (PureQ dq):=by
 unfold suPs_at
 obtain ⟨k1,H⟩:=H
 have w2:(List.map Sb.a s).length = s.length:=List.length_map ..
 have w3:(List.map Sb.a s2).length = s2.length:=List.length_map ..
 have i4:(bif !Sp.sameL l l2 then true else (↑(List.map Sb.a s).length:Int) != (↑(List.map Sb.a s2).length:Int)) = true ↔ ((¬(Sp.sameL l l2 = true)) \/ (¬(↑s.length:Int) = (↑s2.length:Int))):=(by (try rw [w2]);(try rw [w3]);all_goals exact (i_bor (i_not (i_var _)) i_ne))
 refine path_wp (G:=given kp24 [(1,4,.call (vb (Sp.sameL l l2)) none)] []) 5 [] ⟨(atC (cd Try.f24) [1,0,1]),[(2,AV.ptr 0 0 0 0),(3,AV.ptr 1 0 0 0),(20,vb (bif !Sp.sameL l l2 then true else (↑(List.map Sb.a s).length:Int) != (↑(List.map Sb.a s2).length:Int)))],[⟨[ag [AV.vec g 3 (List.map Bk.a l),AV.vec h 2 (List.map Sb.a s)]],2,0,false,false⟩,⟨[ag [AV.vec g2 3 (List.map Bk.a l2),AV.vec h2 2 (List.map Sb.a s2)]],2,0,false,false⟩],[true,true,!((!Sp.sameL l l2) == false && true) || true,!((!Sp.sameL l l2) == false && true) || true],[],_⟩ (by kernel_rfl) (bc rfl (bc rfl (bc (Bool.or_true _) (bc (Bool.or_true _) b0)))) q0 (ce (@ev18 (g) (g2) (l) (l2) k1) c0) ?_
 rcases xm ((¬(Sp.sameL l l2 = true)) \/ (¬(↑s.length:Int) = (↑s2.length:Int))) with d5 | d5
 ·have H:=H.1 d5
  exact path_re (G:=given kp24 [] []) 1000 [true] (vb false) (by kernel_rfl) (bc (beq_t (i4.2 d5)) b0) q0 c0 H
 ·have H:=H.2 d5
  exact path_wp (G:=given kp24 [] []) 1000 [false] ⟨(atC (cd Try.f24) [1,1,0,1,0,0]),[(2,AV.ptr 0 0 0 0),(3,AV.ptr 1 0 0 0),(5,vi 0)],[⟨[ag [AV.vec g 3 (List.map Bk.a l),AV.vec h 2 (List.map Sb.a s)]],2,0,false,false⟩,⟨[ag [AV.vec g2 3 (List.map Bk.a l2),AV.vec h2 2 (List.map Sb.a s2)]],2,0,false,false⟩],_,[],_⟩ (by kernel_rfl) (bc (beq_f (fun h => d5 (i4.1 h))) b0) q0 c0 (H)
noncomputable abbrev zSpL1 (s:List Sb) (i:Int) (s2:List Sb):=bif (s.getD i.toNat default).n != (s2.getD i.toNat default).n then true else !Sp.sameL (s.getD i.toNat default).3 (s2.getD i.toNat default).3
theorem suPsa (g:Bool) (l:List Bk) (h:Bool) (s:List Sb) (g2 h2:Bool) (l2:List Bk) (s2:List Sb) (i:Int)  (dq:AV) (H :
  ((i < (↑s.length:Int)) -> ((¬(¬(s.getD i.toNat default).n = (s2.getD i.toNat default).n)) -> (Sp.okBs (s.getD i.toNat default).3)) /\
   (0 <= i) /\
   (i.toNat < s.length) /\
   (i.toNat < s2.length) /\
   (((¬(s.getD i.toNat default).n = (s2.getD i.toNat default).n) \/ (¬(Sp.sameL (s.getD i.toNat default).3 (s2.getD i.toNat default).3 = true))) -> vb false = dq) /\
   (¬((¬(s.getD i.toNat default).n = (s2.getD i.toNat default).n) \/ (¬(Sp.sameL (s.getD i.toNat default).3 (s2.getD i.toNat default).3 = true))) -> (-9223372036854775808 <= i + 1 /\ i + 1 <= 9223372036854775807) /\
    suPsa_at (g) (l) (h) (s) (g2) (h2) (l2) (s2) (i + 1) (PureQ dq))) /\
  (¬(i < (↑s.length:Int)) -> vb true = dq)) :
 suPsa_at g l h s g2 h2 l2 s2 i (PureQ dq):=by
 unfold suPsa_at
 have w1:(List.map Sb.a s).length = s.length:=List.length_map ..
 have i2:(decide (i < (↑(List.map Sb.a s).length:Int))) = true ↔ (i < (↑s.length:Int)):=(by (try rw [w1]);all_goals exact i_dec)
 rcases xm (i < (↑s.length:Int)) with d3 | d3
 ·have H:=H.1 d3
  obtain ⟨k5,H⟩:=H
  obtain ⟨k7,H⟩:=H
  have i8:(decide (i.toNat < (List.map Sb.a s).length)) = true ↔ (i.toNat < s.length):=(by (try rw [w1]);all_goals exact i_dec)
  obtain ⟨k9,H⟩:=H
  have w11:(List.map Sb.a s2).length = s2.length:=List.length_map ..
  have i12:(decide (i.toNat < (List.map Sb.a s2).length)) = true ↔ (i.toNat < s2.length):=(by (try rw [w11]);all_goals exact i_dec)
  obtain ⟨k13,H⟩:=H
  have i15:(!(((s.getD i.toNat default).n != (s2.getD i.toNat default).n) == false && true) || decide (i.toNat < (List.map Sb.a s).length)) = true ↔ ((¬(¬(s.getD i.toNat default).n = (s2.getD i.toNat default).n)) -> (i.toNat < s.length)):=(by (try rw [w1]);all_goals exact (i_imp (i_at (i_bf i_ne)) i_dec))
  have i17:(!(((s.getD i.toNat default).n != (s2.getD i.toNat default).n) == false && true) || decide (i.toNat < (List.map Sb.a s2).length)) = true ↔ ((¬(¬(s.getD i.toNat default).n = (s2.getD i.toNat default).n)) -> (i.toNat < s2.length)):=(by (try rw [w11]);all_goals exact (i_imp (i_at (i_bf i_ne)) i_dec))
  refine path_wp (G:=given kp24 [(6,5,.elem (ag [vi (s.getD i.toNat default).n,AV.vec (s.getD i.toNat default).2 3 (List.map Bk.a (s.getD i.toNat default).3)])),(6,11,.elem (ag [vi (s2.getD i.toNat default).n,AV.vec (s2.getD i.toNat default).2 3 (List.map Bk.a (s2.getD i.toNat default).3)])),(6,19,.elem (ag [vi (s.getD i.toNat default).n,AV.vec (s.getD i.toNat default).2 3 (List.map Bk.a (s.getD i.toNat default).3)])),(6,25,.elem (ag [vi (s2.getD i.toNat default).n,AV.vec (s2.getD i.toNat default).2 3 (List.map Bk.a (s2.getD i.toNat default).3)])),(6,26,.call (vb (Sp.sameL (s.getD i.toNat default).3 (s2.getD i.toNat default).3)) none)] []) 9 [true] ⟨(atC (cd Try.f24) [1,1,0,1,0,0,1,0,0,1]),[(2,AV.ptr 0 0 0 0),(3,AV.ptr 1 0 0 0),(5,vi i),(56,vb (zSpL1 s i s2))],[⟨[ag [AV.vec g 3 (List.map Bk.a l),AV.vec h 2 (List.map Sb.a s)]],2,0,false,false⟩,⟨[ag [AV.vec g2 3 (List.map Bk.a l2),AV.vec h2 2 (List.map Sb.a s2)]],2,0,false,false⟩],[true,(decide (i < (↑(List.map Sb.a s).length:Int))) == true,true,decide (0 <= i),decide (i.toNat < (List.map Sb.a s).length),true,decide (0 <= i),decide (i.toNat < (List.map Sb.a s2).length),!(((s.getD i.toNat default).n != (s2.getD i.toNat default).n) == false && true) || true,!(((s.getD i.toNat default).n != (s2.getD i.toNat default).n) == false && true) || decide (0 <= i),!(((s.getD i.toNat default).n != (s2.getD i.toNat default).n) == false && true) || decide (i.toNat < (List.map Sb.a s).length),!(((s.getD i.toNat default).n != (s2.getD i.toNat default).n) == false && true) || true,!(((s.getD i.toNat default).n != (s2.getD i.toNat default).n) == false && true) || decide (0 <= i),!(((s.getD i.toNat default).n != (s2.getD i.toNat default).n) == false && true) || decide (i.toNat < (List.map Sb.a s2).length)],[((List.map Sb.a s).get?Internal i.toNat = some (ag [vi (s.getD i.toNat default).n,AV.vec (s.getD i.toNat default).2 3 (List.map Bk.a (s.getD i.toNat default).3)])),((List.map Sb.a s2).get?Internal i.toNat = some (ag [vi (s2.getD i.toNat default).n,AV.vec (s2.getD i.toNat default).2 3 (List.map Bk.a (s2.getD i.toNat default).3)])),((((s.getD i.toNat default).n != (s2.getD i.toNat default).n) == false && true) = true -> (List.map Sb.a s).get?Internal i.toNat = some (ag [vi (s.getD i.toNat default).n,AV.vec (s.getD i.toNat default).2 3 (List.map Bk.a (s.getD i.toNat default).3)])),((((s.getD i.toNat default).n != (s2.getD i.toNat default).n) == false && true) = true -> (List.map Sb.a s2).get?Internal i.toNat = some (ag [vi (s2.getD i.toNat default).n,AV.vec (s2.getD i.toNat default).2 3 (List.map Bk.a (s2.getD i.toNat default).3)]))],[⟨((s.getD i.toNat default).n != (s2.getD i.toNat default).n) == false && true && true,false,18,[AV.vec (s.getD i.toNat default).2 3 (List.map Bk.a (s.getD i.toNat default).3),AV.vec (s2.getD i.toNat default).2 3 (List.map Bk.a (s2.getD i.toNat default).3)],[],vb (Sp.sameL (s.getD i.toNat default).3 (s2.getD i.toNat default).3),[]⟩]⟩ (by kernel_rfl) (bc rfl (bc (beq_t (i2.2 d3)) (bc rfl (bc (i_dec.2 k7) (bc (i8.2 k9) (bc rfl (bc (i_dec.2 k7) (bc (i12.2 k13) (bc (Bool.or_true _) (bc ((i_imp (i_at (i_bf i_ne)) i_dec).2 (fun _ => k7)) (bc (i15.2 (fun _ => k9)) (bc (Bool.or_true _) (bc ((i_imp (i_at (i_bf i_ne)) i_dec).2 (fun _ => k7)) (bc (i17.2 (fun _ => k13)) b0)))))))))))))) (qc (el_map k9) (qc (el_map k13) (qc (fun h => el_map k9) (qc (fun h => el_map k13) q0)))) (cc (fun hc => ((@ev18 ((s.getD i.toNat default).2) ((s2.getD i.toNat default).2) ((s.getD i.toNat default).3) ((s2.getD i.toNat default).3) (k5 ((i_at (i_at (i_bf i_ne))).1 hc))):Ev M1 (Conf.pure 18 [AV.vec (s.getD i.toNat default).2 3 (List.map Bk.a (s.getD i.toNat default).3),AV.vec (s2.getD i.toNat default).2 3 (List.map Bk.a (s2.getD i.toNat default).3)]) (vb (Sp.sameL (s.getD i.toNat default).3 (s2.getD i.toNat default).3)) [])) c0) ?_
  rcases xm ((¬(s.getD i.toNat default).n = (s2.getD i.toNat default).n) \/ (¬(Sp.sameL (s.getD i.toNat default).3 (s2.getD i.toNat default).3 = true))) with d21 | d21
  ·have H:=H.1 d21
   exact path_re (G:=given kp24 [] []) 1000 [true] (asm:=[(zSpL1 s i s2) == true]) (vb false) (by kernel_rfl) (bc (beq_t ((i_bor i_ne (i_not (i_var _))).2 d21)) b0) q0 c0 H
  ·have H:=H.2 d21
   obtain ⟨k22,H⟩:=H
   have w23:wi (i + 1) = i + 1:=wI64 k22
   exact path_wp (G:=given kp24 [] []) 1000 [false] ⟨(atC (cd Try.f24) [1,1,0,1,0,0]),[(2,AV.ptr 0 0 0 0),(3,AV.ptr 1 0 0 0),(5,vi (wi (i + 1)))],[⟨[ag [AV.vec g 3 (List.map Bk.a l),AV.vec h 2 (List.map Sb.a s)]],2,0,false,false⟩,⟨[ag [AV.vec g2 3 (List.map Bk.a l2),AV.vec h2 2 (List.map Sb.a s2)]],2,0,false,false⟩],[(zSpL1 s i s2) == false],[],_⟩ (by kernel_rfl) (bc (beq_f (fun h => d21 ((i_bor i_ne (i_not (i_var _))).1 h))) b0) q0 c0 (by (try rw [w23]);all_goals exact H)
 ·have H:=H.2 d3
  exact path_re (G:=given kp24 [] []) 1000 [false] (vb true) (by kernel_rfl) (bc rfl (bc (beq_f (fun h => d3 (i2.1 h))) b0)) q0 c0 H
end Go.Av

namespace Go.Av
open Go.Proofs
abbrev pgA (g h:Bool) (l:List Bk) (s:List Sb):AV:=.agg [bsA g l,sbA h s]
def Sb.key (s:Sb):Int × List (Bool × List Wo × List UInt8):=(s.n,s.bl.map Bk.key)
namespace Sp
def samP (l l2:List Bk) (s s2:List Sb):Bool:=sameL l l2 && decide (s.map Sb.key = s2.map Sb.key)
def okPs (l:List Bk) (s:List Sb):Prop:=okBs l /\ s.length <= 1000000 /\ ∀ x ∈ s,okBs x.bl
end Sp
theorem suBka_loop {g h:Bool} {l:List Bk} {s:List Sb} {dq:AV} (hl:s.length <= 1000000):∀ (k i:Nat) (o:List Sb) (v:Nat),i + k = s.length -> o.length <= i -> Weak (.agg [bsA g l,sbA false (o ++ s.drop i)]) dq -> suBka_at g l h s s.length i o v (PureQ dq):=by
 intro k
 induction k with
 | zero =>
  intro i o v hi ho hq
  rw [List.drop_eq_nil_of_le (by omega),List.append_nil] at hq
  exact suBka _ _ _ _ _ _ _ _ _ ⟨fun h => by omega,fun _ => hq⟩
 | succ k ih =>
  intro i o v hi ho hq
  rw [drop_getD (show i < s.length by omega)] at hq
  refine suBka _ _ _ _ _ _ _ _ _ ⟨fun _ => ?_,fun h => by omega⟩
  rw [Int.toNat_natCast]
  exact ⟨by omega,by omega,by omega,by omega,ih (i + 1) _ _ (by omega) (by simp;omega) (by rw [List.append_assoc];exact hq)⟩
theorem ev25 (g h:Bool) (l:List Bk) (s:List Sb) (hl:Sp.few6 s.length):Ev M1 (.pure 25 [pgA g h l s]) (pgA g false l s) []:=by
 unfold Sp.few6 at hl
 refine call25 (suBk g l h s _ ?_)
 cases s with
 | nil => exact suBkz _ _ _ _ _ _ _ ⟨fun h => by simp at h,fun _ => weak_agg2 (.refl _) (.vnil 2)⟩
 | cons y s =>
  refine suBkz _ _ _ _ _ _ _ ⟨fun _ => ?_,fun h => by simp at h⟩
  exact ⟨by omega,by simp,by omega,suBka_loop hl s.length 1 [y] 0 (by simp;omega) (by simp) (.refl _)⟩
theorem suPsa_loop {g h g2 h2:Bool} {l l2:List Bk} {s s2:List Sb} {dq:AV} (hk:s.length <= 1000000 /\ ∀ x ∈ s,Sp.okBs x.bl) (he:s.length = s2.length):∀ (k i:Nat),i + k = s.length -> AV.bool (decide ((s.drop i).map Sb.key = (s2.drop i).map Sb.key)) = dq -> suPsa_at g l h s g2 h2 l2 s2 i (PureQ dq):=by
 have hl:=hk.1
 intro k
 induction k with
 | zero =>
  intro i hi hq
  rw [List.drop_eq_nil_of_le (by omega),List.drop_eq_nil_of_le (by omega)] at hq
  exact suPsa _ _ _ _ _ _ _ _ _ _ ⟨fun h => by omega,fun _ => hq⟩
 | succ k ih =>
  intro i hi hq
  have hm:=hk.2 _ (getD_mem (show i < s.length by omega))
  rw [drop_getD (show i < s.length by omega),drop_getD (show i < s2.length by omega),List.map_cons,List.map_cons] at hq
  refine suPsa _ _ _ _ _ _ _ _ _ _ ⟨fun _ => ?_,fun h => by omega⟩
  rw [Int.toNat_natCast]
  have hkey:(s.getD i default).key = (s2.getD i default).key ↔ (s.getD i default).n = (s2.getD i default).n /\ Sp.sameL (s.getD i default).bl (s2.getD i default).bl = true:=by
   unfold Sb.key Sp.sameL
   rw [Prod.mk.injEq,decide_eq_true_eq]
  refine ⟨fun _ => hm,by omega,by omega,by omega,fun h => ?_,fun h => ⟨by omega,ih (i + 1) (by omega) ?_⟩⟩
  ·rw [decide_eq_false (fun e => by
    obtain ⟨k1,k2⟩:=hkey.1 (List.cons.inj e).1
    exact h.elim (fun x => x k1) (fun x => x k2))] at hq
   exact hq
  ·rw [<- hq]
   congr 1
   rw [decide_eq_decide]
   have:=hkey.2 ⟨Classical.byContradiction fun x => h (.inl x),Classical.byContradiction fun x => h (.inr x)⟩
   rw [this];simp
theorem ev24 (g h g2 h2:Bool) (l l2:List Bk) (s s2:List Sb) (hk:Sp.okPs l s):Ev M1 (.pure 24 [pgA g h l s,pgA g2 h2 l2 s2]) (.bool (Sp.samP l l2 s s2)) []:=by
 obtain ⟨k1,k2⟩:=hk
 unfold Sp.samP
 refine call24 (suPs g l h s g2 h2 l2 s2 _ ⟨k1,fun x => ?_,fun x => suPsa_loop k2 ?_ s.length 0 (by omega) ?_⟩)
 ·congr 1
  rw [Eq.comm,Bool.and_eq_false_iff]
  rcases x with x | x
  ·exact .inl (by simpa using x)
  ·exact .inr (decide_eq_false fun e => x (by have:=congrArg List.length e;simp only [List.length_map] at this;omega))
 ·have:¬¬(s.length:Int) = s2.length:=fun y => x (.inr y)
  omega
 ·have:Sp.sameL l l2 = true:=Classical.byContradiction fun y => x (.inl y)
  rw [this,Bool.true_and];rfl
end Go.Av

namespace Go.Av
open Go.Proofs
set_option maxRecDepth 100000
end Go.Av

namespace Go.Av
open Go.Proofs
theorem okBs_sub {l:List Bk} (h:Sp.okBs l) (a b:Nat):Sp.okBs ((l.take b).drop a):=by
 obtain ⟨h1,h2⟩:=h
 refine ⟨by simp;omega,fun x hx => h2 x (List.mem_of_mem_take (List.mem_of_mem_drop hx))⟩
theorem vals_okBs {l:List Bk} {m:Int} (h:Sp.vals l m = true) (hm:m <= 1000000):Sp.okBs l:=by
 obtain ⟨h1,h2⟩:=vals_at h
 exact ⟨by omega,fun b hb => valB_okW (h2 b hb)⟩
end Go.Av

namespace Go.Av
open Go.Proofs
set_option maxRecDepth 100000
def fi58:Fi:=⟨5,[.tmp 2]⟩
def kp58:List (Nat × List Nat):=[(0,[1]),(1,[2])]
def fi60:Fi:=⟨9,[.tmp 2]⟩
def kp60:List (Nat × List Nat):=[(0,[1]),(1,[2])]
def svS1_at (sk f:Bool) (ws:List Wo) (cm:List UInt8) (Q:AV -> Heap -> Prop):Prop:=Wp M1 (.run fi58 (atC (cd Try.f58) []) [(0,.agg [.bool sk,.vec f 2 (ws.map Wo.a),.str cm])] []) Q
def svS2_at (sk f:Bool) (ws:List Wo) (cm:List UInt8) (Q:AV -> Heap -> Prop):Prop:=Wp M1 (.run fi60 (atC (cd Try.f60) []) [(0,.agg [.bool sk,.vec f 2 (ws.map Wo.a),.str cm])] []) Q
theorem call58 {args:List AV} {d:AV} (h:wc M1 fi58 Try.f58 args d):Ev M1 (.pure 58 args) d []:=pcl _ _ (by kernel_rfl) h
theorem call60 {args:List AV} {d:AV} (h:wc M1 fi60 Try.f60 args d):Ev M1 (.pure 60 args) d []:=pcl _ _ (by kernel_rfl) h
theorem svS1 (sk f:Bool) (ws:List Wo) (cm:List UInt8)  (dq:AV) (H :
  (Sp.few6 ws.length) /\
  vb (Sp.hasW ws 77 30000) = dq) :
 svS1_at sk f ws cm (PureQ dq):=by
 unfold svS1_at
 obtain ⟨k1,H⟩:=H
 exact path_re (G:=given kp58 [(1,1,.call (vb (Sp.hasW ws 77 30000)) none)] []) 1000 [] (vb (Sp.hasW ws 77 30000)) (by kernel_rfl) (bc rfl b0) q0 (ce (@ev40 (sk) (f) (ws) (cm) (77) (30000) k1) c0) H
theorem svS2 (sk f:Bool) (ws:List Wo) (cm:List UInt8)  (dq:AV) (H :
  ((Sp.plB sk ws cm = true) -> (Sp.few6 ws.length)) /\
  vb (bif Sp.plB sk ws cm then Sp.hasW ws 77 99000 else false) = dq) :
 svS2_at sk f ws cm (PureQ dq):=by
 unfold svS2_at
 obtain ⟨k2,H⟩:=H
 exact path_re (G:=given kp60 [(1,1,.call (vb (Sp.plB sk ws cm)) none),(1,4,.call (vb (Sp.hasW ws 77 99000)) none)] []) 1000 [] (asm:=[true,!(Sp.plB sk ws cm == true && true) || true]) (calls:=[⟨true,false,61,[ag [vb sk,AV.vec f 2 (List.map Wo.a ws),AV.str cm]],[],vb (Sp.plB sk ws cm),[]⟩,⟨Sp.plB sk ws cm == true && true && true,false,40,[ag [vb sk,AV.vec f 2 (List.map Wo.a ws),AV.str cm],AV.int IntKind.u8 77,vi 99000],[],vb (Sp.hasW ws 77 99000),[]⟩]) (vb (bif Sp.plB sk ws cm then Sp.hasW ws 77 99000 else false)) (by kernel_rfl) (bc rfl (bc (Bool.or_true _) b0)) q0 (cc (fun _ => (@ev61 (sk) (f) (ws) (cm))) (cc (fun hc => ((@ev40 (sk) (f) (ws) (cm) (77) (99000) (k2 ((i_at (i_at (i_bt (i_var _)))).1 hc))):Ev M1 (Conf.pure 40 [ag [vb sk,AV.vec f 2 (List.map Wo.a ws),AV.str cm],AV.int IntKind.u8 77,vi 99000]) (vb (Sp.hasW ws 77 99000)) [])) c0)) H
end Go.Av

namespace Go.Av
open Go.Proofs
namespace Sp
def pEnd (b:Bk):Bool:=endB b.ws
def pStop (b:Bk):Bool:=plB b.sk b.ws b.cm && backB b.ws
def pMk (b:Bk):Bool:=mkB b.ws
def idxF {α:Type} (p:α -> Bool):List α -> Int -> Int
 | [],_ => -1
 | b :: r,i => if p b = true then i else idxF p r (i + 1)
def idxP {α:Type} (p:α -> Bool) (l:List α):Int:=idxF p l 0
def anyP {α:Type} (p:α -> Bool) (l:List α):Bool:=l.any p
end Sp
theorem ev58 (sk f:Bool) (ws:List Wo) (cm:List UInt8) (h:Sp.few6 ws.length):Ev M1 (.pure 58 [bkA sk f ws cm]) (.bool (Sp.pEnd ⟨sk,f,ws,cm⟩)) []:=
 call58 (svS1 sk f ws cm _ ⟨h,rfl⟩)
theorem ev60 (sk f:Bool) (ws:List Wo) (cm:List UInt8) (h:Sp.few6 ws.length):Ev M1 (.pure 60 [bkA sk f ws cm]) (.bool (Sp.pStop ⟨sk,f,ws,cm⟩)) []:=by
 refine call60 (svS2 sk f ws cm _ ⟨fun _ => h,?_⟩)
 unfold Sp.pStop
 cases Sp.plB sk ws cm <;> rfl
theorem idxF_ge {α:Type} (p:α -> Bool):∀ (l:List α) (i:Int),0 <= i -> (Sp.idxF p l i = -1 /\ l.any p = false) \/ (i <= Sp.idxF p l i /\ Sp.idxF p l i < i + l.length /\ l.any p = true)
 | [],i,_ => .inl ⟨rfl,rfl⟩
 | b :: r,i,hi => by
  rw [Sp.idxF,List.any_cons]
  cases hb:p b with
  | true => right;simp;omega
  | false =>
   rw [if_neg (by simp),Bool.false_or]
   rcases idxF_ge p r (i + 1) (by omega) with ⟨h1,h2⟩ | ⟨h1,h2,h3⟩
   ·exact .inl ⟨h1,h2⟩
   ·right;simp only [List.length_cons];exact ⟨by omega,by omega,h3⟩
end Go.Av

namespace Go.Av
open Go.Proofs
set_option maxRecDepth 100000
def fi56:Fi:=⟨19,[.tmp 4]⟩
def kp56:List (Nat × List Nat):=[(0,[0,1]),(1,[0,1,7,8]),(2,[0,1,7,8,9]),(3,[0,1,5,7,8]),(4,[0,1,5,7,8,16]),(5,[4]),(6,[0,1,7,8]),(7,[4])]
def svI1_at (g:Bool) (l:List Bk) (Q:AV -> Heap -> Prop):Prop:=Wp M1 (.run fi56 (atC (cd Try.f56) []) [(0,.vec g 3 (l.map Bk.a)),(1,.func (.func 58) [] [])] []) Q
def svI1a_at (g:Bool) (l:List Bk) (n i:Int) (Q:AV -> Heap -> Prop):Prop:=Wp M1 (.run fi56 (atC (cd Try.f56) [1,0,1,0,0]) [(0,.vec g 3 (l.map Bk.a)),(1,.func (.func 58) [] []),(7,.int .i64 n),(8,.int .i64 i)] []) Q
def svI2_at (g:Bool) (l:List Bk) (Q:AV -> Heap -> Prop):Prop:=Wp M1 (.run fi56 (atC (cd Try.f56) []) [(0,.vec g 3 (l.map Bk.a)),(1,.func (.func 60) [] [])] []) Q
def svI2a_at (g:Bool) (l:List Bk) (n i:Int) (Q:AV -> Heap -> Prop):Prop:=Wp M1 (.run fi56 (atC (cd Try.f56) [1,0,1,0,0]) [(0,.vec g 3 (l.map Bk.a)),(1,.func (.func 60) [] []),(7,.int .i64 n),(8,.int .i64 i)] []) Q
def svIm_at (g:Bool) (l:List Bk) (Q:AV -> Heap -> Prop):Prop:=Wp M1 (.run fi56 (atC (cd Try.f56) []) [(0,.vec g 3 (l.map Bk.a)),(1,.func (.func 77) [] [])] []) Q
def svIma_at (g:Bool) (l:List Bk) (n i:Int) (Q:AV -> Heap -> Prop):Prop:=Wp M1 (.run fi56 (atC (cd Try.f56) [1,0,1,0,0]) [(0,.vec g 3 (l.map Bk.a)),(1,.func (.func 77) [] []),(7,.int .i64 n),(8,.int .i64 i)] []) Q
theorem call56 {args:List AV} {d:AV} (h:wc M1 fi56 Try.f56 args d):Ev M1 (.pure 56 args) d []:=pcl _ _ (by kernel_rfl) h
theorem svI1 (g:Bool) (l:List Bk)  (dq:AV) (H :
  svI1a_at (g) (l) ((↑l.length:Int)) (0) (PureQ dq)) :
 svI1_at g l (PureQ dq):=by
 unfold svI1_at
 have w1:(List.map Bk.a l).length = l.length:=List.length_map ..
 exact path_wp (G:=given kp56 [] []) 1000 [] ⟨(atC (cd Try.f56) [1,0,1,0,0]),[(0,AV.vec g 3 (List.map Bk.a l)),(1,AV.func (Fn.func 58) [] []),(7,vi (↑(List.map Bk.a l).length:Int)),(8,vi 0)],[],_,[],_⟩ (by kernel_rfl) b0 q0 c0 (by (try rw [w1]);all_goals exact H)
theorem svI1a (g:Bool) (l:List Bk) (n i:Int)  (dq:AV) (H :
  ((i < n) -> (Sp.few6 (l.getD i.toNat default).3.length) /\
   (0 <= i) /\
   (i.toNat < l.length) /\
   ((Sp.pEnd { sk:=(l.getD i.toNat default).1,f:=(l.getD i.toNat default).2,ws:=(l.getD i.toNat default).3,cm:=(l.getD i.toNat default).4 } = true) -> vi i = dq) /\
   (¬(Sp.pEnd { sk:=(l.getD i.toNat default).1,f:=(l.getD i.toNat default).2,ws:=(l.getD i.toNat default).3,cm:=(l.getD i.toNat default).4 } = true) -> (-9223372036854775808 <= i + 1 /\ i + 1 <= 9223372036854775807) /\
    svI1a_at (g) (l) (n) (i + 1) (PureQ dq))) /\
  (¬(i < n) -> vi (-1) = dq)) :
 svI1a_at g l n i (PureQ dq):=by
 unfold svI1a_at
 rcases xm (i < n) with d2 | d2
 ·have H:=H.1 d2
  obtain ⟨k3,H⟩:=H
  obtain ⟨k5,H⟩:=H
  have w6:(List.map Bk.a l).length = l.length:=List.length_map ..
  have i7:(decide (i.toNat < (List.map Bk.a l).length)) = true ↔ (i.toNat < l.length):=(by (try rw [w6]);all_goals exact i_dec)
  obtain ⟨k8,H⟩:=H
  refine path_wp (G:=given kp56 [(4,4,.elem (ag [vb (l.getD i.toNat default).1,AV.vec (l.getD i.toNat default).2 2 (List.map Wo.a (l.getD i.toNat default).3),AV.str (l.getD i.toNat default).4])),(4,5,.call (vb (Sp.pEnd { sk:=(l.getD i.toNat default).1,f:=(l.getD i.toNat default).2,ws:=(l.getD i.toNat default).3,cm:=(l.getD i.toNat default).4 })) none)] []) 11 [true] ⟨(atC (cd Try.f56) [1,0,1,0,0,1,1,0,0,1,1]),[(0,AV.vec g 3 (List.map Bk.a l)),(1,AV.func (Fn.func 58) [] []),(5,vi i),(7,vi n),(8,vi i),(16,vb (Sp.pEnd { sk:=(l.getD i.toNat default).1,f:=(l.getD i.toNat default).2,ws:=(l.getD i.toNat default).3,cm:=(l.getD i.toNat default).4 }))],[],_,[((List.map Bk.a l).get?Internal i.toNat = some (ag [vb (l.getD i.toNat default).1,AV.vec (l.getD i.toNat default).2 2 (List.map Wo.a (l.getD i.toNat default).3),AV.str (l.getD i.toNat default).4]))],_⟩ (by kernel_rfl) (bc (beq_t (i_dec.2 d2)) (bc (i_dec.2 k5) (bc (i7.2 k8) b0))) (qc (el_map k8) q0) (ce (@ev58 ((l.getD i.toNat default).1) ((l.getD i.toNat default).2) ((l.getD i.toNat default).3) ((l.getD i.toNat default).4) k3) c0) ?_
  rcases xm (Sp.pEnd { sk:=(l.getD i.toNat default).1,f:=(l.getD i.toNat default).2,ws:=(l.getD i.toNat default).3,cm:=(l.getD i.toNat default).4 } = true) with d10 | d10
  ·have H:=H.1 d10
   exact path_re (G:=given kp56 [] []) 1000 [true] (asm:=[(Sp.pEnd { sk:=(l.getD i.toNat default).1,f:=(l.getD i.toNat default).2,ws:=(l.getD i.toNat default).3,cm:=(l.getD i.toNat default).4 }) == true]) (vi i) (by kernel_rfl) (bc (beq_t ((i_var _).2 d10)) b0) q0 c0 H
  ·have H:=H.2 d10
   obtain ⟨k11,H⟩:=H
   have w12:wi (i + 1) = i + 1:=wI64 k11
   exact path_wp (G:=given kp56 [] []) 1000 [false] ⟨(atC (cd Try.f56) [1,0,1,0,0]),[(0,AV.vec g 3 (List.map Bk.a l)),(1,AV.func (Fn.func 58) [] []),(7,vi n),(8,vi (wi (i + 1)))],[],[(Sp.pEnd { sk:=(l.getD i.toNat default).1,f:=(l.getD i.toNat default).2,ws:=(l.getD i.toNat default).3,cm:=(l.getD i.toNat default).4 }) == false],[],_⟩ (by kernel_rfl) (bc (beq_f (fun h => d10 ((i_var _).1 h))) b0) q0 c0 (by (try rw [w12]);all_goals exact H)
 ·have H:=H.2 d2
  exact path_re (G:=given kp56 [] []) 1000 [false] (vi (-1)) (by kernel_rfl) (bc (beq_f (fun h => d2 (i_dec.1 h))) b0) q0 c0 H
theorem svI2 (g:Bool) (l:List Bk)  (dq:AV) (H :
  svI2a_at (g) (l) ((↑l.length:Int)) (0) (PureQ dq)) :
 svI2_at g l (PureQ dq):=by
 unfold svI2_at
 have w1:(List.map Bk.a l).length = l.length:=List.length_map ..
 exact path_wp (G:=given kp56 [] []) 1000 [] ⟨(atC (cd Try.f56) [1,0,1,0,0]),[(0,AV.vec g 3 (List.map Bk.a l)),(1,AV.func (Fn.func 60) [] []),(7,vi (↑(List.map Bk.a l).length:Int)),(8,vi 0)],[],_,[],_⟩ (by kernel_rfl) b0 q0 c0 (by (try rw [w1]);all_goals exact H)
theorem svI2a (g:Bool) (l:List Bk) (n i:Int)  (dq:AV) (H :
  ((i < n) -> (Sp.few6 (l.getD i.toNat default).3.length) /\
   (0 <= i) /\
   (i.toNat < l.length) /\
   ((Sp.pStop { sk:=(l.getD i.toNat default).1,f:=(l.getD i.toNat default).2,ws:=(l.getD i.toNat default).3,cm:=(l.getD i.toNat default).4 } = true) -> vi i = dq) /\
   (¬(Sp.pStop { sk:=(l.getD i.toNat default).1,f:=(l.getD i.toNat default).2,ws:=(l.getD i.toNat default).3,cm:=(l.getD i.toNat default).4 } = true) -> (-9223372036854775808 <= i + 1 /\ i + 1 <= 9223372036854775807) /\
    svI2a_at (g) (l) (n) (i + 1) (PureQ dq))) /\
  (¬(i < n) -> vi (-1) = dq)) :
 svI2a_at g l n i (PureQ dq):=by
 unfold svI2a_at
 rcases xm (i < n) with d2 | d2
 ·have H:=H.1 d2
  obtain ⟨k3,H⟩:=H
  obtain ⟨k5,H⟩:=H
  have w6:(List.map Bk.a l).length = l.length:=List.length_map ..
  have i7:(decide (i.toNat < (List.map Bk.a l).length)) = true ↔ (i.toNat < l.length):=(by (try rw [w6]);all_goals exact i_dec)
  obtain ⟨k8,H⟩:=H
  refine path_wp (G:=given kp56 [(4,4,.elem (ag [vb (l.getD i.toNat default).1,AV.vec (l.getD i.toNat default).2 2 (List.map Wo.a (l.getD i.toNat default).3),AV.str (l.getD i.toNat default).4])),(4,5,.call (vb (Sp.pStop { sk:=(l.getD i.toNat default).1,f:=(l.getD i.toNat default).2,ws:=(l.getD i.toNat default).3,cm:=(l.getD i.toNat default).4 })) none)] []) 11 [true] ⟨(atC (cd Try.f56) [1,0,1,0,0,1,1,0,0,1,1]),[(0,AV.vec g 3 (List.map Bk.a l)),(1,AV.func (Fn.func 60) [] []),(5,vi i),(7,vi n),(8,vi i),(16,vb (Sp.pStop { sk:=(l.getD i.toNat default).1,f:=(l.getD i.toNat default).2,ws:=(l.getD i.toNat default).3,cm:=(l.getD i.toNat default).4 }))],[],_,[((List.map Bk.a l).get?Internal i.toNat = some (ag [vb (l.getD i.toNat default).1,AV.vec (l.getD i.toNat default).2 2 (List.map Wo.a (l.getD i.toNat default).3),AV.str (l.getD i.toNat default).4]))],_⟩ (by kernel_rfl) (bc (beq_t (i_dec.2 d2)) (bc (i_dec.2 k5) (bc (i7.2 k8) b0))) (qc (el_map k8) q0) (ce (@ev60 ((l.getD i.toNat default).1) ((l.getD i.toNat default).2) ((l.getD i.toNat default).3) ((l.getD i.toNat default).4) k3) c0) ?_
  rcases xm (Sp.pStop { sk:=(l.getD i.toNat default).1,f:=(l.getD i.toNat default).2,ws:=(l.getD i.toNat default).3,cm:=(l.getD i.toNat default).4 } = true) with d10 | d10
  ·have H:=H.1 d10
   exact path_re (G:=given kp56 [] []) 1000 [true] (asm:=[(Sp.pStop { sk:=(l.getD i.toNat default).1,f:=(l.getD i.toNat default).2,ws:=(l.getD i.toNat default).3,cm:=(l.getD i.toNat default).4 }) == true]) (vi i) (by kernel_rfl) (bc (beq_t ((i_var _).2 d10)) b0) q0 c0 H
  ·have H:=H.2 d10
   obtain ⟨k11,H⟩:=H
   have w12:wi (i + 1) = i + 1:=wI64 k11
   exact path_wp (G:=given kp56 [] []) 1000 [false] ⟨(atC (cd Try.f56) [1,0,1,0,0]),[(0,AV.vec g 3 (List.map Bk.a l)),(1,AV.func (Fn.func 60) [] []),(7,vi n),(8,vi (wi (i + 1)))],[],[(Sp.pStop { sk:=(l.getD i.toNat default).1,f:=(l.getD i.toNat default).2,ws:=(l.getD i.toNat default).3,cm:=(l.getD i.toNat default).4 }) == false],[],_⟩ (by kernel_rfl) (bc (beq_f (fun h => d10 ((i_var _).1 h))) b0) q0 c0 (by (try rw [w12]);all_goals exact H)
 ·have H:=H.2 d2
  exact path_re (G:=given kp56 [] []) 1000 [false] (vi (-1)) (by kernel_rfl) (bc (beq_f (fun h => d2 (i_dec.1 h))) b0) q0 c0 H
theorem svIm (g:Bool) (l:List Bk)  (dq:AV) (H :
  svIma_at (g) (l) ((↑l.length:Int)) (0) (PureQ dq)) :
 svIm_at g l (PureQ dq):=by
 unfold svIm_at
 have w1:(List.map Bk.a l).length = l.length:=List.length_map ..
 exact path_wp (G:=given kp56 [] []) 1000 [] ⟨(atC (cd Try.f56) [1,0,1,0,0]),[(0,AV.vec g 3 (List.map Bk.a l)),(1,AV.func (Fn.func 77) [] []),(7,vi (↑(List.map Bk.a l).length:Int)),(8,vi 0)],[],_,[],_⟩ (by kernel_rfl) b0 q0 c0 (by (try rw [w1]);all_goals exact H)
theorem svIma (g:Bool) (l:List Bk) (n i:Int)  (dq:AV) (H :
  ((i < n) -> (Sp.few6 (l.getD i.toNat default).3.length) /\
   (0 <= i) /\
   (i.toNat < l.length) /\
   ((Sp.mkB (l.getD i.toNat default).3 = true) -> vi i = dq) /\
   (¬(Sp.mkB (l.getD i.toNat default).3 = true) -> (-9223372036854775808 <= i + 1 /\ i + 1 <= 9223372036854775807) /\
    svIma_at (g) (l) (n) (i + 1) (PureQ dq))) /\
  (¬(i < n) -> vi (-1) = dq)) :
 svIma_at g l n i (PureQ dq):=by
 unfold svIma_at
 rcases xm (i < n) with d2 | d2
 ·have H:=H.1 d2
  obtain ⟨k3,H⟩:=H
  obtain ⟨k5,H⟩:=H
  have w6:(List.map Bk.a l).length = l.length:=List.length_map ..
  have i7:(decide (i.toNat < (List.map Bk.a l).length)) = true ↔ (i.toNat < l.length):=(by (try rw [w6]);all_goals exact i_dec)
  obtain ⟨k8,H⟩:=H
  refine path_wp (G:=given kp56 [(4,4,.elem (ag [vb (l.getD i.toNat default).1,AV.vec (l.getD i.toNat default).2 2 (List.map Wo.a (l.getD i.toNat default).3),AV.str (l.getD i.toNat default).4])),(4,5,.call (vb (Sp.mkB (l.getD i.toNat default).3)) none)] []) 11 [true] ⟨(atC (cd Try.f56) [1,0,1,0,0,1,1,0,0,1,1]),[(0,AV.vec g 3 (List.map Bk.a l)),(1,AV.func (Fn.func 77) [] []),(5,vi i),(7,vi n),(8,vi i),(16,vb (Sp.mkB (l.getD i.toNat default).3))],[],_,[((List.map Bk.a l).get?Internal i.toNat = some (ag [vb (l.getD i.toNat default).1,AV.vec (l.getD i.toNat default).2 2 (List.map Wo.a (l.getD i.toNat default).3),AV.str (l.getD i.toNat default).4]))],_⟩ (by kernel_rfl) (bc (beq_t (i_dec.2 d2)) (bc (i_dec.2 k5) (bc (i7.2 k8) b0))) (qc (el_map k8) q0) (ce (@ev77 ((l.getD i.toNat default).1) ((l.getD i.toNat default).2) ((l.getD i.toNat default).3) ((l.getD i.toNat default).4) k3) c0) ?_
  rcases xm (Sp.mkB (l.getD i.toNat default).3 = true) with d10 | d10
  ·have H:=H.1 d10
   exact path_re (G:=given kp56 [] []) 1000 [true] (asm:=[(Sp.mkB (l.getD i.toNat default).3) == true]) (vi i) (by kernel_rfl) (bc (beq_t ((i_var _).2 d10)) b0) q0 c0 H
  ·have H:=H.2 d10
   obtain ⟨k11,H⟩:=H
   have w12:wi (i + 1) = i + 1:=wI64 k11
   exact path_wp (G:=given kp56 [] []) 1000 [false] ⟨(atC (cd Try.f56) [1,0,1,0,0]),[(0,AV.vec g 3 (List.map Bk.a l)),(1,AV.func (Fn.func 77) [] []),(7,vi n),(8,vi (wi (i + 1)))],[],[(Sp.mkB (l.getD i.toNat default).3) == false],[],_⟩ (by kernel_rfl) (bc (beq_f (fun h => d10 ((i_var _).1 h))) b0) q0 c0 (by (try rw [w12]);all_goals exact H)
 ·have H:=H.2 d2
  exact path_re (G:=given kp56 [] []) 1000 [false] (vi (-1)) (by kernel_rfl) (bc (beq_f (fun h => d2 (i_dec.1 h))) b0) q0 c0 H
end Go.Av

namespace Go.Av
open Go.Proofs
theorem svI1_loop {g:Bool} {l:List Bk} {dq:AV} (hk:Sp.okBs l):∀ (c i:Nat),i + c = l.length -> AV.int .i64 (Sp.idxF Sp.pEnd (l.drop i) i) = dq -> svI1a_at g l l.length i (PureQ dq):=by
 have hl:=hk.1
 intro c
 induction c with
 | zero =>
  intro i hi hq
  rw [List.drop_eq_nil_of_le (by omega)] at hq
  exact svI1a _ _ _ _ _ ⟨fun h => by omega,fun _ => hq⟩
 | succ c ih =>
  intro i hi hq
  have hm:=hk.2 _ (getD_mem (show i < l.length by omega))
  rw [drop_getD (show i < l.length by omega),Sp.idxF] at hq
  refine svI1a _ _ _ _ _ ⟨fun _ => ?_,fun h => by omega⟩
  rw [Int.toNat_natCast]
  refine ⟨hm.1,by omega,by omega,fun h => ?_,fun h => ⟨by omega,ih (i + 1) (by omega) ?_⟩⟩
  ·rw [if_pos (show Sp.pEnd (l.getD i default) = true from h)] at hq
   exact hq
  ·rw [if_neg (show ¬Sp.pEnd (l.getD i default) = true from h)] at hq
   exact hq
theorem ev56_a (g:Bool) (l:List Bk) (hk:Sp.okBs l):Ev M1 (.pure 56 [bsA g l,.func (.func 58) [] []]) (.int .i64 (Sp.idxP Sp.pEnd l)) []:=
 call56 (svI1 g l _ (svI1_loop hk l.length 0 (by omega) rfl))
theorem svI2_loop {g:Bool} {l:List Bk} {dq:AV} (hk:Sp.okBs l):∀ (c i:Nat),i + c = l.length -> AV.int .i64 (Sp.idxF Sp.pStop (l.drop i) i) = dq -> svI2a_at g l l.length i (PureQ dq):=by
 have hl:=hk.1
 intro c
 induction c with
 | zero =>
  intro i hi hq
  rw [List.drop_eq_nil_of_le (by omega)] at hq
  exact svI2a _ _ _ _ _ ⟨fun h => by omega,fun _ => hq⟩
 | succ c ih =>
  intro i hi hq
  have hm:=hk.2 _ (getD_mem (show i < l.length by omega))
  rw [drop_getD (show i < l.length by omega),Sp.idxF] at hq
  refine svI2a _ _ _ _ _ ⟨fun _ => ?_,fun h => by omega⟩
  rw [Int.toNat_natCast]
  refine ⟨hm.1,by omega,by omega,fun h => ?_,fun h => ⟨by omega,ih (i + 1) (by omega) ?_⟩⟩
  ·rw [if_pos (show Sp.pStop (l.getD i default) = true from h)] at hq
   exact hq
  ·rw [if_neg (show ¬Sp.pStop (l.getD i default) = true from h)] at hq
   exact hq
theorem ev56_b (g:Bool) (l:List Bk) (hk:Sp.okBs l):Ev M1 (.pure 56 [bsA g l,.func (.func 60) [] []]) (.int .i64 (Sp.idxP Sp.pStop l)) []:=
 call56 (svI2 g l _ (svI2_loop hk l.length 0 (by omega) rfl))
theorem svIm_loop {g:Bool} {l:List Bk} {dq:AV} (hk:Sp.okBs l):∀ (c i:Nat),i + c = l.length -> AV.int .i64 (Sp.idxF Sp.pMk (l.drop i) i) = dq -> svIma_at g l l.length i (PureQ dq):=by
 have hl:=hk.1
 intro c
 induction c with
 | zero =>
  intro i hi hq
  rw [List.drop_eq_nil_of_le (by omega)] at hq
  exact svIma _ _ _ _ _ ⟨fun h => by omega,fun _ => hq⟩
 | succ c ih =>
  intro i hi hq
  have hm:=hk.2 _ (getD_mem (show i < l.length by omega))
  rw [drop_getD (show i < l.length by omega),Sp.idxF] at hq
  refine svIma _ _ _ _ _ ⟨fun _ => ?_,fun h => by omega⟩
  rw [Int.toNat_natCast]
  refine ⟨hm.1,by omega,by omega,fun h => ?_,fun h => ⟨by omega,ih (i + 1) (by omega) ?_⟩⟩
  ·rw [if_pos (show Sp.pMk (l.getD i default) = true from h)] at hq
   exact hq
  ·rw [if_neg (show ¬Sp.pMk (l.getD i default) = true from h)] at hq
   exact hq
theorem ev56_c (g:Bool) (l:List Bk) (hk:Sp.okBs l):Ev M1 (.pure 56 [bsA g l,.func (.func 77) [] []]) (.int .i64 (Sp.idxP Sp.pMk l)) []:=
 call56 (svIm g l _ (svIm_loop hk l.length 0 (by omega) rfl))
end Go.Av

namespace Go.Av
open Go.Proofs
set_option maxRecDepth 100000
def fi27:Fi:=⟨9,[.tmp 4]⟩
def kp27:List (Nat × List Nat):=[(0,[0,1]),(1,[4])]
def svXm_at (g:Bool) (l:List Bk) (Q:AV -> Heap -> Prop):Prop:=Wp M1 (.run fi27 (atC (cd Try.f27) []) [(0,.vec g 3 (l.map Bk.a)),(1,.func (.func 77) [] [])] []) Q
theorem call27 {args:List AV} {d:AV} (h:wc M1 fi27 Try.f27 args d):Ev M1 (.pure 27 args) d []:=pcl _ _ (by kernel_rfl) h
theorem svXm (g:Bool) (l:List Bk)  (dq:AV) (H :
  (Sp.okBs l) /\
  vb (decide (Sp.idxP Sp.pMk l >= 0)) = dq) :
 svXm_at g l (PureQ dq):=by
 unfold svXm_at
 obtain ⟨k1,H⟩:=H
 exact path_re (G:=given kp27 [(1,2,.call (vi (Sp.idxP Sp.pMk l)) none)] []) 1000 [] (vb (decide (Sp.idxP Sp.pMk l >= 0))) (by kernel_rfl) b0 q0 (ce (@ev56_c (g) (l) k1) c0) H
end Go.Av

namespace Go.Av
open Go.Proofs
theorem any_idx {α:Type} (p:α -> Bool) (l:List α):decide (Sp.idxP p l >= 0) = Sp.anyP p l:=by
 unfold Sp.idxP Sp.anyP
 rcases idxF_ge p l 0 (by omega) with ⟨h1,h2⟩ | ⟨h1,h2,h3⟩
 ·rw [h1,h2];rfl
 ·rw [h3];exact decide_eq_true h1
theorem ev27_a (g:Bool) (l:List Bk) (hk:Sp.okBs l):Ev M1 (.pure 27 [bsA g l,.func (.func 77) [] []]) (.bool (Sp.anyP Sp.pMk l)) []:=
 call27 (svXm g l _ ⟨hk,congrArg AV.bool (any_idx ..)⟩)
end Go.Av

namespace Go.Av
open Go.Proofs
set_option maxRecDepth 100000
def fi79:Fi:=⟨6,[.tmp 2]⟩
def kp79:List (Nat × List Nat):=[(0,[1]),(1,[2])]
def fi80:Fi:=⟨9,[.tmp 3]⟩
def kp80:List (Nat × List Nat):=[(0,[1,2]),(1,[3])]
def svO1_at (n:Int) (f:Bool) (l:List Bk) (Q:AV -> Heap -> Prop):Prop:=Wp M1 (.run fi79 (atC (cd Try.f79) []) [(0,.agg [.int .i64 n,.vec f 3 (l.map Bk.a)])] []) Q
def svR1_at (n m:Int) (f g:Bool) (l q:List Bk) (Q:AV -> Heap -> Prop):Prop:=Wp M1 (.run fi80 (atC (cd Try.f80) []) [(0,.agg [.int .i64 n,.vec f 3 (l.map Bk.a)]),(1,.eptr 2 [.agg [.int .i64 m,.vec g 3 (q.map Bk.a)]] 0 0)] []) Q
theorem call79 {args:List AV} {d:AV} (h:wc M1 fi79 Try.f79 args d):Ev M1 (.pure 79 args) d []:=pcl _ _ (by kernel_rfl) h
theorem call80 {args:List AV} {d:AV} (h:wc M1 fi80 Try.f80 args d):Ev M1 (.pure 80 args) d []:=pcl _ _ (by kernel_rfl) h
theorem svO1 (n:Int) (f:Bool) (l:List Bk)  (dq:AV) (H :
  (Sp.okBs l) /\
  vb (Sp.anyP Sp.pMk l) = dq) :
 svO1_at n f l (PureQ dq):=by
 unfold svO1_at
 obtain ⟨k1,H⟩:=H
 exact path_re (G:=given kp79 [(1,2,.call (vb (Sp.anyP Sp.pMk l)) none)] []) 1000 [] (vb (Sp.anyP Sp.pMk l)) (by kernel_rfl) (bc rfl b0) q0 (ce (@ev27_a (f) (l) k1) c0) H
theorem svR1 (n m:Int) (f g:Bool) (l q:List Bk)  (dq:AV) (H :
  vb (m == n) = dq) :
 svR1_at n m f g l q (PureQ dq):=by
 unfold svR1_at
 exact path_re (G:=given kp80 [] []) 1000 [] (vb (m == n)) (by kernel_rfl) (bc rfl b0) q0 c0 H
end Go.Av

namespace Go.Av
open Go.Proofs
namespace Sp
def eqI (m n:Int):Bool:=m == n
def sMk (s:Sb):Bool:=anyP pMk s.bl
def sIs (m:Int) (s:Sb):Bool:=eqI m s.n
end Sp
theorem ev79 (n:Int) (f:Bool) (l:List Bk) (hk:Sp.okBs l):Ev M1 (.pure 79 [.agg [.int .i64 n,.vec f 3 (l.map Bk.a)]]) (.bool (Sp.anyP Sp.pMk l)) []:=
 call79 (svO1 n f l _ ⟨hk,rfl⟩)
theorem ev80 (n m:Int) (f g:Bool) (l q:List Bk):Ev M1 (.pure 80 [.agg [.int .i64 n,.vec f 3 (l.map Bk.a)],.eptr 2 [.agg [.int .i64 m,.vec g 3 (q.map Bk.a)]] 0 0]) (.bool (Sp.eqI m n)) []:=
 call80 (svR1 n m f g l q _ rfl)
end Go.Av

namespace Go.Av
open Go.Proofs
set_option maxRecDepth 100000
def fi86:Fi:=⟨19,[.tmp 4]⟩
def kp86:List (Nat × List Nat):=[(0,[0,1]),(1,[0,1,7,8]),(2,[0,1,7,8,9]),(3,[0,1,5,7,8]),(4,[0,1,5,7,8,16]),(5,[4]),(6,[0,1,7,8]),(7,[4])]
def svJo_at (h:Bool) (s:List Sb) (Q:AV -> Heap -> Prop):Prop:=Wp M1 (.run fi86 (atC (cd Try.f86) []) [(0,.vec h 2 (s.map Sb.a)),(1,.func (.func 79) [] [])] []) Q
def svJoa_at (h:Bool) (s:List Sb) (n i:Int) (Q:AV -> Heap -> Prop):Prop:=Wp M1 (.run fi86 (atC (cd Try.f86) [1,0,1,0,0]) [(0,.vec h 2 (s.map Sb.a)),(1,.func (.func 79) [] []),(7,.int .i64 n),(8,.int .i64 i)] []) Q
def svJr_at (h:Bool) (s:List Sb) (m:Int) (f:Bool) (q:List Bk) (Q:AV -> Heap -> Prop):Prop:=Wp M1 (.run fi86 (atC (cd Try.f86) []) [(0,.vec h 2 (s.map Sb.a)),(1,.func (.func 80) [] [.eptr 2 [.agg [.int .i64 m,.vec f 3 (q.map Bk.a)]] 0 0])] []) Q
def svJra_at (h:Bool) (s:List Sb) (m:Int) (f:Bool) (q:List Bk) (n i:Int) (Q:AV -> Heap -> Prop):Prop:=Wp M1 (.run fi86 (atC (cd Try.f86) [1,0,1,0,0]) [(0,.vec h 2 (s.map Sb.a)),(1,.func (.func 80) [] [.eptr 2 [.agg [.int .i64 m,.vec f 3 (q.map Bk.a)]] 0 0]),(7,.int .i64 n),(8,.int .i64 i)] []) Q
theorem call86 {args:List AV} {d:AV} (h:wc M1 fi86 Try.f86 args d):Ev M1 (.pure 86 args) d []:=pcl _ _ (by kernel_rfl) h
theorem svJo (h:Bool) (s:List Sb)  (dq:AV) (H :
  svJoa_at (h) (s) ((↑s.length:Int)) (0) (PureQ dq)) :
 svJo_at h s (PureQ dq):=by
 unfold svJo_at
 have w1:(List.map Sb.a s).length = s.length:=List.length_map ..
 exact path_wp (G:=given kp86 [] []) 1000 [] ⟨(atC (cd Try.f86) [1,0,1,0,0]),[(0,AV.vec h 2 (List.map Sb.a s)),(1,AV.func (Fn.func 79) [] []),(7,vi (↑(List.map Sb.a s).length:Int)),(8,vi 0)],[],_,[],_⟩ (by kernel_rfl) b0 q0 c0 (by (try rw [w1]);all_goals exact H)
theorem svJoa (h:Bool) (s:List Sb) (n i:Int)  (dq:AV) (H :
  ((i < n) -> (Sp.okBs (s.getD i.toNat default).3) /\
   (0 <= i) /\
   (i.toNat < s.length) /\
   ((Sp.anyP Sp.pMk (s.getD i.toNat default).3 = true) -> vi i = dq) /\
   (¬(Sp.anyP Sp.pMk (s.getD i.toNat default).3 = true) -> (-9223372036854775808 <= i + 1 /\ i + 1 <= 9223372036854775807) /\
    svJoa_at (h) (s) (n) (i + 1) (PureQ dq))) /\
  (¬(i < n) -> vi (-1) = dq)) :
 svJoa_at h s n i (PureQ dq):=by
 unfold svJoa_at
 rcases xm (i < n) with d2 | d2
 ·have H:=H.1 d2
  obtain ⟨k3,H⟩:=H
  obtain ⟨k5,H⟩:=H
  have w6:(List.map Sb.a s).length = s.length:=List.length_map ..
  have i7:(decide (i.toNat < (List.map Sb.a s).length)) = true ↔ (i.toNat < s.length):=(by (try rw [w6]);all_goals exact i_dec)
  obtain ⟨k8,H⟩:=H
  refine path_wp (G:=given kp86 [(4,4,.elem (ag [vi (s.getD i.toNat default).n,AV.vec (s.getD i.toNat default).2 3 (List.map Bk.a (s.getD i.toNat default).3)])),(4,5,.call (vb (Sp.anyP Sp.pMk (s.getD i.toNat default).3)) none)] []) 11 [true] ⟨(atC (cd Try.f86) [1,0,1,0,0,1,1,0,0,1,1]),[(0,AV.vec h 2 (List.map Sb.a s)),(1,AV.func (Fn.func 79) [] []),(5,vi i),(7,vi n),(8,vi i),(16,vb (Sp.anyP Sp.pMk (s.getD i.toNat default).3))],[],_,[((List.map Sb.a s).get?Internal i.toNat = some (ag [vi (s.getD i.toNat default).n,AV.vec (s.getD i.toNat default).2 3 (List.map Bk.a (s.getD i.toNat default).3)]))],_⟩ (by kernel_rfl) (bc (beq_t (i_dec.2 d2)) (bc (i_dec.2 k5) (bc (i7.2 k8) b0))) (qc (el_map k8) q0) (ce (@ev79 ((s.getD i.toNat default).n) ((s.getD i.toNat default).2) ((s.getD i.toNat default).3) k3) c0) ?_
  rcases xm (Sp.anyP Sp.pMk (s.getD i.toNat default).3 = true) with d10 | d10
  ·have H:=H.1 d10
   exact path_re (G:=given kp86 [] []) 1000 [true] (asm:=[(Sp.anyP Sp.pMk (s.getD i.toNat default).3) == true]) (vi i) (by kernel_rfl) (bc (beq_t ((i_var _).2 d10)) b0) q0 c0 H
  ·have H:=H.2 d10
   obtain ⟨k11,H⟩:=H
   have w12:wi (i + 1) = i + 1:=wI64 k11
   exact path_wp (G:=given kp86 [] []) 1000 [false] ⟨(atC (cd Try.f86) [1,0,1,0,0]),[(0,AV.vec h 2 (List.map Sb.a s)),(1,AV.func (Fn.func 79) [] []),(7,vi n),(8,vi (wi (i + 1)))],[],[(Sp.anyP Sp.pMk (s.getD i.toNat default).3) == false],[],_⟩ (by kernel_rfl) (bc (beq_f (fun h => d10 ((i_var _).1 h))) b0) q0 c0 (by (try rw [w12]);all_goals exact H)
 ·have H:=H.2 d2
  exact path_re (G:=given kp86 [] []) 1000 [false] (vi (-1)) (by kernel_rfl) (bc (beq_f (fun h => d2 (i_dec.1 h))) b0) q0 c0 H
theorem svJr (h:Bool) (s:List Sb) (m:Int) (f:Bool) (q:List Bk)  (dq:AV) (H :
  svJra_at (h) (s) (m) (f) (q) ((↑s.length:Int)) (0) (PureQ dq)) :
 svJr_at h s m f q (PureQ dq):=by
 unfold svJr_at
 have w1:(List.map Sb.a s).length = s.length:=List.length_map ..
 exact path_wp (G:=given kp86 [] []) 1000 [] ⟨(atC (cd Try.f86) [1,0,1,0,0]),[(0,AV.vec h 2 (List.map Sb.a s)),(1,AV.func (Fn.func 80) [] [AV.eptr 2 [ag [vi m,AV.vec f 3 (List.map Bk.a q)]] 0 0]),(7,vi (↑(List.map Sb.a s).length:Int)),(8,vi 0)],[],_,[],_⟩ (by kernel_rfl) b0 q0 c0 (by (try rw [w1]);all_goals exact H)
theorem svJra (h:Bool) (s:List Sb) (m:Int) (f:Bool) (q:List Bk) (n i:Int)  (dq:AV) (H :
  ((i < n) -> (0 <= i) /\
   (i.toNat < s.length) /\
   ((Sp.eqI m (s.getD i.toNat default).n = true) -> vi i = dq) /\
   (¬(Sp.eqI m (s.getD i.toNat default).n = true) -> (-9223372036854775808 <= i + 1 /\ i + 1 <= 9223372036854775807) /\
    svJra_at (h) (s) (m) (f) (q) (n) (i + 1) (PureQ dq))) /\
  (¬(i < n) -> vi (-1) = dq)) :
 svJra_at h s m f q n i (PureQ dq):=by
 unfold svJra_at
 rcases xm (i < n) with d2 | d2
 ·have H:=H.1 d2
  obtain ⟨k4,H⟩:=H
  have w5:(List.map Sb.a s).length = s.length:=List.length_map ..
  have i6:(decide (i.toNat < (List.map Sb.a s).length)) = true ↔ (i.toNat < s.length):=(by (try rw [w5]);all_goals exact i_dec)
  obtain ⟨k7,H⟩:=H
  refine path_wp (G:=given kp86 [(4,4,.elem (ag [vi (s.getD i.toNat default).n,AV.vec (s.getD i.toNat default).2 3 (List.map Bk.a (s.getD i.toNat default).3)])),(4,5,.call (vb (Sp.eqI m (s.getD i.toNat default).n)) none)] []) 11 [true] ⟨(atC (cd Try.f86) [1,0,1,0,0,1,1,0,0,1,1]),[(0,AV.vec h 2 (List.map Sb.a s)),(1,AV.func (Fn.func 80) [] [AV.eptr 2 [ag [vi m,AV.vec f 3 (List.map Bk.a q)]] 0 0]),(5,vi i),(7,vi n),(8,vi i),(16,vb (Sp.eqI m (s.getD i.toNat default).n))],[],_,[((List.map Sb.a s).get?Internal i.toNat = some (ag [vi (s.getD i.toNat default).n,AV.vec (s.getD i.toNat default).2 3 (List.map Bk.a (s.getD i.toNat default).3)]))],_⟩ (by kernel_rfl) (bc (beq_t (i_dec.2 d2)) (bc (i_dec.2 k4) (bc (i6.2 k7) b0))) (qc (el_map k7) q0) (ce (@ev80 ((s.getD i.toNat default).n) (m) ((s.getD i.toNat default).2) (f) ((s.getD i.toNat default).3) (q)) c0) ?_
  rcases xm (Sp.eqI m (s.getD i.toNat default).n = true) with d9 | d9
  ·have H:=H.1 d9
   exact path_re (G:=given kp86 [] []) 1000 [true] (asm:=[(Sp.eqI m (s.getD i.toNat default).n) == true]) (vi i) (by kernel_rfl) (bc (beq_t ((i_var _).2 d9)) b0) q0 c0 H
  ·have H:=H.2 d9
   obtain ⟨k10,H⟩:=H
   have w11:wi (i + 1) = i + 1:=wI64 k10
   exact path_wp (G:=given kp86 [] []) 1000 [false] ⟨(atC (cd Try.f86) [1,0,1,0,0]),[(0,AV.vec h 2 (List.map Sb.a s)),(1,AV.func (Fn.func 80) [] [AV.eptr 2 [ag [vi m,AV.vec f 3 (List.map Bk.a q)]] 0 0]),(7,vi n),(8,vi (wi (i + 1)))],[],[(Sp.eqI m (s.getD i.toNat default).n) == false],[],_⟩ (by kernel_rfl) (bc (beq_f (fun h => d9 ((i_var _).1 h))) b0) q0 c0 (by (try rw [w11]);all_goals exact H)
 ·have H:=H.2 d2
  exact path_re (G:=given kp86 [] []) 1000 [false] (vi (-1)) (by kernel_rfl) (bc (beq_f (fun h => d2 (i_dec.1 h))) b0) q0 c0 H
end Go.Av

namespace Go.Av
open Go.Proofs
theorem svJo_loop {h:Bool} {s:List Sb} {dq:AV} (hk:s.length <= 1000000 /\ ∀ x ∈ s,Sp.okBs x.bl):∀ (c i:Nat),i + c = s.length -> AV.int .i64 (Sp.idxF Sp.sMk (s.drop i) i) = dq -> svJoa_at h s s.length i (PureQ dq):=by
 have hl:s.length <= 1000000:=hk.1
 intro c
 induction c with
 | zero =>
  intro i hi hq
  rw [List.drop_eq_nil_of_le (by omega)] at hq
  exact svJoa _ _ _ _ _ ⟨fun h => by omega,fun _ => hq⟩
 | succ c ih =>
  intro i hi hq
  have hm:=hk.2 _ (getD_mem (show i < s.length by omega))
  rw [drop_getD (show i < s.length by omega),Sp.idxF] at hq
  refine svJoa _ _ _ _ _ ⟨fun _ => ?_,fun h => by omega⟩
  rw [Int.toNat_natCast]
  refine ⟨hm,by omega,by omega,fun h => ?_,fun h => ⟨by omega,ih (i + 1) (by omega) ?_⟩⟩
  ·rw [if_pos (show Sp.sMk (s.getD i default) = true from h)] at hq
   exact hq
  ·rw [if_neg (show ¬Sp.sMk (s.getD i default) = true from h)] at hq
   exact hq
theorem ev86_a (h:Bool) (s:List Sb) (hk:s.length <= 1000000 /\ ∀ x ∈ s,Sp.okBs x.bl):Ev M1 (.pure 86 [sbA h s,.func (.func 79) [] []]) (.int .i64 (Sp.idxP Sp.sMk s)) []:=
 call86 (svJo h s _ (svJo_loop hk s.length 0 (by omega) rfl))
theorem svJr_loop {h:Bool} {s:List Sb} {m:Int} {f:Bool} {q:List Bk} {dq:AV} (hk:s.length <= 1000000):∀ (c i:Nat),i + c = s.length -> AV.int .i64 (Sp.idxF (Sp.sIs m) (s.drop i) i) = dq -> svJra_at h s m f q s.length i (PureQ dq):=by
 have hl:s.length <= 1000000:=hk
 intro c
 induction c with
 | zero =>
  intro i hi hq
  rw [List.drop_eq_nil_of_le (by omega)] at hq
  exact svJra _ _ _ _ _ _ _ _ ⟨fun h => by omega,fun _ => hq⟩
 | succ c ih =>
  intro i hi hq
  rw [drop_getD (show i < s.length by omega),Sp.idxF] at hq
  refine svJra _ _ _ _ _ _ _ _ ⟨fun _ => ?_,fun h => by omega⟩
  rw [Int.toNat_natCast]
  refine ⟨by omega,by omega,fun h => ?_,fun h => ⟨by omega,ih (i + 1) (by omega) ?_⟩⟩
  ·rw [if_pos (show (Sp.sIs m) (s.getD i default) = true from h)] at hq
   exact hq
  ·rw [if_neg (show ¬(Sp.sIs m) (s.getD i default) = true from h)] at hq
   exact hq
theorem ev86_b (h:Bool) (s:List Sb) (m:Int) (f:Bool) (q:List Bk) (hk:s.length <= 1000000):Ev M1 (.pure 86 [sbA h s,.func (.func 80) [] [.eptr 2 [.agg [.int .i64 m,.vec f 3 (q.map Bk.a)]] 0 0]]) (.int .i64 (Sp.idxP (Sp.sIs m) s)) []:=
 call86 (svJr h s m f q _ (svJr_loop hk s.length 0 (by omega) rfl))
end Go.Av

namespace Go.Av
open Go.Proofs
set_option maxRecDepth 100000
def fi78:Fi:=⟨9,[.tmp 4]⟩
def kp78:List (Nat × List Nat):=[(0,[0,1]),(1,[4])]
def svKo_at (h:Bool) (s:List Sb) (Q:AV -> Heap -> Prop):Prop:=Wp M1 (.run fi78 (atC (cd Try.f78) []) [(0,.vec h 2 (s.map Sb.a)),(1,.func (.func 79) [] [])] []) Q
def svKr_at (h:Bool) (s:List Sb) (m:Int) (f:Bool) (q:List Bk) (Q:AV -> Heap -> Prop):Prop:=Wp M1 (.run fi78 (atC (cd Try.f78) []) [(0,.vec h 2 (s.map Sb.a)),(1,.func (.func 80) [] [.eptr 2 [.agg [.int .i64 m,.vec f 3 (q.map Bk.a)]] 0 0])] []) Q
theorem call78 {args:List AV} {d:AV} (h:wc M1 fi78 Try.f78 args d):Ev M1 (.pure 78 args) d []:=pcl _ _ (by kernel_rfl) h
theorem svKo (h:Bool) (s:List Sb)  (dq:AV) (H :
  (s.length <= 1000000 /\ ∀ (x:Sb),x ∈ s -> Sp.okBs x.bl) /\
  vb (decide (Sp.idxP Sp.sMk s >= 0)) = dq) :
 svKo_at h s (PureQ dq):=by
 unfold svKo_at
 obtain ⟨k1,H⟩:=H
 exact path_re (G:=given kp78 [(1,2,.call (vi (Sp.idxP Sp.sMk s)) none)] []) 1000 [] (vb (decide (Sp.idxP Sp.sMk s >= 0))) (by kernel_rfl) b0 q0 (ce (@ev86_a (h) (s) k1) c0) H
theorem svKr (h:Bool) (s:List Sb) (m:Int) (f:Bool) (q:List Bk)  (dq:AV) (H :
  (s.length <= 1000000) /\
  vb (decide (Sp.idxP (Sp.sIs m) s >= 0)) = dq) :
 svKr_at h s m f q (PureQ dq):=by
 unfold svKr_at
 obtain ⟨k1,H⟩:=H
 exact path_re (G:=given kp78 [(1,2,.call (vi (Sp.idxP (Sp.sIs m) s)) none)] []) 1000 [] (vb (decide (Sp.idxP (Sp.sIs m) s >= 0))) (by kernel_rfl) b0 q0 (ce (@ev86_b (h) (s) (m) (f) (q) k1) c0) H
end Go.Av

namespace Go.Av
open Go.Proofs
theorem ev78_a (h:Bool) (s:List Sb) (hk:s.length <= 1000000 /\ ∀ x ∈ s,Sp.okBs x.bl):Ev M1 (.pure 78 [sbA h s,.func (.func 79) [] []]) (.bool (Sp.anyP Sp.sMk s)) []:=
 call78 (svKo h s _ ⟨hk,congrArg AV.bool (any_idx ..)⟩)
theorem ev78_b (h:Bool) (s:List Sb) (m:Int) (f:Bool) (q:List Bk) (hk:s.length <= 1000000):Ev M1 (.pure 78 [sbA h s,.func (.func 80) [] [.eptr 2 [.agg [.int .i64 m,.vec f 3 (q.map Bk.a)]] 0 0]]) (.bool (Sp.anyP (Sp.sIs m) s)) []:=
 call78 (svKr h s m f q _ ⟨hk,congrArg AV.bool (any_idx ..)⟩)
end Go.Av

namespace Go.Av
open Go.Proofs
set_option maxRecDepth 100000
def fi62:Fi:=⟨48,[.tmp 2]⟩
def kp62:List (Nat × List Nat):=[(0,[1]),(1,[1,3]),(2,[1,43]),(3,[2]),(4,[2])]
def fi63:Fi:=⟨18,[.tmp 2]⟩
def kp63:List (Nat × List Nat):=[(0,[0]),(1,[0,5,6,7]),(2,[0,5,6,7,8]),(3,[0,3,4,5,6,7]),(4,[0,5,6,7,16]),(5,[2]),(6,[0,5,6,7]),(7,[2])]
def svRp_at (h:Bool) (s:List Sb) (Q:AV -> Heap -> Prop):Prop:=Wp M1 (.run fi63 (atC (cd Try.f63) []) [(0,.vec h 2 (s.map Sb.a))] []) Q
def svRpa_at (h:Bool) (s:List Sb) (n i:Int) (Q:AV -> Heap -> Prop):Prop:=Wp M1 (.run fi63 (atC (cd Try.f63) [1,0,1,0,0]) [(0,.vec h 2 (s.map Sb.a)),(5,.vec h 2 (s.map Sb.a)),(6,.int .i64 n),(7,.int .i64 i)] []) Q
def svOd_at (g:Bool) (l:List Bk) (h:Bool) (s:List Sb) (Q:AV -> Heap -> Prop):Prop:=Wp M1 (.run fi62 (atC (cd Try.f62) []) [(0,.agg [.vec g 3 (l.map Bk.a),.vec h 2 (s.map Sb.a)])] []) Q
theorem call62 {args:List AV} {d:AV} (h:wc M1 fi62 Try.f62 args d):Ev M1 (.pure 62 args) d []:=pcl _ _ (by kernel_rfl) h
theorem call63 {args:List AV} {d:AV} (h:wc M1 fi63 Try.f63 args d):Ev M1 (.pure 63 args) d []:=pcl _ _ (by kernel_rfl) h
theorem svRp (h:Bool) (s:List Sb)  (dq:AV) (H :
  svRpa_at (h) (s) ((↑s.length:Int)) (0) (PureQ dq)) :
 svRp_at h s (PureQ dq):=by
 unfold svRp_at
 have w1:(List.map Sb.a s).length = s.length:=List.length_map ..
 exact path_wp (G:=given kp63 [] []) 1000 [] ⟨(atC (cd Try.f63) [1,0,1,0,0]),[(0,AV.vec h 2 (List.map Sb.a s)),(5,AV.vec h 2 (List.map Sb.a s)),(6,vi (↑(List.map Sb.a s).length:Int)),(7,vi 0)],[],_,[],_⟩ (by kernel_rfl) b0 q0 c0 (by (try rw [w1]);all_goals exact H)
noncomputable abbrev zSpT1 (s:List Sb) (i:Int):=Sp.anyP (Sp.sIs (s.getD i.toNat default).n) (List.drop 0 (List.take i.toNat s))
theorem svRpa (h:Bool) (s:List Sb) (n i:Int)  (dq:AV) (H :
  ((i < n) -> (0 <= i) /\
   (i.toNat < s.length) /\
   ((List.drop 0 (List.take i.toNat s)).length <= 1000000) /\
   (0 <= i.toNat) /\
   (i.toNat <= s.length) /\
   ((Sp.anyP (Sp.sIs (s.getD i.toNat default).n) (List.drop 0 (List.take i.toNat s)) = true) -> vb true = dq) /\
   (¬(Sp.anyP (Sp.sIs (s.getD i.toNat default).n) (List.drop 0 (List.take i.toNat s)) = true) -> (-9223372036854775808 <= i + 1 /\ i + 1 <= 9223372036854775807) /\
    svRpa_at (h) (s) (n) (i + 1) (PureQ dq))) /\
  (¬(i < n) -> vb false = dq)) :
 svRpa_at h s n i (PureQ dq):=by
 unfold svRpa_at
 rcases xm (i < n) with d2 | d2
 ·have H:=H.1 d2
  obtain ⟨k4,H⟩:=H
  have w5:(List.map Sb.a s).length = s.length:=List.length_map ..
  have i6:(decide (i.toNat < (List.map Sb.a s).length)) = true ↔ (i.toNat < s.length):=(by (try rw [w5]);all_goals exact i_dec)
  obtain ⟨k7,H⟩:=H
  have w8:List.take i.toNat (List.map Sb.a s) = List.map Sb.a (List.take i.toNat s):=(lm_take rfl)
  have w9:List.drop 0 (List.map Sb.a (List.take i.toNat s)) = List.map Sb.a (List.drop 0 (List.take i.toNat s)):=(lm_drop rfl)
  obtain ⟨k10,H⟩:=H
  obtain ⟨k13,H⟩:=H
  have i14:(decide (i.toNat <= (List.map Sb.a s).length)) = true ↔ (i.toNat <= s.length):=(by (try rw [w5]);all_goals exact i_dec)
  obtain ⟨k15,H⟩:=H
  refine path_wp (G:=given kp63 [(3,2,.elem (ag [vi (s.getD i.toNat default).n,AV.vec (s.getD i.toNat default).2 3 (List.map Bk.a (s.getD i.toNat default).3)])),(4,4,.call (vb (zSpT1 s i)) none)] []) 11 [true] ⟨(atC (cd Try.f63) [1,0,1,0,0,1,1,0,0,1,1]),[(0,AV.vec h 2 (List.map Sb.a s)),(5,AV.vec h 2 (List.map Sb.a s)),(6,vi n),(7,vi i),(16,vb (zSpT1 s i))],[⟨[ag [vi (s.getD i.toNat default).n,AV.vec (s.getD i.toNat default).2 3 (List.map Bk.a (s.getD i.toNat default).3)]],2,0,false,false⟩],_,[((List.map Sb.a s).get?Internal i.toNat = some (ag [vi (s.getD i.toNat default).n,AV.vec (s.getD i.toNat default).2 3 (List.map Bk.a (s.getD i.toNat default).3)]))],[pc 78 [AV.vec (h && false) 2 (List.drop 0 (List.take i.toNat (List.map Sb.a s))),AV.func (Fn.func 80) [] [AV.eptr 2 [ag [vi (s.getD i.toNat default).n,AV.vec (s.getD i.toNat default).2 3 (List.map Bk.a (s.getD i.toNat default).3)]] 0 0]] (vb (zSpT1 s i))]⟩ (by kernel_rfl) (bc (beq_t (i_dec.2 d2)) (bc (i_dec.2 k4) (bc (i6.2 k7) (bc rfl (bc (i_dec.2 k4) (bc (i_dec.2 k13) (bc (i14.2 k15) (bc rfl b0)))))))) (qc (el_map k7) q0) (ce (by (try rw [w8]);(try rw [w9]);all_goals exact (@ev78_b (h && false) (List.drop 0 (List.take i.toNat s)) ((s.getD i.toNat default).n) ((s.getD i.toNat default).2) ((s.getD i.toNat default).3) k10)) c0) ?_
  rcases xm (Sp.anyP (Sp.sIs (s.getD i.toNat default).n) (List.drop 0 (List.take i.toNat s)) = true) with d17 | d17
  ·have H:=H.1 d17
   exact path_re (G:=given kp63 [] []) 1000 [true] (asm:=[(zSpT1 s i) == true]) (vb true) (by kernel_rfl) (bc (beq_t ((i_var _).2 d17)) b0) q0 c0 H
  ·have H:=H.2 d17
   obtain ⟨k18,H⟩:=H
   have w19:wi (i + 1) = i + 1:=wI64 k18
   exact path_wp (G:=given kp63 [] []) 1000 [false] ⟨(atC (cd Try.f63) [1,0,1,0,0]),[(0,AV.vec h 2 (List.map Sb.a s)),(5,AV.vec h 2 (List.map Sb.a s)),(6,vi n),(7,vi (wi (i + 1)))],[⟨[ag [vi (s.getD i.toNat default).n,AV.vec (s.getD i.toNat default).2 3 (List.map Bk.a (s.getD i.toNat default).3)]],2,0,false,false⟩],[(zSpT1 s i) == false],[],_⟩ (by kernel_rfl) (bc (beq_f (fun h => d17 ((i_var _).1 h))) b0) q0 c0 (by (try rw [w19]);all_goals exact wp_narrow [] (by kernel_rfl) H)
 ·have H:=H.2 d2
  exact path_re (G:=given kp63 [] []) 1000 [false] (vb false) (by kernel_rfl) (bc (beq_f (fun h => d2 (i_dec.1 h))) b0) q0 c0 H
noncomputable abbrev zSpT2 (l:List Bk):=Sp.hasW (l.getD ((↑l.length:Int) - 1).toNat default).3 77 30000 = true
noncomputable abbrev zSpT3 (l:List Bk):=(↑(Sp.codes (l.getD ((↑l.length:Int) - 1).toNat default).3 79).length:Int) > 0
noncomputable abbrev zSpT4 (l:List Bk):=List.drop 0 (List.take ((↑l.length:Int) - 1).toNat l)
noncomputable abbrev zSpT5 (l:List Bk):=Sp.hasW (l.getD ((↑l.length:Int) - 1).toNat default).3 77 99000 = true
noncomputable abbrev zSpT6 (l:List Bk):=Sp.hasW (l.getD ((↑l.length:Int) - 1).toNat default).3 77 30000
noncomputable abbrev zSpT7 (l:List Bk):=Sp.hasW (l.getD ((↑l.length:Int) - 1).toNat default).3 77 99000
noncomputable abbrev zSpT8 (l:List Bk):=vf (List.map (vi) (Sp.codes (l.getD ((↑l.length:Int) - 1).toNat default).3 79))
theorem svOd (g:Bool) (l:List Bk) (h:Bool) (s:List Sb)  (dq:AV) (H :
  (-9223372036854775808 <= (↑l.length:Int) - 1 /\ (↑l.length:Int) - 1 <= 9223372036854775807) /\
  ((¬((↑l.length:Int) - 1 < 0)) -> (Sp.few6 (l.getD ((↑l.length:Int) - 1).toNat default).3.length)) /\
  ((¬(((↑l.length:Int) - 1 < 0) \/ (¬(Sp.hasW (l.getD ((↑l.length:Int) - 1).toNat default).3 77 30000 = true)))) -> (Sp.few6 (l.getD ((↑l.length:Int) - 1).toNat default).3.length)) /\
  ((¬((((↑l.length:Int) - 1 < 0) \/ (¬(Sp.hasW (l.getD ((↑l.length:Int) - 1).toNat default).3 77 30000 = true))) \/ ((↑(Sp.codes (l.getD ((↑l.length:Int) - 1).toNat default).3 79).length:Int) > 0))) -> (Sp.few6 (l.getD ((↑l.length:Int) - 1).toNat default).3.length)) /\
  ((¬(((((↑l.length:Int) - 1 < 0) \/ (¬(Sp.hasW (l.getD ((↑l.length:Int) - 1).toNat default).3 77 30000 = true))) \/ ((↑(Sp.codes (l.getD ((↑l.length:Int) - 1).toNat default).3 79).length:Int) > 0)) \/ (Sp.hasW (l.getD ((↑l.length:Int) - 1).toNat default).3 77 99000 = true))) -> (Sp.okBs (List.drop 0 (List.take ((↑l.length:Int) - 1).toNat l)))) /\
  ((¬((↑l.length:Int) - 1 < 0)) -> (0 <= (↑l.length:Int) - 1)) /\
  ((¬((↑l.length:Int) - 1 < 0)) -> (((↑l.length:Int) - 1).toNat < l.length)) /\
  ((¬(((↑l.length:Int) - 1 < 0) \/ (¬(Sp.hasW (l.getD ((↑l.length:Int) - 1).toNat default).3 77 30000 = true)))) -> (0 <= (↑l.length:Int) - 1)) /\
  ((¬(((↑l.length:Int) - 1 < 0) \/ (¬(Sp.hasW (l.getD ((↑l.length:Int) - 1).toNat default).3 77 30000 = true)))) -> (((↑l.length:Int) - 1).toNat < l.length)) /\
  ((¬((((↑l.length:Int) - 1 < 0) \/ (¬(Sp.hasW (l.getD ((↑l.length:Int) - 1).toNat default).3 77 30000 = true))) \/ ((↑(Sp.codes (l.getD ((↑l.length:Int) - 1).toNat default).3 79).length:Int) > 0))) -> (0 <= (↑l.length:Int) - 1)) /\
  ((¬((((↑l.length:Int) - 1 < 0) \/ (¬(Sp.hasW (l.getD ((↑l.length:Int) - 1).toNat default).3 77 30000 = true))) \/ ((↑(Sp.codes (l.getD ((↑l.length:Int) - 1).toNat default).3 79).length:Int) > 0))) -> (((↑l.length:Int) - 1).toNat < l.length)) /\
  ((¬(((((↑l.length:Int) - 1 < 0) \/ (¬(Sp.hasW (l.getD ((↑l.length:Int) - 1).toNat default).3 77 30000 = true))) \/ ((↑(Sp.codes (l.getD ((↑l.length:Int) - 1).toNat default).3 79).length:Int) > 0)) \/ (Sp.hasW (l.getD ((↑l.length:Int) - 1).toNat default).3 77 99000 = true))) -> (0 <= (↑l.length:Int) - 1)) /\
  ((¬(((((↑l.length:Int) - 1 < 0) \/ (¬(Sp.hasW (l.getD ((↑l.length:Int) - 1).toNat default).3 77 30000 = true))) \/ ((↑(Sp.codes (l.getD ((↑l.length:Int) - 1).toNat default).3 79).length:Int) > 0)) \/ (Sp.hasW (l.getD ((↑l.length:Int) - 1).toNat default).3 77 99000 = true))) -> (0 <= ((↑l.length:Int) - 1).toNat)) /\
  ((¬(((((↑l.length:Int) - 1 < 0) \/ (¬(Sp.hasW (l.getD ((↑l.length:Int) - 1).toNat default).3 77 30000 = true))) \/ ((↑(Sp.codes (l.getD ((↑l.length:Int) - 1).toNat default).3 79).length:Int) > 0)) \/ (Sp.hasW (l.getD ((↑l.length:Int) - 1).toNat default).3 77 99000 = true))) -> (((↑l.length:Int) - 1).toNat <= l.length)) /\
  (((((((↑l.length:Int) - 1 < 0) \/ (¬(Sp.hasW (l.getD ((↑l.length:Int) - 1).toNat default).3 77 30000 = true))) \/ ((↑(Sp.codes (l.getD ((↑l.length:Int) - 1).toNat default).3 79).length:Int) > 0)) \/ (Sp.hasW (l.getD ((↑l.length:Int) - 1).toNat default).3 77 99000 = true)) \/ (Sp.anyP Sp.pMk (List.drop 0 (List.take ((↑l.length:Int) - 1).toNat l)) = true)) -> vb false = dq) /\
  (¬((((((↑l.length:Int) - 1 < 0) \/ (¬(Sp.hasW (l.getD ((↑l.length:Int) - 1).toNat default).3 77 30000 = true))) \/ ((↑(Sp.codes (l.getD ((↑l.length:Int) - 1).toNat default).3 79).length:Int) > 0)) \/ (Sp.hasW (l.getD ((↑l.length:Int) - 1).toNat default).3 77 99000 = true)) \/ (Sp.anyP Sp.pMk (List.drop 0 (List.take ((↑l.length:Int) - 1).toNat l)) = true)) -> (s.length <= 1000000 /\ ∀ (x:Sb),x ∈ s -> Sp.okBs x.bl) /\
   (vb !Sp.anyP Sp.sMk s) = dq)) :
 svOd_at g l h s (PureQ dq):=by
 unfold svOd_at
 have w1:(List.map Bk.a l).length = l.length:=List.length_map ..
 obtain ⟨k2,H⟩:=H
 have w3:wi ((↑l.length:Int) - 1) = (↑l.length:Int) - 1:=wI64 k2
 have i4:(decide (wi ((↑(List.map Bk.a l).length:Int) - 1) < 0) == false && true && true) = true ↔ (¬((↑l.length:Int) - 1 < 0)):=(by (try rw [w1]);(try rw [w3]);all_goals exact (i_at (i_at (i_bf i_dec))))
 obtain ⟨k5,H⟩:=H
 have i6:((bif decide (wi ((↑(List.map Bk.a l).length:Int) - 1) < 0) then true else !Sp.hasW (l.getD ((↑l.length:Int) - 1).toNat default).3 77 30000) == false && true && true) = true ↔ (¬(((↑l.length:Int) - 1 < 0) \/ (¬(zSpT2 l)))):=(by (try rw [w1]);(try rw [w3]);all_goals exact (i_at (i_at (i_bf (i_bor i_dec (i_not (i_var _)))))))
 obtain ⟨k7,H⟩:=H
 have w8:(List.map (vi) (Sp.codes (l.getD ((↑l.length:Int) - 1).toNat default).3 79)).length = (Sp.codes (l.getD ((↑l.length:Int) - 1).toNat default).3 79).length:=List.length_map ..
 have i9:((bif bif decide (wi ((↑(List.map Bk.a l).length:Int) - 1) < 0) then true else !Sp.hasW (l.getD ((↑l.length:Int) - 1).toNat default).3 77 30000 then true else decide ((↑(List.map (vi) (Sp.codes (l.getD ((↑l.length:Int) - 1).toNat default).3 79)).length:Int) > 0)) == false && true && true) = true ↔ (¬((((↑l.length:Int) - 1 < 0) \/ (¬(zSpT2 l))) \/ (zSpT3 l))):=(by (try rw [w1]);(try rw [w3]);(try rw [w8]);all_goals exact (i_at (i_at (i_bf (i_bor (i_bor i_dec (i_not (i_var _))) i_dec)))))
 obtain ⟨k10,H⟩:=H
 have w11:List.take ((↑l.length:Int) - 1).toNat (List.map Bk.a l) = List.map Bk.a (List.take ((↑l.length:Int) - 1).toNat l):=(lm_take rfl)
 have w12:List.drop 0 (List.map Bk.a (List.take ((↑l.length:Int) - 1).toNat l)) = List.map Bk.a (zSpT4 l):=(lm_drop rfl)
 have i13:((bif bif bif decide (wi ((↑(List.map Bk.a l).length:Int) - 1) < 0) then true else !Sp.hasW (l.getD ((↑l.length:Int) - 1).toNat default).3 77 30000 then true else decide ((↑(List.map (vi) (Sp.codes (l.getD ((↑l.length:Int) - 1).toNat default).3 79)).length:Int) > 0) then true else Sp.hasW (l.getD ((↑l.length:Int) - 1).toNat default).3 77 99000) == false && true && true) = true ↔ (¬(((((↑l.length:Int) - 1 < 0) \/ (¬(zSpT2 l))) \/ (zSpT3 l)) \/ (zSpT5 l))):=(by (try rw [w1]);(try rw [w3]);(try rw [w8]);all_goals exact (i_at (i_at (i_bf (i_bor (i_bor (i_bor i_dec (i_not (i_var _))) i_dec) (i_var _))))))
 obtain ⟨k14,H⟩:=H
 have i15:(!(decide (wi ((↑(List.map Bk.a l).length:Int) - 1) < 0) == false && true) || decide (0 <= wi ((↑(List.map Bk.a l).length:Int) - 1))) = true ↔ ((¬((↑l.length:Int) - 1 < 0)) -> (0 <= (↑l.length:Int) - 1)):=(by (try rw [w1]);(try rw [w3]);all_goals exact (i_imp (i_at (i_bf i_dec)) i_dec))
 obtain ⟨k16,H⟩:=H
 have i17:(!(decide (wi ((↑(List.map Bk.a l).length:Int) - 1) < 0) == false && true) || decide ((wi ((↑(List.map Bk.a l).length:Int) - 1)).toNat < (List.map Bk.a l).length)) = true ↔ ((¬((↑l.length:Int) - 1 < 0)) -> (((↑l.length:Int) - 1).toNat < l.length)):=(by (try rw [w1]);(try rw [w3]);all_goals exact (i_imp (i_at (i_bf i_dec)) i_dec))
 obtain ⟨k18,H⟩:=H
 have i19:(!((bif decide (wi ((↑(List.map Bk.a l).length:Int) - 1) < 0) then true else !Sp.hasW (l.getD ((↑l.length:Int) - 1).toNat default).3 77 30000) == false && true) || decide (0 <= wi ((↑(List.map Bk.a l).length:Int) - 1))) = true ↔ ((¬(((↑l.length:Int) - 1 < 0) \/ (¬(zSpT2 l)))) -> (0 <= (↑l.length:Int) - 1)):=(by (try rw [w1]);(try rw [w3]);all_goals exact (i_imp (i_at (i_bf (i_bor i_dec (i_not (i_var _))))) i_dec))
 obtain ⟨k20,H⟩:=H
 have i21:(!((bif decide (wi ((↑(List.map Bk.a l).length:Int) - 1) < 0) then true else !Sp.hasW (l.getD ((↑l.length:Int) - 1).toNat default).3 77 30000) == false && true) || decide ((wi ((↑(List.map Bk.a l).length:Int) - 1)).toNat < (List.map Bk.a l).length)) = true ↔ ((¬(((↑l.length:Int) - 1 < 0) \/ (¬(zSpT2 l)))) -> (((↑l.length:Int) - 1).toNat < l.length)):=(by (try rw [w1]);(try rw [w3]);all_goals exact (i_imp (i_at (i_bf (i_bor i_dec (i_not (i_var _))))) i_dec))
 obtain ⟨k22,H⟩:=H
 have i23:(!((bif bif decide (wi ((↑(List.map Bk.a l).length:Int) - 1) < 0) then true else !Sp.hasW (l.getD ((↑l.length:Int) - 1).toNat default).3 77 30000 then true else decide ((↑(List.map (vi) (Sp.codes (l.getD ((↑l.length:Int) - 1).toNat default).3 79)).length:Int) > 0)) == false && true) || decide (0 <= wi ((↑(List.map Bk.a l).length:Int) - 1))) = true ↔ ((¬((((↑l.length:Int) - 1 < 0) \/ (¬(zSpT2 l))) \/ (zSpT3 l))) -> (0 <= (↑l.length:Int) - 1)):=(by (try rw [w1]);(try rw [w3]);(try rw [w8]);all_goals exact (i_imp (i_at (i_bf (i_bor (i_bor i_dec (i_not (i_var _))) i_dec))) i_dec))
 obtain ⟨k24,H⟩:=H
 have i25:(!((bif bif decide (wi ((↑(List.map Bk.a l).length:Int) - 1) < 0) then true else !Sp.hasW (l.getD ((↑l.length:Int) - 1).toNat default).3 77 30000 then true else decide ((↑(List.map (vi) (Sp.codes (l.getD ((↑l.length:Int) - 1).toNat default).3 79)).length:Int) > 0)) == false && true) || decide ((wi ((↑(List.map Bk.a l).length:Int) - 1)).toNat < (List.map Bk.a l).length)) = true ↔ ((¬((((↑l.length:Int) - 1 < 0) \/ (¬(zSpT2 l))) \/ (zSpT3 l))) -> (((↑l.length:Int) - 1).toNat < l.length)):=(by (try rw [w1]);(try rw [w3]);(try rw [w8]);all_goals exact (i_imp (i_at (i_bf (i_bor (i_bor i_dec (i_not (i_var _))) i_dec))) i_dec))
 obtain ⟨k26,H⟩:=H
 have i27:(!((bif bif bif decide (wi ((↑(List.map Bk.a l).length:Int) - 1) < 0) then true else !Sp.hasW (l.getD ((↑l.length:Int) - 1).toNat default).3 77 30000 then true else decide ((↑(List.map (vi) (Sp.codes (l.getD ((↑l.length:Int) - 1).toNat default).3 79)).length:Int) > 0) then true else Sp.hasW (l.getD ((↑l.length:Int) - 1).toNat default).3 77 99000) == false && true) || decide (0 <= wi ((↑(List.map Bk.a l).length:Int) - 1))) = true ↔ ((¬(((((↑l.length:Int) - 1 < 0) \/ (¬(zSpT2 l))) \/ (zSpT3 l)) \/ (zSpT5 l))) -> (0 <= (↑l.length:Int) - 1)):=(by (try rw [w1]);(try rw [w3]);(try rw [w8]);all_goals exact (i_imp (i_at (i_bf (i_bor (i_bor (i_bor i_dec (i_not (i_var _))) i_dec) (i_var _)))) i_dec))
 obtain ⟨k28,H⟩:=H
 have i29:(!((bif bif bif decide (wi ((↑(List.map Bk.a l).length:Int) - 1) < 0) then true else !Sp.hasW (l.getD ((↑l.length:Int) - 1).toNat default).3 77 30000 then true else decide ((↑(List.map (vi) (Sp.codes (l.getD ((↑l.length:Int) - 1).toNat default).3 79)).length:Int) > 0) then true else Sp.hasW (l.getD ((↑l.length:Int) - 1).toNat default).3 77 99000) == false && true) || decide (0 <= (wi ((↑(List.map Bk.a l).length:Int) - 1)).toNat)) = true ↔ ((¬(((((↑l.length:Int) - 1 < 0) \/ (¬(zSpT2 l))) \/ (zSpT3 l)) \/ (zSpT5 l))) -> (0 <= ((↑l.length:Int) - 1).toNat)):=(by (try rw [w1]);(try rw [w3]);(try rw [w8]);all_goals exact (i_imp (i_at (i_bf (i_bor (i_bor (i_bor i_dec (i_not (i_var _))) i_dec) (i_var _)))) i_dec))
 obtain ⟨k30,H⟩:=H
 have i31:(!((bif bif bif decide (wi ((↑(List.map Bk.a l).length:Int) - 1) < 0) then true else !Sp.hasW (l.getD ((↑l.length:Int) - 1).toNat default).3 77 30000 then true else decide ((↑(List.map (vi) (Sp.codes (l.getD ((↑l.length:Int) - 1).toNat default).3 79)).length:Int) > 0) then true else Sp.hasW (l.getD ((↑l.length:Int) - 1).toNat default).3 77 99000) == false && true) || decide ((wi ((↑(List.map Bk.a l).length:Int) - 1)).toNat <= (List.map Bk.a l).length)) = true ↔ ((¬(((((↑l.length:Int) - 1 < 0) \/ (¬(zSpT2 l))) \/ (zSpT3 l)) \/ (zSpT5 l))) -> (((↑l.length:Int) - 1).toNat <= l.length)):=(by (try rw [w1]);(try rw [w3]);(try rw [w8]);all_goals exact (i_imp (i_at (i_bf (i_bor (i_bor (i_bor i_dec (i_not (i_var _))) i_dec) (i_var _)))) i_dec))
 obtain ⟨k32,H⟩:=H
 have i36:(bif bif bif bif decide (wi ((↑(List.map Bk.a l).length:Int) - 1) < 0) then true else !Sp.hasW (l.getD ((↑l.length:Int) - 1).toNat default).3 77 30000 then true else decide ((↑(List.map (vi) (Sp.codes (l.getD ((↑l.length:Int) - 1).toNat default).3 79)).length:Int) > 0) then true else Sp.hasW (l.getD ((↑l.length:Int) - 1).toNat default).3 77 99000 then true else Sp.anyP Sp.pMk (zSpT4 l)) = true ↔ ((((((↑l.length:Int) - 1 < 0) \/ (¬(zSpT2 l))) \/ (zSpT3 l)) \/ (zSpT5 l)) \/ (Sp.anyP Sp.pMk (zSpT4 l) = true)):=(by (try rw [w1]);(try rw [w3]);(try rw [w8]);all_goals exact (i_bor (i_bor (i_bor (i_bor i_dec (i_not (i_var _))) i_dec) (i_var _)) (i_var _)))
 refine path_wp (G:=given kp62 [(2,7,.elem (ag [vb (l.getD ((↑l.length:Int) - 1).toNat default).1,AV.vec (l.getD ((↑l.length:Int) - 1).toNat default).2 2 (List.map Wo.a (l.getD ((↑l.length:Int) - 1).toNat default).3),AV.str (l.getD ((↑l.length:Int) - 1).toNat default).4])),(2,8,.call (vb (zSpT6 l)) none),(2,16,.elem (ag [vb (l.getD ((↑l.length:Int) - 1).toNat default).1,AV.vec (l.getD ((↑l.length:Int) - 1).toNat default).2 2 (List.map Wo.a (l.getD ((↑l.length:Int) - 1).toNat default).3),AV.str (l.getD ((↑l.length:Int) - 1).toNat default).4])),(2,17,.call (zSpT8 l) none),(2,26,.elem (ag [vb (l.getD ((↑l.length:Int) - 1).toNat default).1,AV.vec (l.getD ((↑l.length:Int) - 1).toNat default).2 2 (List.map Wo.a (l.getD ((↑l.length:Int) - 1).toNat default).3),AV.str (l.getD ((↑l.length:Int) - 1).toNat default).4])),(2,27,.call (vb (zSpT7 l)) none),(2,34,.call (vb (Sp.anyP Sp.pMk (zSpT4 l))) none)] []) 7 [] ⟨(atC (cd Try.f62) [1,1,0,1]),[(1,AV.ptr 0 0 0 0),(43,vb (bif bif bif bif decide (wi ((↑(List.map Bk.a l).length:Int) - 1) < 0) then true else !Sp.hasW (l.getD ((↑l.length:Int) - 1).toNat default).3 77 30000 then true else decide ((↑(List.map (vi) (Sp.codes (l.getD ((↑l.length:Int) - 1).toNat default).3 79)).length:Int) > 0) then true else Sp.hasW (l.getD ((↑l.length:Int) - 1).toNat default).3 77 99000 then true else Sp.anyP Sp.pMk (zSpT4 l)))],[⟨[ag [AV.vec g 3 (List.map Bk.a l),AV.vec h 2 (List.map Sb.a s)]],2,0,false,false⟩],[true,!(decide (wi ((↑(List.map Bk.a l).length:Int) - 1) < 0) == false && true) || true,!(decide (wi ((↑(List.map Bk.a l).length:Int) - 1) < 0) == false && true) || decide (0 <= wi ((↑(List.map Bk.a l).length:Int) - 1)),!(decide (wi ((↑(List.map Bk.a l).length:Int) - 1) < 0) == false && true) || decide ((wi ((↑(List.map Bk.a l).length:Int) - 1)).toNat < (List.map Bk.a l).length),!((bif decide (wi ((↑(List.map Bk.a l).length:Int) - 1) < 0) then true else !Sp.hasW (l.getD ((↑l.length:Int) - 1).toNat default).3 77 30000) == false && true) || true,!((bif decide (wi ((↑(List.map Bk.a l).length:Int) - 1) < 0) then true else !Sp.hasW (l.getD ((↑l.length:Int) - 1).toNat default).3 77 30000) == false && true) || decide (0 <= wi ((↑(List.map Bk.a l).length:Int) - 1)),!((bif decide (wi ((↑(List.map Bk.a l).length:Int) - 1) < 0) then true else !Sp.hasW (l.getD ((↑l.length:Int) - 1).toNat default).3 77 30000) == false && true) || decide ((wi ((↑(List.map Bk.a l).length:Int) - 1)).toNat < (List.map Bk.a l).length),!((bif bif decide (wi ((↑(List.map Bk.a l).length:Int) - 1) < 0) then true else !Sp.hasW (l.getD ((↑l.length:Int) - 1).toNat default).3 77 30000 then true else decide ((↑(List.map (vi) (Sp.codes (l.getD ((↑l.length:Int) - 1).toNat default).3 79)).length:Int) > 0)) == false && true) || true,!((bif bif decide (wi ((↑(List.map Bk.a l).length:Int) - 1) < 0) then true else !Sp.hasW (l.getD ((↑l.length:Int) - 1).toNat default).3 77 30000 then true else decide ((↑(List.map (vi) (Sp.codes (l.getD ((↑l.length:Int) - 1).toNat default).3 79)).length:Int) > 0)) == false && true) || decide (0 <= wi ((↑(List.map Bk.a l).length:Int) - 1)),!((bif bif decide (wi ((↑(List.map Bk.a l).length:Int) - 1) < 0) then true else !Sp.hasW (l.getD ((↑l.length:Int) - 1).toNat default).3 77 30000 then true else decide ((↑(List.map (vi) (Sp.codes (l.getD ((↑l.length:Int) - 1).toNat default).3 79)).length:Int) > 0)) == false && true) || decide ((wi ((↑(List.map Bk.a l).length:Int) - 1)).toNat < (List.map Bk.a l).length),!((bif bif bif decide (wi ((↑(List.map Bk.a l).length:Int) - 1) < 0) then true else !Sp.hasW (l.getD ((↑l.length:Int) - 1).toNat default).3 77 30000 then true else decide ((↑(List.map (vi) (Sp.codes (l.getD ((↑l.length:Int) - 1).toNat default).3 79)).length:Int) > 0) then true else Sp.hasW (l.getD ((↑l.length:Int) - 1).toNat default).3 77 99000) == false && true) || true,!((bif bif bif decide (wi ((↑(List.map Bk.a l).length:Int) - 1) < 0) then true else !Sp.hasW (l.getD ((↑l.length:Int) - 1).toNat default).3 77 30000 then true else decide ((↑(List.map (vi) (Sp.codes (l.getD ((↑l.length:Int) - 1).toNat default).3 79)).length:Int) > 0) then true else Sp.hasW (l.getD ((↑l.length:Int) - 1).toNat default).3 77 99000) == false && true) || decide (0 <= wi ((↑(List.map Bk.a l).length:Int) - 1)),!((bif bif bif decide (wi ((↑(List.map Bk.a l).length:Int) - 1) < 0) then true else !Sp.hasW (l.getD ((↑l.length:Int) - 1).toNat default).3 77 30000 then true else decide ((↑(List.map (vi) (Sp.codes (l.getD ((↑l.length:Int) - 1).toNat default).3 79)).length:Int) > 0) then true else Sp.hasW (l.getD ((↑l.length:Int) - 1).toNat default).3 77 99000) == false && true) || decide (0 <= (wi ((↑(List.map Bk.a l).length:Int) - 1)).toNat),!((bif bif bif decide (wi ((↑(List.map Bk.a l).length:Int) - 1) < 0) then true else !Sp.hasW (l.getD ((↑l.length:Int) - 1).toNat default).3 77 30000 then true else decide ((↑(List.map (vi) (Sp.codes (l.getD ((↑l.length:Int) - 1).toNat default).3 79)).length:Int) > 0) then true else Sp.hasW (l.getD ((↑l.length:Int) - 1).toNat default).3 77 99000) == false && true) || decide ((wi ((↑(List.map Bk.a l).length:Int) - 1)).toNat <= (List.map Bk.a l).length)],[((decide (wi ((↑(List.map Bk.a l).length:Int) - 1) < 0) == false && true) = true -> (List.map Bk.a l).get?Internal (wi ((↑(List.map Bk.a l).length:Int) - 1)).toNat = some (ag [vb (l.getD ((↑l.length:Int) - 1).toNat default).1,AV.vec (l.getD ((↑l.length:Int) - 1).toNat default).2 2 (List.map Wo.a (l.getD ((↑l.length:Int) - 1).toNat default).3),AV.str (l.getD ((↑l.length:Int) - 1).toNat default).4])),(((bif decide (wi ((↑(List.map Bk.a l).length:Int) - 1) < 0) then true else !Sp.hasW (l.getD ((↑l.length:Int) - 1).toNat default).3 77 30000) == false && true) = true -> (List.map Bk.a l).get?Internal (wi ((↑(List.map Bk.a l).length:Int) - 1)).toNat = some (ag [vb (l.getD ((↑l.length:Int) - 1).toNat default).1,AV.vec (l.getD ((↑l.length:Int) - 1).toNat default).2 2 (List.map Wo.a (l.getD ((↑l.length:Int) - 1).toNat default).3),AV.str (l.getD ((↑l.length:Int) - 1).toNat default).4])),(((bif bif decide (wi ((↑(List.map Bk.a l).length:Int) - 1) < 0) then true else !Sp.hasW (l.getD ((↑l.length:Int) - 1).toNat default).3 77 30000 then true else decide ((↑(List.map (vi) (Sp.codes (l.getD ((↑l.length:Int) - 1).toNat default).3 79)).length:Int) > 0)) == false && true) = true -> (List.map Bk.a l).get?Internal (wi ((↑(List.map Bk.a l).length:Int) - 1)).toNat = some (ag [vb (l.getD ((↑l.length:Int) - 1).toNat default).1,AV.vec (l.getD ((↑l.length:Int) - 1).toNat default).2 2 (List.map Wo.a (l.getD ((↑l.length:Int) - 1).toNat default).3),AV.str (l.getD ((↑l.length:Int) - 1).toNat default).4]))],[⟨decide (wi ((↑(List.map Bk.a l).length:Int) - 1) < 0) == false && true && true,false,40,[ag [vb (l.getD ((↑l.length:Int) - 1).toNat default).1,AV.vec (l.getD ((↑l.length:Int) - 1).toNat default).2 2 (List.map Wo.a (l.getD ((↑l.length:Int) - 1).toNat default).3),AV.str (l.getD ((↑l.length:Int) - 1).toNat default).4],AV.int IntKind.u8 77,vi 30000],[],vb (zSpT6 l),[]⟩,⟨(bif decide (wi ((↑(List.map Bk.a l).length:Int) - 1) < 0) then true else !Sp.hasW (l.getD ((↑l.length:Int) - 1).toNat default).3 77 30000) == false && true && true,false,70,[ag [vb (l.getD ((↑l.length:Int) - 1).toNat default).1,AV.vec (l.getD ((↑l.length:Int) - 1).toNat default).2 2 (List.map Wo.a (l.getD ((↑l.length:Int) - 1).toNat default).3),AV.str (l.getD ((↑l.length:Int) - 1).toNat default).4],AV.int IntKind.u8 79],[],vf (List.map (vi) (Sp.codes (l.getD ((↑l.length:Int) - 1).toNat default).3 79)),[]⟩,⟨(bif bif decide (wi ((↑(List.map Bk.a l).length:Int) - 1) < 0) then true else !Sp.hasW (l.getD ((↑l.length:Int) - 1).toNat default).3 77 30000 then true else decide ((↑(List.map (vi) (Sp.codes (l.getD ((↑l.length:Int) - 1).toNat default).3 79)).length:Int) > 0)) == false && true && true,false,40,[ag [vb (l.getD ((↑l.length:Int) - 1).toNat default).1,AV.vec (l.getD ((↑l.length:Int) - 1).toNat default).2 2 (List.map Wo.a (l.getD ((↑l.length:Int) - 1).toNat default).3),AV.str (l.getD ((↑l.length:Int) - 1).toNat default).4],AV.int IntKind.u8 77,vi 99000],[],vb (zSpT7 l),[]⟩,⟨(bif bif bif decide (wi ((↑(List.map Bk.a l).length:Int) - 1) < 0) then true else !Sp.hasW (l.getD ((↑l.length:Int) - 1).toNat default).3 77 30000 then true else decide ((↑(List.map (vi) (Sp.codes (l.getD ((↑l.length:Int) - 1).toNat default).3 79)).length:Int) > 0) then true else Sp.hasW (l.getD ((↑l.length:Int) - 1).toNat default).3 77 99000) == false && true && true,false,27,[AV.vec (g && false) 3 (List.drop 0 (List.take (wi ((↑(List.map Bk.a l).length:Int) - 1)).toNat (List.map Bk.a l))),AV.func (Fn.func 77) [] []],[],vb (Sp.anyP Sp.pMk (zSpT4 l)),[]⟩]⟩ (by kernel_rfl) (bc rfl (bc (Bool.or_true _) (bc (i15.2 k16) (bc (i17.2 k18) (bc (Bool.or_true _) (bc (i19.2 k20) (bc (i21.2 k22) (bc (Bool.or_true _) (bc (i23.2 k24) (bc (i25.2 k26) (bc (Bool.or_true _) (bc (i27.2 k28) (bc (i29.2 k30) (bc (i31.2 k32) b0)))))))))))))) (qc (by (try rw [w1]);(try rw [w3]);all_goals exact (fun h => el_map (k18 ((i_at (i_bf i_dec)).1 h)))) (qc (by (try rw [w1]);(try rw [w3]);all_goals exact (fun h => el_map (k22 ((i_at (i_bf (i_bor i_dec (i_not (i_var _))))).1 h)))) (qc (by (try rw [w1]);(try rw [w3]);(try rw [w8]);all_goals exact (fun h => el_map (k26 ((i_at (i_bf (i_bor (i_bor i_dec (i_not (i_var _))) i_dec))).1 h)))) q0))) (cc (fun hc => ((@ev40 ((l.getD ((↑l.length:Int) - 1).toNat default).1) ((l.getD ((↑l.length:Int) - 1).toNat default).2) ((l.getD ((↑l.length:Int) - 1).toNat default).3) ((l.getD ((↑l.length:Int) - 1).toNat default).4) (77) (30000) (k5 (i4.1 hc))):Ev M1 (Conf.pure 40 [ag [vb (l.getD ((↑l.length:Int) - 1).toNat default).1,AV.vec (l.getD ((↑l.length:Int) - 1).toNat default).2 2 (List.map Wo.a (l.getD ((↑l.length:Int) - 1).toNat default).3),AV.str (l.getD ((↑l.length:Int) - 1).toNat default).4],AV.int IntKind.u8 77,vi 30000]) (vb (zSpT6 l)) [])) (cc (fun hc => ((@ev70 ((l.getD ((↑l.length:Int) - 1).toNat default).1) ((l.getD ((↑l.length:Int) - 1).toNat default).2) ((l.getD ((↑l.length:Int) - 1).toNat default).3) ((l.getD ((↑l.length:Int) - 1).toNat default).4) (79) (k7 (i6.1 hc))):Ev M1 (Conf.pure 70 [ag [vb (l.getD ((↑l.length:Int) - 1).toNat default).1,AV.vec (l.getD ((↑l.length:Int) - 1).toNat default).2 2 (List.map Wo.a (l.getD ((↑l.length:Int) - 1).toNat default).3),AV.str (l.getD ((↑l.length:Int) - 1).toNat default).4],AV.int IntKind.u8 79]) (zSpT8 l) [])) (cc (fun hc => ((@ev40 ((l.getD ((↑l.length:Int) - 1).toNat default).1) ((l.getD ((↑l.length:Int) - 1).toNat default).2) ((l.getD ((↑l.length:Int) - 1).toNat default).3) ((l.getD ((↑l.length:Int) - 1).toNat default).4) (77) (99000) (k10 (i9.1 hc))):Ev M1 (Conf.pure 40 [ag [vb (l.getD ((↑l.length:Int) - 1).toNat default).1,AV.vec (l.getD ((↑l.length:Int) - 1).toNat default).2 2 (List.map Wo.a (l.getD ((↑l.length:Int) - 1).toNat default).3),AV.str (l.getD ((↑l.length:Int) - 1).toNat default).4],AV.int IntKind.u8 77,vi 99000]) (vb (zSpT7 l)) [])) (cc (fun hc => ((by (try rw [w1]);(try rw [w3]);(try rw [w11]);(try rw [w12]);all_goals exact (@ev27_a (g && false) (zSpT4 l) (k14 (i13.1 hc)))):Ev M1 (Conf.pure 27 [AV.vec (g && false) 3 (List.drop 0 (List.take (wi ((↑(List.map Bk.a l).length:Int) - 1)).toNat (List.map Bk.a l))),AV.func (Fn.func 77) [] []]) (vb (Sp.anyP Sp.pMk (zSpT4 l))) [])) c0)))) ?_
 rcases xm ((((((↑l.length:Int) - 1 < 0) \/ (¬(zSpT2 l))) \/ (zSpT3 l)) \/ (zSpT5 l)) \/ (Sp.anyP Sp.pMk (zSpT4 l) = true)) with d37 | d37
 ·have H:=H.1 d37
  exact path_re (G:=given kp62 [] []) 1000 [true] (vb false) (by kernel_rfl) (bc (beq_t (i36.2 d37)) b0) q0 c0 H
 ·have H:=H.2 d37
  obtain ⟨k38,H⟩:=H
  exact path_re (G:=given kp62 [(4,2,.call (vb (Sp.anyP Sp.sMk s)) none)] []) 1000 [false] (vb !Sp.anyP Sp.sMk s) (by kernel_rfl) (bc (beq_f (fun h => d37 (i36.1 h))) (bc rfl b0)) q0 (ce (@ev78_a (h) (s) k38) c0) H
end Go.Av

namespace Go.Av
open Go.Proofs
namespace Sp
def repB (s:List Sb):Bool:=(List.range' 0 s.length).any fun i => anyP (sIs (s.getD i default).n) (s.take i)
def lastB (l:List Bk):Bk:=l.getD (l.length - 1) default
def ordB (l:List Bk) (s:List Sb):Bool:=decide (0 < l.length) && (endB (lastB l).ws && (!(letB (lastB l).ws 79) && (!(backB (lastB l).ws) && (!(anyP pMk (l.take (l.length - 1))) && !(anyP sMk s)))))
def okSs (s:List Sb):Prop:=s.length <= 1000000 /\ ∀ x ∈ s,okBs x.bl
end Sp
theorem svRpa_loop {h:Bool} {s:List Sb} {dq:AV} (hl:s.length <= 1000000):∀ (c i:Nat),i + c = s.length -> AV.bool ((List.range' i c).any fun i => Sp.anyP (Sp.sIs (s.getD i default).n) (s.take i)) = dq -> svRpa_at h s s.length i (PureQ dq):=by
 intro c
 induction c with
 | zero =>
  intro i hi hq
  exact svRpa _ _ _ _ _ ⟨fun h => by omega,fun _ => hq⟩
 | succ c ih =>
  intro i hi hq
  rw [List.range'_succ,List.any_cons] at hq
  refine svRpa _ _ _ _ _ ⟨fun _ => ?_,fun h => by omega⟩
  rw [Int.toNat_natCast,List.drop_zero]
  refine ⟨by omega,by omega,by simp;omega,by omega,by omega,fun h => ?_,fun h => ⟨by omega,ih (i + 1) (by omega) ?_⟩⟩
  ·rw [h,Bool.true_or] at hq
   exact hq
  ·rw [Bool.eq_false_iff.2 h,Bool.false_or] at hq
   exact hq
theorem ev63 (h:Bool) (s:List Sb) (hl:s.length <= 1000000):Ev M1 (.pure 63 [sbA h s]) (.bool (Sp.repB s)) []:=
 call63 (svRp h s _ (svRpa_loop hl s.length 0 (by omega) rfl))
theorem ev62 (g:Bool) (l:List Bk) (h:Bool) (s:List Sb) (hk:Sp.okBs l /\ Sp.okSs s):Ev M1 (.pure 62 [pgA g h l s]) (.bool (Sp.ordB l s)) []:=by
 obtain ⟨hk,hs⟩:=hk
 have hl:=hk.1
 by_cases h0:l.length = 0
 ·refine call62 (svOd g l h s _ ?_)
  have c:(l.length:Int) - 1 < 0:=by omega
  refine ⟨by omega,fun x => absurd c x,fun x => absurd (.inl c) x,fun x => absurd (.inl (.inl c)) x,fun x => absurd (.inl (.inl (.inl c))) x,fun x => absurd c x,fun x => absurd c x,fun x => absurd (.inl c) x,fun x => absurd (.inl c) x,fun x => absurd (.inl (.inl c)) x,fun x => absurd (.inl (.inl c)) x,fun x => absurd (.inl (.inl (.inl c))) x,fun x => absurd (.inl (.inl (.inl c))) x,fun x => absurd (.inl (.inl (.inl c))) x,fun _ => ?_,fun x => absurd (.inl (.inl (.inl (.inl c)))) x⟩
  unfold Sp.ordB
  rw [decide_eq_false (by omega),Bool.false_and]
 ·have e:(l.length:Int) - 1 = ((l.length - 1:Nat):Int):=by omega
  have hm:=hk.2 _ (getD_mem (show l.length - 1 < l.length by omega))
  have hsub:Sp.okBs (List.drop 0 (List.take (l.length - 1) l)):=okBs_sub hk 0 (l.length - 1)
  refine call62 (svOd g l h s _ ?_)
  rw [e,Int.toNat_natCast]
  refine ⟨by omega,fun _ => hm.1,fun _ => hm.1,fun _ => hm.1,fun _ => hsub,fun _ => by omega,fun _ => by omega,fun _ => by omega,fun _ => by omega,fun _ => by omega,fun _ => by omega,fun _ => by omega,fun _ => by omega,fun _ => by omega,fun x => ?_,fun x => ⟨hs,?_⟩⟩
  ·congr 1
   unfold Sp.ordB Sp.endB Sp.backB Sp.lastB
   rw [List.drop_zero] at x
   rw [decide_eq_true (show 0 < l.length by omega),Bool.true_and,Eq.comm]
   rcases x with (((x | x) | x) | x) | x
   ·omega
   ·rw [Bool.eq_false_iff.2 x,Bool.false_and]
   ·rw [show Sp.letB (l.getD (l.length - 1) default).ws 79 = true from decide_eq_true (by omega),Bool.not_true,Bool.false_and,Bool.and_false]
   ·rw [x,Bool.not_true,Bool.false_and,Bool.and_false,Bool.and_false]
   ·rw [x,Bool.not_true,Bool.false_and,Bool.and_false,Bool.and_false,Bool.and_false]
  ·congr 1
   unfold Sp.ordB Sp.endB Sp.backB Sp.lastB
   rw [List.drop_zero] at x
   have x1:Sp.hasW (l.getD (l.length - 1) default).ws 77 30000 = true:=Classical.byContradiction fun y => x (.inl (.inl (.inl (.inr y))))
   have x2:Sp.letB (l.getD (l.length - 1) default).ws 79 = false:=decide_eq_false fun y => x (.inl (.inl (.inr (by omega))))
   have x3:Sp.hasW (l.getD (l.length - 1) default).ws 77 99000 = false:=Bool.eq_false_iff.2 fun y => x (.inl (.inr y))
   have x4:Sp.anyP Sp.pMk (l.take (l.length - 1)) = false:=Bool.eq_false_iff.2 fun y => x (.inr y)
   rw [decide_eq_true (show 0 < l.length by omega),x1,x2,x3,x4]
   rfl
end Go.Av

namespace Go.Av
open Go.Proofs
set_option maxRecDepth 100000
def fi34:Fi:=⟨68,[.cell 2 40,.tmp 3]⟩
def kp34:List (Nat × List Nat):=[(0,[0,2]),(1,[0,2,4]),(2,[0,2,4,13]),(3,[2,3]),(4,[0,2,4,5]),(5,[2,5,6]),(6,[2,5,6,27]),(7,[2,5,6,7,8]),(8,[2,5,6,7,8,9]),(9,[2,5,6,7,9,42]),(10,[2,3]),(11,[2,5,6,9]),(12,[2,5,6]),(13,[2,5,61]),(14,[2,3]),(15,[2,5,65]),(16,[2,3]),(17,[2,3])]
def svSp_at (g:Bool) (l:List Bk) (Q:AV -> Heap -> Prop):Prop:=Wp M1 (.run fi34 (atC (cd Try.f34) []) [(0,.vec g 3 (l.map Bk.a))] []) Q
def svSpz_at (g:Bool) (r:List Bk) (l:List Bk) (Q:AV -> Heap -> Prop):Prop:=Wp M1 (.run fi34 (atC (cd Try.f34) [1,1,1,1,1,0,0,0]) [(2,.ptr 0 0 0 0),(5,.ptr 1 0 0 0),(6,.vec g 3 (r.map Bk.a))] [⟨[.agg [.vnil,.vnil]],2,0,false,false⟩,⟨[.agg [.vec false 3 (l.map Bk.a),.vnil]],2,0,false,false⟩]) Q
def svSpa_at (g:Bool) (r:List Bk) (l:List Bk) (s:List Sb) (v:Nat) (Q:AV -> Heap -> Prop):Prop:=Wp M1 (.run fi34 (atC (cd Try.f34) [1,1,1,1,1,0,0,0]) [(2,.ptr 0 0 0 0),(5,.ptr 1 0 0 0),(6,.vec g 3 (r.map Bk.a))] [⟨[.agg [.vnil,.vnil]],2,0,false,false⟩,⟨[.agg [.vec false 3 (l.map Bk.a),.row 2 v]],2,0,false,false⟩,⟨s.map Sb.a,2,v,false,true⟩]) Q
theorem call34 {args:List AV} {d:AV} (h:wc M1 fi34 Try.f34 args d):Ev M1 (.pure 34 args) d []:=pcl _ _ (by kernel_rfl) h
noncomputable abbrev zSpU1 (l:List Bk):=List.drop 0 (List.take (Sp.idxP Sp.pEnd l + 1).toNat l)
theorem svSp (g:Bool) (l:List Bk)  (dq:AV) (H :
  (Sp.okBs l) /\
  ((Sp.idxP Sp.pEnd l < 0) -> Weak (tu [ag [AV.vnil,AV.vnil],vi 1]) dq) /\
  (¬(Sp.idxP Sp.pEnd l < 0) -> (-9223372036854775808 <= Sp.idxP Sp.pEnd l + 1 /\ Sp.idxP Sp.pEnd l + 1 <= 9223372036854775807) /\
   (Sp.few6 (List.drop 0 (List.take (Sp.idxP Sp.pEnd l + 1).toNat l)).length) /\
   (0 <= Sp.idxP Sp.pEnd l + 1) /\
   (0 <= (Sp.idxP Sp.pEnd l + 1).toNat) /\
   ((Sp.idxP Sp.pEnd l + 1).toNat <= l.length) /\
   svSpz_at (g && true) (List.drop (Sp.idxP Sp.pEnd l + 1).toNat (List.take l.length l)) (List.drop 0 (List.take (Sp.idxP Sp.pEnd l + 1).toNat l)) (PureQ dq))) :
 svSp_at g l (PureQ dq):=by
 unfold svSp_at
 obtain ⟨k1,H⟩:=H
 refine path_wp (G:=given kp34 [(1,1,.call (vi (Sp.idxP Sp.pEnd l)) none)] []) 7 [] ⟨(atC (cd Try.f34) [1,1,0,1]),[(0,AV.vec g 3 (List.map Bk.a l)),(2,AV.ptr 0 0 0 0),(4,vi (Sp.idxP Sp.pEnd l)),(13,vb (decide (Sp.idxP Sp.pEnd l < 0)))],[⟨[ag [AV.vnil,AV.vnil]],2,0,false,false⟩],_,[],_⟩ (by kernel_rfl) b0 q0 (ce (@ev56_a (g) (l) k1) c0) ?_
 rcases xm (Sp.idxP Sp.pEnd l < 0) with d3 | d3
 ·have H:=H.1 d3
  exact path_rq (G:=given kp34 [] []) 1000 [true] (tu [ag [AV.vnil,AV.vnil],vi 1]) (by kernel_rfl) (bc (beq_t (i_dec.2 d3)) (bc rfl b0)) q0 c0 H
 ·have H:=H.2 d3
  obtain ⟨k4,H⟩:=H
  have w5:wi (Sp.idxP Sp.pEnd l + 1) = Sp.idxP Sp.pEnd l + 1:=wI64 k4
  have w6:List.take (Sp.idxP Sp.pEnd l + 1).toNat (List.map Bk.a l) = List.map Bk.a (List.take (Sp.idxP Sp.pEnd l + 1).toNat l):=(lm_take rfl)
  have w7:List.drop 0 (List.map Bk.a (List.take (Sp.idxP Sp.pEnd l + 1).toNat l)) = List.map Bk.a (zSpU1 l):=(lm_drop rfl)
  obtain ⟨k8,H⟩:=H
  have i9:(decide (0 <= wi (Sp.idxP Sp.pEnd l + 1))) = true ↔ (0 <= Sp.idxP Sp.pEnd l + 1):=(by (try rw [w5]);all_goals exact i_dec)
  obtain ⟨k10,H⟩:=H
  have i11:(decide (0 <= (wi (Sp.idxP Sp.pEnd l + 1)).toNat)) = true ↔ (0 <= (Sp.idxP Sp.pEnd l + 1).toNat):=(by (try rw [w5]);all_goals exact i_dec)
  obtain ⟨k12,H⟩:=H
  have w13:(List.map Bk.a l).length = l.length:=List.length_map ..
  have i14:(decide ((wi (Sp.idxP Sp.pEnd l + 1)).toNat <= (List.map Bk.a l).length)) = true ↔ ((Sp.idxP Sp.pEnd l + 1).toNat <= l.length):=(by (try rw [w5]);(try rw [w13]);all_goals exact i_dec)
  obtain ⟨k15,H⟩:=H
  have i16:(decide (0 <= wi (Sp.idxP Sp.pEnd l + 1))) = true ↔ (0 <= Sp.idxP Sp.pEnd l + 1):=(by (try rw [w5]);all_goals exact i_dec)
  have i17:(decide ((wi (Sp.idxP Sp.pEnd l + 1)).toNat <= (List.map Bk.a l).length)) = true ↔ ((Sp.idxP Sp.pEnd l + 1).toNat <= l.length):=(by (try rw [w5]);(try rw [w13]);all_goals exact i_dec)
  have i18:(decide ((List.map Bk.a l).length <= (List.map Bk.a l).length)) = true ↔ (l.length <= l.length):=(by (try rw [w13]);all_goals exact i_dec)
  have w19:List.take l.length (List.map Bk.a l) = List.map Bk.a (List.take l.length l):=(lm_take rfl)
  have w20:List.drop (Sp.idxP Sp.pEnd l + 1).toNat (List.map Bk.a (List.take l.length l)) = List.map Bk.a (List.drop (Sp.idxP Sp.pEnd l + 1).toNat (List.take l.length l)):=(lm_drop rfl)
  exact path_wp (G:=given kp34 [(4,4,.call (AV.vec false 3 (List.map Bk.a (zSpU1 l))) none)] []) 1000 [false] ⟨(atC (cd Try.f34) [1,1,1,1,1,0,0,0]),[(2,AV.ptr 0 0 0 0),(5,AV.ptr 1 0 0 0),(6,AV.vec (g && true) 3 (List.drop (wi (Sp.idxP Sp.pEnd l + 1)).toNat (List.take (List.map Bk.a l).length (List.map Bk.a l))))],[⟨[ag [AV.vnil,AV.vnil]],2,0,false,false⟩,⟨[ag [AV.vec false 3 (List.map Bk.a (zSpU1 l)),AV.vnil]],2,0,false,false⟩],[(decide (Sp.idxP Sp.pEnd l < 0)) == false,decide (0 <= wi (Sp.idxP Sp.pEnd l + 1)),decide (0 <= (wi (Sp.idxP Sp.pEnd l + 1)).toNat),decide ((wi (Sp.idxP Sp.pEnd l + 1)).toNat <= (List.map Bk.a l).length),true,decide (0 <= wi (Sp.idxP Sp.pEnd l + 1)),decide ((wi (Sp.idxP Sp.pEnd l + 1)).toNat <= (List.map Bk.a l).length),decide ((List.map Bk.a l).length <= (List.map Bk.a l).length)],[],[pc 22 [AV.vec (g && false) 3 (List.drop 0 (List.take (wi (Sp.idxP Sp.pEnd l + 1)).toNat (List.map Bk.a l)))] (AV.vec false 3 (List.map Bk.a (zSpU1 l)))]⟩ (by kernel_rfl) (bc (beq_f (fun h => d3 (i_dec.1 h))) (bc (i9.2 k10) (bc (i11.2 k12) (bc (i14.2 k15) (bc rfl (bc (i16.2 k10) (bc (i17.2 k15) (bc (i18.2 (by omega)) b0)))))))) q0 (ce (by (try rw [w5]);(try rw [w6]);(try rw [w7]);all_goals exact (@ev22 (g && false) (zSpU1 l) k8)) c0) (by (try rw [w5]);(try rw [w13]);(try rw [w19]);(try rw [w20]);all_goals exact H)
noncomputable abbrev zSpU2 (r:List Bk):=bif !Sp.bgB (r.getD 0 default).1 (r.getD 0 default).3 (r.getD 0 default).4 then true else decide (Sp.idxP Sp.pStop r < 0)
theorem svSpz (g:Bool) (r:List Bk) (l:List Bk)  (dq:AV) (H :
  (((↑r.length:Int) > 0) -> (Sp.okW (r.getD 0 default).3) /\
   (0 < r.length) /\
   (Sp.okBs r) /\
   (((¬(Sp.bgB (r.getD 0 default).1 (r.getD 0 default).3 (r.getD 0 default).4 = true)) \/ (Sp.idxP Sp.pStop r < 0)) -> Weak (tu [ag [AV.vnil,AV.vnil],vi 1]) dq) /\
   (¬((¬(Sp.bgB (r.getD 0 default).1 (r.getD 0 default).3 (r.getD 0 default).4 = true)) \/ (Sp.idxP Sp.pStop r < 0)) -> (Sp.few6 (List.drop 1 (List.take (Sp.idxP Sp.pStop r).toNat r)).length) /\
    (0 <= Sp.idxP Sp.pStop r) /\
    (1 <= (Sp.idxP Sp.pStop r).toNat) /\
    ((Sp.idxP Sp.pStop r).toNat <= r.length) /\
    (-9223372036854775808 <= Sp.idxP Sp.pStop r + 1 /\ Sp.idxP Sp.pStop r + 1 <= 9223372036854775807) /\
    (0 <= Sp.idxP Sp.pStop r + 1) /\
    ((Sp.idxP Sp.pStop r + 1).toNat <= r.length) /\
    svSpa_at (g && true) (List.drop (Sp.idxP Sp.pStop r + 1).toNat (List.take r.length r)) (l) ([{ n:=Sp.bgV (r.getD 0 default).1 (r.getD 0 default).3 (r.getD 0 default).4,f:=false,bl:=List.drop 1 (List.take (Sp.idxP Sp.pStop r).toNat r) }]) (0) (PureQ dq))) /\
  (¬((↑r.length:Int) > 0) -> ∃ (b1:Bool),
   (Ev M1 (Conf.pure 62 [ag [AV.vec false 3 (List.map Bk.a l),AV.vnil]]) (vb b1) []) /\
   ((¬(b1 = true)) -> Weak (tu [ag [AV.vnil,AV.vnil],vi 1]) dq) /\
   (¬(¬(b1 = true)) -> ∃ (b2:Bool),
    (Ev M1 (Conf.pure 63 [AV.vnil]) (vb b2) []) /\
    ((b2 = true) -> Weak (tu [ag [AV.vnil,AV.vnil],vi 5]) dq) /\
    (¬(b2 = true) -> Weak (tu [ag [AV.vec false 3 (List.map Bk.a l),AV.vnil],vi 0]) dq)))) :
 svSpz_at g r l (PureQ dq):=by
 unfold svSpz_at
 have w1:(List.map Bk.a r).length = r.length:=List.length_map ..
 have i2:(decide ((↑(List.map Bk.a r).length:Int) > 0)) = true ↔ ((↑r.length:Int) > 0):=(by (try rw [w1]);all_goals exact i_dec)
 rcases xm ((↑r.length:Int) > 0) with d3 | d3
 ·have H:=H.1 d3
  obtain ⟨k4,H⟩:=H
  have i5:(decide (0 < (List.map Bk.a r).length)) = true ↔ (0 < r.length):=(by (try rw [w1]);all_goals exact i_dec)
  obtain ⟨k6,H⟩:=H
  obtain ⟨k7,H⟩:=H
  refine path_wp (G:=given kp34 [(7,2,.elem (ag [vb (r.getD 0 default).1,AV.vec (r.getD 0 default).2 2 (List.map Wo.a (r.getD 0 default).3),AV.str (r.getD 0 default).4])),(7,3,.call (tu [vi (Sp.bgV (r.getD 0 default).1 (r.getD 0 default).3 (r.getD 0 default).4),vb (Sp.bgB (r.getD 0 default).1 (r.getD 0 default).3 (r.getD 0 default).4)]) none),(8,1,.call (vi (Sp.idxP Sp.pStop r)) none)] []) 13 [true] ⟨(atC (cd Try.f34) [1,1,1,1,1,0,0,0,1,0,1,1,0,1]),[(2,AV.ptr 0 0 0 0),(5,AV.ptr 1 0 0 0),(6,AV.vec g 3 (List.map Bk.a r)),(7,vi (Sp.bgV (r.getD 0 default).1 (r.getD 0 default).3 (r.getD 0 default).4)),(9,vi (Sp.idxP Sp.pStop r)),(42,vb (zSpU2 r))],[⟨[ag [AV.vnil,AV.vnil]],2,0,false,false⟩,⟨[ag [AV.vec false 3 (List.map Bk.a l),AV.vnil]],2,0,false,false⟩],_,[((List.map Bk.a r).get?Internal 0 = some (ag [vb (r.getD 0 default).1,AV.vec (r.getD 0 default).2 2 (List.map Wo.a (r.getD 0 default).3),AV.str (r.getD 0 default).4]))],_⟩ (by kernel_rfl) (bc (beq_t (i2.2 d3)) (bc rfl (bc (i5.2 k6) b0))) (qc (el_map k6) q0) (ce (@ev59 ((r.getD 0 default).1) ((r.getD 0 default).2) ((r.getD 0 default).3) ((r.getD 0 default).4) k4) (ce (@ev56_b (g) (r) k7) c0)) ?_
  rcases xm ((¬(Sp.bgB (r.getD 0 default).1 (r.getD 0 default).3 (r.getD 0 default).4 = true)) \/ (Sp.idxP Sp.pStop r < 0)) with d9 | d9
  ·have H:=H.1 d9
   exact path_rq (G:=given kp34 [] []) 1000 [true] (asm:=[(zSpU2 r) == true,true]) (tu [ag [AV.vnil,AV.vnil],vi 1]) (by kernel_rfl) (bc (beq_t ((i_bor (i_not (i_var _)) i_dec).2 d9)) (bc rfl b0)) q0 c0 H
  ·have H:=H.2 d9
   have w10:List.take (Sp.idxP Sp.pStop r).toNat (List.map Bk.a r) = List.map Bk.a (List.take (Sp.idxP Sp.pStop r).toNat r):=(lm_take rfl)
   have w11:List.drop 1 (List.map Bk.a (List.take (Sp.idxP Sp.pStop r).toNat r)) = List.map Bk.a (List.drop 1 (List.take (Sp.idxP Sp.pStop r).toNat r)):=(lm_drop rfl)
   obtain ⟨k12,H⟩:=H
   obtain ⟨k14,H⟩:=H
   obtain ⟨k16,H⟩:=H
   have i17:(decide ((Sp.idxP Sp.pStop r).toNat <= (List.map Bk.a r).length)) = true ↔ ((Sp.idxP Sp.pStop r).toNat <= r.length):=(by (try rw [w1]);all_goals exact i_dec)
   obtain ⟨k18,H⟩:=H
   obtain ⟨k19,H⟩:=H
   have w20:wi (Sp.idxP Sp.pStop r + 1) = Sp.idxP Sp.pStop r + 1:=wI64 k19
   have i21:(decide (0 <= wi (Sp.idxP Sp.pStop r + 1))) = true ↔ (0 <= Sp.idxP Sp.pStop r + 1):=(by (try rw [w20]);all_goals exact i_dec)
   obtain ⟨k22,H⟩:=H
   have i23:(decide ((wi (Sp.idxP Sp.pStop r + 1)).toNat <= (List.map Bk.a r).length)) = true ↔ ((Sp.idxP Sp.pStop r + 1).toNat <= r.length):=(by (try rw [w1]);(try rw [w20]);all_goals exact i_dec)
   obtain ⟨k24,H⟩:=H
   have i25:(decide ((List.map Bk.a r).length <= (List.map Bk.a r).length)) = true ↔ (r.length <= r.length):=(by (try rw [w1]);all_goals exact i_dec)
   have w26:List.take r.length (List.map Bk.a r) = List.map Bk.a (List.take r.length r):=(lm_take rfl)
   have w27:List.drop (Sp.idxP Sp.pStop r + 1).toNat (List.map Bk.a (List.take r.length r)) = List.map Bk.a (List.drop (Sp.idxP Sp.pStop r + 1).toNat (List.take r.length r)):=(lm_drop rfl)
   have w28:[ag [vi (Sp.bgV (r.getD 0 default).1 (r.getD 0 default).3 (r.getD 0 default).4),AV.vec false 3 (List.map Bk.a (List.drop 1 (List.take (Sp.idxP Sp.pStop r).toNat r)))]] = List.map Sb.a [{ n:=Sp.bgV (r.getD 0 default).1 (r.getD 0 default).3 (r.getD 0 default).4,f:=false,bl:=List.drop 1 (List.take (Sp.idxP Sp.pStop r).toNat r) }]:=rfl
   exact path_wp (G:=given kp34 [(11,6,.call (AV.vec false 3 (List.map Bk.a (List.drop 1 (List.take (Sp.idxP Sp.pStop r).toNat r)))) none)] []) 1000 [false] ⟨(atC (cd Try.f34) [1,1,1,1,1,0,0,0]),[(2,AV.ptr 0 0 0 0),(5,AV.ptr 1 0 0 0),(6,AV.vec (g && true) 3 (List.drop (wi (Sp.idxP Sp.pStop r + 1)).toNat (List.take (List.map Bk.a r).length (List.map Bk.a r))))],[⟨[ag [AV.vnil,AV.vnil]],2,0,false,false⟩,⟨[ag [AV.vec false 3 (List.map Bk.a l),AV.row 2 0]],2,0,false,false⟩,⟨[ag [vi (Sp.bgV (r.getD 0 default).1 (r.getD 0 default).3 (r.getD 0 default).4),AV.vec false 3 (List.map Bk.a (List.drop 1 (List.take (Sp.idxP Sp.pStop r).toNat r)))]],2,0,false,true⟩],[(zSpU2 r) == false,true,true,decide (0 <= Sp.idxP Sp.pStop r),decide (1 <= (Sp.idxP Sp.pStop r).toNat),decide ((Sp.idxP Sp.pStop r).toNat <= (List.map Bk.a r).length),true,true,decide (0 <= wi (Sp.idxP Sp.pStop r + 1)),decide ((wi (Sp.idxP Sp.pStop r + 1)).toNat <= (List.map Bk.a r).length),decide ((List.map Bk.a r).length <= (List.map Bk.a r).length)],[],[pc 22 [AV.vec (g && false) 3 (List.drop 1 (List.take (Sp.idxP Sp.pStop r).toNat (List.map Bk.a r)))] (AV.vec false 3 (List.map Bk.a (List.drop 1 (List.take (Sp.idxP Sp.pStop r).toNat r))))]⟩ (by kernel_rfl) (bc (beq_f (fun h => d9 ((i_bor (i_not (i_var _)) i_dec).1 h))) (bc rfl (bc rfl (bc (i_dec.2 k14) (bc (i_dec.2 k16) (bc (i17.2 k18) (bc rfl (bc rfl (bc (i21.2 k22) (bc (i23.2 k24) (bc (i25.2 (by omega)) b0))))))))))) q0 (ce (by (try rw [w10]);(try rw [w11]);all_goals exact (@ev22 (g && false) (List.drop 1 (List.take (Sp.idxP Sp.pStop r).toNat r)) k12)) c0) (by (try rw [w1]);(try rw [w20]);(try rw [w26]);(try rw [w27]);(try rw [w28]);all_goals exact H)
 ·have H:=H.2 d3
  obtain ⟨b1,H⟩:=H
  obtain ⟨k29,H⟩:=H
  refine path_wp (G:=given kp34 [(13,1,.call (vb b1) none)] []) 8 [false] ⟨(atC (cd Try.f34) [1,1,1,1,1,1,0,1]),[(2,AV.ptr 0 0 0 0),(5,AV.ptr 1 0 0 0),(61,vb !b1)],[⟨[ag [AV.vnil,AV.vnil]],2,0,false,false⟩,⟨[ag [AV.vec false 3 (List.map Bk.a l),AV.vnil]],2,0,false,false⟩],_,[],_⟩ (by kernel_rfl) (bc (beq_f (fun h => d3 (i2.1 h))) (bc rfl b0)) q0 (ce k29 c0) ?_
  rcases xm (¬(b1 = true)) with d31 | d31
  ·have H:=H.1 d31
   exact path_rq (G:=given kp34 [] []) 1000 [true] (asm:=[(!b1) == true,true]) (tu [ag [AV.vnil,AV.vnil],vi 1]) (by kernel_rfl) (bc (beq_t ((i_not (i_var _)).2 d31)) (bc rfl b0)) q0 c0 H
  ·have H:=H.2 d31
   obtain ⟨b2,H⟩:=H
   obtain ⟨k32,H⟩:=H
   refine path_wp (G:=given kp34 [(15,2,.call (vb b2) none)] []) 5 [false] ⟨(atC (cd Try.f34) [1,1,1,1,1,1,1,0,1]),[(2,AV.ptr 0 0 0 0),(5,AV.ptr 1 0 0 0),(65,vb b2)],[⟨[ag [AV.vnil,AV.vnil]],2,0,false,false⟩,⟨[ag [AV.vec false 3 (List.map Bk.a l),AV.vnil]],2,0,false,false⟩],[(!b1) == false,true],[],_⟩ (by kernel_rfl) (bc (beq_f (fun h => d31 ((i_not (i_var _)).1 h))) (bc rfl b0)) q0 (ce k32 c0) ?_
   rcases xm (b2 = true) with d34 | d34
   ·have H:=H.1 d34
    exact path_rq (G:=given kp34 [] []) 1000 [true] (asm:=[(b2) == true,true]) (tu [ag [AV.vnil,AV.vnil],vi 5]) (by kernel_rfl) (bc (beq_t ((i_var _).2 d34)) (bc rfl b0)) q0 c0 H
   ·have H:=H.2 d34
    exact path_rq (G:=given kp34 [] []) 1000 [false] (asm:=[(b2) == false,true,true]) (tu [ag [AV.vec false 3 (List.map Bk.a l),AV.vnil],vi 0]) (by kernel_rfl) (bc (beq_f (fun h => d34 ((i_var _).1 h))) (bc rfl (bc rfl b0))) q0 c0 H
noncomputable abbrev zSpU3 (r:List Bk):=bif !Sp.bgB (r.getD 0 default).1 (r.getD 0 default).3 (r.getD 0 default).4 then true else decide (Sp.idxP Sp.pStop r < 0)
theorem svSpa (g:Bool) (r:List Bk) (l:List Bk) (s:List Sb) (v:Nat)  (dq:AV) (H :
  (((↑r.length:Int) > 0) -> (Sp.okW (r.getD 0 default).3) /\
   (0 < r.length) /\
   (Sp.okBs r) /\
   (((¬(Sp.bgB (r.getD 0 default).1 (r.getD 0 default).3 (r.getD 0 default).4 = true)) \/ (Sp.idxP Sp.pStop r < 0)) -> Weak (tu [ag [AV.vnil,AV.vnil],vi 1]) dq) /\
   (¬((¬(Sp.bgB (r.getD 0 default).1 (r.getD 0 default).3 (r.getD 0 default).4 = true)) \/ (Sp.idxP Sp.pStop r < 0)) -> (Sp.few6 (List.drop 1 (List.take (Sp.idxP Sp.pStop r).toNat r)).length) /\
    (0 <= Sp.idxP Sp.pStop r) /\
    (1 <= (Sp.idxP Sp.pStop r).toNat) /\
    ((Sp.idxP Sp.pStop r).toNat <= r.length) /\
    ((s.length + 1) * 32 <= 1099511627776) /\
    (-9223372036854775808 <= Sp.idxP Sp.pStop r + 1 /\ Sp.idxP Sp.pStop r + 1 <= 9223372036854775807) /\
    (0 <= Sp.idxP Sp.pStop r + 1) /\
    ((Sp.idxP Sp.pStop r + 1).toNat <= r.length) /\
    svSpa_at (g && true) (List.drop (Sp.idxP Sp.pStop r + 1).toNat (List.take r.length r)) (l) (s ++ [{ n:=Sp.bgV (r.getD 0 default).1 (r.getD 0 default).3 (r.getD 0 default).4,f:=false,bl:=List.drop 1 (List.take (Sp.idxP Sp.pStop r).toNat r) }]) (v + 1) (PureQ dq))) /\
  (¬((↑r.length:Int) > 0) -> (Sp.okBs l /\ Sp.okSs s) /\
   ((¬(Sp.ordB l s = true)) -> Weak (tu [ag [AV.vnil,AV.vnil],vi 1]) dq) /\
   (¬(¬(Sp.ordB l s = true)) -> (s.length <= 1000000) /\
    ((Sp.repB s = true) -> Weak (tu [ag [AV.vnil,AV.vnil],vi 5]) dq) /\
    (¬(Sp.repB s = true) -> Weak (tu [ag [AV.vec false 3 (List.map Bk.a l),AV.vec false 2 (List.map Sb.a s)],vi 0]) dq)))) :
 svSpa_at g r l s v (PureQ dq):=by
 unfold svSpa_at
 have w1:(List.map Bk.a r).length = r.length:=List.length_map ..
 have i2:(decide ((↑(List.map Bk.a r).length:Int) > 0)) = true ↔ ((↑r.length:Int) > 0):=(by (try rw [w1]);all_goals exact i_dec)
 rcases xm ((↑r.length:Int) > 0) with d3 | d3
 ·have H:=H.1 d3
  obtain ⟨k4,H⟩:=H
  have i5:(decide (0 < (List.map Bk.a r).length)) = true ↔ (0 < r.length):=(by (try rw [w1]);all_goals exact i_dec)
  obtain ⟨k6,H⟩:=H
  obtain ⟨k7,H⟩:=H
  refine path_wp (G:=given kp34 [(7,2,.elem (ag [vb (r.getD 0 default).1,AV.vec (r.getD 0 default).2 2 (List.map Wo.a (r.getD 0 default).3),AV.str (r.getD 0 default).4])),(7,3,.call (tu [vi (Sp.bgV (r.getD 0 default).1 (r.getD 0 default).3 (r.getD 0 default).4),vb (Sp.bgB (r.getD 0 default).1 (r.getD 0 default).3 (r.getD 0 default).4)]) none),(8,1,.call (vi (Sp.idxP Sp.pStop r)) none)] []) 13 [true] ⟨(atC (cd Try.f34) [1,1,1,1,1,0,0,0,1,0,1,1,0,1]),[(2,AV.ptr 0 0 0 0),(5,AV.ptr 1 0 0 0),(6,AV.vec g 3 (List.map Bk.a r)),(7,vi (Sp.bgV (r.getD 0 default).1 (r.getD 0 default).3 (r.getD 0 default).4)),(9,vi (Sp.idxP Sp.pStop r)),(42,vb (zSpU3 r))],[⟨[ag [AV.vnil,AV.vnil]],2,0,false,false⟩,⟨[ag [AV.vec false 3 (List.map Bk.a l),AV.row 2 v]],2,0,false,false⟩,⟨List.map Sb.a s,2,v,false,true⟩],_,[((List.map Bk.a r).get?Internal 0 = some (ag [vb (r.getD 0 default).1,AV.vec (r.getD 0 default).2 2 (List.map Wo.a (r.getD 0 default).3),AV.str (r.getD 0 default).4]))],_⟩ (by kernel_rfl) (bc (beq_t (i2.2 d3)) (bc rfl (bc (i5.2 k6) b0))) (qc (el_map k6) q0) (ce (@ev59 ((r.getD 0 default).1) ((r.getD 0 default).2) ((r.getD 0 default).3) ((r.getD 0 default).4) k4) (ce (@ev56_b (g) (r) k7) c0)) ?_
  rcases xm ((¬(Sp.bgB (r.getD 0 default).1 (r.getD 0 default).3 (r.getD 0 default).4 = true)) \/ (Sp.idxP Sp.pStop r < 0)) with d9 | d9
  ·have H:=H.1 d9
   exact path_rq (G:=given kp34 [] []) 1000 [true] (asm:=[(zSpU3 r) == true,true]) (tu [ag [AV.vnil,AV.vnil],vi 1]) (by kernel_rfl) (bc (beq_t ((i_bor (i_not (i_var _)) i_dec).2 d9)) (bc rfl b0)) q0 c0 H
  ·have H:=H.2 d9
   have w10:List.take (Sp.idxP Sp.pStop r).toNat (List.map Bk.a r) = List.map Bk.a (List.take (Sp.idxP Sp.pStop r).toNat r):=(lm_take rfl)
   have w11:List.drop 1 (List.map Bk.a (List.take (Sp.idxP Sp.pStop r).toNat r)) = List.map Bk.a (List.drop 1 (List.take (Sp.idxP Sp.pStop r).toNat r)):=(lm_drop rfl)
   obtain ⟨k12,H⟩:=H
   obtain ⟨k14,H⟩:=H
   obtain ⟨k16,H⟩:=H
   have i17:(decide ((Sp.idxP Sp.pStop r).toNat <= (List.map Bk.a r).length)) = true ↔ ((Sp.idxP Sp.pStop r).toNat <= r.length):=(by (try rw [w1]);all_goals exact i_dec)
   obtain ⟨k18,H⟩:=H
   have w19:(List.map Sb.a s).length = s.length:=List.length_map ..
   have i20:(decide (((List.map Sb.a s).length + 1) * 32 <= 1099511627776)) = true ↔ ((s.length + 1) * 32 <= 1099511627776):=(by (try rw [w19]);all_goals exact i_dec)
   obtain ⟨k21,H⟩:=H
   have w22:List.map Sb.a s ++ [ag [vi (Sp.bgV (r.getD 0 default).1 (r.getD 0 default).3 (r.getD 0 default).4),AV.vec false 3 (List.map Bk.a (List.drop 1 (List.take (Sp.idxP Sp.pStop r).toNat r)))]] = List.map Sb.a (s ++ [{ n:=Sp.bgV (r.getD 0 default).1 (r.getD 0 default).3 (r.getD 0 default).4,f:=false,bl:=List.drop 1 (List.take (Sp.idxP Sp.pStop r).toNat r) }]):=(lm_app rfl rfl)
   obtain ⟨k23,H⟩:=H
   have w24:wi (Sp.idxP Sp.pStop r + 1) = Sp.idxP Sp.pStop r + 1:=wI64 k23
   have i25:(decide (0 <= wi (Sp.idxP Sp.pStop r + 1))) = true ↔ (0 <= Sp.idxP Sp.pStop r + 1):=(by (try rw [w24]);all_goals exact i_dec)
   obtain ⟨k26,H⟩:=H
   have i27:(decide ((wi (Sp.idxP Sp.pStop r + 1)).toNat <= (List.map Bk.a r).length)) = true ↔ ((Sp.idxP Sp.pStop r + 1).toNat <= r.length):=(by (try rw [w1]);(try rw [w24]);all_goals exact i_dec)
   obtain ⟨k28,H⟩:=H
   have i29:(decide ((List.map Bk.a r).length <= (List.map Bk.a r).length)) = true ↔ (r.length <= r.length):=(by (try rw [w1]);all_goals exact i_dec)
   have w30:List.take r.length (List.map Bk.a r) = List.map Bk.a (List.take r.length r):=(lm_take rfl)
   have w31:List.drop (Sp.idxP Sp.pStop r + 1).toNat (List.map Bk.a (List.take r.length r)) = List.map Bk.a (List.drop (Sp.idxP Sp.pStop r + 1).toNat (List.take r.length r)):=(lm_drop rfl)
   exact path_wp (G:=given kp34 [(11,6,.call (AV.vec false 3 (List.map Bk.a (List.drop 1 (List.take (Sp.idxP Sp.pStop r).toNat r)))) none)] []) 1000 [false] ⟨(atC (cd Try.f34) [1,1,1,1,1,0,0,0]),[(2,AV.ptr 0 0 0 0),(5,AV.ptr 1 0 0 0),(6,AV.vec (g && true) 3 (List.drop (wi (Sp.idxP Sp.pStop r + 1)).toNat (List.take (List.map Bk.a r).length (List.map Bk.a r))))],[⟨[ag [AV.vnil,AV.vnil]],2,0,false,false⟩,⟨[ag [AV.vec false 3 (List.map Bk.a l),AV.row 2 (v + 1)]],2,0,false,false⟩,⟨List.map Sb.a s ++ [ag [vi (Sp.bgV (r.getD 0 default).1 (r.getD 0 default).3 (r.getD 0 default).4),AV.vec false 3 (List.map Bk.a (List.drop 1 (List.take (Sp.idxP Sp.pStop r).toNat r)))]],2,v + 1,false,true⟩],[(zSpU3 r) == false,true,true,decide (0 <= Sp.idxP Sp.pStop r),decide (1 <= (Sp.idxP Sp.pStop r).toNat),decide ((Sp.idxP Sp.pStop r).toNat <= (List.map Bk.a r).length),v == v,decide (((List.map Sb.a s).length + 1) * 32 <= 1099511627776),true,decide (0 <= wi (Sp.idxP Sp.pStop r + 1)),decide ((wi (Sp.idxP Sp.pStop r + 1)).toNat <= (List.map Bk.a r).length),decide ((List.map Bk.a r).length <= (List.map Bk.a r).length)],[],[pc 22 [AV.vec (g && false) 3 (List.drop 1 (List.take (Sp.idxP Sp.pStop r).toNat (List.map Bk.a r)))] (AV.vec false 3 (List.map Bk.a (List.drop 1 (List.take (Sp.idxP Sp.pStop r).toNat r))))]⟩ (by kernel_rfl) (bc (beq_f (fun h => d9 ((i_bor (i_not (i_var _)) i_dec).1 h))) (bc rfl (bc rfl (bc (i_dec.2 k14) (bc (i_dec.2 k16) (bc (i17.2 k18) (bc (beq_self_eq_true _) (bc (i20.2 k21) (bc rfl (bc (i25.2 k26) (bc (i27.2 k28) (bc (i29.2 (by omega)) b0)))))))))))) q0 (ce (by (try rw [w10]);(try rw [w11]);all_goals exact (@ev22 (g && false) (List.drop 1 (List.take (Sp.idxP Sp.pStop r).toNat r)) k12)) c0) (by (try rw [w1]);(try rw [w22]);(try rw [w24]);(try rw [w30]);(try rw [w31]);all_goals exact H)
 ·have H:=H.2 d3
  obtain ⟨k32,H⟩:=H
  refine path_wp (G:=given kp34 [(13,1,.call (vb (Sp.ordB l s)) none)] []) 8 [false] ⟨(atC (cd Try.f34) [1,1,1,1,1,1,0,1]),[(2,AV.ptr 0 0 0 0),(5,AV.ptr 1 0 0 0),(61,vb !Sp.ordB l s)],[⟨[ag [AV.vnil,AV.vnil]],2,0,false,false⟩,⟨[ag [AV.vec false 3 (List.map Bk.a l),AV.row 2 v]],2,0,false,false⟩,⟨List.map Sb.a s,2,v,false,true⟩],[(decide ((↑(List.map Bk.a r).length:Int) > 0)) == false,true,v == v],[],_⟩ (by kernel_rfl) (bc (beq_f (fun h => d3 (i2.1 h))) (bc rfl (bc (beq_self_eq_true _) b0))) q0 (ce (@ev62 (false) (l) (false) (s) k32) c0) ?_
  rcases xm (¬(Sp.ordB l s = true)) with d34 | d34
  ·have H:=H.1 d34
   exact path_rq (G:=given kp34 [] []) 1000 [true] (asm:=[(!Sp.ordB l s) == true,true]) (tu [ag [AV.vnil,AV.vnil],vi 1]) (by kernel_rfl) (bc (beq_t ((i_not (i_var _)).2 d34)) (bc rfl b0)) q0 c0 H
  ·have H:=H.2 d34
   obtain ⟨k35,H⟩:=H
   refine path_wp (G:=given kp34 [(15,2,.call (vb (Sp.repB s)) none)] []) 5 [false] ⟨(atC (cd Try.f34) [1,1,1,1,1,1,1,0,1]),[(2,AV.ptr 0 0 0 0),(5,AV.ptr 1 0 0 0),(65,vb (Sp.repB s))],[⟨[ag [AV.vnil,AV.vnil]],2,0,false,false⟩,⟨[ag [AV.vec false 3 (List.map Bk.a l),AV.row 2 v]],2,0,false,false⟩,⟨List.map Sb.a s,2,v,false,true⟩],[(!Sp.ordB l s) == false,true,v == v],[],_⟩ (by kernel_rfl) (bc (beq_f (fun h => d34 ((i_not (i_var _)).1 h))) (bc rfl (bc (beq_self_eq_true _) b0))) q0 (ce (@ev63 (false) (s) k35) c0) ?_
   rcases xm (Sp.repB s = true) with d37 | d37
   ·have H:=H.1 d37
    exact path_rq (G:=given kp34 [] []) 1000 [true] (asm:=[(Sp.repB s) == true,true]) (tu [ag [AV.vnil,AV.vnil],vi 5]) (by kernel_rfl) (bc (beq_t ((i_var _).2 d37)) (bc rfl b0)) q0 c0 H
   ·have H:=H.2 d37
    exact path_ret (G:=given kp34 [] []) 1000 [false] (k:=((atC (cd Try.f34) [1,1,1,1,1,1,1,1,1])).tail) (env':=[(2,AV.ptr 0 0 0 0),(3,vi 0)]) (L':=[⟨[ag [AV.vec false 3 (List.map Bk.a l),AV.row 2 v]],2,0,false,false⟩,⟨[ag [AV.vec false 3 (List.map Bk.a l),AV.row 2 v]],2,0,false,false⟩,⟨List.map Sb.a s,2,v,false,true⟩]) (asm:=[(Sp.repB s) == false,true,true]) (eqs:=[]) (calls:=[]) (tu [ag [AV.vec false 3 (List.map Bk.a l),AV.row 2 v],vi 0]) (by kernel_rfl) (by kernel_rfl) (allB_cons (beq_f (fun h => d37 ((i_var _).1 h))) (allB_cons rfl (allB_cons rfl allB_nil))) allP_nil allC_nil (pq_weak (d:=(tu [ag [AV.vec false 3 (List.map Bk.a l),AV.vec false 2 (List.map Sb.a s)],vi 0])) (bs:=[v == v]) (by kernel_rfl) (by kernel_rfl) (allB_cons (beq_self_eq_true _) allB_nil) (by kernel_rfl) H)
end Go.Av

namespace Go.Av
open Go.RowKit
theorem ev_weak {M:Mach} (hm:(M.P ()).follows .mixedOrders = true) {f:FuncId} {args args':List AV} {d:AV} (h:Ev M (.pure f args') d []) (hl:args.length = args'.length) (hc:cleanL args = true) (hw:∀ (i:Nat) a a',args[i]? = some a -> args'[i]? = some a' -> Weak a a'):Ev M (.pure f args) d []:=by
 refine .sem fun base acc w cargs h1 h2 h3 => (wp_sound hm (c:=.pure f args') h:PureR M f args' _) base acc w cargs h1 h2 ⟨hl.symm.trans h3.1,fun i c v hi hv => ?_⟩
 have hlt:i < args.length:=by rw [hl];exact lt_of_get hi
 have ha:args[i]? = some args[i]:=List.getElem?_eq_getElem hlt
 exact .data _ _ (weak_rel (hw i _ _ ha hi) (rel_clean (h3.2 i _ v ha hv) (cleanL_get hc i _ ha)))
end Go.Av

namespace Go.Av
open Go.Proofs
namespace Sp
def numB (s:List Sb):Bool:=s.all fun x => decide (1 <= x.n /\ x.n <= 9999)
def prpB (l:List Bk) (s:List Sb):Bool:=numB s && (ordB l s && !(repB s))
def spl (l:List Bk):Nat -> List Bk -> List Sb -> List Bk × List Sb × Int
 | 0,_,_ => ([],[],1)
 | f + 1,r,s =>
  if r.length = 0 then (if ordB l s = true then (if repB s = true then ([],[],5) else (l,s,0)) else ([],[],1))
  else if bgB (r.getD 0 default).sk (r.getD 0 default).ws (r.getD 0 default).cm = true /\ ¬idxP pStop r < 0 then
   spl l f (r.drop (idxP pStop r + 1).toNat) (s ++ [⟨bgV (r.getD 0 default).sk (r.getD 0 default).ws (r.getD 0 default).cm,false,(r.take (idxP pStop r).toNat).drop 1⟩])
  else ([],[],1)
def split (l:List Bk):List Bk × List Sb × Int:=
 if idxP pEnd l < 0 then ([],[],1) else spl (l.take (idxP pEnd l + 1).toNat) (l.length + 1) (l.drop (idxP pEnd l + 1).toNat) []
end Sp
theorem weak_one {f:FuncId} {a a' d:AV} (h:Ev M1 (.pure f [a']) d []) (hc:a.clean = true) (hw:Weak a a'):Ev M1 (.pure f [a]) d []:=
 ev_weak hm1 h rfl (by simp [cleanL,hc]) fun i x y hx hy => by
  match i with
  | 0 => simp at hx hy;subst hx;subst hy;exact hw
  | i + 1 => simp at hx
theorem bg_stop {sk f:Bool} {ws:List Wo} {cm:List UInt8} (h:Sp.bgB sk ws cm = true):Sp.pStop ⟨sk,f,ws,cm⟩ = false:=by
 unfold Sp.bgB at h
 split at h
 ·rename_i k
  obtain ⟨k1,k2⟩:=k
  have hl:=pl_len k1
  match ws,hl with
  | [w],_ =>
   have k2:w.l = 79:=k2
   unfold Sp.pStop Sp.backB Sp.hasW Sp.codes
   simp [k2]
 ·cases h
theorem stop_pos {r:List Bk} (h0:0 < r.length) (h:Sp.bgB (r.getD 0 default).sk (r.getD 0 default).ws (r.getD 0 default).cm = true) (hs:¬Sp.idxP Sp.pStop r < 0):1 <= Sp.idxP Sp.pStop r /\ Sp.idxP Sp.pStop r < r.length:=by
 match r,h0 with
 | b :: r,_ =>
  have hb:Sp.pStop b = false:=bg_stop (f:=b.f) h
  unfold Sp.idxP at hs ⊢
  rw [Sp.idxF,hb,if_neg (by simp)] at hs ⊢
  rcases idxF_ge Sp.pStop r (0 + 1) (by omega) with ⟨h1,_⟩ | ⟨h1,h2,_⟩
  ·omega
  ·simp only [List.length_cons];omega
theorem okBs_drop {l:List Bk} (h:Sp.okBs l) (a:Nat):Sp.okBs (l.drop a):=⟨by have:=h.1;simp;omega,fun x hx => h.2 x (List.mem_of_mem_drop hx)⟩
theorem okBs_take {l:List Bk} (h:Sp.okBs l) (a:Nat):Sp.okBs (l.take a):=⟨by have:=h.1;simp;omega,fun x hx => h.2 x (List.mem_of_mem_take hx)⟩
theorem okSs_snoc {s:List Sb} {x:Sb} (h:Sp.okSs s) (hl:s.length < 1000000) (hx:Sp.okBs x.bl):Sp.okSs (s ++ [x]):=by
 refine ⟨by simp;omega,fun y hy => ?_⟩
 rcases List.mem_append.1 hy with hy | hy
 ·exact h.2 y hy
 ·rw [List.mem_singleton] at hy;subst hy;exact hx
def spA (x:List Bk × List Sb × Int):AV:=.tup [pgA false false x.1 x.2.1,.int .i64 x.2.2]
theorem spA_no (e:Int):Weak (.tup [.agg [.vnil,.vnil],.int .i64 e]) (spA ([],[],e)):=weak_tup2' (weak_agg2 (.vnil 3) (.vnil 2))
theorem svSpa_loop {l:List Bk} {dq:AV} (hl:Sp.okBs l):∀ (f:Nat) (g:Bool) (r:List Bk) (s:List Sb) (v:Nat),Sp.okBs r -> Sp.okSs s -> r.length < f -> s.length + r.length <= 999999 -> spA (Sp.spl l f r s) = dq -> svSpa_at g r l s v (PureQ dq):=by
 intro f
 induction f with
 | zero => intro g r s v _ _ h;omega
 | succ f ih =>
  intro g r s v hr hs hf hsz hq
  have hrl:=hr.1
  rw [Sp.spl] at hq
  by_cases h0:r.length = 0
  ·rw [if_pos h0] at hq
   refine svSpa _ _ _ _ _ _ ⟨fun h => by omega,fun _ => ⟨⟨hl,hs⟩,fun k => ?_,fun k => ⟨hs.1,fun k2 => ?_,fun k2 => ?_⟩⟩⟩
   ·rw [if_neg k] at hq
    rw [<- hq];exact spA_no 1
   ·rw [if_pos (Classical.not_not.1 k),if_pos k2] at hq
    rw [<- hq];exact spA_no 5
   ·rw [if_pos (Classical.not_not.1 k),if_neg k2] at hq
    rw [<- hq];exact .refl _
  ·rw [if_neg h0] at hq
   have hm:=hr.2 _ (getD_mem (show 0 < r.length by omega))
   refine svSpa _ _ _ _ _ _ ⟨fun _ => ⟨hm,by omega,hr,fun k => ?_,fun k => ?_⟩,fun h => by omega⟩
   ·rw [if_neg (fun x => k.elim (fun y => y x.1) x.2)] at hq
    rw [<- hq];exact spA_no 1
   ·have k1:Sp.bgB (r.getD 0 default).sk (r.getD 0 default).ws (r.getD 0 default).cm = true:=Classical.byContradiction fun y => k (.inl y)
    have k2:¬Sp.idxP Sp.pStop r < 0:=fun y => k (.inr y)
    rw [if_pos ⟨k1,k2⟩] at hq
    obtain ⟨b1,b2⟩:=stop_pos (by omega) k1 k2
    obtain ⟨p,hp⟩:=Int.eq_ofNat_of_zero_le (show 0 <= Sp.idxP Sp.pStop r by omega)
    rw [hp] at hq b1 b2 ⊢
    have e:(p:Int) + 1 = ((p + 1:Nat):Int):=by omega
    rw [e,Int.toNat_natCast,Int.toNat_natCast] at hq ⊢
    rw [List.take_length]
    refine ⟨by unfold Sp.few6;simp;omega,by omega,by omega,by omega,by omega,by omega,by omega,by omega,?_⟩
    exact ih _ _ _ _ (okBs_drop hr _) (okSs_snoc hs (by omega) (okBs_drop (okBs_take hr _) _)) (by simp;omega) (by simp;omega) hq
theorem svSpz_loop {l:List Bk} {dq:AV} (hl:Sp.okBs l) (f:Nat) (g:Bool) (r:List Bk) (hr:Sp.okBs r) (hf:r.length < f) (hsz:r.length <= 999999) (hq:spA (Sp.spl l f r []) = dq):svSpz_at g r l (PureQ dq):=by
 obtain ⟨f,rfl⟩:∃ k,f = k + 1:=⟨f - 1,by omega⟩
 have hrl:=hr.1
 have hs:Sp.okSs []:=⟨by simp,fun x hx => by cases hx⟩
 rw [Sp.spl] at hq
 by_cases h0:r.length = 0
 ·rw [if_pos h0] at hq
  refine svSpz _ _ _ _ ⟨fun h => by omega,fun _ => ⟨Sp.ordB l [],weak_one (ev62 false l false [] ⟨hl,hs⟩) (by simp [AV.clean,cleanL]) (weak_agg2 (.refl _) (.vnil 2)),fun k => ?_,fun k => ⟨Sp.repB [],weak_one (ev63 false [] (by simp)) rfl (.vnil 2),fun k2 => ?_,fun k2 => ?_⟩⟩⟩
  ·rw [if_neg k] at hq
   rw [<- hq];exact spA_no 1
  ·rw [if_pos (Classical.not_not.1 k),if_pos k2] at hq
   rw [<- hq];exact spA_no 5
  ·rw [if_pos (Classical.not_not.1 k),if_neg k2] at hq
   rw [<- hq];exact weak_tup2' (weak_agg2 (.refl _) (.vnil 2))
 ·rw [if_neg h0] at hq
  have hm:=hr.2 _ (getD_mem (show 0 < r.length by omega))
  refine svSpz _ _ _ _ ⟨fun _ => ⟨hm,by omega,hr,fun k => ?_,fun k => ?_⟩,fun h => by omega⟩
  ·rw [if_neg (fun x => k.elim (fun y => y x.1) x.2)] at hq
   rw [<- hq];exact spA_no 1
  ·have k1:Sp.bgB (r.getD 0 default).sk (r.getD 0 default).ws (r.getD 0 default).cm = true:=Classical.byContradiction fun y => k (.inl y)
   have k2:¬Sp.idxP Sp.pStop r < 0:=fun y => k (.inr y)
   rw [if_pos ⟨k1,k2⟩] at hq
   obtain ⟨b1,b2⟩:=stop_pos (by omega) k1 k2
   obtain ⟨p,hp⟩:=Int.eq_ofNat_of_zero_le (show 0 <= Sp.idxP Sp.pStop r by omega)
   rw [hp] at hq b1 b2 ⊢
   have e:(p:Int) + 1 = ((p + 1:Nat):Int):=by omega
   rw [e,Int.toNat_natCast,Int.toNat_natCast] at hq ⊢
   rw [List.take_length]
   refine ⟨by unfold Sp.few6;simp;omega,by omega,by omega,by omega,by omega,by omega,by omega,?_⟩
   exact svSpa_loop hl f _ _ _ _ (okBs_drop hr _) (okSs_snoc hs (by simp) (okBs_drop (okBs_take hr _) _)) (by simp;omega) (by simp;omega) hq
theorem ev34 (g:Bool) (l:List Bk) (hk:Sp.okBs l /\ l.length <= 999999):Ev M1 (.pure 34 [bsA g l]) (.tup [pgA false false (Sp.split l).1 (Sp.split l).2.1,.int .i64 (Sp.split l).2.2]) []:=by
 obtain ⟨hk,hsz⟩:=hk
 have hl:=hk.1
 show Ev M1 _ (spA (Sp.split l)) []
 unfold Sp.split
 refine call34 (svSp g l _ ⟨hk,fun k => ?_,fun k => ?_⟩)
 ·rw [if_pos k];exact spA_no 1
 ·rw [if_neg k]
  rcases idxF_ge Sp.pEnd l 0 (by omega) with ⟨h1,_⟩ | ⟨h1,h2,_⟩
  ·exact absurd (show Sp.idxP Sp.pEnd l < 0 by unfold Sp.idxP;omega) k
  ·obtain ⟨p,hp⟩:=Int.eq_ofNat_of_zero_le (show 0 <= Sp.idxP Sp.pEnd l from h1)
   have h2:Sp.idxP Sp.pEnd l < 0 + l.length:=h2
   rw [hp] at h2 ⊢
   have e:(p:Int) + 1 = ((p + 1:Nat):Int):=by omega
   rw [e,Int.toNat_natCast,List.take_length,List.drop_zero]
   exact ⟨by omega,by unfold Sp.few6;simp;omega,by omega,by omega,by omega,svSpz_loop (okBs_take hk _) (l.length + 1) _ _ (okBs_drop hk _) (by simp;omega) (by simp;omega) rfl⟩
end Go.Av

namespace Go.Av
open Go.Proofs
set_option maxRecDepth 100000
def fi19:Fi:=⟨22,[.tmp 4]⟩
def kp19:List (Nat × List Nat):=[(0,[1,2]),(1,[1,2,5]),(2,[1,2,5,10]),(3,[1,2,5]),(4,[1,2,5,20]),(5,[4]),(6,[4])]
def svFn_at (g:Bool) (l:List Bk) (h:Bool) (s:List Sb) (m:Int) (Q:AV -> Heap -> Prop):Prop:=Wp M1 (.run fi19 (atC (cd Try.f19) []) [(0,.agg [.vec g 3 (l.map Bk.a),.vec h 2 (s.map Sb.a)]),(1,.int .i64 m)] []) Q
def svFna_at (g:Bool) (l:List Bk) (h:Bool) (s:List Sb) (m i:Int) (Q:AV -> Heap -> Prop):Prop:=Wp M1 (.run fi19 (atC (cd Try.f19) [1,0,1,0,0]) [(1,.int .i64 m),(2,.ptr 0 0 0 0),(5,.int .i64 i)] [⟨[.agg [.vec g 3 (l.map Bk.a),.vec h 2 (s.map Sb.a)]],2,0,false,false⟩]) Q
theorem call19 {args:List AV} {d:AV} (h:wc M1 fi19 Try.f19 args d):Ev M1 (.pure 19 args) d []:=pcl _ _ (by kernel_rfl) h
theorem svFn (g:Bool) (l:List Bk) (h:Bool) (s:List Sb) (m:Int)  (dq:AV) (H :
  svFna_at (g) (l) (h) (s) (m) (0) (PureQ dq)) :
 svFn_at g l h s m (PureQ dq):=by
 unfold svFn_at
 exact path_wp (G:=given kp19 [] []) 1000 [] ⟨(atC (cd Try.f19) [1,0,1,0,0]),[(1,vi m),(2,AV.ptr 0 0 0 0),(5,vi 0)],[⟨[ag [AV.vec g 3 (List.map Bk.a l),AV.vec h 2 (List.map Sb.a s)]],2,0,false,false⟩],_,[],_⟩ (by kernel_rfl) b0 q0 c0 (H)
theorem svFna (g:Bool) (l:List Bk) (h:Bool) (s:List Sb) (m i:Int)  (dq:AV) (H :
  ((i < (↑s.length:Int)) -> (0 <= i) /\
   (i.toNat < s.length) /\
   (((s.getD i.toNat default).n = m) -> vi i = dq) /\
   (¬((s.getD i.toNat default).n = m) -> (-9223372036854775808 <= i + 1 /\ i + 1 <= 9223372036854775807) /\
    svFna_at (g) (l) (h) (s) (m) (i + 1) (PureQ dq))) /\
  (¬(i < (↑s.length:Int)) -> vi (-1) = dq)) :
 svFna_at g l h s m i (PureQ dq):=by
 unfold svFna_at
 have w1:(List.map Sb.a s).length = s.length:=List.length_map ..
 have i2:(decide (i < (↑(List.map Sb.a s).length:Int))) = true ↔ (i < (↑s.length:Int)):=(by (try rw [w1]);all_goals exact i_dec)
 rcases xm (i < (↑s.length:Int)) with d3 | d3
 ·have H:=H.1 d3
  obtain ⟨k5,H⟩:=H
  have i6:(decide (i.toNat < (List.map Sb.a s).length)) = true ↔ (i.toNat < s.length):=(by (try rw [w1]);all_goals exact i_dec)
  obtain ⟨k7,H⟩:=H
  refine path_wp (G:=given kp19 [(4,5,.elem (ag [vi (s.getD i.toNat default).n,AV.vec (s.getD i.toNat default).2 3 (List.map Bk.a (s.getD i.toNat default).3)]))] []) 9 [true] ⟨(atC (cd Try.f19) [1,0,1,0,0,1,0,0,1]),[(1,vi m),(2,AV.ptr 0 0 0 0),(5,vi i),(20,vb ((s.getD i.toNat default).n == m))],[⟨[ag [AV.vec g 3 (List.map Bk.a l),AV.vec h 2 (List.map Sb.a s)]],2,0,false,false⟩],_,[((List.map Sb.a s).get?Internal i.toNat = some (ag [vi (s.getD i.toNat default).n,AV.vec (s.getD i.toNat default).2 3 (List.map Bk.a (s.getD i.toNat default).3)]))],_⟩ (by kernel_rfl) (bc rfl (bc (beq_t (i2.2 d3)) (bc rfl (bc (i_dec.2 k5) (bc (i6.2 k7) b0))))) (qc (el_map k7) q0) c0 ?_
  rcases xm ((s.getD i.toNat default).n = m) with d9 | d9
  ·have H:=H.1 d9
   exact path_re (G:=given kp19 [] []) 1000 [true] (vi i) (by kernel_rfl) (bc (beq_t (i_eq.2 d9)) b0) q0 c0 H
  ·have H:=H.2 d9
   obtain ⟨k10,H⟩:=H
   have w11:wi (i + 1) = i + 1:=wI64 k10
   exact path_wp (G:=given kp19 [] []) 1000 [false] ⟨(atC (cd Try.f19) [1,0,1,0,0]),[(1,vi m),(2,AV.ptr 0 0 0 0),(5,vi (wi (i + 1)))],[⟨[ag [AV.vec g 3 (List.map Bk.a l),AV.vec h 2 (List.map Sb.a s)]],2,0,false,false⟩],_,[],_⟩ (by kernel_rfl) (bc (beq_f (fun h => d9 (i_eq.1 h))) b0) q0 c0 (by (try rw [w11]);all_goals exact H)
 ·have H:=H.2 d3
  exact path_re (G:=given kp19 [] []) 1000 [false] (vi (-1)) (by kernel_rfl) (bc rfl (bc (beq_f (fun h => d3 (i2.1 h))) b0)) q0 c0 H
end Go.Av

namespace Go.Av
open Go.Proofs
namespace Sp
def isN (m:Int) (x:Sb):Bool:=decide (x.n = m)
def fnd (s:List Sb) (m:Int):Int:=idxP (isN m) s
end Sp
theorem svFna_loop {g h:Bool} {l:List Bk} {s:List Sb} {m:Int} {dq:AV} (hl:s.length <= 1000000):∀ (c i:Nat),i + c = s.length -> AV.int .i64 (Sp.idxF (Sp.isN m) (s.drop i) i) = dq -> svFna_at g l h s m i (PureQ dq):=by
 intro c
 induction c with
 | zero =>
  intro i hi hq
  rw [List.drop_eq_nil_of_le (by omega)] at hq
  exact svFna _ _ _ _ _ _ _ ⟨fun h => by omega,fun _ => hq⟩
 | succ c ih =>
  intro i hi hq
  rw [drop_getD (show i < s.length by omega),Sp.idxF] at hq
  refine svFna _ _ _ _ _ _ _ ⟨fun _ => ?_,fun h => by omega⟩
  rw [Int.toNat_natCast]
  refine ⟨by omega,by omega,fun h => ?_,fun h => ⟨by omega,ih (i + 1) (by omega) ?_⟩⟩
  ·rw [if_pos (show Sp.isN m (s.getD i default) = true from decide_eq_true h)] at hq
   exact hq
  ·rw [if_neg (show ¬Sp.isN m (s.getD i default) = true from by rw [show Sp.isN m (s.getD i default) = false from decide_eq_false h];simp)] at hq
   exact hq
theorem ev19 (g h:Bool) (l:List Bk) (s:List Sb) (m:Int) (hl:s.length <= 1000000):Ev M1 (.pure 19 [pgA g h l s,.int .i64 m]) (.int .i64 (Sp.fnd s m)) []:=
 call19 (svFn g l h s m _ (svFna_loop hl s.length 0 (by omega) rfl))
end Go.Av

namespace Go.Av
open Go.Proofs
set_option maxRecDepth 100000
end Go.Av

namespace Go.Av
open Go.Proofs
namespace Sp
def ordM (l:List Bk):Bool:=ordB l []
end Sp
theorem ordB_eq (l:List Bk) (s:List Sb):Sp.ordB l s = (Sp.ordM l && !(Sp.anyP Sp.sMk s)):=by
 unfold Sp.ordM Sp.ordB
 simp [Sp.anyP,Bool.and_assoc]
theorem idxF_at {α:Type} [Inhabited α] (p:α -> Bool):∀ (r:List α) (k:Nat) (i:Int),(∀ j,j < k -> p (r.getD j default) = false) -> k < r.length -> p (r.getD k default) = true -> Sp.idxF p r i = i + k
 | [],k,i,_,h,_ => by simp at h
 | b :: r,0,i,_,_,h => by
  have h0:p b = true:=h
  rw [Sp.idxF,if_pos h0];omega
 | b :: r,k + 1,i,h,hl,hk => by
  have h0:p b = false:=h 0 (by omega)
  rw [Sp.idxF,if_neg (by simp [h0]),idxF_at p r k (i + 1) (fun j hj => by simpa using h (j + 1) (by omega)) (by simp at hl;omega) (by simpa using hk)]
  omega
theorem any_at {α:Type} [Inhabited α] {p:α -> Bool} {r:List α} {i:Nat} (hi:i < r.length) (h:p (r.getD i default) = true):r.any p = true:=List.any_eq_true.2 ⟨_,getD_mem hi,h⟩
theorem any_no {α:Type} [Inhabited α] {p:α -> Bool} {r:List α} (h:∀ j,j < r.length -> p (r.getD j default) = false):r.any p = false:=by
 rw [List.any_eq_false]
 intro x hx
 obtain ⟨j,hj,rfl⟩:=List.getElem_of_mem hx
 have:=h j hj
 rw [List.getD_eq_getElem?_getD,List.getElem?_eq_getElem hj] at this
 simpa using this
theorem getD_take' {α:Type} [Inhabited α] {r:List α} {k j:Nat} (h:j < k):(r.take k).getD j default = r.getD j default:=by
 rw [List.getD_eq_getElem?_getD,List.getD_eq_getElem?_getD,List.getElem?_take_of_lt h]
theorem ordM_last {m:List Bk} {n:Nat} (h:m.length = n + 1) (hb:Sp.backB (m.getD n default).ws = true \/ Sp.letB (m.getD n default).ws 79 = true):Sp.ordM m = false:=by
 unfold Sp.ordM Sp.ordB Sp.lastB
 rw [h,Nat.add_sub_cancel]
 revert hb;generalize m.getD n default = b;intro hb
 rcases hb with hb | hb <;> simp [hb]
theorem ordM_in {m:List Bk} {n i:Nat} (h:m.length = n + 1) (hi:i < n) (hb:Sp.pMk (m.getD i default) = true):Sp.ordM m = false:=by
 unfold Sp.ordM Sp.ordB Sp.lastB
 rw [h,Nat.add_sub_cancel]
 have:Sp.anyP Sp.pMk (m.take n) = true:=any_at (i:=i) (by simp;omega) (by rw [getD_take' hi];exact hb)
 simp [this]
theorem ordM_ok {m:List Bk} {n:Nat} (h:m.length = n + 1) (he:Sp.endB (m.getD n default).ws = true) (hb:Sp.backB (m.getD n default).ws = false) (ho:Sp.letB (m.getD n default).ws 79 = false) (ha:∀ j,j < n -> Sp.pMk (m.getD j default) = false):Sp.ordM m = true:=by
 unfold Sp.ordM Sp.ordB Sp.lastB
 rw [h,Nat.add_sub_cancel]
 have:Sp.anyP Sp.pMk (m.take n) = false:=any_no fun j hj => by
  simp at hj
  rw [getD_take' (by omega)];exact ha j (by omega)
 rw [this,he,hb,ho,decide_eq_true (by omega)];rfl
theorem split_at {l:List Bk} {i:Nat} (hi:i < l.length) (h1:∀ j,j < i -> Sp.pEnd (l.getD j default) = false) (h2:Sp.pEnd (l.getD i default) = true):Sp.split l = Sp.spl (l.take (i + 1)) (l.length + 1) (l.drop (i + 1)) []:=by
 unfold Sp.split Sp.idxP
 rw [idxF_at _ _ i 0 h1 hi h2,if_neg (by omega)]
 congr <;> omega
def Bk.bg (b:Bk):Bool:=Sp.bgB b.sk b.ws b.cm
theorem spl_next {l:List Bk} {f:Nat} {r:List Bk} {s:List Sb} {k:Nat} (hk:k < r.length) (hb:(r.getD 0 default).bg = true) (hs:∀ j,j < k -> Sp.pStop (r.getD j default) = false) (hm:Sp.pStop (r.getD k default) = true):Sp.spl l (f + 1) r s = Sp.spl l f (r.drop (k + 1)) (s ++ [⟨Sp.bgV (r.getD 0 default).sk (r.getD 0 default).ws (r.getD 0 default).cm,false,(r.take k).drop 1⟩]):=by
 have e:Sp.idxP Sp.pStop r = (k:Int):=by unfold Sp.idxP;rw [idxF_at _ _ k 0 hs hk hm];omega
 rw [Sp.spl,if_neg (by omega),e,if_pos ⟨hb,by omega⟩,Int.toNat_natCast,show ((k:Int) + 1).toNat = k + 1 by omega]
theorem bg_iff (b:Bk):b.bg = true ↔ (Sp.onB b.sk b.ws b.cm 79 = true /\ ¬Sp.whR (b.ws.getD 0 default).v = 0):=by
 unfold Bk.bg Sp.bgB Sp.onB Sp.plB
 simp only [decide_eq_true_eq]
 constructor
 ·intro h
  split at h
  ·rename_i k
   refine ⟨⟨k.1.1,k.2,k.1.2⟩,?_⟩
   unfold Sp.whR
   rw [if_pos h]
   unfold Sp.whB at h
   unfold Sp.whV
   have:=of_decide_eq_true h
   omega
  ·cases h
 ·intro ⟨⟨h1,h2,h3⟩,h4⟩
  rw [if_pos ⟨⟨h1,h3⟩,h2⟩]
  unfold Sp.whR at h4
  split at h4
  ·assumption
  ·exact absurd rfl h4
theorem bg_val {b:Bk} (h:b.bg = true):Sp.bgV b.sk b.ws b.cm = Sp.whR (b.ws.getD 0 default).v:=by
 unfold Bk.bg Sp.bgB at h
 unfold Sp.bgV Sp.whR
 split at h
 ·rename_i k
  rw [if_pos k,if_pos h]
 ·cases h
theorem unmk_stop {b:Bk} (h:Sp.pMk b = false):Sp.pStop b = false:=by
 unfold Sp.pMk Sp.mkB at h
 unfold Sp.pStop
 cases hb:Sp.backB b.ws with
 | false => simp
 | true => rw [hb] at h;simp at h
theorem sIs_isN (m:Int):Sp.sIs m = Sp.isN m:=by
 funext x
 unfold Sp.sIs Sp.isN Sp.eqI
 rw [show (m == x.n) = decide (m = x.n) from rfl]
 exact decide_eq_decide.2 ⟨Eq.symm,Eq.symm⟩
theorem any_congr' {α:Type} {l:List α} {p q:α -> Bool} (h:∀ x ∈ l,p x = q x):l.any p = l.any q:=by
 induction l with
 | nil => rfl
 | cons a l ih => rw [List.any_cons,List.any_cons,h a (by simp),ih fun x hx => h x (by simp [hx])]
end Go.Av

namespace Go.Av
open Go.RowKit
end Go.Av

namespace Go.Av
open Go.Proofs
end Go.Av

namespace Go.Av
open Go.RowKit
theorem wp_vnil {M:Mach} (hm:(M.P ()).follows .mixedOrders = true) {fi:Fi} {k:List Item} {env:Vars} {L:Heap} {Q:AV -> Heap -> Prop} {es:Nat} (h:Wp M (.run fi k env L) fun v L => Q v L \/ (v = .vnil /\ Q (.vec true es []) L)):Wp M (.run fi k env L) Q:=by
 refine .sem fun S b a cs fn h1 h2 h3 h4 h5 h6 h7 h8 => ?_
 obtain ⟨a',todo',Ds,w',β',v,L1,q1,q2,q3,q4,q5,q6,q7,q8,q9⟩:=(wp_sound hm (c:=.run fi k _ _) h:RunSnd M fi k _ _ _) S b a cs fn h1 h2 h3 h4 h5 h6 h7 h8
 rcases q1 with q1 | ⟨rfl,hQ⟩
 ·exact ⟨a',todo',Ds,w',β',v,L1,q1,q2,q3,q4,q5,q6,q7,q8,q9⟩
 ·refine ⟨a',todo',Ds,w',β',.vec true es [],L1,hQ,q2,q3,q4,q5,q6,fun w'' hn => ?_,q8,q9⟩
  obtain ⟨cv,c1,c2⟩:=q7 w'' hn
  refine ⟨cv,c1,?_⟩
  cases c2 with
  | data _ _ h => cases h;exact .data _ _ (.vecE true es none 0 fun _ => rfl)
end Go.Av

namespace Go.Av
open Go.Proofs
noncomputable def M2:Mach:=⟨fun _ => Try.prog,fun f => [22].contains f || M1.inl f⟩
theorem hm2:(M2.P ()).follows .mixedOrders = true:=by kernel_rfl
theorem ev_M2 {f:FuncId} {args:List AV} {d:AV} (h:Ev M2 (.pure f args) d []):Ev M1 (.pure f args) d []:=.sem (wp_sound hm2 (c:=.pure f args) h)
theorem evo_M2 {f:FuncId} {args:List AV} {L L':Heap} {d:AV} (h:Ev M1 (.own f args L) d L'):Ev M2 (.own f args L) d L':=.sem (wp_sound hm1 (c:=.own f args L) h)
theorem evo22_a (g:Bool) (l:List Bk) (h:l.length <= 1000000 /\ 0 < l.length):Ev M2 (.own 22 [bsA g l] []) (.row 0 0) [⟨l.map Bk.a,3,0,false,true⟩]:=evo_M2 (evf22 g l h)
theorem evo22_b (g:Bool):Ev M2 (.own 22 [.vec g 3 []] []) (.vec true 3 []) []:=by
 refine evo_M2 (owncall22 (wp_vnil (es:=3) hm1 ?_))
 exact svCn g _ ⟨.inr ⟨rfl,rfl,rfl⟩,.inl ⟨rfl,rfl⟩⟩
end Go.Av

namespace Go.Av
open Go.Proofs
set_option maxRecDepth 100000
def fi17:Fi:=⟨30,[.cell 2 40]⟩
def kp17:List (Nat × List Nat):=[(0,[1,2]),(1,[1,2,3]),(2,[2,3,11,12,13]),(3,[2,3,11,12,13,14]),(4,[2,3,5,11,12,13]),(5,[2,3,11,12,13]),(6,[2,3,11,12,13]),(7,[2])]
def fi37:Fi:=⟨44,[.tmp 2]⟩
def kp37:List (Nat × List Nat):=[(0,[1]),(1,[1,3]),(2,[1,3,4]),(3,[1,3,4,13]),(4,[1,3,4]),(5,[1,3,4]),(6,[1,3,4]),(7,[1,3,4]),(8,[2])]
def fi44:Fi:=⟨47,[.tmp 2]⟩
def kp44:List (Nat × List Nat):=[(0,[1]),(1,[1,13]),(2,[2]),(3,[1,3]),(4,[1,3,18]),(5,[1,3]),(6,[1,3,46]),(7,[2]),(8,[2])]
def svOw_at (g:Bool) (l:List Bk) (h:Bool) (s:List Sb) (Q:AV -> Heap -> Prop):Prop:=Wp M1 (.run fi17 (atC (cd Try.f17) []) [(0,.agg [.vec g 3 (l.map Bk.a),.vec h 2 (s.map Sb.a)])] []) Q
def svOwz_at (l:List Bk) (h:Bool) (s:List Sb) (n i:Int) (Q:AV -> Heap -> Prop):Prop:=Wp M1 (.run fi17 (atC (cd Try.f17) [1,1,0,1,0,0]) [(2,.ptr 0 0 0 0),(3,.ptr 1 0 0 0),(11,.vec h 2 (s.map Sb.a)),(12,.int .i64 n),(13,.int .i64 i)] [⟨[.agg [.vnil,.vnil]],2,0,false,false⟩,⟨[.agg [.vec false 3 (l.map Bk.a),.vnil]],2,0,false,false⟩]) Q
def svOwa_at (l:List Bk) (h:Bool) (s:List Sb) (n i:Int) (o:List Sb) (v:Nat) (Q:AV -> Heap -> Prop):Prop:=Wp M1 (.run fi17 (atC (cd Try.f17) [1,1,0,1,0,0]) [(2,.ptr 0 0 0 0),(3,.ptr 1 0 0 0),(11,.vec h 2 (s.map Sb.a)),(12,.int .i64 n),(13,.int .i64 i)] [⟨[.agg [.vnil,.vnil]],2,0,false,false⟩,⟨[.agg [.vec false 3 (l.map Bk.a),.row 2 v]],2,0,false,false⟩,⟨o.map Sb.a,2,v,false,true⟩]) Q
def svFw_at (g:Bool) (l:List Bk) (h:Bool) (s:List Sb) (Q:AV -> Heap -> Prop):Prop:=Wp M1 (.run fi44 (atC (cd Try.f44) []) [(0,.agg [.vec g 3 (l.map Bk.a),.vec h 2 (s.map Sb.a)])] []) Q
def svFwa_at (g:Bool) (l:List Bk) (h:Bool) (s:List Sb) (i:Int) (Q:AV -> Heap -> Prop):Prop:=Wp M1 (.run fi44 (atC (cd Try.f44) [1,1,0,1,0,0]) [(1,.ptr 0 0 0 0),(3,.int .i64 i)] [⟨[.agg [.vec g 3 (l.map Bk.a),.vec h 2 (s.map Sb.a)]],2,0,false,false⟩]) Q
def svKc_at (g:Bool) (y:Bk) (l:List Bk) (h:Bool) (s:List Sb) (Q:AV -> Heap -> Prop):Prop:=Wp M1 (.run fi37 (atC (cd Try.f37) []) [(0,.agg [.vec g 3 ((y :: l).map Bk.a),.vec h 2 (s.map Sb.a)])] []) Q
def svKe_at (g:Bool) (h:Bool) (s:List Sb) (Q:AV -> Heap -> Prop):Prop:=Wp M1 (.run fi37 (atC (cd Try.f37) []) [(0,.agg [.vec g 3 [],.vec h 2 (s.map Sb.a)])] []) Q
def svKz_at (g:Bool) (h:Bool) (s:List Sb) (i:Int) (Q:AV -> Heap -> Prop):Prop:=Wp M1 (.run fi37 (atC (cd Try.f37) [1,1,0,1,0,0]) [(1,.ptr 0 0 0 0),(3,.vec true 3 []),(4,.int .i64 i)] [⟨[.agg [.vec g 3 [],.vec h 2 (s.map Sb.a)]],2,0,false,false⟩]) Q
def svKa_at (g:Bool) (l:List Bk) (h:Bool) (s:List Sb) (i:Int) (o:List Bk) (v:Nat) (Q:AV -> Heap -> Prop):Prop:=Wp M1 (.run fi37 (atC (cd Try.f37) [1,1,0,1,0,0]) [(1,.ptr 0 0 0 0),(3,.row 1 v),(4,.int .i64 i)] [⟨[.agg [.vec g 3 (l.map Bk.a),.vec h 2 (s.map Sb.a)]],2,0,false,false⟩,⟨o.map Bk.a,3,v,false,true⟩]) Q
theorem call17 {args:List AV} {d:AV} (h:wc M1 fi17 Try.f17 args d):Ev M1 (.pure 17 args) d []:=pcl _ _ (by kernel_rfl) h
theorem call37 {args:List AV} {d:AV} (h:wc M1 fi37 Try.f37 args d):Ev M1 (.pure 37 args) d []:=pcl _ _ (by kernel_rfl) h
theorem call44 {args:List AV} {d:AV} (h:wc M1 fi44 Try.f44 args d):Ev M1 (.pure 44 args) d []:=pcl _ _ (by kernel_rfl) h
theorem svOw (g:Bool) (l:List Bk) (h:Bool) (s:List Sb)  (dq:AV) (H :
  (Sp.few6 l.length) /\
  svOwz_at (l) (h) (s) ((↑s.length:Int)) (0) (PureQ dq)) :
 svOw_at g l h s (PureQ dq):=by
 unfold svOw_at
 obtain ⟨k1,H⟩:=H
 have w2:(List.map Sb.a s).length = s.length:=List.length_map ..
 exact path_wp (G:=given kp17 [(1,2,.call (AV.vec false 3 (List.map Bk.a l)) none)] []) 1000 [] ⟨(atC (cd Try.f17) [1,1,0,1,0,0]),[(2,AV.ptr 1 0 0 0),(3,AV.ptr 2 0 0 0),(11,AV.vec h 2 (List.map Sb.a s)),(12,vi (↑(List.map Sb.a s).length:Int)),(13,vi 0)],[⟨[ag [AV.vec g 3 (List.map Bk.a l),AV.vec h 2 (List.map Sb.a s)]],2,0,false,false⟩,⟨[ag [AV.vnil,AV.vnil]],2,0,false,false⟩,⟨[ag [AV.vec false 3 (List.map Bk.a l),AV.vnil]],2,0,false,false⟩],_,[],_⟩ (by kernel_rfl) (bc rfl (bc rfl (bc rfl b0))) q0 (ce (@ev22 (g) (l) k1) c0) (by (try rw [w2]);all_goals exact wp_narrow [1,2] (by kernel_rfl) H)
theorem svOwz (l:List Bk) (h:Bool) (s:List Sb) (n i:Int)  (dq:AV) (H :
  ((i < n) -> (0 <= i) /\
   (i.toNat < s.length) /\
   (Sp.few6 (s.getD i.toNat default).3.length) /\
   (-9223372036854775808 <= i + 1 /\ i + 1 <= 9223372036854775807) /\
   svOwa_at (l) (h) (s) (n) (i + 1) ([{ n:=(s.getD i.toNat default).n,f:=false,bl:=(s.getD i.toNat default).3 }]) (0) (PureQ dq)) /\
  (¬(i < n) -> Weak (ag [AV.vec false 3 (List.map Bk.a l),AV.vnil]) dq)) :
 svOwz_at l h s n i (PureQ dq):=by
 unfold svOwz_at
 rcases xm (i < n) with d2 | d2
 ·have H:=H.1 d2
  obtain ⟨k4,H⟩:=H
  have w5:(List.map Sb.a s).length = s.length:=List.length_map ..
  have i6:(decide (i.toNat < (List.map Sb.a s).length)) = true ↔ (i.toNat < s.length):=(by (try rw [w5]);all_goals exact i_dec)
  obtain ⟨k7,H⟩:=H
  obtain ⟨k8,H⟩:=H
  obtain ⟨k9,H⟩:=H
  have w10:wi (i + 1) = i + 1:=wI64 k9
  have w11:[ag [vi (s.getD i.toNat default).n,AV.vec false 3 (List.map Bk.a (s.getD i.toNat default).3)]] = List.map Sb.a [{ n:=(s.getD i.toNat default).n,f:=false,bl:=(s.getD i.toNat default).3 }]:=rfl
  exact path_wp (G:=given kp17 [(4,1,.elem (ag [vi (s.getD i.toNat default).n,AV.vec (s.getD i.toNat default).2 3 (List.map Bk.a (s.getD i.toNat default).3)])),(5,6,.call (AV.vec false 3 (List.map Bk.a (s.getD i.toNat default).3)) none)] []) 1000 [true] ⟨(atC (cd Try.f17) [1,1,0,1,0,0]),[(2,AV.ptr 0 0 0 0),(3,AV.ptr 1 0 0 0),(11,AV.vec h 2 (List.map Sb.a s)),(12,vi n),(13,vi (wi (i + 1)))],[⟨[ag [AV.vnil,AV.vnil]],2,0,false,false⟩,⟨[ag [AV.vec false 3 (List.map Bk.a l),AV.row 3 0]],2,0,false,false⟩,⟨[ag [vi (s.getD i.toNat default).n,AV.vec (s.getD i.toNat default).2 3 (List.map Bk.a (s.getD i.toNat default).3)]],2,0,false,false⟩,⟨[ag [vi (s.getD i.toNat default).n,AV.vec false 3 (List.map Bk.a (s.getD i.toNat default).3)]],2,0,false,true⟩],_,[((List.map Sb.a s).get?Internal i.toNat = some (ag [vi (s.getD i.toNat default).n,AV.vec (s.getD i.toNat default).2 3 (List.map Bk.a (s.getD i.toNat default).3)]))],_⟩ (by kernel_rfl) (bc (beq_t (i_dec.2 d2)) (bc (i_dec.2 k4) (bc (i6.2 k7) (bc rfl (bc rfl (bc rfl (bc rfl (bc rfl (bc rfl b0))))))))) (qc (el_map k7) q0) (ce (@ev22 ((s.getD i.toNat default).2) ((s.getD i.toNat default).3) k8) c0) (by (try rw [w10]);(try rw [w11]);all_goals exact wp_narrow [0,1,3] (by kernel_rfl) H)
 ·have H:=H.2 d2
  exact path_rq (G:=given kp17 [] []) 1000 [false] (ag [AV.vec false 3 (List.map Bk.a l),AV.vnil]) (by kernel_rfl) (bc (beq_f (fun h => d2 (i_dec.1 h))) (bc rfl (bc rfl b0))) q0 c0 H
theorem svOwa (l:List Bk) (h:Bool) (s:List Sb) (n i:Int) (o:List Sb) (v:Nat)  (dq:AV) (H :
  ((i < n) -> (0 <= i) /\
   (i.toNat < s.length) /\
   (Sp.few6 (s.getD i.toNat default).3.length) /\
   ((o.length + 1) * 32 <= 1099511627776) /\
   (-9223372036854775808 <= i + 1 /\ i + 1 <= 9223372036854775807) /\
   svOwa_at (l) (h) (s) (n) (i + 1) (o ++ [{ n:=(s.getD i.toNat default).n,f:=false,bl:=(s.getD i.toNat default).3 }]) (v + 1) (PureQ dq)) /\
  (¬(i < n) -> Weak (ag [AV.vec false 3 (List.map Bk.a l),AV.vec false 2 (List.map Sb.a o)]) dq)) :
 svOwa_at l h s n i o v (PureQ dq):=by
 unfold svOwa_at
 rcases xm (i < n) with d2 | d2
 ·have H:=H.1 d2
  obtain ⟨k4,H⟩:=H
  have w5:(List.map Sb.a s).length = s.length:=List.length_map ..
  have i6:(decide (i.toNat < (List.map Sb.a s).length)) = true ↔ (i.toNat < s.length):=(by (try rw [w5]);all_goals exact i_dec)
  obtain ⟨k7,H⟩:=H
  obtain ⟨k8,H⟩:=H
  have w9:(List.map Sb.a o).length = o.length:=List.length_map ..
  have i10:(decide (((List.map Sb.a o).length + 1) * 32 <= 1099511627776)) = true ↔ ((o.length + 1) * 32 <= 1099511627776):=(by (try rw [w9]);all_goals exact i_dec)
  obtain ⟨k11,H⟩:=H
  have w12:List.map Sb.a o ++ [ag [vi (s.getD i.toNat default).n,AV.vec false 3 (List.map Bk.a (s.getD i.toNat default).3)]] = List.map Sb.a (o ++ [{ n:=(s.getD i.toNat default).n,f:=false,bl:=(s.getD i.toNat default).3 }]):=(lm_app rfl rfl)
  obtain ⟨k13,H⟩:=H
  have w14:wi (i + 1) = i + 1:=wI64 k13
  exact path_wp (G:=given kp17 [(4,1,.elem (ag [vi (s.getD i.toNat default).n,AV.vec (s.getD i.toNat default).2 3 (List.map Bk.a (s.getD i.toNat default).3)])),(5,6,.call (AV.vec false 3 (List.map Bk.a (s.getD i.toNat default).3)) none)] []) 1000 [true] ⟨(atC (cd Try.f17) [1,1,0,1,0,0]),[(2,AV.ptr 0 0 0 0),(3,AV.ptr 1 0 0 0),(11,AV.vec h 2 (List.map Sb.a s)),(12,vi n),(13,vi (wi (i + 1)))],[⟨[ag [AV.vnil,AV.vnil]],2,0,false,false⟩,⟨[ag [AV.vec false 3 (List.map Bk.a l),AV.row 2 (v + 1)]],2,0,false,false⟩,⟨List.map Sb.a o ++ [ag [vi (s.getD i.toNat default).n,AV.vec false 3 (List.map Bk.a (s.getD i.toNat default).3)]],2,v + 1,false,true⟩,⟨[ag [vi (s.getD i.toNat default).n,AV.vec (s.getD i.toNat default).2 3 (List.map Bk.a (s.getD i.toNat default).3)]],2,0,false,false⟩],[(decide (i < n)) == true,decide (0 <= i),decide (i.toNat < (List.map Sb.a s).length),true,true,true,true,v == v,decide (((List.map Sb.a o).length + 1) * 32 <= 1099511627776),true],[((List.map Sb.a s).get?Internal i.toNat = some (ag [vi (s.getD i.toNat default).n,AV.vec (s.getD i.toNat default).2 3 (List.map Bk.a (s.getD i.toNat default).3)]))],_⟩ (by kernel_rfl) (bc (beq_t (i_dec.2 d2)) (bc (i_dec.2 k4) (bc (i6.2 k7) (bc rfl (bc rfl (bc rfl (bc rfl (bc (beq_self_eq_true _) (bc (i10.2 k11) (bc rfl b0)))))))))) (qc (el_map k7) q0) (ce (@ev22 ((s.getD i.toNat default).2) ((s.getD i.toNat default).3) k8) c0) (by (try rw [w12]);(try rw [w14]);all_goals exact wp_narrow [0,1,2] (by kernel_rfl) H)
 ·have H:=H.2 d2
  exact path_ret (G:=given kp17 [] []) 1000 [false] (k:=((atC (cd Try.f17) [1,1,1,1])).tail) (env':=[(2,AV.ptr 0 0 0 0)]) (L':=[⟨[ag [AV.vec false 3 (List.map Bk.a l),AV.row 2 v]],2,0,false,false⟩,⟨[ag [AV.vec false 3 (List.map Bk.a l),AV.row 2 v]],2,0,false,false⟩,⟨List.map Sb.a o,2,v,false,true⟩]) (asm:=[(decide (i < n)) == false,true,true]) (eqs:=[]) (calls:=[]) (ag [AV.vec false 3 (List.map Bk.a l),AV.row 2 v]) (by kernel_rfl) (by kernel_rfl) (allB_cons (beq_f (fun h => d2 (i_dec.1 h))) (allB_cons rfl (allB_cons rfl allB_nil))) allP_nil allC_nil (pq_weak (d:=(ag [AV.vec false 3 (List.map Bk.a l),AV.vec false 2 (List.map Sb.a o)])) (bs:=[v == v]) (by kernel_rfl) (by kernel_rfl) (allB_cons (beq_self_eq_true _) allB_nil) (by kernel_rfl) H)
theorem svFw (g:Bool) (l:List Bk) (h:Bool) (s:List Sb)  (dq:AV) (H :
  ((¬((↑s.length:Int) > 12)) -> (Sp.mO 40)) /\
  ((((↑s.length:Int) > 12) \/ (¬(Sp.fewB l 40 = true))) -> vb false = dq) /\
  (¬(((↑s.length:Int) > 12) \/ (¬(Sp.fewB l 40 = true))) -> svFwa_at (g) (l) (h) (s) (0) (PureQ dq))) :
 svFw_at g l h s (PureQ dq):=by
 unfold svFw_at
 have w1:(List.map Sb.a s).length = s.length:=List.length_map ..
 have i2:(decide ((↑(List.map Sb.a s).length:Int) > 12) == false && true && true) = true ↔ (¬((↑s.length:Int) > 12)):=(by (try rw [w1]);all_goals exact (i_at (i_at (i_bf i_dec))))
 obtain ⟨k3,H⟩:=H
 have i4:(bif decide ((↑(List.map Sb.a s).length:Int) > 12) then true else !Sp.fewB l 40) = true ↔ (((↑s.length:Int) > 12) \/ (¬(Sp.fewB l 40 = true))):=(by (try rw [w1]);all_goals exact (i_bor i_dec (i_not (i_var _))))
 refine path_wp (G:=given kp44 [(1,7,.call (vb (Sp.fewB l 40)) none)] []) 5 [] ⟨(atC (cd Try.f44) [1,0,1]),[(1,AV.ptr 0 0 0 0),(13,vb (bif decide ((↑(List.map Sb.a s).length:Int) > 12) then true else !Sp.fewB l 40))],[⟨[ag [AV.vec g 3 (List.map Bk.a l),AV.vec h 2 (List.map Sb.a s)]],2,0,false,false⟩],[true,!(decide ((↑(List.map Sb.a s).length:Int) > 12) == false && true) || true],[],[⟨decide ((↑(List.map Sb.a s).length:Int) > 12) == false && true && true,false,38,[AV.vec g 3 (List.map Bk.a l),vi 40],[],vb (Sp.fewB l 40),[]⟩]⟩ (by kernel_rfl) (bc rfl (bc (Bool.or_true _) b0)) q0 (cc (fun hc => ((@ev38 (g) (l) (40) (k3 (i2.1 hc))):Ev M1 (Conf.pure 38 [AV.vec g 3 (List.map Bk.a l),vi 40]) (vb (Sp.fewB l 40)) [])) c0) ?_
 rcases xm (((↑s.length:Int) > 12) \/ (¬(Sp.fewB l 40 = true))) with d5 | d5
 ·have H:=H.1 d5
  exact path_re (G:=given kp44 [] []) 1000 [true] (vb false) (by kernel_rfl) (bc (beq_t (i4.2 d5)) b0) q0 c0 H
 ·have H:=H.2 d5
  exact path_wp (G:=given kp44 [] []) 1000 [false] ⟨(atC (cd Try.f44) [1,1,0,1,0,0]),[(1,AV.ptr 0 0 0 0),(3,vi 0)],[⟨[ag [AV.vec g 3 (List.map Bk.a l),AV.vec h 2 (List.map Sb.a s)]],2,0,false,false⟩],_,[],_⟩ (by kernel_rfl) (bc (beq_f (fun h => d5 (i4.1 h))) b0) q0 c0 (H)
noncomputable abbrev zSpY1 (s:List Sb) (i:Int):=bif !Sp.fewB (s.getD i.toNat default).3 40 then true else decide ((s.getD i.toNat default).n > 1000000)
noncomputable abbrev zSpY2 (s:List Sb) (i:Int):=bif bif !Sp.fewB (s.getD i.toNat default).3 40 then true else decide ((s.getD i.toNat default).n > 1000000) then true else decide ((s.getD i.toNat default).n < -1000000)
theorem svFwa (g:Bool) (l:List Bk) (h:Bool) (s:List Sb) (i:Int)  (dq:AV) (H :
  ((i < (↑s.length:Int)) -> (Sp.mO 40) /\
   (0 <= i) /\
   (i.toNat < s.length) /\
   ((((¬(Sp.fewB (s.getD i.toNat default).3 40 = true)) \/ ((s.getD i.toNat default).n > 1000000)) \/ ((s.getD i.toNat default).n < -1000000)) -> vb false = dq) /\
   (¬(((¬(Sp.fewB (s.getD i.toNat default).3 40 = true)) \/ ((s.getD i.toNat default).n > 1000000)) \/ ((s.getD i.toNat default).n < -1000000)) -> (-9223372036854775808 <= i + 1 /\ i + 1 <= 9223372036854775807) /\
    svFwa_at (g) (l) (h) (s) (i + 1) (PureQ dq))) /\
  (¬(i < (↑s.length:Int)) -> vb true = dq)) :
 svFwa_at g l h s i (PureQ dq):=by
 unfold svFwa_at
 have w1:(List.map Sb.a s).length = s.length:=List.length_map ..
 have i2:(decide (i < (↑(List.map Sb.a s).length:Int))) = true ↔ (i < (↑s.length:Int)):=(by (try rw [w1]);all_goals exact i_dec)
 rcases xm (i < (↑s.length:Int)) with d3 | d3
 ·have H:=H.1 d3
  obtain ⟨k4,H⟩:=H
  obtain ⟨k6,H⟩:=H
  have i7:(decide (i.toNat < (List.map Sb.a s).length)) = true ↔ (i.toNat < s.length):=(by (try rw [w1]);all_goals exact i_dec)
  obtain ⟨k8,H⟩:=H
  have i10:(!((!Sp.fewB (s.getD i.toNat default).3 40) == false && true) || decide (i.toNat < (List.map Sb.a s).length)) = true ↔ ((¬(¬(Sp.fewB (s.getD i.toNat default).3 40 = true))) -> (i.toNat < s.length)):=(by (try rw [w1]);all_goals exact (i_imp (i_at (i_bf (i_not (i_var _)))) i_dec))
  have i12:(!((zSpY1 s i) == false && true) || decide (i.toNat < (List.map Sb.a s).length)) = true ↔ ((¬((¬(Sp.fewB (s.getD i.toNat default).3 40 = true)) \/ ((s.getD i.toNat default).n > 1000000))) -> (i.toNat < s.length)):=(by (try rw [w1]);all_goals exact (i_imp (i_at (i_bf (i_bor (i_not (i_var _)) i_dec))) i_dec))
  refine path_wp (G:=given kp44 [(6,5,.elem (ag [vi (s.getD i.toNat default).n,AV.vec (s.getD i.toNat default).2 3 (List.map Bk.a (s.getD i.toNat default).3)])),(6,6,.call (vb (Sp.fewB (s.getD i.toNat default).3 40)) none),(6,14,.elem (ag [vi (s.getD i.toNat default).n,AV.vec (s.getD i.toNat default).2 3 (List.map Bk.a (s.getD i.toNat default).3)])),(6,23,.elem (ag [vi (s.getD i.toNat default).n,AV.vec (s.getD i.toNat default).2 3 (List.map Bk.a (s.getD i.toNat default).3)]))] []) 9 [true] ⟨(atC (cd Try.f44) [1,1,0,1,0,0,1,0,0,1]),[(1,AV.ptr 0 0 0 0),(3,vi i),(46,vb (zSpY2 s i))],[⟨[ag [AV.vec g 3 (List.map Bk.a l),AV.vec h 2 (List.map Sb.a s)]],2,0,false,false⟩],[true,(decide (i < (↑(List.map Sb.a s).length:Int))) == true,true,decide (0 <= i),decide (i.toNat < (List.map Sb.a s).length),!((!Sp.fewB (s.getD i.toNat default).3 40) == false && true) || true,!((!Sp.fewB (s.getD i.toNat default).3 40) == false && true) || decide (0 <= i),!((!Sp.fewB (s.getD i.toNat default).3 40) == false && true) || decide (i.toNat < (List.map Sb.a s).length),!((zSpY1 s i) == false && true) || true,!((zSpY1 s i) == false && true) || decide (0 <= i),!((zSpY1 s i) == false && true) || decide (i.toNat < (List.map Sb.a s).length)],[((List.map Sb.a s).get?Internal i.toNat = some (ag [vi (s.getD i.toNat default).n,AV.vec (s.getD i.toNat default).2 3 (List.map Bk.a (s.getD i.toNat default).3)])),(((!Sp.fewB (s.getD i.toNat default).3 40) == false && true) = true -> (List.map Sb.a s).get?Internal i.toNat = some (ag [vi (s.getD i.toNat default).n,AV.vec (s.getD i.toNat default).2 3 (List.map Bk.a (s.getD i.toNat default).3)])),(((zSpY1 s i) == false && true) = true -> (List.map Sb.a s).get?Internal i.toNat = some (ag [vi (s.getD i.toNat default).n,AV.vec (s.getD i.toNat default).2 3 (List.map Bk.a (s.getD i.toNat default).3)]))],_⟩ (by kernel_rfl) (bc rfl (bc (beq_t (i2.2 d3)) (bc rfl (bc (i_dec.2 k6) (bc (i7.2 k8) (bc (Bool.or_true _) (bc ((i_imp (i_at (i_bf (i_not (i_var _)))) i_dec).2 (fun _ => k6)) (bc (i10.2 (fun _ => k8)) (bc (Bool.or_true _) (bc ((i_imp (i_at (i_bf (i_bor (i_not (i_var _)) i_dec))) i_dec).2 (fun _ => k6)) (bc (i12.2 (fun _ => k8)) b0))))))))))) (qc (el_map k8) (qc (fun h => el_map k8) (qc (fun h => el_map k8) q0))) (ce (@ev38 ((s.getD i.toNat default).2) ((s.getD i.toNat default).3) (40) k4) c0) ?_
  rcases xm (((¬(Sp.fewB (s.getD i.toNat default).3 40 = true)) \/ ((s.getD i.toNat default).n > 1000000)) \/ ((s.getD i.toNat default).n < -1000000)) with d16 | d16
  ·have H:=H.1 d16
   exact path_re (G:=given kp44 [] []) 1000 [true] (asm:=[(zSpY2 s i) == true]) (vb false) (by kernel_rfl) (bc (beq_t ((i_bor (i_bor (i_not (i_var _)) i_dec) i_dec).2 d16)) b0) q0 c0 H
  ·have H:=H.2 d16
   obtain ⟨k17,H⟩:=H
   have w18:wi (i + 1) = i + 1:=wI64 k17
   exact path_wp (G:=given kp44 [] []) 1000 [false] ⟨(atC (cd Try.f44) [1,1,0,1,0,0]),[(1,AV.ptr 0 0 0 0),(3,vi (wi (i + 1)))],[⟨[ag [AV.vec g 3 (List.map Bk.a l),AV.vec h 2 (List.map Sb.a s)]],2,0,false,false⟩],[(zSpY2 s i) == false],[],_⟩ (by kernel_rfl) (bc (beq_f (fun h => d16 ((i_bor (i_bor (i_not (i_var _)) i_dec) i_dec).1 h))) b0) q0 c0 (by (try rw [w18]);all_goals exact H)
 ·have H:=H.2 d3
  exact path_re (G:=given kp44 [] []) 1000 [false] (vb true) (by kernel_rfl) (bc rfl (bc (beq_f (fun h => d3 (i2.1 h))) b0)) q0 c0 H
theorem svKc (g:Bool) (y:Bk) (l:List Bk) (h:Bool) (s:List Sb)  (dq:AV) (H :
  ((0 + (l.length + 1)) * 48 <= 1099511627776) /\
  Wp M1 (.run fi37 (atC (cd Try.f37) [1,1,0,1,0,0]) [(1,AV.ptr 0 0 0 0),(3,AV.row 1 0),(4,vi 0)] [{ elems:=[ag [AV.vec g 3 (ag [vb y.1,AV.vec y.2 2 (List.map Wo.a y.3),AV.str y.4] :: List.map Bk.a l),AV.vec h 2 (List.map Sb.a s)]],es:=2,ver:=0,frozen:=false,clean:=false },{ elems:=ag [vb y.1,AV.vec y.2 2 (List.map Wo.a y.3),AV.str y.4] :: List.map Bk.a l,es:=3,ver:=0,frozen:=false,clean:=true }]) (PureQ dq)) :
 svKc_at g y l h s (PureQ dq):=by
 unfold svKc_at
 have w1:(List.map Bk.a l).length = l.length:=List.length_map ..
 have i2:(decide ((0 + ((List.map Bk.a l).length + 1)) * 48 <= 1099511627776)) = true ↔ ((0 + (l.length + 1)) * 48 <= 1099511627776):=(by (try rw [w1]);all_goals exact i_dec)
 obtain ⟨k3,H⟩:=H
 exact path_wp (G:=given kp37 [] []) 1000 [] ⟨(atC (cd Try.f37) [1,1,0,1,0,0]),[(1,AV.ptr 0 0 0 0),(3,AV.row 1 0),(4,vi 0)],[⟨[ag [AV.vec g 3 (ag [vb y.1,AV.vec y.2 2 (List.map Wo.a y.3),AV.str y.4] :: List.map Bk.a l),AV.vec h 2 (List.map Sb.a s)]],2,0,false,false⟩,⟨ag [vb y.1,AV.vec y.2 2 (List.map Wo.a y.3),AV.str y.4] :: List.map Bk.a l,3,0,false,true⟩],_,[],_⟩ (by kernel_rfl) (bc rfl (bc (i2.2 k3) b0)) q0 c0 (H)
theorem svKe (g:Bool) (h:Bool) (s:List Sb)  (dq:AV) (H :
  svKz_at (g) (h) (s) (0) (PureQ dq)) :
 svKe_at g h s (PureQ dq):=by
 unfold svKe_at
 exact path_wp (G:=given kp37 [] []) 1000 [] ⟨(atC (cd Try.f37) [1,1,0,1,0,0]),[(1,AV.ptr 0 0 0 0),(3,AV.vec true 3 []),(4,vi 0)],[⟨[ag [AV.vec g 3 [],AV.vec h 2 (List.map Sb.a s)]],2,0,false,false⟩],_,[],_⟩ (by kernel_rfl) (bc rfl b0) q0 c0 (H)
theorem svKz (g:Bool) (h:Bool) (s:List Sb) (i:Int)  (dq:AV) (H :
  ((i < (↑s.length:Int)) -> (0 <= i) /\
   (i.toNat < s.length) /\
   (-9223372036854775808 <= 1000 * (s.getD i.toNat default).n /\ 1000 * (s.getD i.toNat default).n <= 9223372036854775807) /\
   ((1 + (s.getD i.toNat default).3.length) * 48 <= 1099511627776) /\
   (((s.getD i.toNat default).3.length + 1 + 1) * 48 <= 1099511627776) /\
   (-9223372036854775808 <= i + 1 /\ i + 1 <= 9223372036854775807) /\
   Wp M1 (.run fi37 (atC (cd Try.f37) [1,1,0,1,0,0]) [(1,AV.ptr 0 0 0 0),(3,AV.row 1 2),(4,vi (i + 1))] [{ elems:=[ag [AV.vec g 3 [],AV.vec h 2 (List.map Sb.a s)]],es:=2,ver:=0,frozen:=false,clean:=false },{ elems:=ag [vb false,AV.vec true 2 [ag [AV.int IntKind.u8 79,vi (1000 * (s.getD i.toNat default).n)]],AV.str []] :: (List.map Bk.a (s.getD i.toNat default).3 ++ [ag [vb false,AV.vec true 2 [ag [AV.int IntKind.u8 77,vi 99000]],AV.str []]]),es:=3,ver:=2,frozen:=false,clean:=true }]) (PureQ dq)) /\
  (¬(i < (↑s.length:Int)) -> Weak (AV.vec true 3 []) dq)) :
 svKz_at g h s i (PureQ dq):=by
 unfold svKz_at
 have w1:(List.map Sb.a s).length = s.length:=List.length_map ..
 have i2:(decide (i < (↑(List.map Sb.a s).length:Int))) = true ↔ (i < (↑s.length:Int)):=(by (try rw [w1]);all_goals exact i_dec)
 rcases xm (i < (↑s.length:Int)) with d3 | d3
 ·have H:=H.1 d3
  obtain ⟨k5,H⟩:=H
  have i6:(decide (i.toNat < (List.map Sb.a s).length)) = true ↔ (i.toNat < s.length):=(by (try rw [w1]);all_goals exact i_dec)
  obtain ⟨k7,H⟩:=H
  obtain ⟨k8,H⟩:=H
  have w9:wi (1000 * (s.getD i.toNat default).n) = 1000 * (s.getD i.toNat default).n:=wI64 k8
  have i11:(decide (i.toNat < (List.map Sb.a s).length)) = true ↔ (i.toNat < s.length):=(by (try rw [w1]);all_goals exact i_dec)
  have w12:(List.map Bk.a (s.getD i.toNat default).3).length = (s.getD i.toNat default).3.length:=List.length_map ..
  have i13:(decide ((1 + (List.map Bk.a (s.getD i.toNat default).3).length) * 48 <= 1099511627776)) = true ↔ ((1 + (s.getD i.toNat default).3.length) * 48 <= 1099511627776):=(by (try rw [w9]);(try rw [w12]);all_goals exact i_dec)
  obtain ⟨k14,H⟩:=H
  have i15:(decide (((List.map Bk.a (s.getD i.toNat default).3).length + 1 + 1) * 48 <= 1099511627776)) = true ↔ (((s.getD i.toNat default).3.length + 1 + 1) * 48 <= 1099511627776):=(by (try rw [w9]);(try rw [w12]);all_goals exact i_dec)
  obtain ⟨k16,H⟩:=H
  obtain ⟨k17,H⟩:=H
  have w18:wi (i + 1) = i + 1:=wI64 k17
  exact path_wp (G:=given kp37 [(5,6,.elem (ag [vi (s.getD i.toNat default).n,AV.vec (s.getD i.toNat default).2 3 (List.map Bk.a (s.getD i.toNat default).3)])),(6,6,.elem (ag [vi (s.getD i.toNat default).n,AV.vec (s.getD i.toNat default).2 3 (List.map Bk.a (s.getD i.toNat default).3)]))] []) 1000 [true] ⟨(atC (cd Try.f37) [1,1,0,1,0,0]),[(1,AV.ptr 0 0 0 0),(3,AV.row 1 2),(4,vi (wi (i + 1)))],[⟨[ag [AV.vec g 3 [],AV.vec h 2 (List.map Sb.a s)]],2,0,false,false⟩,⟨ag [vb false,AV.vec true 2 [ag [AV.int IntKind.u8 79,vi (wi (1000 * (s.getD i.toNat default).n))]],AV.str []] :: (List.map Bk.a (s.getD i.toNat default).3 ++ [ag [vb false,AV.vec true 2 [ag [AV.int IntKind.u8 77,vi 99000]],AV.str []]]),3,2,false,true⟩],_,[((List.map Sb.a s).get?Internal i.toNat = some (ag [vi (s.getD i.toNat default).n,AV.vec (s.getD i.toNat default).2 3 (List.map Bk.a (s.getD i.toNat default).3)])),((List.map Sb.a s).get?Internal i.toNat = some (ag [vi (s.getD i.toNat default).n,AV.vec (s.getD i.toNat default).2 3 (List.map Bk.a (s.getD i.toNat default).3)]))],_⟩ (by kernel_rfl) (bc rfl (bc (beq_t (i2.2 d3)) (bc rfl (bc (i_dec.2 k5) (bc (i6.2 k7) (bc rfl (bc rfl (bc (i_dec.2 k5) (bc (i11.2 k7) (bc rfl (bc (i13.2 k14) (bc rfl (bc (i15.2 k16) b0))))))))))))) (qc (el_map k7) (qc (el_map k7) q0)) c0 (by (try rw [w9]);(try rw [w18]);all_goals exact H)
 ·have H:=H.2 d3
  exact path_rq (G:=given kp37 [] []) 1000 [false] (AV.vec true 3 []) (by kernel_rfl) (bc rfl (bc (beq_f (fun h => d3 (i2.1 h))) b0)) q0 c0 H
noncomputable abbrev zSpY3 (s:List Sb) (i:Int):=ag [vb false,AV.vec true 2 [ag [AV.int IntKind.u8 79,vi (1000 * (s.getD i.toNat default).n)]],AV.str []]
theorem svKa (g:Bool) (l:List Bk) (h:Bool) (s:List Sb) (i:Int) (o:List Bk) (v:Nat)  (dq:AV) (H :
  ((i < (↑s.length:Int)) -> (0 <= i) /\
   (i.toNat < s.length) /\
   (-9223372036854775808 <= 1000 * (s.getD i.toNat default).n /\ 1000 * (s.getD i.toNat default).n <= 9223372036854775807) /\
   ((o.length + 1) * 48 <= 1099511627776) /\
   (((List.map Bk.a o ++ [ag [vb false,AV.vec true 2 [ag [AV.int IntKind.u8 79,vi (1000 * (s.getD i.toNat default).n)]],AV.str []]]).length + (s.getD i.toNat default).3.length) * 48 <= 1099511627776) /\
   (((List.map Bk.a o ++ [ag [vb false,AV.vec true 2 [ag [AV.int IntKind.u8 79,vi (1000 * (s.getD i.toNat default).n)]],AV.str []]] ++ List.map Bk.a (s.getD i.toNat default).3).length + 1) * 48 <= 1099511627776) /\
   (-9223372036854775808 <= i + 1 /\ i + 1 <= 9223372036854775807) /\
   Wp M1 (.run fi37 (atC (cd Try.f37) [1,1,0,1,0,0]) [(1,AV.ptr 0 0 0 0),(3,AV.row 1 (v + 1 + 1 + 1)),(4,vi (i + 1))] [{ elems:=[ag [AV.vec g 3 (List.map Bk.a l),AV.vec h 2 (List.map Sb.a s)]],es:=2,ver:=0,frozen:=false,clean:=false },{ elems:=List.map Bk.a o ++ [ag [vb false,AV.vec true 2 [ag [AV.int IntKind.u8 79,vi (1000 * (s.getD i.toNat default).n)]],AV.str []]] ++ List.map Bk.a (s.getD i.toNat default).3 ++ [ag [vb false,AV.vec true 2 [ag [AV.int IntKind.u8 77,vi 99000]],AV.str []]],es:=3,ver:=v + 1 + 1 + 1,frozen:=false,clean:=true }]) (PureQ dq)) /\
  (¬(i < (↑s.length:Int)) -> Weak (AV.vec false 3 (List.map Bk.a o)) dq)) :
 svKa_at g l h s i o v (PureQ dq):=by
 unfold svKa_at
 have w1:(List.map Sb.a s).length = s.length:=List.length_map ..
 have i2:(decide (i < (↑(List.map Sb.a s).length:Int))) = true ↔ (i < (↑s.length:Int)):=(by (try rw [w1]);all_goals exact i_dec)
 rcases xm (i < (↑s.length:Int)) with d3 | d3
 ·have H:=H.1 d3
  obtain ⟨k5,H⟩:=H
  have i6:(decide (i.toNat < (List.map Sb.a s).length)) = true ↔ (i.toNat < s.length):=(by (try rw [w1]);all_goals exact i_dec)
  obtain ⟨k7,H⟩:=H
  have w8:(List.map Bk.a o).length = o.length:=List.length_map ..
  obtain ⟨k9,H⟩:=H
  have w10:wi (1000 * (s.getD i.toNat default).n) = 1000 * (s.getD i.toNat default).n:=wI64 k9
  have i11:(decide (((List.map Bk.a o).length + 1) * 48 <= 1099511627776)) = true ↔ ((o.length + 1) * 48 <= 1099511627776):=(by (try rw [w8]);(try rw [w10]);all_goals exact i_dec)
  obtain ⟨k12,H⟩:=H
  have i14:(decide (i.toNat < (List.map Sb.a s).length)) = true ↔ (i.toNat < s.length):=(by (try rw [w1]);all_goals exact i_dec)
  have w15:(List.map Bk.a (s.getD i.toNat default).3).length = (s.getD i.toNat default).3.length:=List.length_map ..
  have i16:(decide (((List.map Bk.a o ++ [ag [vb false,AV.vec true 2 [ag [AV.int IntKind.u8 79,vi (wi (1000 * (s.getD i.toNat default).n))]],AV.str []]]).length + (List.map Bk.a (s.getD i.toNat default).3).length) * 48 <= 1099511627776)) = true ↔ (((List.map Bk.a o ++ [(zSpY3 s i)]).length + (s.getD i.toNat default).3.length) * 48 <= 1099511627776):=(by (try rw [w10]);(try rw [w15]);all_goals exact i_dec)
  obtain ⟨k17,H⟩:=H
  have i18:(decide (((List.map Bk.a o ++ [ag [vb false,AV.vec true 2 [ag [AV.int IntKind.u8 79,vi (wi (1000 * (s.getD i.toNat default).n))]],AV.str []]] ++ List.map Bk.a (s.getD i.toNat default).3).length + 1) * 48 <= 1099511627776)) = true ↔ (((List.map Bk.a o ++ [(zSpY3 s i)] ++ List.map Bk.a (s.getD i.toNat default).3).length + 1) * 48 <= 1099511627776):=(by (try rw [w10]);all_goals exact i_dec)
  obtain ⟨k19,H⟩:=H
  obtain ⟨k20,H⟩:=H
  have w21:wi (i + 1) = i + 1:=wI64 k20
  exact path_wp (G:=given kp37 [(5,6,.elem (ag [vi (s.getD i.toNat default).n,AV.vec (s.getD i.toNat default).2 3 (List.map Bk.a (s.getD i.toNat default).3)])),(6,6,.elem (ag [vi (s.getD i.toNat default).n,AV.vec (s.getD i.toNat default).2 3 (List.map Bk.a (s.getD i.toNat default).3)]))] []) 1000 [true] ⟨(atC (cd Try.f37) [1,1,0,1,0,0]),[(1,AV.ptr 0 0 0 0),(3,AV.row 1 (v + 1 + 1 + 1)),(4,vi (wi (i + 1)))],[⟨[ag [AV.vec g 3 (List.map Bk.a l),AV.vec h 2 (List.map Sb.a s)]],2,0,false,false⟩,⟨List.map Bk.a o ++ [ag [vb false,AV.vec true 2 [ag [AV.int IntKind.u8 79,vi (wi (1000 * (s.getD i.toNat default).n))]],AV.str []]] ++ List.map Bk.a (s.getD i.toNat default).3 ++ [ag [vb false,AV.vec true 2 [ag [AV.int IntKind.u8 77,vi 99000]],AV.str []]],3,v + 1 + 1 + 1,false,true⟩],[true,(decide (i < (↑(List.map Sb.a s).length:Int))) == true,true,decide (0 <= i),decide (i.toNat < (List.map Sb.a s).length),v == v,decide (((List.map Bk.a o).length + 1) * 48 <= 1099511627776),true,decide (0 <= i),decide (i.toNat < (List.map Sb.a s).length),v + 1 == v + 1,decide (((List.map Bk.a o ++ [ag [vb false,AV.vec true 2 [ag [AV.int IntKind.u8 79,vi (wi (1000 * (s.getD i.toNat default).n))]],AV.str []]]).length + (List.map Bk.a (s.getD i.toNat default).3).length) * 48 <= 1099511627776),v + 1 + 1 == v + 1 + 1,decide (((List.map Bk.a o ++ [ag [vb false,AV.vec true 2 [ag [AV.int IntKind.u8 79,vi (wi (1000 * (s.getD i.toNat default).n))]],AV.str []]] ++ List.map Bk.a (s.getD i.toNat default).3).length + 1) * 48 <= 1099511627776)],[((List.map Sb.a s).get?Internal i.toNat = some (ag [vi (s.getD i.toNat default).n,AV.vec (s.getD i.toNat default).2 3 (List.map Bk.a (s.getD i.toNat default).3)])),((List.map Sb.a s).get?Internal i.toNat = some (ag [vi (s.getD i.toNat default).n,AV.vec (s.getD i.toNat default).2 3 (List.map Bk.a (s.getD i.toNat default).3)]))],_⟩ (by kernel_rfl) (bc rfl (bc (beq_t (i2.2 d3)) (bc rfl (bc (i_dec.2 k5) (bc (i6.2 k7) (bc (beq_self_eq_true _) (bc (i11.2 k12) (bc rfl (bc (i_dec.2 k5) (bc (i14.2 k7) (bc (beq_self_eq_true _) (bc (i16.2 k17) (bc (beq_self_eq_true _) (bc (i18.2 k19) b0)))))))))))))) (qc (el_map k7) (qc (el_map k7) q0)) c0 (by (try rw [w10]);(try rw [w21]);all_goals exact H)
 ·have H:=H.2 d3
  exact path_ret (G:=given kp37 [] []) 1000 [false] (k:=((atC (cd Try.f37) [1,1,1,1])).tail) (env':=[(2,AV.row 1 v)]) (L':=[⟨[ag [AV.vec g 3 (List.map Bk.a l),AV.vec h 2 (List.map Sb.a s)]],2,0,false,false⟩,⟨List.map Bk.a o,3,v,false,true⟩]) (asm:=[true,(decide (i < (↑(List.map Sb.a s).length:Int))) == false]) (eqs:=[]) (calls:=[]) (AV.row 1 v) (by kernel_rfl) (by kernel_rfl) (allB_cons rfl (allB_cons (beq_f (fun h => d3 (i2.1 h))) allB_nil)) allP_nil allC_nil (pq_weak (d:=(AV.vec false 3 (List.map Bk.a o))) (bs:=[v == v]) (by kernel_rfl) (by kernel_rfl) (allB_cons (beq_self_eq_true _) allB_nil) (by kernel_rfl) H)
end Go.Av

namespace Go.Av
open Go.Proofs
set_option maxRecDepth 100000
def fi36:Fi:=⟨37,[.tmp 2]⟩
def kp36:List (Nat × List Nat):=[(0,[1]),(1,[1,3]),(2,[3,10,11,12]),(3,[3,10,11,12,13]),(4,[3,5,10,11,12]),(5,[3,5,10,11,12]),(6,[3,10,11,12]),(7,[3,10,11,12]),(8,[3,10,11,12]),(9,[2])]
def svJc_at (g:Bool) (l:List Bk) (h:Bool) (s:List Sb) (Q:AV -> Heap -> Prop):Prop:=Wp M2 (.run fi36 (atC (cd Try.f36) []) [(0,.agg [.vec g 3 (l.map Bk.a),.vec h 2 (s.map Sb.a)])] []) Q
def svJe_at (g:Bool) (h:Bool) (s:List Sb) (Q:AV -> Heap -> Prop):Prop:=Wp M2 (.run fi36 (atC (cd Try.f36) []) [(0,.agg [.vec g 3 [],.vec h 2 (s.map Sb.a)])] []) Q
def svJz_at (h:Bool) (s:List Sb) (n i:Int) (Q:AV -> Heap -> Prop):Prop:=Wp M2 (.run fi36 (atC (cd Try.f36) [1,1,0,1,0,0]) [(3,.vec true 3 []),(10,.vec h 2 (s.map Sb.a)),(11,.int .i64 n),(12,.int .i64 i)] []) Q
def svJa_at (h:Bool) (s:List Sb) (n i:Int) (o:List Bk) (v:Nat) (Q:AV -> Heap -> Prop):Prop:=Wp M2 (.run fi36 (atC (cd Try.f36) [1,1,0,1,0,0]) [(3,.row 0 v),(10,.vec h 2 (s.map Sb.a)),(11,.int .i64 n),(12,.int .i64 i)] [⟨o.map Bk.a,3,v,false,true⟩]) Q
theorem call36 {args:List AV} {d:AV} (h:Wp M2 (.run fi36 [.code (cd Try.f36)] (argVars 0 args) []) (PureQ d)):Ev M2 (.pure 36 args) d []:=
 pure_pq Try.f36 fi36 (by kernel_rfl) (by kernel_rfl) (by kernel_rfl) (by kernel_rfl) h
theorem svJc (g:Bool) (l:List Bk) (h:Bool) (s:List Sb)  (dq:AV) (H :
  (l.length <= 1000000 /\ 0 < l.length) /\
  svJa_at (h) (s) ((↑s.length:Int)) (0) (l) (0) (PureQ dq)) :
 svJc_at g l h s (PureQ dq):=by
 unfold svJc_at
 obtain ⟨k1,H⟩:=H
 have w2:(List.map Sb.a s).length = s.length:=List.length_map ..
 exact path_wp (G:=given kp36 [(1,2,.call (AV.row 0 0) (some [⟨List.map Bk.a l,3,0,false,true⟩]))] []) 1000 [] ⟨(atC (cd Try.f36) [1,1,0,1,0,0]),[(3,AV.row 1 0),(10,AV.vec h 2 (List.map Sb.a s)),(11,vi (↑(List.map Sb.a s).length:Int)),(12,vi 0)],[⟨[ag [AV.vec g 3 (List.map Bk.a l),AV.vec h 2 (List.map Sb.a s)]],2,0,false,false⟩,⟨List.map Bk.a l,3,0,false,true⟩],_,[],[⟨true,true,22,[AV.vec g 3 (List.map Bk.a l)],[],AV.row 0 0,[⟨List.map Bk.a l,3,0,false,true⟩]⟩]⟩ (by kernel_rfl) (bc rfl (bc rfl b0)) q0 (cc (fun _ => (@evo22_a (g) (l) k1)) c0) (by (try rw [w2]);all_goals exact wp_narrow [1] (by kernel_rfl) H)
theorem svJe (g:Bool) (h:Bool) (s:List Sb)  (dq:AV) (H :
  svJz_at (h) (s) ((↑s.length:Int)) (0) (PureQ dq)) :
 svJe_at g h s (PureQ dq):=by
 unfold svJe_at
 have w1:(List.map Sb.a s).length = s.length:=List.length_map ..
 exact path_wp (G:=given kp36 [(1,2,.call (AV.vec true 3 []) none)] []) 1000 [] ⟨(atC (cd Try.f36) [1,1,0,1,0,0]),[(3,AV.vec true 3 []),(10,AV.vec h 2 (List.map Sb.a s)),(11,vi (↑(List.map Sb.a s).length:Int)),(12,vi 0)],[⟨[ag [AV.vec g 3 [],AV.vec h 2 (List.map Sb.a s)]],2,0,false,false⟩],_,[],[⟨true,true,22,[AV.vec g 3 []],[],AV.vec true 3 [],[]⟩]⟩ (by kernel_rfl) (bc rfl (bc rfl b0)) q0 (cc (fun _ => (@evo22_b (g))) c0) (by (try rw [w1]);all_goals exact wp_narrow [] (by kernel_rfl) H)
theorem svJz (h:Bool) (s:List Sb) (n i:Int)  (dq:AV) (H :
  ((i < n) -> (0 <= i) /\
   (i.toNat < s.length) /\
   (-9223372036854775808 <= 1000 * (s.getD i.toNat default).n /\ 1000 * (s.getD i.toNat default).n <= 9223372036854775807) /\
   ((1 + (s.getD i.toNat default).3.length) * 48 <= 1099511627776) /\
   (((s.getD i.toNat default).3.length + 1 + 1) * 48 <= 1099511627776) /\
   (-9223372036854775808 <= i + 1 /\ i + 1 <= 9223372036854775807) /\
   Wp M2 (.run fi36 (atC (cd Try.f36) [1,1,0,1,0,0]) [(3,AV.row 0 2),(10,AV.vec h 2 (List.map Sb.a s)),(11,vi n),(12,vi (i + 1))] [{ elems:=ag [vb false,AV.vec true 2 [ag [AV.int IntKind.u8 79,vi (1000 * (s.getD i.toNat default).n)]],AV.str []] :: (List.map Bk.a (s.getD i.toNat default).3 ++ [ag [vb false,AV.vec true 2 [ag [AV.int IntKind.u8 77,vi 99000]],AV.str []]]),es:=3,ver:=2,frozen:=false,clean:=true }]) (PureQ dq)) /\
  (¬(i < n) -> Weak (AV.vec true 3 []) dq)) :
 svJz_at h s n i (PureQ dq):=by
 unfold svJz_at
 rcases xm (i < n) with d2 | d2
 ·have H:=H.1 d2
  obtain ⟨k4,H⟩:=H
  have w5:(List.map Sb.a s).length = s.length:=List.length_map ..
  have i6:(decide (i.toNat < (List.map Sb.a s).length)) = true ↔ (i.toNat < s.length):=(by (try rw [w5]);all_goals exact i_dec)
  obtain ⟨k7,H⟩:=H
  obtain ⟨k8,H⟩:=H
  have w9:wi (1000 * (s.getD i.toNat default).n) = 1000 * (s.getD i.toNat default).n:=wI64 k8
  have w10:(List.map Bk.a (s.getD i.toNat default).3).length = (s.getD i.toNat default).3.length:=List.length_map ..
  have i11:(decide ((1 + (List.map Bk.a (s.getD i.toNat default).3).length) * 48 <= 1099511627776)) = true ↔ ((1 + (s.getD i.toNat default).3.length) * 48 <= 1099511627776):=(by (try rw [w9]);(try rw [w10]);all_goals exact i_dec)
  obtain ⟨k12,H⟩:=H
  have i13:(decide (((List.map Bk.a (s.getD i.toNat default).3).length + 1 + 1) * 48 <= 1099511627776)) = true ↔ (((s.getD i.toNat default).3.length + 1 + 1) * 48 <= 1099511627776):=(by (try rw [w9]);(try rw [w10]);all_goals exact i_dec)
  obtain ⟨k14,H⟩:=H
  obtain ⟨k15,H⟩:=H
  have w16:wi (i + 1) = i + 1:=wI64 k15
  exact path_wp (G:=given kp36 [(4,1,.elem (ag [vi (s.getD i.toNat default).n,AV.vec (s.getD i.toNat default).2 3 (List.map Bk.a (s.getD i.toNat default).3)]))] []) 1000 [true] ⟨(atC (cd Try.f36) [1,1,0,1,0,0]),[(3,AV.row 1 2),(10,AV.vec h 2 (List.map Sb.a s)),(11,vi n),(12,vi (wi (i + 1)))],[⟨[ag [vi (s.getD i.toNat default).n,AV.vec (s.getD i.toNat default).2 3 (List.map Bk.a (s.getD i.toNat default).3)]],2,0,false,false⟩,⟨ag [vb false,AV.vec true 2 [ag [AV.int IntKind.u8 79,vi (wi (1000 * (s.getD i.toNat default).n))]],AV.str []] :: (List.map Bk.a (s.getD i.toNat default).3 ++ [ag [vb false,AV.vec true 2 [ag [AV.int IntKind.u8 77,vi 99000]],AV.str []]]),3,2,false,true⟩],_,[((List.map Sb.a s).get?Internal i.toNat = some (ag [vi (s.getD i.toNat default).n,AV.vec (s.getD i.toNat default).2 3 (List.map Bk.a (s.getD i.toNat default).3)]))],_⟩ (by kernel_rfl) (bc (beq_t (i_dec.2 d2)) (bc (i_dec.2 k4) (bc (i6.2 k7) (bc rfl (bc rfl (bc rfl (bc rfl (bc rfl (bc (i11.2 k12) (bc rfl (bc (i13.2 k14) b0))))))))))) (qc (el_map k7) q0) c0 (by (try rw [w9]);(try rw [w16]);all_goals exact wp_narrow [1] (by kernel_rfl) H)
 ·have H:=H.2 d2
  exact path_rq (G:=given kp36 [] []) 1000 [false] (AV.vec true 3 []) (by kernel_rfl) (bc (beq_f (fun h => d2 (i_dec.1 h))) b0) q0 c0 H
noncomputable abbrev zSpZ1 (s:List Sb) (i:Int):=ag [vb false,AV.vec true 2 [ag [AV.int IntKind.u8 79,vi (1000 * (s.getD i.toNat default).n)]],AV.str []]
theorem svJa (h:Bool) (s:List Sb) (n i:Int) (o:List Bk) (v:Nat)  (dq:AV) (H :
  ((i < n) -> (0 <= i) /\
   (i.toNat < s.length) /\
   (-9223372036854775808 <= 1000 * (s.getD i.toNat default).n /\ 1000 * (s.getD i.toNat default).n <= 9223372036854775807) /\
   ((o.length + 1) * 48 <= 1099511627776) /\
   (((List.map Bk.a o ++ [ag [vb false,AV.vec true 2 [ag [AV.int IntKind.u8 79,vi (1000 * (s.getD i.toNat default).n)]],AV.str []]]).length + (s.getD i.toNat default).3.length) * 48 <= 1099511627776) /\
   (((List.map Bk.a o ++ [ag [vb false,AV.vec true 2 [ag [AV.int IntKind.u8 79,vi (1000 * (s.getD i.toNat default).n)]],AV.str []]] ++ List.map Bk.a (s.getD i.toNat default).3).length + 1) * 48 <= 1099511627776) /\
   (-9223372036854775808 <= i + 1 /\ i + 1 <= 9223372036854775807) /\
   Wp M2 (.run fi36 (atC (cd Try.f36) [1,1,0,1,0,0]) [(3,AV.row 0 (v + 1 + 1 + 1)),(10,AV.vec h 2 (List.map Sb.a s)),(11,vi n),(12,vi (i + 1))] [{ elems:=List.map Bk.a o ++ [ag [vb false,AV.vec true 2 [ag [AV.int IntKind.u8 79,vi (1000 * (s.getD i.toNat default).n)]],AV.str []]] ++ List.map Bk.a (s.getD i.toNat default).3 ++ [ag [vb false,AV.vec true 2 [ag [AV.int IntKind.u8 77,vi 99000]],AV.str []]],es:=3,ver:=v + 1 + 1 + 1,frozen:=false,clean:=true }]) (PureQ dq)) /\
  (¬(i < n) -> Weak (AV.vec false 3 (List.map Bk.a o)) dq)) :
 svJa_at h s n i o v (PureQ dq):=by
 unfold svJa_at
 rcases xm (i < n) with d2 | d2
 ·have H:=H.1 d2
  obtain ⟨k4,H⟩:=H
  have w5:(List.map Sb.a s).length = s.length:=List.length_map ..
  have i6:(decide (i.toNat < (List.map Sb.a s).length)) = true ↔ (i.toNat < s.length):=(by (try rw [w5]);all_goals exact i_dec)
  obtain ⟨k7,H⟩:=H
  have w8:(List.map Bk.a o).length = o.length:=List.length_map ..
  obtain ⟨k9,H⟩:=H
  have w10:wi (1000 * (s.getD i.toNat default).n) = 1000 * (s.getD i.toNat default).n:=wI64 k9
  have i11:(decide (((List.map Bk.a o).length + 1) * 48 <= 1099511627776)) = true ↔ ((o.length + 1) * 48 <= 1099511627776):=(by (try rw [w8]);(try rw [w10]);all_goals exact i_dec)
  obtain ⟨k12,H⟩:=H
  have w13:(List.map Bk.a (s.getD i.toNat default).3).length = (s.getD i.toNat default).3.length:=List.length_map ..
  have i14:(decide (((List.map Bk.a o ++ [ag [vb false,AV.vec true 2 [ag [AV.int IntKind.u8 79,vi (wi (1000 * (s.getD i.toNat default).n))]],AV.str []]]).length + (List.map Bk.a (s.getD i.toNat default).3).length) * 48 <= 1099511627776)) = true ↔ (((List.map Bk.a o ++ [(zSpZ1 s i)]).length + (s.getD i.toNat default).3.length) * 48 <= 1099511627776):=(by (try rw [w10]);(try rw [w13]);all_goals exact i_dec)
  obtain ⟨k15,H⟩:=H
  have i16:(decide (((List.map Bk.a o ++ [ag [vb false,AV.vec true 2 [ag [AV.int IntKind.u8 79,vi (wi (1000 * (s.getD i.toNat default).n))]],AV.str []]] ++ List.map Bk.a (s.getD i.toNat default).3).length + 1) * 48 <= 1099511627776)) = true ↔ (((List.map Bk.a o ++ [(zSpZ1 s i)] ++ List.map Bk.a (s.getD i.toNat default).3).length + 1) * 48 <= 1099511627776):=(by (try rw [w10]);all_goals exact i_dec)
  obtain ⟨k17,H⟩:=H
  obtain ⟨k18,H⟩:=H
  have w19:wi (i + 1) = i + 1:=wI64 k18
  exact path_wp (G:=given kp36 [(4,1,.elem (ag [vi (s.getD i.toNat default).n,AV.vec (s.getD i.toNat default).2 3 (List.map Bk.a (s.getD i.toNat default).3)]))] []) 1000 [true] ⟨(atC (cd Try.f36) [1,1,0,1,0,0]),[(3,AV.row 0 (v + 1 + 1 + 1)),(10,AV.vec h 2 (List.map Sb.a s)),(11,vi n),(12,vi (wi (i + 1)))],[⟨List.map Bk.a o ++ [ag [vb false,AV.vec true 2 [ag [AV.int IntKind.u8 79,vi (wi (1000 * (s.getD i.toNat default).n))]],AV.str []]] ++ List.map Bk.a (s.getD i.toNat default).3 ++ [ag [vb false,AV.vec true 2 [ag [AV.int IntKind.u8 77,vi 99000]],AV.str []]],3,v + 1 + 1 + 1,false,true⟩,⟨[ag [vi (s.getD i.toNat default).n,AV.vec (s.getD i.toNat default).2 3 (List.map Bk.a (s.getD i.toNat default).3)]],2,0,false,false⟩],[(decide (i < n)) == true,decide (0 <= i),decide (i.toNat < (List.map Sb.a s).length),true,true,v == v,decide (((List.map Bk.a o).length + 1) * 48 <= 1099511627776),true,v + 1 == v + 1,decide (((List.map Bk.a o ++ [ag [vb false,AV.vec true 2 [ag [AV.int IntKind.u8 79,vi (wi (1000 * (s.getD i.toNat default).n))]],AV.str []]]).length + (List.map Bk.a (s.getD i.toNat default).3).length) * 48 <= 1099511627776),v + 1 + 1 == v + 1 + 1,decide (((List.map Bk.a o ++ [ag [vb false,AV.vec true 2 [ag [AV.int IntKind.u8 79,vi (wi (1000 * (s.getD i.toNat default).n))]],AV.str []]] ++ List.map Bk.a (s.getD i.toNat default).3).length + 1) * 48 <= 1099511627776)],[((List.map Sb.a s).get?Internal i.toNat = some (ag [vi (s.getD i.toNat default).n,AV.vec (s.getD i.toNat default).2 3 (List.map Bk.a (s.getD i.toNat default).3)]))],_⟩ (by kernel_rfl) (bc (beq_t (i_dec.2 d2)) (bc (i_dec.2 k4) (bc (i6.2 k7) (bc rfl (bc rfl (bc (beq_self_eq_true _) (bc (i11.2 k12) (bc rfl (bc (beq_self_eq_true _) (bc (i14.2 k15) (bc (beq_self_eq_true _) (bc (i16.2 k17) b0)))))))))))) (qc (el_map k7) q0) c0 (by (try rw [w10]);(try rw [w19]);all_goals exact wp_narrow [0] (by kernel_rfl) H)
 ·have H:=H.2 d2
  exact path_ret (G:=given kp36 [] []) 1000 [false] (k:=((atC (cd Try.f36) [1,1,1,1])).tail) (env':=[(2,AV.row 0 v)]) (L':=[⟨List.map Bk.a o,3,v,false,true⟩]) (asm:=[(decide (i < n)) == false]) (eqs:=[]) (calls:=[]) (AV.row 0 v) (by kernel_rfl) (by kernel_rfl) (allB_cons (beq_f (fun h => d2 (i_dec.1 h))) allB_nil) allP_nil allC_nil (pq_weak (d:=(AV.vec false 3 (List.map Bk.a o))) (bs:=[v == v]) (by kernel_rfl) (by kernel_rfl) (allB_cons (beq_self_eq_true _) allB_nil) (by kernel_rfl) H)
end Go.Av

namespace Go.Av
open Go.Proofs
namespace Sp
def oB (m:Int):Bk:=⟨false,true,[⟨79,1000 * m⟩],[]⟩
def mB:Bk:=⟨false,true,[⟨77,99000⟩],[]⟩
def one (x:Sb):List Bk:=oB x.n :: x.bl ++ [mB]
def joinS (s:List Sb):List Bk:=s.flatMap one
def join (l:List Bk) (s:List Sb):List Bk:=l ++ joinS s
def own (s:List Sb):List Sb:=s.map fun x => ⟨x.n,false,x.bl⟩
def fewP (l:List Bk) (s:List Sb):Bool:=decide ((s.length:Int) <= 12) && (fewB l 40 && s.all fun x => fewB x.bl 40 && decide (-1000000 <= x.n /\ x.n <= 1000000))
def okJ (l:List Bk) (s:List Sb):Prop:=l.length <= 1000000 /\ s.length <= 100 /\ ∀ x ∈ s,x.bl.length <= 1000000 /\ -1000000 <= x.n /\ x.n <= 1000000
end Sp
theorem oB_a (m:Int):(Sp.oB m).a = .agg [.bool false,.vec true 2 [.agg [.int .u8 79,.int .i64 (1000 * m)]],.str []]:=rfl
theorem mB_a:Sp.mB.a = .agg [.bool false,.vec true 2 [.agg [.int .u8 77,.int .i64 99000]],.str []]:=rfl
theorem one_map (x:Sb) (o:List Bk):(o ++ Sp.one x).map Bk.a = o.map Bk.a ++ [.agg [.bool false,.vec true 2 [.agg [.int .u8 79,.int .i64 (1000 * x.n)]],.str []]] ++ x.bl.map Bk.a ++ [.agg [.bool false,.vec true 2 [.agg [.int .u8 77,.int .i64 99000]],.str []]]:=by
 unfold Sp.one
 rw [List.map_append,List.map_append,List.map_cons,oB_a,List.map_cons,mB_a,List.map_nil]
 simp
theorem one_len (x:Sb):(Sp.one x).length = x.bl.length + 2:=by unfold Sp.one;simp
theorem okJ_at {s:List Sb} (h:∀ x ∈ s,x.bl.length <= 1000000 /\ -1000000 <= x.n /\ x.n <= 1000000) {i:Nat} (hi:i < s.length):(s.getD i default).bl.length <= 1000000 /\ -1000000 <= (s.getD i default).n /\ (s.getD i default).n <= 1000000:=h _ (getD_mem hi)
theorem joinS_at {s:List Sb} {i:Nat} (hi:i < s.length):Sp.joinS (s.drop i) = Sp.one (s.getD i default) ++ Sp.joinS (s.drop (i + 1)):=by
 rw [drop_getD hi];rfl
theorem svJa_loop {h:Bool} {s:List Sb} {dq:AV} (hs:s.length <= 100) (hk:∀ x ∈ s,x.bl.length <= 1000000 /\ -1000000 <= x.n /\ x.n <= 1000000):∀ (c i v:Nat) (o:List Bk),i + c = s.length -> o.length <= 2000000 * (i + 1) -> bsA false (o ++ Sp.joinS (s.drop i)) = dq -> svJa_at h s s.length i o v (PureQ dq):=by
 intro c
 induction c with
 | zero =>
  intro i v o hi ho hq
  rw [List.drop_eq_nil_of_le (by omega),show Sp.joinS [] = [] from rfl,List.append_nil] at hq
  exact svJa _ _ _ _ _ _ _ ⟨fun h => by omega,fun _ => by rw [<- hq];exact .refl _⟩
 | succ c ih =>
  intro i v o hi ho hq
  have hx:=okJ_at hk (show i < s.length by omega)
  rw [joinS_at (by omega),<- List.append_assoc] at hq
  refine svJa _ _ _ _ _ _ _ ⟨fun _ => ?_,fun h => by omega⟩
  rw [Int.toNat_natCast]
  refine ⟨by omega,by omega,by omega,by omega,by simp only [List.length_append,List.length_map,List.length_singleton];omega,by simp only [List.length_append,List.length_map,List.length_singleton];omega,by omega,?_⟩
  have:=ih (i + 1) (v + 1 + 1 + 1) _ (by omega) (by rw [List.length_append,one_len];omega) hq
  unfold svJa_at at this
  rw [one_map] at this
  exact this
theorem ev36 (g h:Bool) (l:List Bk) (s:List Sb) (hk:Sp.okJ l s):Ev M1 (.pure 36 [pgA g h l s]) (bsA false (Sp.join l s)) []:=by
 obtain ⟨hl,hs,hk⟩:=hk
 refine ev_M2 (call36 ?_)
 match l,hl with
 | [],_ =>
  show svJe_at g h s _
  refine svJe _ _ _ _ (svJz _ _ _ _ _ ?_)
  match s,hs,hk with
  | [],_,_ => exact ⟨fun h => by simp at h,fun _ => .full 3 []⟩
  | x :: s,hs,hk =>
   have hx:=hk x (by simp)
   simp only [List.length_cons] at hs
   refine ⟨fun _ => ⟨by omega,by simp,?_,?_,?_,by omega,?_⟩,fun h => by simp at h⟩
   ·show -9223372036854775808 <= 1000 * x.n /\ 1000 * x.n <= 9223372036854775807
    omega
   ·show (1 + x.bl.length) * 48 <= 1099511627776
    omega
   ·show (x.bl.length + 1 + 1) * 48 <= 1099511627776
    omega
   ·have:=svJa_loop (h:=h) (by simp;omega) hk s.length 1 2 (Sp.one x) (by simp;omega) (by rw [one_len];omega) rfl
    unfold svJa_at at this
    have e:=one_map x []
    rw [List.nil_append,List.map_nil,List.nil_append] at e
    rw [e] at this
    exact this
 | y :: l,hl => exact svJc _ _ _ _ _ ⟨⟨hl,by simp⟩,svJa_loop hs hk s.length 0 0 (y :: l) (by omega) (by omega) (by rw [List.drop_zero];rfl)⟩
theorem svKa_loop {g h:Bool} {l:List Bk} {s:List Sb} {dq:AV} (hs:s.length <= 100) (hk:∀ x ∈ s,x.bl.length <= 1000000 /\ -1000000 <= x.n /\ x.n <= 1000000):∀ (c i v:Nat) (o:List Bk),i + c = s.length -> o.length <= 2000000 * (i + 1) -> bsA false (o ++ Sp.joinS (s.drop i)) = dq -> svKa_at g l h s i o v (PureQ dq):=by
 intro c
 induction c with
 | zero =>
  intro i v o hi ho hq
  rw [List.drop_eq_nil_of_le (by omega),show Sp.joinS [] = [] from rfl,List.append_nil] at hq
  exact svKa _ _ _ _ _ _ _ _ ⟨fun h => by omega,fun _ => by rw [<- hq];exact .refl _⟩
 | succ c ih =>
  intro i v o hi ho hq
  have hx:=okJ_at hk (show i < s.length by omega)
  rw [joinS_at (by omega),<- List.append_assoc] at hq
  refine svKa _ _ _ _ _ _ _ _ ⟨fun _ => ?_,fun h => by omega⟩
  rw [Int.toNat_natCast]
  refine ⟨by omega,by omega,by omega,by omega,by simp only [List.length_append,List.length_map,List.length_singleton];omega,by simp only [List.length_append,List.length_map,List.length_singleton];omega,by omega,?_⟩
  have:=ih (i + 1) (v + 1 + 1 + 1) _ (by omega) (by rw [List.length_append,one_len];omega) hq
  unfold svKa_at at this
  rw [one_map] at this
  exact this
theorem ev37 (g h:Bool) (l:List Bk) (s:List Sb) (hk:Sp.okJ l s):Ev M1 (.pure 37 [pgA g h l s]) (bsA false (Sp.join l s)) []:=by
 obtain ⟨hl,hs,hk⟩:=hk
 refine call37 ?_
 match l,hl with
 | [],_ =>
  show svKe_at g h s _
  refine svKe _ _ _ _ (svKz _ _ _ _ _ ?_)
  match s,hs,hk with
  | [],_,_ => exact ⟨fun h => by simp at h,fun _ => .full 3 []⟩
  | x :: s,hs,hk =>
   have hx:=hk x (by simp)
   simp only [List.length_cons] at hs
   refine ⟨fun _ => ⟨by omega,by simp,?_,?_,?_,by omega,?_⟩,fun h => by simp at h⟩
   ·show -9223372036854775808 <= 1000 * x.n /\ 1000 * x.n <= 9223372036854775807
    omega
   ·show (1 + x.bl.length) * 48 <= 1099511627776
    omega
   ·show (x.bl.length + 1 + 1) * 48 <= 1099511627776
    omega
   ·have:=svKa_loop (g:=g) (l:=[]) (h:=h) (by simp;omega) hk s.length 1 2 (Sp.one x) (by simp;omega) (by rw [one_len];omega) rfl
    unfold svKa_at at this
    have e:=one_map x []
    rw [List.nil_append,List.map_nil,List.nil_append] at e
    rw [e] at this
    exact this
 | y :: l,hl =>
  refine svKc _ _ _ _ _ _ ⟨by simp at hl;omega,?_⟩
  exact svKa_loop (l:=y :: l) hs hk s.length 0 0 (y :: l) (by omega) (by omega) (by rw [List.drop_zero];rfl)
theorem own_snoc {s:List Sb} {i:Nat} (hi:i < s.length):Sp.own (s.take i) ++ [⟨(s.getD i default).n,false,(s.getD i default).bl⟩] = Sp.own (s.take (i + 1)):=by
 unfold Sp.own
 rw [List.take_add_one,List.map_append,List.getD_eq_getElem?_getD,List.getElem?_eq_getElem hi];rfl
theorem svOwa_loop {h:Bool} {l:List Bk} {s:List Sb} {dq:AV} (hs:s.length <= 1000000) (hk:∀ x ∈ s,x.bl.length <= 1000000) (hq:pgA false false l (Sp.own s) = dq):∀ (c i v:Nat),i + c = s.length -> svOwa_at l h s s.length i (Sp.own (s.take i)) v (PureQ dq):=by
 intro c
 induction c with
 | zero =>
  intro i v hi
  rw [List.take_of_length_le (by omega)]
  exact svOwa _ _ _ _ _ _ _ _ ⟨fun h => by omega,fun _ => by rw [<- hq];exact .refl _⟩
 | succ c ih =>
  intro i v hi
  refine svOwa _ _ _ _ _ _ _ _ ⟨fun _ => ?_,fun h => by omega⟩
  rw [Int.toNat_natCast]
  refine ⟨by omega,by omega,hk _ (getD_mem (show i < s.length by omega)),by unfold Sp.own;simp;omega,by omega,?_⟩
  rw [own_snoc (by omega)]
  exact ih (i + 1) (v + 1) (by omega)
theorem ev17 (g h:Bool) (l:List Bk) (s:List Sb) (hk:l.length <= 1000000 /\ s.length <= 1000000 /\ ∀ x ∈ s,x.bl.length <= 1000000):Ev M1 (.pure 17 [pgA g h l s]) (pgA false false l (Sp.own s)) []:=by
 obtain ⟨hl,hs,hk⟩:=hk
 refine call17 (svOw _ _ _ _ _ ⟨hl,svOwz _ _ _ _ _ _ ?_⟩)
 by_cases h0:s.length = 0
 ·rw [List.length_eq_zero_iff.1 h0]
  exact ⟨fun h => by simp at h,fun _ => weak_agg2 (.refl _) (.vnil 2)⟩
 ·refine ⟨fun _ => ⟨by omega,by simp;omega,hk _ (getD_mem (by simp;omega)),by omega,?_⟩,fun h => by omega⟩
  have e:=own_snoc (s:=s) (i:=0) (by omega)
  rw [List.take_zero,show Sp.own [] = [] from rfl,List.nil_append] at e
  have:=svOwa_loop (h:=h) (l:=l) hs hk rfl (s.length - 1) 1 0 (by omega)
  rw [<- e] at this
  exact this
theorem svFwa_loop {g h:Bool} {l:List Bk} {s:List Sb} {dq:AV} (hs:s.length <= 12):∀ (c i:Nat),i + c = s.length -> AV.bool ((s.drop i).all fun x => Sp.fewB x.bl 40 && decide (-1000000 <= x.n /\ x.n <= 1000000)) = dq -> svFwa_at g l h s i (PureQ dq):=by
 intro c
 induction c with
 | zero =>
  intro i hi hq
  rw [List.drop_eq_nil_of_le (by omega)] at hq
  exact svFwa _ _ _ _ _ _ ⟨fun h => by omega,fun _ => hq⟩
 | succ c ih =>
  intro i hi hq
  rw [drop_getD (show i < s.length by omega),List.all_cons] at hq
  refine svFwa _ _ _ _ _ _ ⟨fun _ => ?_,fun h => by omega⟩
  rw [Int.toNat_natCast]
  refine ⟨show (40:Int) <= 1000000 by omega,by omega,by omega,fun k => ?_,fun k => ⟨by omega,ih (i + 1) (by omega) ?_⟩⟩
  ·rw [<- hq]
   congr 1
   rcases k with (k | k) | k
   ·rw [Bool.eq_false_iff.2 k];rfl
   ·rw [decide_eq_false (by omega),Bool.and_false];rfl
   ·rw [decide_eq_false (by omega),Bool.and_false];rfl
  ·rw [<- hq,decide_eq_true (p:=-1000000 <= (s.getD i default).n /\ (s.getD i default).n <= 1000000) ⟨by
    have:¬((s.getD i default).n < -1000000):=fun y => k (.inr y)
    omega,by
    have:¬((s.getD i default).n > 1000000):=fun y => k (.inl (.inr y))
    omega⟩,Classical.byContradiction (p:=Sp.fewB (s.getD i default).bl 40 = true) fun y => k (.inl (.inl y))]
   simp
theorem ev44 (g h:Bool) (l:List Bk) (s:List Sb):Ev M1 (.pure 44 [pgA g h l s]) (.bool (Sp.fewP l s)) []:=by
 refine call44 (svFw _ _ _ _ _ ⟨fun _ => show (40:Int) <= 1000000 by omega,fun k => ?_,fun k => ?_⟩)
 ·unfold Sp.fewP
  congr 1
  rcases k with k | k
  ·rw [decide_eq_false (by omega),Bool.false_and]
  ·rw [Bool.eq_false_iff.2 k,Bool.false_and,Bool.and_false]
 ·have k1:¬((s.length:Int) > 12):=fun y => k (.inl y)
  have k2:Sp.fewB l 40 = true:=Classical.byContradiction fun y => k (.inr y)
  refine svFwa_loop (by omega) s.length 0 (by omega) ?_
  unfold Sp.fewP
  rw [decide_eq_true (show (s.length:Int) <= 12 by omega),k2,List.drop_zero,Bool.true_and,Bool.true_and]
end Go.Av

namespace Go.Av
open Go.Proofs
set_option maxRecDepth 100000
def fi15:Fi:=⟨26,[.tmp 2]⟩
def kp15:List (Nat × List Nat):=[(0,[1]),(1,[1,13]),(2,[2]),(3,[15,16,17]),(4,[15,16,17,18]),(5,[4,15,16,17]),(6,[15,16,17,24]),(7,[2]),(8,[15,16,17]),(9,[2])]
def svFl_at (g:Bool) (l:List Bk) (h:Bool) (s:List Sb) (Q:AV -> Heap -> Prop):Prop:=Wp M1 (.run fi15 (atC (cd Try.f15) []) [(0,.agg [.vec g 3 (l.map Bk.a),.vec h 2 (s.map Sb.a)])] []) Q
def svFla_at (h:Bool) (s:List Sb) (n i:Int) (Q:AV -> Heap -> Prop):Prop:=Wp M1 (.run fi15 (atC (cd Try.f15) [1,1,0,1,0,0]) [(15,.vec h 2 (s.map Sb.a)),(16,.int .i64 n),(17,.int .i64 i)] []) Q
theorem call15 {args:List AV} {d:AV} (h:wc M1 fi15 Try.f15 args d):Ev M1 (.pure 15 args) d []:=pcl _ _ (by kernel_rfl) h
theorem svFl (g:Bool) (l:List Bk) (h:Bool) (s:List Sb)  (dq:AV) (H :
  ((¬(¬(Sp.fewP l s = true))) -> (Sp.mO 40)) /\
  (((¬(Sp.fewP l s = true)) \/ (¬(Sp.vals l 40 = true))) -> vb false = dq) /\
  (¬((¬(Sp.fewP l s = true)) \/ (¬(Sp.vals l 40 = true))) -> svFla_at (h) (s) ((↑s.length:Int)) (0) (PureQ dq))) :
 svFl_at g l h s (PureQ dq):=by
 unfold svFl_at
 obtain ⟨k2,H⟩:=H
 refine path_wp (G:=given kp15 [(1,1,.call (vb (Sp.fewP l s)) none),(1,6,.call (vb (Sp.vals l 40)) none)] []) 5 [] ⟨(atC (cd Try.f15) [1,0,1]),[(1,AV.ptr 0 0 0 0),(13,vb (bif !Sp.fewP l s then true else !Sp.vals l 40))],[⟨[ag [AV.vec g 3 (List.map Bk.a l),AV.vec h 2 (List.map Sb.a s)]],2,0,false,false⟩],[true,!((!Sp.fewP l s) == false && true) || true],[],[⟨true,false,44,[ag [AV.vec g 3 (List.map Bk.a l),AV.vec h 2 (List.map Sb.a s)]],[],vb (Sp.fewP l s),[]⟩,⟨(!Sp.fewP l s) == false && true && true,false,12,[AV.vec g 3 (List.map Bk.a l),vi 40],[],vb (Sp.vals l 40),[]⟩]⟩ (by kernel_rfl) (bc rfl (bc (Bool.or_true _) b0)) q0 (cc (fun _ => (@ev44 (g) (h) (l) (s))) (cc (fun hc => ((@ev12 (g) (l) (40) (k2 ((i_at (i_at (i_bf (i_not (i_var _))))).1 hc))):Ev M1 (Conf.pure 12 [AV.vec g 3 (List.map Bk.a l),vi 40]) (vb (Sp.vals l 40)) [])) c0)) ?_
 rcases xm ((¬(Sp.fewP l s = true)) \/ (¬(Sp.vals l 40 = true))) with d4 | d4
 ·have H:=H.1 d4
  exact path_re (G:=given kp15 [] []) 1000 [true] (asm:=[(bif !Sp.fewP l s then true else !Sp.vals l 40) == true]) (vb false) (by kernel_rfl) (bc (beq_t ((i_bor (i_not (i_var _)) (i_not (i_var _))).2 d4)) b0) q0 c0 H
 ·have H:=H.2 d4
  have w5:(List.map Sb.a s).length = s.length:=List.length_map ..
  exact path_wp (G:=given kp15 [] []) 1000 [false] ⟨(atC (cd Try.f15) [1,1,0,1,0,0]),[(15,AV.vec h 2 (List.map Sb.a s)),(16,vi (↑(List.map Sb.a s).length:Int)),(17,vi 0)],[⟨[ag [AV.vec g 3 (List.map Bk.a l),AV.vec h 2 (List.map Sb.a s)]],2,0,false,false⟩],[(bif !Sp.fewP l s then true else !Sp.vals l 40) == false,true],[],_⟩ (by kernel_rfl) (bc (beq_f (fun h => d4 ((i_bor (i_not (i_var _)) (i_not (i_var _))).1 h))) (bc rfl b0)) q0 c0 (by (try rw [w5]);all_goals exact wp_narrow [] (by kernel_rfl) H)
theorem svFla (h:Bool) (s:List Sb) (n i:Int)  (dq:AV) (H :
  ((i < n) -> (0 <= i) /\
   (i.toNat < s.length) /\
   (Sp.mO 40) /\
   ((¬(Sp.vals (s.getD i.toNat default).3 40 = true)) -> vb false = dq) /\
   (¬(¬(Sp.vals (s.getD i.toNat default).3 40 = true)) -> (-9223372036854775808 <= i + 1 /\ i + 1 <= 9223372036854775807) /\
    svFla_at (h) (s) (n) (i + 1) (PureQ dq))) /\
  (¬(i < n) -> vb true = dq)) :
 svFla_at h s n i (PureQ dq):=by
 unfold svFla_at
 rcases xm (i < n) with d2 | d2
 ·have H:=H.1 d2
  obtain ⟨k4,H⟩:=H
  have w5:(List.map Sb.a s).length = s.length:=List.length_map ..
  have i6:(decide (i.toNat < (List.map Sb.a s).length)) = true ↔ (i.toNat < s.length):=(by (try rw [w5]);all_goals exact i_dec)
  obtain ⟨k7,H⟩:=H
  obtain ⟨k8,H⟩:=H
  refine path_wp (G:=given kp15 [(5,1,.elem (ag [vi (s.getD i.toNat default).n,AV.vec (s.getD i.toNat default).2 3 (List.map Bk.a (s.getD i.toNat default).3)])),(6,2,.call (vb (Sp.vals (s.getD i.toNat default).3 40)) none)] []) 11 [true] ⟨(atC (cd Try.f15) [1,1,0,1,0,0,1,1,0,0,1,1]),[(15,AV.vec h 2 (List.map Sb.a s)),(16,vi n),(17,vi i),(24,vb !Sp.vals (s.getD i.toNat default).3 40)],[⟨[ag [vi (s.getD i.toNat default).n,AV.vec (s.getD i.toNat default).2 3 (List.map Bk.a (s.getD i.toNat default).3)]],2,0,false,false⟩],_,[((List.map Sb.a s).get?Internal i.toNat = some (ag [vi (s.getD i.toNat default).n,AV.vec (s.getD i.toNat default).2 3 (List.map Bk.a (s.getD i.toNat default).3)]))],_⟩ (by kernel_rfl) (bc (beq_t (i_dec.2 d2)) (bc (i_dec.2 k4) (bc (i6.2 k7) (bc rfl (bc rfl b0))))) (qc (el_map k7) q0) (ce (@ev12 ((s.getD i.toNat default).2) ((s.getD i.toNat default).3) (40) k8) c0) ?_
  rcases xm (¬(Sp.vals (s.getD i.toNat default).3 40 = true)) with d10 | d10
  ·have H:=H.1 d10
   exact path_re (G:=given kp15 [] []) 1000 [true] (asm:=[(!Sp.vals (s.getD i.toNat default).3 40) == true]) (vb false) (by kernel_rfl) (bc (beq_t ((i_not (i_var _)).2 d10)) b0) q0 c0 H
  ·have H:=H.2 d10
   obtain ⟨k11,H⟩:=H
   have w12:wi (i + 1) = i + 1:=wI64 k11
   exact path_wp (G:=given kp15 [] []) 1000 [false] ⟨(atC (cd Try.f15) [1,1,0,1,0,0]),[(15,AV.vec h 2 (List.map Sb.a s)),(16,vi n),(17,vi (wi (i + 1)))],[⟨[ag [vi (s.getD i.toNat default).n,AV.vec (s.getD i.toNat default).2 3 (List.map Bk.a (s.getD i.toNat default).3)]],2,0,false,false⟩],[(!Sp.vals (s.getD i.toNat default).3 40) == false],[],_⟩ (by kernel_rfl) (bc (beq_f (fun h => d10 ((i_not (i_var _)).1 h))) b0) q0 c0 (by (try rw [w12]);all_goals exact wp_narrow [] (by kernel_rfl) H)
 ·have H:=H.2 d2
  exact path_re (G:=given kp15 [] []) 1000 [false] (vb true) (by kernel_rfl) (bc (beq_f (fun h => d2 (i_dec.1 h))) b0) q0 c0 H
end Go.Av

namespace Go.Av
open Go.Proofs
def Sb.fine (x:Sb):Prop:=Sp.okBs x.bl /\ 1 <= x.n /\ x.n <= 9999
theorem idxF_true {α:Type} [Inhabited α] (p:α -> Bool):∀ (r:List α) (i:Int),0 <= i -> ¬Sp.idxF p r i < 0 -> p (r.getD (Sp.idxF p r i - i).toNat default) = true
 | [],i,_,h => by simp [Sp.idxF] at h
 | b :: r,i,hi,h => by
  rw [Sp.idxF] at h ⊢
  split at h
  ·rename_i hb
   rw [if_pos hb,Int.sub_self];exact hb
  ·rename_i hb
   rw [if_neg hb]
   rcases idxF_ge p r (i + 1) (by omega) with ⟨h1,_⟩ | ⟨h1,_⟩
   ·omega
   ·have:=idxF_true p r (i + 1) (by omega) h
    rw [show (Sp.idxF p r (i + 1) - i).toNat = (Sp.idxF p r (i + 1) - (i + 1)).toNat + 1 by omega]
    exact this
structure Fine (m:List Bk) (N:Nat) (k:List (Bool × List Wo × List UInt8)) (z:List Bk × List Sb × Int):Prop where
 main:z.1 = [] \/ z.1 = m
 len:z.2.1.length <= N
 sub:∀ x ∈ z.2.1,x.fine
 key:z.2.2 = 0 -> z.1 = m /\ (Sp.joinS z.2.1).map Bk.key = k
end Go.Av

namespace Go.Av
open Go.Proofs
theorem svFla_loop {h:Bool} {s:List Sb} {dq:AV} (hs:s.length <= 1000000):∀ (c i:Nat),i + c = s.length -> AV.bool ((s.drop i).all fun x => Sp.vals x.bl 40) = dq -> svFla_at h s s.length i (PureQ dq):=by
 intro c
 induction c with
 | zero =>
  intro i hi hq
  rw [List.drop_eq_nil_of_le (by omega)] at hq
  exact svFla _ _ _ _ _ ⟨fun h => by omega,fun _ => hq⟩
 | succ c ih =>
  intro i hi hq
  rw [drop_getD (show i < s.length by omega),List.all_cons] at hq
  refine svFla _ _ _ _ _ ⟨fun _ => ?_,fun h => by omega⟩
  rw [Int.toNat_natCast]
  refine ⟨by omega,by omega,show (40:Int) <= 1000000 by omega,fun k => ?_,fun k => ⟨by omega,ih (i + 1) (by omega) ?_⟩⟩
  ·rw [<- hq,Bool.eq_false_iff.2 k];rfl
  ·rw [<- hq,Classical.not_not.1 k];rfl
namespace Sp
def fewA (l:List Bk) (s:List Sb):Bool:=fewP l s && (vals l 40 && s.all fun x => vals x.bl 40)
end Sp
theorem ev15 (g h:Bool) (l:List Bk) (s:List Sb):Ev M1 (.pure 15 [pgA g h l s]) (.bool (Sp.fewA l s)) []:=by
 refine call15 (svFl _ _ _ _ _ ⟨fun _ => show (40:Int) <= 1000000 by omega,fun k => ?_,fun k => ?_⟩)
 ·unfold Sp.fewA
  congr 1
  rcases k with k | k
  ·rw [Bool.eq_false_iff.2 k];rfl
  ·rw [Bool.eq_false_iff.2 k,Bool.false_and,Bool.and_false]
 ·have k1:Sp.fewP l s = true:=Classical.byContradiction fun y => k (.inl y)
  have k2:Sp.vals l 40 = true:=Classical.byContradiction fun y => k (.inr y)
  refine svFla_loop ?_ s.length 0 (by omega) ?_
  ·unfold Sp.fewP at k1
   simp only [Bool.and_eq_true] at k1
   have:=of_decide_eq_true k1.1
   omega
  ·unfold Sp.fewA
   rw [k1,k2,List.drop_zero,Bool.true_and,Bool.true_and]
end Go.Av
