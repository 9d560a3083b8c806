/- PART 5 of the texts of a claim, joined by a program: what each part shows stands at its head. -/
import Derived.Test.YtboepobkdibhcaaPartbdf538d86f

namespace Go.Av
open Go.Proofs
theorem visit_first {n:Nat} {ps:List Pr} {fm:Bool} (hv:Sp.okV n ps) (hs:∀ p ∈ ps,p.a ≠ p.b) (hn:n <= 1000) (hpl:ps.length <= 1000000) (h0:0 < n) :
  ∃ res K,Ev M1 (.own 35 [.ptr 0 0 0 0,.int .i64 0] [⟨[.agg [.vec fm 1 ((Sp.Zci n ps).map Iw.a),.row 1 0,.row 2 0,.vnil]],4,0,false,false⟩,⟨(List.replicate n false).map .bool,1,0,false,true⟩,⟨(List.replicate n (0:Int)).map (.int .i64),1,0,false,true⟩]) res K /\ Out n ps fm 0 (List.replicate n false) (List.replicate n 0) [] (some 0) res K:=by
 have hV:=(Sp.VI.base n ps).push (i:=0) ⟨by omega,by omega⟩ (by simp) (fun x hx => by cases hx)
 have hA0:(List.replicate n (0:Int)).getD (0:Int).toNat default = 0:=by rw [List.getD_eq_getElem?_getD,List.getElem?_replicate];simp [h0]
 have hD0:(List.replicate n false).getD (0:Int).toNat default = false:=by rw [List.getD_eq_getElem?_getD,List.getElem?_replicate];simp [h0]
 have hb:=set_back (n:=n) (A:=List.replicate n (0:Int)) (i:=0) (x:=1) (by simp) ⟨by omega,by omega⟩ hA0
 obtain ⟨res,K,hL,hO⟩:=vloop (fm:=fm) (D:=List.replicate n false) (q:=some 0) hv hn hpl hb (P:=[]) (i:=0) (fun D1 X1 v1 q1 k hX1 hV1 hq1 hk hke => by
  obtain ⟨res,K,hE,hO⟩:=Zfh (fm:=fm) hv hs hn hpl _ D1 ((List.replicate n (0:Int)).set (0:Int).toNat 1) X1 v1 q1 k rfl (by rw [hX1];exact hV1) hq1 hk (fun x hx => by
   rw [hX1] at hx
   simp at hx
   rw [<- hx];exact hke)
  rw [hX1] at hO
  exact ⟨res,K,hE,hO⟩) (Sp.bhl ps 0).length 0 (List.replicate n false) [0] 0 none (by omega) hV rfl trivial (fun _ h => h) (fun b hb => by simp at hb)
 refine ⟨res,K,ZbU (vSn fm (Sp.Zci n ps) (List.replicate n false) (List.replicate n 0) 0 _ ⟨by omega,by simp;omega,fun z => by omega,fun _ => ⟨by simp;omega,fun z => absurd (hD0.symm.trans z) (by simp),fun _ => ⟨by rw [behW_len];simp;omega,?_⟩⟩⟩),hO⟩
 rw [behW_get (by simp;omega)]
 exact hL
theorem cy_start {n:Nat} {ps:List Pr} {fm:Bool} (hv:Sp.okV n ps) (hs:∀ p ∈ ps,p.a ≠ p.b) (hn:n <= 1000) (hpl:ps.length <= 1000000) :
  ∃ res,Zed fm (Sp.Zci n ps) (List.replicate n false) (List.replicate n 0) (n:Int) 0 (Zay res) /\ CyO n ps res:=by
 cases n with
 | zero => exact ⟨_,pCcNf fm _ _ _ _ _ [] [] 0 0 _ ⟨fun z => absurd z (by omega),fun _ => Zek _⟩,.inl ⟨fun ⟨i,hi,_⟩ => by omega,rfl⟩⟩
 | succ n =>
  obtain ⟨res,K,hE,hO⟩:=visit_first (fm:=fm) hv hs hn hpl (by omega)
  rcases hO with ⟨D2,X2,v2,q2,rfl,rfl,hq2,hX2,hV2,hD2,hDk,hqq⟩ | ⟨x,cs,D2,A2,X2,v2,q2,fz,rfl,rfl,hc⟩
  ·cases q2 with
   | none => exact absurd rfl (hqq (by simp))
   | some q2 =>
    obtain ⟨res,h1,h2⟩:=cy_loop (fm:=fm) hv hs hn hpl n 1 D2 _ X2 v2 q2 (by omega) hV2 hX2 hq2 (fun k hk => by rw [show k = 0 by omega];exact hDk)
    exact ⟨res,pCcNf fm _ _ _ _ _ D2 X2 v2 q2 _ ⟨fun _ => ⟨hE,by omega,h1⟩,fun z => absurd (by omega) z⟩,h2⟩
  ·cases q2 with
   | none => exact ⟨_,pCcNc fm _ _ _ _ _ D2 A2 X2 v2 fz x cs _ ⟨fun _ => ⟨hE,.refl _⟩,fun z => absurd (by omega) z⟩,.inr ⟨x,cs,hc,rfl⟩⟩
   | some q2 => exact ⟨_,pCcNd fm _ _ _ _ _ D2 A2 X2 v2 q2 fz x cs _ ⟨fun _ => ⟨hE,.refl _⟩,fun z => absurd (by omega) z⟩,.inr ⟨x,cs,hc,rfl⟩⟩
theorem cy_ev (n:Int) (f:Bool) (ps:List Pr):∃ res,Ev M1 (.pure 17 [.int .i64 n,.vec f 2 (ps.map Pr.v)]) res [] /\ (¬Sp.vd n ps = 0 -> res = .tup [.vec false 1 (([]:List Int).map (.int .i64)),.bool false]) /\ (Sp.vd n ps = 0 -> CyO n.toNat ps res):=by
 by_cases h:Sp.vd n ps = 0
 ·have hz:=vd_zero h
  obtain ⟨m,rfl,hv,hm,hpl⟩:=vd_okV h
  obtain ⟨res,h1,h2⟩:=cy_start (fm:=false) hv (fun p hp => (hz.2.2.2 p hp).2.2.2.2) hm hpl
  refine ⟨res,call17 (pCc _ _ _ _ ⟨fun z => absurd h z,fun _ => cy3 h (pCcB _ _ _ _ _ _ ?_)⟩),fun z => absurd h z,fun _ => by rw [Int.toNat_natCast];exact h2⟩
  rw [Int.toNat_natCast]
  exact h1
 ·exact ⟨_,call17 (pCc _ _ _ _ ⟨fun _ => Zek _,fun z => absurd h z⟩),fun _ => rfl,fun z => absurd z h⟩
def ciF (ps:List Pr) (l:List Int) (i:Nat):Bool:=!Sp.mem (l.take i) (l.getD i default)&&Sp.has ps (l.getD i default) (l.getD ((i+1) % l.length) default)
theorem pCiL_loop {f g:Bool} {ps:List Pr} {l:List Int} (hl:l.length <= 4000000000) (hp:ps.length <= 4000000000):∀ (c i:Nat),i + c = l.length -> ZeG f g ps l (i:Int) (Zay (.bool ((List.range' i c).all (ciF ps l) && decide (2 <= l.length)))):=by
 intro c
 induction c with
 | zero =>
  intro i hi
  refine pCiL _ _ _ _ _ _ ⟨fun z => absurd z (by omega),fun _ => ?_⟩
  have:decide ((l.length:Int) >= 2) = decide (2 <= l.length):=by
   by_cases h:2 <= l.length
   ·rw [decide_eq_true h,decide_eq_true (by omega)]
   ·rw [decide_eq_false h,decide_eq_false (by omega)]
  rw [this];rfl
 | succ c ih =>
  intro i hi
  have e:((i:Nat):Int).toNat = i:=Int.toNat_natCast i
  have em:(((i:Nat):Int) + 1).tmod (l.length:Int) = ((((i + 1) % l.length:Nat)):Int):=by
   rw [show ((i:Nat):Int) + 1 = ((i + 1:Nat):Int) by omega,Int.ofNat_tmod]
  have hmod:=Nat.mod_lt (i + 1) (show l.length > 0 by omega)
  refine pCiL _ _ _ _ _ _ ⟨fun _ => ?_,fun z => absurd (by omega) z⟩
  rw [e,em,List.drop_zero,Int.toNat_natCast]
  have htk:(l.take i).length <= 4000000000:=by rw [List.length_take];omega
  refine ⟨htk,by omega,fun _ => hp,by omega,by omega,by omega,by omega,fun _ => by omega,fun _ => by omega,fun _ => hmod,fun h => ?_,fun h => ?_⟩
  ·rw [List.range'_succ,List.all_cons]
   have:ciF ps l i = false:=by
    unfold ciF
    rcases h with h | h
    ·rw [h];rfl
    ·rw [Bool.eq_false_iff.2 h,Bool.and_false]
   rw [this];rfl
  ·rw [List.range'_succ,List.all_cons]
   have:ciF ps l i = true:=by
    unfold ciF
    have h1:Sp.mem (l.take i) (l.getD i default) = false:=Bool.eq_false_iff.2 fun y => h (.inl y)
    have h2:Sp.has ps (l.getD i default) (l.getD ((i + 1) % l.length) default) = true:=Classical.byContradiction fun y => h (.inr y)
    rw [h1,h2];rfl
   rw [this,Bool.true_and]
   exact ih (i + 1) (by omega)
theorem ev19 (f g:Bool) (ps:List Pr) (l:List Int) (hl:Sp.few l.length 4000000000) (hp:Sp.few ps.length 4000000000):Ev M1 (.pure 19 [.vec f 2 (ps.map Pr.v),.vec g 1 (l.map (.int .i64))]) (.bool (Sp.circ ps l)) []:=by
 have e:Sp.circ ps l = ((List.range' 0 l.length).all (ciF ps l) && decide (2 <= l.length)):=by
  unfold Sp.circ
  rw [List.range_eq_range'];rfl
 rw [e]
 exact call19 (pCi _ _ _ _ _ (pCiL_loop hl hp l.length 0 (by omega)))
end Go.Av

namespace Go.Av
open Go.Proofs
set_option maxRecDepth 100000
def fi4:Fi:=⟨46,[.tmp 4]⟩
def kp4:List (Nat × List Nat):=[(0,[0,1]),(1,[0,1,14]),(2,[4]),(3,[0,1,5,6]),(4,[1,5,6,32]),(5,[4]),(6,[4])]
def pLyN_at (n:Int) (f:Bool) (ps:List Pr) (Q:AV->Heap->Prop):Prop:=Wp M1 (.run fi4 (atC (cd Try.f4) []) [(0,.int .i64 n),(1,.vec f 2 (ps.map Pr.v))] []) Q
theorem call4 {args:List AV} {d:AV} (h:wc M1 fi4 Try.f4 args d):Ev M1 (.pure 4 args) d []:=pcl _ _ (by kernel_rfl) h
theorem pLyN (n:Int) (f:Bool) (ps:List Pr) (l:List Int) (b:Bool) (dq:AV) (H :
  ((¬(Sp.fw n 30 ps = true)) -> vb true = dq) /\
  (¬(¬(Sp.fw n 30 ps = true)) -> (Sp.few ps.length 60000000000) /\
   (Ev M1 (Conf.pure 17 [vi n,AV.vec false 2 (List.map Pr.v ps)]) (tu [vf (List.map (vi) l),vb b]) []) /\
   ((¬(¬Sp.vd n ps = 0)) -> (Sp.vd n ps = 0)) /\
   (((¬Sp.vd n ps = 0) \/ (¬(Sp.cycB n.toNat ps = true))) -> (vb (bif !b then (↑l.length:Int) == 0 else false)) = dq) /\
   (¬((¬Sp.vd n ps = 0) \/ (¬(Sp.cycB n.toNat ps = true))) -> ((b = true) -> (Sp.few l.length 4000000000)) /\
    ((b = true) -> (Sp.few ps.length 4000000000)) /\
    vb (bif b then Sp.circ ps l else false) = dq))) :
 pLyN_at n f ps (Zay dq):=by
 unfold pLyN_at
 refine Zae (G:=Zaf kp4 [(1,0,.call (vb true) none),(1,5,.call (vb (Sp.fw n 30 ps)) none)] []) 5 [] ⟨(atC (cd Try.f4) [1,0,1]),[(0,vi n),(1,AV.vec f 2 (List.map Pr.v ps)),(14,vb !Sp.fw n 30 ps)],[],_,[],_⟩ (by kernel_rfl) b0 q0 (ce (@ev12 ) (ce (@ev16 (n) (30) (f) (ps)) c0)) ?_
 rcases xq H with ⟨d2,H⟩|⟨d2,H⟩
 ·exact ZaQ (G:=Zaf kp4 [(2,0,.call (vb true) none)] []) 1000 [true] (asm:=[(!Sp.fw n 30 ps) == true]) (vb true) (by kernel_rfl) (bc (ZaK ((i_not (Zat _)).2 d2)) b0) q0 (ce (@ev12 ) c0) H
 ·obtain ⟨k3,k4,k6,H⟩:=H
  refine Zae (G:=Zaf kp4 [(3,2,.call (AV.vec false 2 (List.map Pr.v ps)) none),(3,3,(.call (.tup [.vec false 1 (l.map (.int .i64)),.bool b]) none:Ans)),(4,2,.call (vi (Sp.vd n ps)) none),(4,7,.call (vb (Sp.cycB n.toNat ps)) none)] []) 7 [false] ⟨(atC (cd Try.f4) [1,1,1,0,1]),[(1,AV.vec f 2 (List.map Pr.v ps)),(5,vf (List.map (vi) l)),(6,vb b),(32,vb (bif Sp.vd n ps != 0 then true else !Sp.cycB n.toNat ps))],[],[(!Sp.fw n 30 ps) == false],[],[⟨true,false,13,[AV.vec f 2 (List.map Pr.v ps)],[],AV.vec false 2 (List.map Pr.v ps),[]⟩,⟨true,false,17,[vi n,AV.vec false 2 (List.map Pr.v ps)],[],tu [vf (List.map (vi) l),vb b],[]⟩,⟨true,false,15,[vi n,AV.vec f 2 (List.map Pr.v ps)],[],vi (Sp.vd n ps),[]⟩,⟨(Sp.vd n ps != 0) == false && true && true,false,18,[vi n,AV.vec f 2 (List.map Pr.v ps)],[],vb (Sp.cycB n.toNat ps),[]⟩]⟩ (by kernel_rfl) (bc (ZaI (fun h => d2 ((i_not (Zat _)).1 h))) b0) q0 (cc (fun _ => (@ev13 (f) (ps) k3)) (cc (fun _ => k4) (cc (fun _ => (@ev15 (n) (f) (ps))) (cc (fun hc => ((@ev18 (n) (f) (ps) (k6 ((i_at (i_at (i_bf i_ne))).1 hc))):Ev M1 (Conf.pure 18 [vi n,AV.vec f 2 (List.map Pr.v ps)]) (vb (Sp.cycB n.toNat ps)) [])) c0)))) ?_
  rcases xq H with ⟨d8,H⟩|⟨d8,H⟩
  ·have w9:(List.map (vi) l).length = l.length:=List.length_map ..
   exact ZaQ (G:=Zaf kp4 [] []) 1000 [true] (asm:=[(bif Sp.vd n ps != 0 then true else !Sp.cycB n.toNat ps) == true]) (vb (bif !b then (↑(List.map (vi) l).length:Int) == 0 else false)) (by kernel_rfl) (bc (ZaK ((Zcx i_ne (i_not (Zat _))).2 d8)) b0) q0 c0 (by (try rw [w9]);all_goals exact H)
  ·obtain ⟨k11,k12,H⟩:=H
   exact ZaQ (G:=Zaf kp4 [(6,4,.call (vb (Sp.circ ps l)) none)] []) 1000 [false] (asm:=[(bif Sp.vd n ps != 0 then true else !Sp.cycB n.toNat ps) == false]) (calls:=[⟨b == true && true && true,false,19,[AV.vec f 2 (List.map Pr.v ps),vf (List.map (vi) l)],[],vb (Sp.circ ps l),[]⟩]) (vb (bif b then Sp.circ ps l else false)) (by kernel_rfl) (bc (ZaI (fun h => d8 ((Zcx i_ne (i_not (Zat _))).1 h))) b0) q0 (cc (fun hc => ((@ev19 (f) (false) (ps) (l) (k11 ((i_at (i_at (i_bt (Zat _)))).1 hc)) (k12 ((i_at (i_at (i_bt (Zat _)))).1 hc))):Ev M1 (Conf.pure 19 [AV.vec f 2 (List.map Pr.v ps),vf (List.map (vi) l)]) (vb (Sp.circ ps l)) [])) c0) H
end Go.Av

namespace Go.Av
open Go.Proofs
theorem circ_spec {ps:List Pr} {l:List Int} (h:Sp.circ ps l = true):2 <= l.length /\ ∀ i,i < l.length -> Sp.mem (l.take i) (l.getD i default) = false /\ Sp.edge ps (l.getD i default) (l.getD ((i + 1) % l.length) default):=by
 unfold Sp.circ at h
 rw [Bool.and_eq_true,List.all_eq_true,decide_eq_true_eq] at h
 refine ⟨h.2,fun i hi => ?_⟩
 have:=h.1 i (List.mem_range.2 hi)
 rw [Bool.and_eq_true,Bool.not_eq_true',has_iff] at this
 exact this
theorem circ_cyc {n:Nat} {ps:List Pr} {l:List Int} (hv:Sp.okV n ps) (h:Sp.circ ps l = true):Sp.cyc n ps:=by
 obtain ⟨h2,hs⟩:=circ_spec h
 have main:∀ j,1 <= j -> j < l.length -> Sp.dep ps (l.getD 0 default) (l.getD j default):=by
  intro j
  induction j with
  | zero => intro h;omega
  | succ j ih =>
   intro _ hj
   have e:=(hs j (by omega)).2
   rw [Nat.mod_eq_of_lt hj] at e
   by_cases hz:j = 0
   ·subst hz;exact .one e
   ·exact ZcM (ih (by omega) (by omega)) (.one e)
 have e:=(hs (l.length - 1) (by omega)).2
 rw [show l.length - 1 + 1 = l.length by omega,Nat.mod_self] at e
 have hd:=ZcM (main (l.length - 1) (by omega) (by omega)) (.one e)
 refine ⟨_,?_,hd⟩
 exact (dep_in hv hd).1
theorem circ_len {n:Nat} {ps:List Pr} {l:List Int} (hv:Sp.okV n ps) (h:Sp.circ ps l = true):l.length <= n:=by
 obtain ⟨h2,hs⟩:=circ_spec h
 have gd:∀ i (hi:i < l.length),l.getD i default = l[i]:=fun i hi => by rw [List.getD_eq_getElem?_getD,List.getElem?_eq_getElem hi];rfl
 refine pigeon n l ?_ fun x hx => ?_
 ·rw [List.nodup_iff_pairwise_ne,List.pairwise_iff_getElem]
  intro i j hi hj hij e
  have:=(hs j hj).1
  rw [gd j hj] at this
  refine Bool.eq_false_iff.1 this (Zcq.2 ?_)
  rw [<- e,List.mem_take_iff_getElem]
  exact ⟨i,by omega,rfl⟩
 ·obtain ⟨i,hi⟩:=List.getElem?_of_mem hx
  have hil:=(List.getElem?_eq_some_iff.1 hi).1
  obtain ⟨p,hp,h1,_⟩:=(hs i hil).2
  have:=hv p hp
  rw [List.getD_eq_getElem?_getD,hi,Option.getD_some] at h1
  omega
theorem ev4 (n:Int) (f:Bool) (ps:List Pr):Ev M1 (.pure 4 [.int .i64 n,.vec f 2 (ps.map Pr.v)]) (.bool true) []:=by
 obtain ⟨res,h1,h2,h3⟩:=cy_ev n false ps
 have fwl:¬¬(Sp.fw n 30 ps = true) -> ps.length <= 60:=fun h => fw_len (n:=n) (m:=30) (ps:=ps) (Classical.byContradiction fun y => h y)
 by_cases hv:Sp.vd n ps = 0
 ·obtain ⟨m,rfl,hok,hm,hpl⟩:=vd_okV hv
  rcases h3 hv with ⟨hc,rfl⟩ | ⟨c,cs,hc,rfl⟩
  ·refine call4 (pLyN _ _ _ [] false _ ⟨fun _ => rfl,fun h => ⟨by have:=fwl h;unfold Sp.few;omega,h1,fun _ => hv,fun _ => rfl,fun z => ?_⟩⟩)
   refine absurd (.inr fun y => hc ?_) z
   rw [Int.toNat_natCast] at y
   exact (Zeg hok).1 y
  ·have hcy:=circ_cyc hok hc
   have hl:=circ_len hok hc
   refine call4 (pLyN _ _ _ (c :: cs) true _ ⟨fun _ => rfl,fun h => ⟨by have:=fwl h;unfold Sp.few;omega,h1,fun _ => hv,fun z => ?_,fun _ => ⟨fun _ => by unfold Sp.few;omega,fun _ => by unfold Sp.few;omega,by rw [hc];rfl⟩⟩⟩)
   rw [Int.toNat_natCast] at z
   rcases z with z | z
   ·exact absurd hv z
   ·exact absurd ((Zeg hok).2 hcy) z
 ·rw [h2 hv] at h1
  exact call4 (pLyN _ _ _ [] false _ ⟨fun _ => rfl,fun h => ⟨by have:=fwl h;unfold Sp.few;omega,h1,fun z => absurd hv z,fun _ => rfl,fun z => absurd (.inl hv) z⟩⟩)
end Go.Av
