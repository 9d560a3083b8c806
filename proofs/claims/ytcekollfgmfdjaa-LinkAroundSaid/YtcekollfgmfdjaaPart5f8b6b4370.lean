/- PART 5 of the texts of a claim, joined by a program: what each part shows stands at its head. -/
import Derived.Test.YtcekollfgmfdjaaPartd98e7cf9d0

namespace Go.Av
open Go.Proofs
theorem loopK {fb:Bool} {v n L V A kt s:Nat} {dq:AV} (hn:2<=n) (hL:L<=1000000) (hkt:kt+n=L) (hV:O.fits n V) (hV1:1000000000 ^ (n-1)<=V) (hs:0<s/\s<1000000000)
  (hq:AV.tup [usA false (O.Zat kt (A / V)),usA false (O.Zat (O.cnt (A % V)) (A % V / s))]=dq) :
  ∀ (K U Qh:Nat) (q:List Int),K+n<=L->A=Qh*V*1000000000 ^ K+U->U<V*1000000000 ^ K->q.length=kt->q.drop K=O.Zat (kt-K) Qh->K<=kt->ZaQ (O.Zat L U) (O.Zat n V) q fb v n s ((K:Int)-1) (Zae dq)
 | 0,U,Qh,q,hK,hA,hU,hql,hqd,hKk=>by
  rw [Nat.pow_zero,Nat.mul_one] at hA hU
  have hd:A / V=Qh/\A % V=U:=by
   have hV0:0<V:=by omega
   rw [hA,Nat.mul_comm Qh V,Nat.mul_add_div hV0,Nat.mul_add_mod,Nat.div_eq_of_lt hU,Nat.mod_eq_of_lt hU]
   exact ⟨by omega,rfl⟩
  rw [hd.1,hd.2] at hq
  have hUf:O.fits n U:=Zc6 hV (Nat.le_of_lt hU)
  have htk:List.take ((n:Int).toNat-0) (List.drop 0 (O.Zat L U))=O.Zat n U:=by
   rw [Int.toNat_natCast,Nat.sub_zero,List.drop_zero,<- hkt,Nat.add_comm,Zdk,List.take_append_of_le_length (by rw [Zaq];omega),List.take_of_length_le (by rw [Zaq];omega)]
  refine vDivideK _ _ _ _ _ _ _ _ _ ⟨fun h=>by omega,fun _ => ?_⟩
  rw [htk,Zaq]
  have hc:=ZaC.1 hUf
  refine ⟨_,trimN false n U ⟨by unfold O.Za0;omega,hUf⟩,_,_,byWordN false (O.cnt U) U s ⟨by unfold O.Za0;omega,Zap _,hs.1,hs.2⟩,by omega,by omega,by omega,?_⟩
  have e:q=O.Zat kt Qh:=by simpa using hqd
  rw [e,<- hq];exact .refl _
 | K+1,U,Qh,q,hK,hA,hU,hql,hqd,hKk=>by
  have hPK:0<1000000000 ^ K:=Nat.pow_pos (by omega)
  have hV0:0<V:=Nat.lt_of_lt_of_le (Nat.pow_pos (by omega)) hV1
  have hW:U / 1000000000 ^ K<V*1000000000:=by
   apply Nat.div_lt_of_lt_mul
   rw [Nat.pow_succ] at hU
   have:1000000000 ^ K*(V*1000000000)=V*(1000000000 ^ K*1000000000):=by grind
   omega
  have hUf:O.fits (K+(n+1)) U:=by
   unfold O.fits at hV ⊢
   have h1:V*1000000000 ^ (K+1)<=1000000000 ^ n*1000000000 ^ (K+1):=Nat.mul_le_mul_right _ (Nat.le_of_lt hV)
   rw [<- Nat.pow_add] at h1
   rw [show K+(n+1)=n+(K+1) by omega]
   omega
  have hE:Est (1000000000 ^ (n-2)) (U / 1000000000 ^ K) V:=by
   refine ⟨Nat.pow_pos (by omega),?_,hW⟩
   rw [Nat.le_div_iff_mul_le (Nat.pow_pos (by omega)),Nat.mul_comm,<- Nat.pow_succ,show (n-2).succ=n-1 by omega]
   exact hV1
  have ek:(((K+1:Nat):Int)-1)=(K:Nat):=by omega
  rw [ek]
  have hdm:=Nat.div_add_mod (U / 1000000000 ^ K) V
  have hml:=Nat.mod_lt (U / 1000000000 ^ K) hV0
  have hdmU:=Nat.div_add_mod U (1000000000 ^ K)
  have hmlU:=Nat.mod_lt U hPK
  have hql0:=hE.q_lt
  have cont:ZaQ (O.Zat L (U % 1000000000 ^ K+1000000000 ^ K*(U / 1000000000 ^ K % V))) (O.Zat n V) (q.set K ((U / 1000000000 ^ K / V:Nat):Int)) fb v n s ((K:Int)-1) (Zae dq):=by
   refine loopK hn hL hkt hV hV1 hs hq K _ (Qh*1000000000+U / 1000000000 ^ K / V) _ (by omega) ?_ ?_ (by simpa using hql) ?_ (by omega)
   ·rw [hA,Nat.pow_succ]
    generalize U / 1000000000 ^ K=W at hdm hdmU
    generalize W / V=q0 at hdm
    generalize W % V=r0 at hdm
    generalize U % 1000000000 ^ K=l0 at hdmU
    generalize 1000000000 ^ K=p at hdmU
    rw [<- hdmU,<- hdm];grind
   ·generalize U / 1000000000 ^ K % V=r0 at hml
    have h1:1000000000 ^ K*(r0+1)<=1000000000 ^ K*V:=Nat.mul_le_mul_left _ (by omega)
    rw [Nat.mul_succ] at h1
    rw [Nat.mul_comm V]
    omega
   ·rw [Zea (by omega),hqd,show kt-K=(kt-(K+1))+1 by omega,ZaB]
    generalize U / 1000000000 ^ K / V=q0 at hql0
    have e2:(Qh*1000000000+q0) % 1000000000=q0:=by omega
    have e3:(Qh*1000000000+q0) / 1000000000=Qh:=by omega
    rw [e2,e3]
  have hG:=fun g r=>loopG (fb:=fb) (v:=v) (q:=q) (s:=(s:Int)) (dq:=dq) hn hL (show K+n+1<=L by omega) (show q.length<=1000000/\K<q.length by omega) hV hUf hE cont g r
  have hx:U / 1000000000 ^ (K+n-1)=U / 1000000000 ^ K / 1000000000 ^ (n-2) / 1000000000:=by
   rw [Nat.div_div_eq_div_mul,Nat.div_div_eq_div_mul,<- Nat.pow_succ,<- Nat.pow_add]
   congr 2;omega
  have u1:(O.Zat L U).getD (K+n) default=((U / 1000000000 ^ (K+n-1) / 1000000000:Nat):Int):=by
   rw [ZaI U (by omega),Zbr,show K+n-1+1=K+n by omega]
   have:=Zca (n:=K+n) (v:=U) (by rw [show K+n+1=K+(n+1) by omega];exact hUf)
   rw [Nat.mod_eq_of_lt this]
  have u2:(O.Zat L U).getD (K+n-1) default=((U / 1000000000 ^ (K+n-1) % 1000000000:Nat):Int):=ZaI U (by omega)
  have b1:(O.Zat n V).getD (n-1) default=((V / 1000000000 ^ (n-2) / 1000000000:Nat):Int):=by
   rw [ZaI V (by omega),Zbr,show n-2+1=n-1 by omega]
   have:=Zca (n:=n-1) (v:=V) (by rw [show n-1+1=n by omega];exact hV)
   rw [Nat.mod_eq_of_lt this]
  have hv1:V / 1000000000 ^ (n-2) / 1000000000<1000000000:=by
   rw [Zbr,show n-2+1=n-1 by omega]
   exact Zca (by rw [show n-1+1=n by omega];exact hV)
  have hv0:=hE.v1
  have hst:=hE.start
  have hx1:U / 1000000000 ^ (K+n-1) / 1000000000<1000000000:=by
   rw [Zbr,show K+n-1+1=K+n by omega]
   exact Zca (by rw [show K+n+1=K+(n+1) by omega];exact hUf)
  have e1:((K:Int)+n).toNat=K+n:=by omega
  have e2:((K:Int)+n-1).toNat=K+n-1:=by omega
  have e3:((n:Int)-1).toNat=n-1:=by omega
  refine vDivideK _ _ _ _ _ _ _ _ _ ⟨fun _ => ?_,fun h=>by omega⟩
  rw [e1,e2,e3,u1,u2,b1,Zaq,Zaq]
  rw [<- hx] at hG hst
  clear hqd cont hdm hdmU hmlU hml hE hUf hW hU hA
  generalize U / 1000000000 ^ (K+n-1)=X at hG hst hx1
  generalize V / 1000000000 ^ (n-2) / 1000000000=d at hG hst hv1 hv0
  have ex:((X / 1000000000:Nat):Int)*1000000000+((X % 1000000000:Nat):Int)=(X:Int):=by omega
  rw [ex]
  have c2:((X:Int)).tdiv (d:Int)=((X / d:Nat):Int):=(Int.ofNat_tdiv _ _).symm
  have c3:((X:Int)).tmod (d:Int)=((X % d:Nat):Int):=(Int.ofNat_tmod _ _).symm
  rw [c2,c3]
  have hXd:X / d<=X:=Nat.div_le_self _ _
  have hmd:=Nat.mod_lt X hv0
  have hdd:X / d*d+X % d=X:=by rw [Nat.mul_comm];exact Nat.div_add_mod X d
  have fin:=hG (X / d) (X % d) hdd hst (by omega) (by omega)
  generalize X / d=g at hXd fin
  generalize X % d=r at hmd fin
  exact ⟨by omega,by omega,by omega,by omega,by omega,by omega,by omega,by omega,by omega,by omega,by omega,by omega,by omega,by omega,by omega,by omega,fin⟩
namespace O
def dqn (A D:Nat):Nat:=if cnt D=1 then cnt A else if A<D then 0 else cnt A+2-cnt D
def scl (D:Nat):Nat:=1000000000 / (D / 1000000000 ^ (cnt D-1)+1)
def drn (A D:Nat):Nat:=if cnt D=1 then 1 else if A<D then cnt A else cnt (A*scl D % (D*scl D))
end O
theorem scl_facts {D:Nat} (h:2<=O.cnt D):0<O.scl D/\O.scl D<1000000000/\O.fits (O.cnt D) (D*O.scl D)/\1000000000 ^ (O.cnt D-1)<=D*O.scl D/\D / 1000000000 ^ (O.cnt D-1)<1000000000:=by
 have hf:=Zap D
 have ht:D / 1000000000 ^ (O.cnt D-1)<1000000000:=Zca (by rw [show O.cnt D-1+1=O.cnt D by omega];exact hf)
 have hnf:¬O.fits (O.cnt D-1) D:=fun k=>by have:=ZaC.1 k;omega
 have hge:1000000000 ^ (O.cnt D-1)<=D:=by unfold O.fits at hnf;omega
 have ht1:0<D / 1000000000 ^ (O.cnt D-1):=Nat.div_pos hge (Nat.pow_pos (by omega))
 have hlt:D<1000000000 ^ (O.cnt D-1)*(D / 1000000000 ^ (O.cnt D-1)+1):=Nat.lt_mul_div_succ D (Nat.pow_pos (by omega))
 have hp:1000000000 ^ O.cnt D=1000000000 ^ (O.cnt D-1)*1000000000:=by rw [<- Nat.pow_succ];congr 1;omega
 have hs1:0<O.scl D:=Nat.div_pos (by omega) (by omega)
 have hs2:O.scl D*(D / 1000000000 ^ (O.cnt D-1)+1)<=1000000000:=Nat.div_mul_le_self _ _
 unfold O.fits
 rw [hp]
 generalize D / 1000000000 ^ (O.cnt D-1)=t at ht1 ht hlt hs2
 generalize 1000000000 ^ (O.cnt D-1)=P at hge hlt
 have hs3:O.scl D<1000000000:=by
  have:O.scl D*2<=O.scl D*(t+1):=Nat.mul_le_mul_left _ (by omega)
  omega
 generalize O.scl D=s at hs1 hs2 hs3
 refine ⟨hs1,hs3,?_,?_,ht⟩
 ·have h1:D*s<P*(t+1)*s:=Nat.mul_lt_mul_of_pos_right hlt hs1
  have h2:P*(t+1)*s=P*(s*(t+1)):=by grind
  have h3:P*(s*(t+1))<=P*1000000000:=Nat.mul_le_mul_left _ hs2
  omega
 ·have:D*1<=D*s:=Nat.mul_le_mul_left _ hs1
  omega
theorem div_scale {A D s:Nat} (hs:0<s):A*s / (D*s)=A / D/\A*s % (D*s) / s=A % D:=by
 refine ⟨Nat.mul_div_mul_right _ _ hs,?_⟩
 rw [Nat.mul_mod_mul_right,Nat.mul_div_cancel _ hs]
end Go.Av

namespace Go.Av
open Go.Proofs
theorem weak_two {a a' b b':AV} (h:Weak a a') (k:Weak b b'):Weak (.tup [a,b]) (.tup [a',b']):=by
 refine .tup _ _ rfl fun i x y hx hy => ?_
 match i with
 | 0=>simp at hx hy;subst hx;subst hy;exact h
 | 1=>simp at hx hy;subst hx;subst hy;exact k
 | i+2=>simp at hx
theorem Zd1 {x:Nat} (h:x<1000000000):O.Zat 1 x=[(x:Int)]:=by
 simp only [O.Zat]
 rw [Nat.mod_eq_of_lt h]
theorem divideN (fa fb:Bool) (n A m D:Nat) (hn:O.Za0 n/\O.Za0 m) (hA:O.fits n A) (hD:O.fits m D) (hc:O.cnt A<=400000/\O.cnt D<=400000) (h0:D ≠ 0) :
  Ev M1 (.pure 99 [usA fa (O.Zat n A),usA fb (O.Zat m D)]) (.tup [usA false (O.Zat (O.dqn A D) (A / D)),usA false (O.Zat (O.drn A D) (A % D))]) []:=by
 have tA:=trimN fa n A ⟨hn.1,hA⟩
 have tD:=trimN fb m D ⟨hn.2,hD⟩
 have hD1:1<=O.cnt D:=by have:=ZaZ (v:=D);omega
 have hlD:=ZfI D
 have hlA:=ZfI A
 have one:O.cnt D=1->D<1000000000/\(O.lim D).getD 0 default=(D:Int):=by
  intro h
  have hf:=Zap D
  rw [h] at hf
  have hlt:D<1000000000:=by unfold O.fits at hf;simpa using hf
  refine ⟨hlt,?_⟩
  unfold O.lim
  rw [h,Zd1 hlt];rfl
 have res1:O.cnt D=1->AV.tup [usA false (O.Zat (O.dqn A D) (A / D)),usA false (O.Zat (O.drn A D) (A % D))] = .tup [usA false (O.Zat (O.cnt A) (A / D)),usA false [((A % D:Nat):Int)]]:=by
  intro h
  have:=Nat.mod_lt A (Nat.pos_of_ne_zero h0)
  rw [O.dqn,O.drn,if_pos h,if_pos h,Zd1 (by have:=(one h).1;omega)]
 by_cases hA0:A=0
 ·subst hA0
  rw [ZdZ] at tA
  refine call99 (vDivide0 _ _ _ _ _ ⟨tA,_,tD,fun h => ?_,fun h => ?_⟩)
  ·rw [hlD] at h
   obtain ⟨o1,o2⟩:=one (by omega)
   have hb:=byWordN false 0 0 D ⟨by unfold O.Za0;omega,Zbp.2 rfl,by omega,o1⟩
   rw [res1 (by omega),ZbV,o2,hlD]
   exact ⟨_,_,hb,by omega,.refl _⟩
  ·rw [hlD] at h
   have hcmp:=compareN false false 0 0 (O.cnt D) D ⟨by unfold O.Za0;omega,by unfold O.Za0;omega,Zbp.2 rfl,Zap _⟩
   have e:O.sgnI (((0:Nat):Int)-(D:Int)) = -1:=by unfold O.sgnI;rw [if_pos (by omega)]
   rw [e] at hcmp
   refine ⟨hcmp,?_⟩
   have e1:O.dqn 0 D=0:=by unfold O.dqn;rw [if_neg (by omega),if_pos (by omega)]
   have e2:O.drn 0 D=0:=by unfold O.drn;rw [if_neg (by omega),if_pos (by omega),ZbV]
   rw [e1,e2]
   exact weak_two (.vnil 1) (.vnil 1)
 ·have hne:O.lim A ≠ []:=by
   intro e
   rw [e] at hlA
   exact hA0 (ZaZ.1 hlA.symm)
  obtain ⟨x,l,hxl⟩:=List.exists_cons_of_ne_nil hne
  rw [hxl] at tA hlA
  simp only [List.length_cons] at hlA
  by_cases h1:O.cnt D=1
  ·obtain ⟨o1,o2⟩:=one h1
   have hb:=byWordN false (O.cnt A) A D ⟨by unfold O.Za0;omega,Zap _,by omega,o1⟩
   refine call99 (vDivideC _ _ _ _ x l [] _ ⟨tA,_,tD,fun h => ?_,fun h=>by rw [hlD] at h;omega⟩)
   rw [res1 h1,o2,hlD]
   have e:(AV.int .u32 x::l.map (.int .u32))=(O.Zat (O.cnt A) A).map (.int .u32):=by
    have:O.Zat (O.cnt A) A=x::l:=hxl
    rw [this];rfl
   rw [e]
   exact ⟨_,_,hb,by omega,.refl _⟩
  ·have hn2:2<=O.cnt D:=by omega
   obtain ⟨s1,s2,s3,s4,s5⟩:=scl_facts hn2
   have hcmp:=compareN false false (O.cnt A) A (O.cnt D) D ⟨by unfold O.Za0;omega,by unfold O.Za0;omega,Zap _,Zap _⟩
   have eA:O.Zat (O.cnt A) A=x::l:=hxl
   rw [eA] at hcmp
   by_cases hlt:A<D
   ·refine call99 (vDivideC _ _ _ _ x l [] _ ⟨tA,_,tD,fun h=>by rw [hlD] at h;omega,fun _=>⟨_,hcmp,fun _=>⟨by omega,?_⟩,fun h => ?_⟩⟩)
    ·have e1:O.dqn A D=0:=by unfold O.dqn;rw [if_neg h1,if_pos hlt]
     have e2:O.drn A D=O.cnt A:=by unfold O.drn;rw [if_neg h1,if_pos hlt]
     rw [e1,e2,Nat.mod_eq_of_lt hlt,eA]
     exact weak_two (.vnil 1) (.refl _)
    ·rw [ZcV] at h;omega
   ·have fits1:O.fits 1 (O.scl D):=by unfold O.fits;simpa using s2
    have hfAs:O.fits (O.cnt A+1) (A*O.scl D):=ZfU (Zap A) fits1
    have hcA:O.cnt D<=O.cnt A:=Zbf (by omega)
    have hs:Int.tdiv 1000000000 ((O.lim D).getD (((O.lim D).length:Int)-1).toNat default+1)=(O.scl D:Int):=by
     have e1:(((O.lim D).length:Int)-1).toNat=O.cnt D-1:=by rw [hlD];omega
     have e2:(O.lim D).getD (O.cnt D-1) default=((D / 1000000000 ^ (O.cnt D-1):Nat):Int):=by
      have:=ZaI (n:=O.cnt D) D (show O.cnt D-1<O.cnt D by omega)
      rw [Nat.mod_eq_of_lt s5] at this
      exact this
     rw [e1,e2]
     unfold O.scl
     generalize D / 1000000000 ^ (O.cnt D-1)=t
     have:((t:Int)+1)=((t+1:Nat):Int):=by omega
     rw [this]
     exact (Int.ofNat_tdiv 1000000000 (t+1)).symm
    have htop:0<=(O.lim D).getD (((O.lim D).length:Int)-1).toNat default/\(O.lim D).getD (((O.lim D).length:Int)-1).toNat default<1000000000:=by
     refine lim_ok D _ (ZaA ?_)
     rw [hlD];omega
    have hu:O.Zat (O.cnt A+1) (A*O.scl D)++[0]=O.Zat (O.cnt A+2) (A*O.scl D):=by
     rw [Zd2 (O.cnt A+1) 1 _ hfAs];rfl
    have hul:=Zaq (O.cnt A+2) (A*O.scl D)
    have hvV:O.lim (D*O.scl D)=O.Zat (O.cnt D) (D*O.scl D):=by
     refine (lim_of s3 (.inr ?_)).symm
     unfold O.fits;omega
    have t1:=evf90 false true A (O.scl D:Int) ⟨by unfold O.Za0;omega,by omega,by omega⟩
    have eone:[AV.int .u32 (O.scl D:Int)]=(O.Zat 1 (O.scl D)).map (.int .u32):=by rw [Zd1 s2];rfl
    have t2:=timesN false true (O.cnt D) D 1 (O.scl D) ⟨by unfold O.Za0;omega,by unfold O.Za0;omega,Zap _,fits1⟩
    rw [Zd1 s2] at t2
    have t3:=trimN false (O.cnt D+1) (D*O.scl D) ⟨by unfold O.Za0;omega,Zb2 s3 (by omega)⟩
    rw [Int.toNat_natCast,hxl] at t1
    refine call99 (vDivideC _ _ _ _ x l (O.Zat (O.cnt A+1) (A*O.scl D)) _ ⟨tA,_,tD,fun h=>by rw [hlD] at h;omega,fun _=>⟨_,hcmp,fun h=>by rw [ZcV] at h;omega,fun _ => ?_⟩⟩)
    rw [hs,hu,hul]
    refine ⟨by omega,by omega,by omega,by omega,by omega,by omega,by omega,by omega,t1,by rw [Zaq];omega,_,t2,_,t3,by omega,by omega,by omega,by omega,by omega,?_⟩
    rw [hvV,hlD]
    have ekt:((O.cnt A+2:Nat):Int)-(O.cnt D:Int)=((O.cnt A+2-O.cnt D:Nat):Int):=by omega
    rw [ekt,Int.toNat_natCast]
    obtain ⟨d1,d2⟩:=div_scale (A:=A) (D:=D) s1
    refine loopK (A:=A*O.scl D) (kt:=O.cnt A+2-O.cnt D) hn2 (by omega) (by omega) s3 s4 ⟨s1,s2⟩ ?_ (O.cnt A+2-O.cnt D) (A*O.scl D) 0 _ (by omega) (by rw [Nat.zero_mul,Nat.zero_mul,Nat.zero_add]) ?_ (by simp) (by simp [O.Zat]) (Nat.le_refl _)
    ·have e1:O.dqn A D=O.cnt A+2-O.cnt D:=by unfold O.dqn;rw [if_neg h1,if_neg hlt]
     have e2:O.drn A D=O.cnt (A*O.scl D % (D*O.scl D)):=by unfold O.drn;rw [if_neg h1,if_neg hlt]
     rw [d1,d2,e1,e2]
    ·unfold O.fits at hfAs
     have hp:1000000000 ^ (O.cnt D-1)*1000000000 ^ (O.cnt A+2-O.cnt D)=1000000000 ^ (O.cnt A+1):=by rw [<- Nat.pow_add];congr 1;omega
     have:=Nat.mul_le_mul_right (1000000000 ^ (O.cnt A+2-O.cnt D)) s4
     omega
theorem dqn_fits {A D:Nat} (h0:D ≠ 0) (hc:O.cnt A<=400000/\O.cnt D<=400000):O.fits (O.dqn A D) (A / D)/\O.Za0 (O.dqn A D)/\O.fits (O.drn A D) (A % D)/\O.Za0 (O.drn A D):=by
 have hD1:1<=O.cnt D:=by have:=ZaZ (v:=D);omega
 have hm:=Nat.mod_lt A (Nat.pos_of_ne_zero h0)
 unfold O.dqn O.drn O.Za0
 by_cases h1:O.cnt D=1
 ·rw [if_pos h1,if_pos h1]
  have hf:=Zap D
  rw [h1] at hf
  exact ⟨Zc6 (Zap A) (Nat.div_le_self _ _),by omega,Zc6 hf (by omega),by omega⟩
 ·rw [if_neg h1,if_neg h1]
  by_cases hlt:A<D
  ·rw [if_pos hlt,if_pos hlt,Nat.div_eq_of_lt hlt,Nat.mod_eq_of_lt hlt]
   exact ⟨Zbp.2 rfl,by omega,Zap A,by omega⟩
  ·rw [if_neg hlt,if_neg hlt]
   obtain ⟨s1,s2,s3,s4,s5⟩:=scl_facts (D:=D) (by omega)
   obtain ⟨d1,d2⟩:=div_scale (A:=A) (D:=D) s1
   have hcA:O.cnt D<=O.cnt A:=Zbf (by omega)
   refine ⟨?_,by omega,?_,?_⟩
   ·have hnf:¬O.fits (O.cnt D-1) D:=fun k=>by have:=ZaC.1 k;omega
    have hA:=Zap A
    unfold O.fits at hnf hA ⊢
    have hp:1000000000 ^ (O.cnt D-1)*1000000000 ^ (O.cnt A+2-O.cnt D)=1000000000 ^ O.cnt A*1000000000:=by rw [<- Nat.pow_add,<- Nat.pow_succ];congr 1;omega
    have h2:=Nat.mul_le_mul_right (1000000000 ^ (O.cnt A+2-O.cnt D)) (Nat.le_of_not_lt hnf)
    apply Nat.div_lt_of_lt_mul
    omega
   ·rw [<- d2]
    exact Zc6 (Zap _) (Nat.div_le_self _ _)
   ·have:O.cnt (A*O.scl D % (D*O.scl D))<=O.cnt (D*O.scl D):=Zbf (Nat.le_of_lt (Nat.mod_lt _ (Nat.mul_pos (by omega) s1)))
    have:=ZaC.1 s3
    omega
theorem ev99 (fa fb:Bool) (v w:Int) (h:O.okB v/\O.okB w/\w ≠ 0):Ev M1 (.pure 99 [usA fa (O.Zaf v),usA fb (O.Zaf w)]) (.tup [usA false (O.Zat (O.dqn v.natAbs w.natAbs) (v.natAbs / w.natAbs)),usA false (O.Zat (O.drn v.natAbs w.natAbs) (v.natAbs % w.natAbs))]) []:=
 divideN fa fb _ _ _ _ ⟨Zc3 h.1,Zc3 h.2.1⟩ (Zap _) (Zap _) ⟨h.1,h.2.1⟩ (by have:=h.2.2;omega)
end Go.Av

namespace Go.Av
open Go.Proofs
theorem cnt_small {n:Nat} (h:n<1000000000):O.cnt n<=1:=ZaC.1 (by unfold O.fits;simpa using h)
theorem okB_small {v:Int} (h:v.natAbs<1000000000):O.okB v:=by
 have:=cnt_small h
 unfold O.okB;omega
theorem ev108_a (fa:Bool) (a:Int) (h:O.okB a):Ev M1 (.pure 108 [bigA fa a,.agg [.bool false,.vec false 1 ((O.Zaf 1).map (.int .u32))]]) (bigA false (a-1)) []:=
 ev108 fa false a 1 ⟨h,okB_small (by decide)⟩
namespace O
def wrd (v:Int):Int:=if cnt v.natAbs<=2 then (v.natAbs:Int) else 0
def isW (v:Int):Bool:=decide (cnt v.natAbs<=2)
end O
theorem ev98 (fa:Bool) (v:Int):Ev M1 (.pure 98 [bigA fa v]) (.tup [.int .u64 (O.wrd v),.bool (O.isW v)]) []:=by
 have hl:=Zbv v
 have hf:=Zap v.natAbs
 unfold O.wrd O.isW
 generalize hn:v.natAbs=n at *
 have e:O.Zaf v=O.Zat (O.cnt n) n:=by unfold O.Zaf O.lim;rw [hn]
 refine call98 (vWord fa _ _ _ ⟨fun h => ?_,fun h0=>⟨fun h => ?_,fun h1=>⟨fun h => ?_,fun h2 => ?_⟩⟩⟩)
 ·have h:O.cnt n=0:=by omega
  rw [h,if_pos (by omega),ZaZ.1 h];rfl
 ·have h:O.cnt n=1:=by omega
  rw [h] at hf e
  have hlt:n<1000000000:=by unfold O.fits at hf;simpa using hf
  rw [e,Zd1 hlt,h,if_pos (by omega)]
  simp only [List.getD_cons_zero]
  exact ⟨by simp,by omega,rfl⟩
 ·have h:O.cnt n=2:=by omega
  rw [h] at hf e
  have hlt:n<1000000000000000000:=by unfold O.fits at hf;simpa using hf
  have e2:O.Zat 2 n=[((n % 1000000000:Nat):Int),((n / 1000000000 % 1000000000:Nat):Int)]:=rfl
  rw [e,e2,h,if_pos (by omega)]
  simp only [List.getD_cons_zero,List.getD_cons_succ]
  refine ⟨by simp,by simp,by omega,by omega,by omega,by omega,?_⟩
  have e3:((n / 1000000000 % 1000000000:Nat):Int)*1000000000+((n % 1000000000:Nat):Int)=(n:Int):=by omega
  rw [e3];rfl
 ·rw [if_neg (by omega),show decide (O.cnt n<=2)=false by simp;omega]
end Go.Av

namespace Go.Av
open Go.Proofs
set_option maxRecDepth 100000
def fi88:Fi:=⟨61,[.cell 4 108]⟩
def kp88:List (Nat × List Nat):=[(0,[2,3,4]),(1,[4,5,6]),(2,[4,5,6,22]),(3,[4,5,6,7,8]),(4,[4,5,6,7,8,9,10]),(5,[4,5,6,7,9,36]),(6,[4,7,9,38]),(7,[4,7,9]),(8,[4]),(9,[4,5,6,12]),(10,[4,5,6]),(11,[4])]
def fi100:Fi:=⟨55,[.cell 4 108,.cell 5 108,.tmp 6]⟩
def kp100:List (Nat × List Nat):=[(0,[2,3,4,5]),(1,[2,3,4,5,14]),(2,[4,5,6]),(3,[2,3,4,5,7,8]),(4,[3,4,5,9,10]),(5,[3,4,5,9,10,46]),(6,[4,5,9,10]),(7,[4,5,6])]
def Zgt (fa fb:Bool) (a b:Int) (Q:AV->Heap->Prop):Prop:=Wp M1 (.run fi100 (atC (cd Try.f100) []) [(0,bigA fa a),(1,bigA fb b)] []) Q
def vGCD_at (fa fb:Bool) (a b:Int) (Q:AV->Heap->Prop):Prop:=Wp M1 (.run fi88 (atC (cd Try.f88) []) [(0,bigA fa a),(1,bigA fb b)] []) Q
def ZcC (x y:Int) (Q:AV->Heap->Prop):Prop:=Wp M1 (.run fi88 (atC (cd Try.f88) [1,1,0,0,0]) [(4,.ptr 0 0 0 0),(5,.ptr 1 0 0 0),(6,.ptr 2 0 0 0)] [⟨[.agg [.bool false,.vnil]],2,0,false,false⟩,⟨[.agg [.bool (O.Zaa x),.vec false 1 ((O.Zaf x).map (.int .u32))]],2,0,false,false⟩,⟨[.agg [.bool (O.Zaa y),.vec false 1 ((O.Zaf y).map (.int .u32))]],2,0,false,false⟩]) Q
def ZeO (s:Bool) (c:Int) (l:List Int) (Q:AV->Heap->Prop):Prop:=Wp M1 (.run fi88 (atC (cd Try.f88) [1,1,0,0,0]) [(4,.ptr 0 0 0 0),(5,.ptr 1 0 0 0),(6,.ptr 2 0 0 0)] [⟨[.agg [.bool false,.vnil]],2,0,false,false⟩,⟨[.agg [.bool s,.vec false 1 ((c::l).map (.int .u32))]],2,0,false,false⟩,⟨[.agg [.bool false,.vec false 1 []]],2,0,false,false⟩]) Q
def vGCDZ_at (s:Bool) (Q:AV->Heap->Prop):Prop:=Wp M1 (.run fi88 (atC (cd Try.f88) [1,1,0,0,0]) [(4,.ptr 0 0 0 0),(5,.ptr 1 0 0 0),(6,.ptr 2 0 0 0)] [⟨[.agg [.bool false,.vnil]],2,0,false,false⟩,⟨[.agg [.bool s,.vec false 1 []]],2,0,false,false⟩,⟨[.agg [.bool false,.vec false 1 []]],2,0,false,false⟩]) Q
def ZdF (u v:Int) (Q:AV->Heap->Prop):Prop:=Wp M1 (.run fi88 (atC (cd Try.f88) [1,1,0,0,0,1,0,1,1,0,1,0,0,0,0]) [(4,.ptr 0 0 0 0),(7,.int .u64 u),(9,.int .u64 v)] [⟨[.agg [.bool false,.vnil]],2,0,false,false⟩]) Q
theorem call88 {args:List AV} {d:AV} (h:wc M1 fi88 Try.f88 args d):Ev M1 (.pure 88 args) d []:=pcl _ _ (by kernel_rfl) h
theorem call100 {args:List AV} {d:AV} (h:wc M1 fi100 Try.f100 args d):Ev M1 (.pure 100 args) d []:=pcl _ _ (by kernel_rfl) h
noncomputable abbrev zNvG1 (a:Int) (b:Int):=us (O.Zat (O.dqn a.natAbs b.natAbs) (a.natAbs / b.natAbs))
noncomputable abbrev zNvG2 (a:Int) (b:Int):=us (O.Zat (O.drn a.natAbs b.natAbs) (a.natAbs % b.natAbs))
noncomputable abbrev zNvG3 (a:Int) (b:Int):=O.sg (!O.Zaa a==O.Zaa b) (a.natAbs / b.natAbs)
theorem vDivMod (fa fb:Bool) (a b:Int)  (dq:AV) (H :
  (((↑(O.Zaf b).length:Int)=0)->Weak (tu [ag [vb false,AV.vnil],ag [vb false,AV.vnil],vi 6]) dq) /\
  (¬((↑(O.Zaf b).length:Int)=0)->(O.okB a/\O.okB b/\b ≠ 0) /\
   (O.Za0 (O.dqn a.natAbs b.natAbs)/\O.fits (O.dqn a.natAbs b.natAbs) (a.natAbs / b.natAbs)) /\
   (O.Za0 (O.drn a.natAbs b.natAbs)/\O.fits (O.drn a.natAbs b.natAbs) (a.natAbs % b.natAbs)) /\
   ((((↑(O.Zaf (O.sg (O.Zaa a) (a.natAbs % b.natAbs))).length:Int)>0)/\(¬(O.Zaa (O.sg (O.Zaa a) (a.natAbs % b.natAbs))=O.Zaa b)))->(O.inI 1) /\
    (O.okB (O.sg (!O.Zaa a==O.Zaa b) (a.natAbs / b.natAbs))) /\
    (O.okB (O.sg (O.Zaa a) (a.natAbs % b.natAbs))/\O.okB b) /\
    Weak (tu [bigA false (O.sg (!O.Zaa a==O.Zaa b) (a.natAbs / b.natAbs)-1),bigA false (O.sg (O.Zaa a) (a.natAbs % b.natAbs)+b),vi 0]) dq) /\
   (¬(((↑(O.Zaf (O.sg (O.Zaa a) (a.natAbs % b.natAbs))).length:Int)>0)/\(¬(O.Zaa (O.sg (O.Zaa a) (a.natAbs % b.natAbs))=O.Zaa b)))->Weak (tu [bigA false (O.sg (!O.Zaa a==O.Zaa b) (a.natAbs / b.natAbs)),bigA false (O.sg (O.Zaa a) (a.natAbs % b.natAbs)),vi 0]) dq))) :
 Zgt fa fb a b (Zae dq):=by
 unfold Zgt
 have w1:(us (O.Zaf b)).length=(O.Zaf b).length:=List.length_map ..
 have i2:((↑(us (O.Zaf b)).length:Int)==0)=true ↔ ((↑(O.Zaf b).length:Int)=0):=(by (try rw [w1]);all_goals exact i_eq)
 rcases xq H with ⟨d3,H⟩|⟨d3,H⟩
 ·exact Zao (G:=Zad kp100 [] []) 1000 [true] (tu [ag [vb false,AV.vnil],ag [vb false,AV.vnil],vi 6]) (by kernel_rfl) (bc rfl (bc (Zal (i2.2 d3)) (bc rfl (bc rfl b0)))) q0 c0 H
 ·obtain ⟨k4,k5,k6,H⟩:=H
  refine Zac (G:=Zad kp100 [(3,4,.call (tu [vf (zNvG1 a b),vf (zNvG2 a b)]) none),(4,6,.call (bigA false (zNvG3 a b)) none),(4,10,.call (bigA false (O.sg (O.Zaa a) (a.natAbs % b.natAbs))) none)] []) 10 [false] ⟨(atC (cd Try.f100) [1,1,1,0]),[(2,AV.ptr 0 0 0 0),(3,AV.ptr 1 0 0 0),(4,AV.ptr 2 0 0 0),(5,AV.ptr 3 0 0 0),(7,vf (zNvG1 a b)),(8,vf (zNvG2 a b))],[⟨[bigA fa a],2,0,false,false⟩,⟨[bigA fb b],2,0,false,false⟩,⟨[ag [vb false,AV.vnil]],2,0,false,false⟩,⟨[ag [vb false,AV.vnil]],2,0,false,false⟩],_,[],_⟩ (by kernel_rfl) (bc rfl (bc (Zak (fun h=>d3 (i2.1 h))) (bc rfl (bc rfl b0)))) q0 (ce (@ev99 fa fb a b k4) c0) (Zee (G:=Zad kp100 [(3,4,.call (tu [vf (zNvG1 a b),vf (zNvG2 a b)]) none),(4,6,.call (bigA false (zNvG3 a b)) none),(4,10,.call (bigA false (O.sg (O.Zaa a) (a.natAbs % b.natAbs))) none)] []) [0,1,2,3,5,4] 11 (e1:=[(3,AV.ptr 1 0 0 0),(4,AV.ptr 2 0 0 0),(5,AV.ptr 3 0 0 0),(9,AV.ptr 4 0 0 0),(10,AV.ptr 5 0 0 0)]) (L1:=[⟨[bigA fa a],2,0,false,false⟩,⟨[bigA fb b],2,0,false,false⟩,⟨[ag [vb false,AV.vnil]],2,0,false,false⟩,⟨[ag [vb false,AV.vnil]],2,0,false,false⟩,⟨[bigA false (zNvG3 a b)],2,0,false,false⟩,⟨[bigA false (O.sg (O.Zaa a) (a.natAbs % b.natAbs))],2,0,false,false⟩]) (a:=[true,true,true,true,true]) (q:=[]) (cs:=[⟨true,false,84,[vb !O.Zaa a==O.Zaa b,vf (zNvG1 a b)],[],bigA false (zNvG3 a b),[]⟩,⟨true,false,84,[vb (O.Zaa a),vf (zNvG2 a b)],[],bigA false (O.sg (O.Zaa a) (a.natAbs % b.natAbs)),[]⟩]) (by kernel_rfl) (by kernel_rfl) (Zag rfl (Zag rfl (Zag rfl (Zag rfl (Zag rfl Zax))))) ZaN (ZaL (fun _=>(@ev84 (!O.Zaa a==O.Zaa b) false (O.dqn a.natAbs b.natAbs) (a.natAbs / b.natAbs) k5)) (ZaL (fun _=>(@ev84 (O.Zaa a) false (O.drn a.natAbs b.natAbs) (a.natAbs % b.natAbs) k6)) ZaO)) ?_)
  have w7:(us (O.Zaf (O.sg (O.Zaa a) (a.natAbs % b.natAbs)))).length=(O.Zaf (O.sg (O.Zaa a) (a.natAbs % b.natAbs))).length:=List.length_map ..
  have i8:(bif decide ((↑(us (O.Zaf (O.sg (O.Zaa a) (a.natAbs % b.natAbs)))).length:Int)>0) then !O.Zaa (O.sg (O.Zaa a) (a.natAbs % b.natAbs))==O.Zaa b else false)=true ↔ (((↑(O.Zaf (O.sg (O.Zaa a) (a.natAbs % b.natAbs))).length:Int)>0)/\(¬(O.Zaa (O.sg (O.Zaa a) (a.natAbs % b.natAbs))=O.Zaa b))):=(by (try rw [w7]);all_goals exact (ZaM Zab (Za2 i_eq)))
  rcases xq H with ⟨d9,H⟩|⟨d9,H⟩
  ·obtain ⟨k10,k11,k12,H⟩:=H
   exact Zao (G:=Zad kp100 [(6,1,.call (ag [vb false,vf (us (O.Zaf 1))]) none),(6,2,.call (bigA false (O.sg (!O.Zaa a==O.Zaa b) (a.natAbs / b.natAbs)-1)) none),(6,5,.call (bigA false (O.sg (O.Zaa a) (a.natAbs % b.natAbs)+b)) none)] [(7,[5003,4002,7001,6000])]) 1000 [true] (asm:=[true,!(decide ((↑(us (O.Zaf (O.sg (O.Zaa a) (a.natAbs % b.natAbs)))).length:Int)>0)==true&&true)||true,!(decide ((↑(us (O.Zaf (O.sg (O.Zaa a) (a.natAbs % b.natAbs)))).length:Int)>0)==true&&true)||true,(bif decide ((↑(us (O.Zaf (O.sg (O.Zaa a) (a.natAbs % b.natAbs)))).length:Int)>0) then !O.Zaa (O.sg (O.Zaa a) (a.natAbs % b.natAbs))==O.Zaa b else false)==true,true,true,true,true,true,true,true,true,true]) (tu [bigA false (O.sg (!O.Zaa a==O.Zaa b) (a.natAbs / b.natAbs)-1),bigA false (O.sg (O.Zaa a) (a.natAbs % b.natAbs)+b),vi 0]) (by kernel_rfl) (bc rfl (bc (Bool.or_true _) (bc (Bool.or_true _) (bc (Zal (i8.2 d9)) (bc rfl (bc rfl (bc rfl (bc rfl (bc rfl (bc rfl (bc rfl (bc rfl (bc rfl b0))))))))))))) q0 (ce (@ev75 1 k10) (ce (@ev108_a false (zNvG3 a b) k11) (ce (@ev109 false fb (O.sg (O.Zaa a) (a.natAbs % b.natAbs)) b k12) c0))) H
  ·exact Zao (G:=Zad kp100 [] [(7,[5003,4002,7001,6000])]) 1000 [false] (asm:=[true,!(decide ((↑(us (O.Zaf (O.sg (O.Zaa a) (a.natAbs % b.natAbs)))).length:Int)>0)==true&&true)||true,!(decide ((↑(us (O.Zaf (O.sg (O.Zaa a) (a.natAbs % b.natAbs)))).length:Int)>0)==true&&true)||true,(bif decide ((↑(us (O.Zaf (O.sg (O.Zaa a) (a.natAbs % b.natAbs)))).length:Int)>0) then !O.Zaa (O.sg (O.Zaa a) (a.natAbs % b.natAbs))==O.Zaa b else false)==false,true,true,true,true]) (tu [bigA false (zNvG3 a b),bigA false (O.sg (O.Zaa a) (a.natAbs % b.natAbs)),vi 0]) (by kernel_rfl) (bc rfl (bc (Bool.or_true _) (bc (Bool.or_true _) (bc (Zak (fun h=>d9 (i8.1 h))) (bc rfl (bc rfl (bc rfl (bc rfl b0)))))))) q0 c0 H
theorem vGCD (fa fb:Bool) (a b:Int)  (dq:AV) (H :
  (O.ok a) /\
  (O.ok b) /\
  ZcC (O.sg false a.natAbs) (O.sg false b.natAbs) (Zae dq)) :
 vGCD_at fa fb a b (Zae dq):=by
 unfold vGCD_at
 obtain ⟨k1,k2,H⟩:=H
 refine Zac (G:=Zad kp88 [(1,2,.call (bigA false (O.sg false a.natAbs)) none),(1,5,.call (bigA false (O.sg false b.natAbs)) none)] []) 3 [] ⟨(atC (cd Try.f88) [1,0]),[(2,AV.ptr 0 0 0 0),(3,AV.ptr 1 0 0 0),(4,AV.ptr 2 0 0 0)],[⟨[bigA fa a],2,0,false,false⟩,⟨[bigA fb b],2,0,false,false⟩,⟨[ag [vb false,AV.vnil]],2,0,false,false⟩],_,[],_⟩ (by kernel_rfl) b0 q0 c0 (Zee (G:=Zad kp88 [(1,2,.call (bigA false (O.sg false a.natAbs)) none),(1,5,.call (bigA false (O.sg false b.natAbs)) none)] []) [0,1,2,4,3] 6 (e1:=[(4,AV.ptr 2 0 0 0),(5,AV.ptr 3 0 0 0),(6,AV.ptr 4 0 0 0)]) (L1:=[⟨[bigA fa a],2,0,false,false⟩,⟨[bigA fb b],2,0,false,false⟩,⟨[ag [vb false,AV.vnil]],2,0,false,false⟩,⟨[bigA false (O.sg false a.natAbs)],2,0,false,false⟩,⟨[bigA false (O.sg false b.natAbs)],2,0,false,false⟩]) (a:=[true,true,true,true]) (q:=[]) (cs:=[⟨true,false,84,[vb false,AV.vec fa 1 (us (O.Zaf a))],[],bigA false (O.sg false a.natAbs),[]⟩,⟨true,false,84,[vb false,AV.vec fb 1 (us (O.Zaf b))],[],bigA false (O.sg false b.natAbs),[]⟩]) (by kernel_rfl) (by kernel_rfl) (Zag rfl (Zag rfl (Zag rfl (Zag rfl Zax)))) ZaN (ZaL (fun _=>(@ev84_a false fa a k1)) (ZaL (fun _=>(@ev84_a false fb b k2)) ZaO)) ?_)
 exact Zac (G:=Zad kp88 [] []) 1000 [] ⟨(atC (cd Try.f88) [1,1,0,0,0]),[(4,AV.ptr 2 0 0 0),(5,AV.ptr 3 0 0 0),(6,AV.ptr 4 0 0 0)],[⟨[bigA fa a],2,0,false,false⟩,⟨[bigA fb b],2,0,false,false⟩,⟨[ag [vb false,AV.vnil]],2,0,false,false⟩,⟨[bigA false (O.sg false a.natAbs)],2,0,false,false⟩,⟨[bigA false (O.sg false b.natAbs)],2,0,false,false⟩],_,[],_⟩ (by kernel_rfl) b0 q0 c0 (Zas [2,3,4] (by kernel_rfl) H)
theorem vGCDH (x y:Int)  (dq:AV) (H :
  (((↑(O.Zaf y).length:Int)>0)->(((O.isW x=true)/\(O.isW y=true))->ZdF (O.wrd x) (O.wrd y) (Zae dq)) /\
   (¬((O.isW x=true)/\(O.isW y=true))->(O.okB x/\O.okB y/\y ≠ 0) /\
    (O.Za0 (O.drn x.natAbs y.natAbs)/\O.fits (O.drn x.natAbs y.natAbs) (x.natAbs % y.natAbs)) /\
    ZcC y (O.sg false (x.natAbs % y.natAbs)) (Zae dq))) /\
  (¬((↑(O.Zaf y).length:Int)>0)->False)) :
 ZcC x y (Zae dq):=by
 unfold ZcC
 have w1:(us (O.Zaf y)).length=(O.Zaf y).length:=List.length_map ..
 have i2:(decide ((↑(us (O.Zaf y)).length:Int)>0))=true ↔ ((↑(O.Zaf y).length:Int)>0):=(by (try rw [w1]);all_goals exact Zab)
 rcases xq H with ⟨d3,H⟩|⟨d3,H⟩
 ·refine Zac (G:=Zad kp88 [(3,1,.call (tu [vw (O.wrd x),vb (O.isW x)]) none),(4,1,.call (tu [vw (O.wrd y),vb (O.isW y)]) none)] []) 13 [true] ⟨(atC (cd Try.f88) [1,1,0,0,0,1,0,1,1,0,1]),[(4,AV.ptr 0 0 0 0),(5,AV.ptr 1 0 0 0),(6,AV.ptr 2 0 0 0),(7,vw (O.wrd x)),(9,vw (O.wrd y)),(36,vb (bif O.isW x then O.isW y else false))],[⟨[ag [vb false,AV.vnil]],2,0,false,false⟩,⟨[bigA false x],2,0,false,false⟩,⟨[bigA false y],2,0,false,false⟩],_,[],_⟩ (by kernel_rfl) (bc rfl (bc (Zal (i2.2 d3)) (bc rfl (bc rfl b0)))) q0 (ce (@ev98 false x) (ce (@ev98 false y) c0)) ?_
  rcases xq H with ⟨d5,H⟩|⟨d5,H⟩
  ·exact Zac (G:=Zad kp88 [] []) 1000 [true] ⟨(atC (cd Try.f88) [1,1,0,0,0,1,0,1,1,0,1,0,0,0,0]),[(4,AV.ptr 0 0 0 0),(5,AV.ptr 1 0 0 0),(6,AV.ptr 2 0 0 0),(7,vw (O.wrd x)),(9,vw (O.wrd y)),(36,vb (bif O.isW x then O.isW y else false))],[⟨[ag [vb false,AV.vnil]],2,0,false,false⟩,⟨[bigA false x],2,0,false,false⟩,⟨[bigA false y],2,0,false,false⟩],[(bif O.isW x then O.isW y else false)==true],[],_⟩ (by kernel_rfl) (bc (Zal ((ZaM (Zay _) (Zay _)).2 d5)) b0) q0 c0 (Wp.less [4,7,9] (Zas [0] (by kernel_rfl) H))
  ·obtain ⟨k6,k7,H⟩:=H
   exact Zac (G:=Zad kp88 [(9,4,.call (tu [vf (us (O.Zat (O.dqn x.natAbs y.natAbs) (x.natAbs / y.natAbs))),vf (us (O.Zat (O.drn x.natAbs y.natAbs) (x.natAbs % y.natAbs)))]) none),(10,2,.call (bigA false (O.sg false (x.natAbs % y.natAbs))) none)] []) 1000 [false] ⟨(atC (cd Try.f88) [1,1,0,0,0]),[(4,AV.ptr 0 0 0 0),(5,AV.ptr 1 0 0 0),(6,AV.ptr 2 0 0 0)],[⟨[ag [vb false,AV.vnil]],2,0,false,false⟩,⟨[bigA false y],2,0,false,false⟩,⟨[bigA false (O.sg false (x.natAbs % y.natAbs))],2,0,false,false⟩],[(bif O.isW x then O.isW y else false)==false,true,true,true,true,true],[],_⟩ (by kernel_rfl) (bc (Zak (fun h=>d5 ((ZaM (Zay _) (Zay _)).1 h))) (bc rfl (bc rfl (bc rfl (bc rfl (bc rfl b0)))))) q0 (ce (@ev99 false false x y k6) (ce (@ev84 false false (O.drn x.natAbs y.natAbs) (x.natAbs % y.natAbs) k7) c0)) H
 ·exact False.elim H
theorem vGCDE (s:Bool) (c:Int) (l:List Int)  (dq:AV) (H :
  ∃ (b1:Bool) (l1:List Int),
  (Ev M1 (Conf.pure 84 [vb false,vf (vu c::us l)]) (ag [vb b1,vf (us l1)]) []) /\
  ((l.length+1)*4<=1099511627776) /\
  Weak (ag [vb b1,vf (us l1)]) dq) :
 ZeO s c l (Zae dq):=by
 unfold ZeO
 obtain ⟨b1,l1,k1,H⟩:=H
 have w2:(us l).length=l.length:=List.length_map ..
 have i3:(decide (((us l).length+1)*4<=1099511627776))=true ↔ ((l.length+1)*4<=1099511627776):=(by (try rw [w2]);all_goals exact Zab)
 obtain ⟨k4,H⟩:=H
 exact Zao (G:=Zad kp88 [(11,3,.call (ag [vb b1,vf (us l1)]) none)] []) 1000 [false] (ag [vb b1,vf (us l1)]) (by kernel_rfl) (bc rfl (bc rfl (bc rfl (bc (i3.2 k4) (bc rfl (bc rfl b0)))))) q0 (ce k1 c0) H
theorem vGCDZ (s:Bool)  (dq:AV) (H :
  ∃ (b1:Bool) (l1:List Int),
  (Ev M1 (Conf.pure 84 [vb false,AV.vnil]) (ag [vb b1,vf (us l1)]) []) /\
  Weak (ag [vb b1,vf (us l1)]) dq) :
 vGCDZ_at s (Zae dq):=by
 unfold vGCDZ_at
 obtain ⟨b1,l1,k1,H⟩:=H
 exact Zao (G:=Zad kp88 [(11,3,.call (ag [vb b1,vf (us l1)]) none)] []) 1000 [false] (ag [vb b1,vf (us l1)]) (by kernel_rfl) (bc rfl (bc rfl (bc rfl (bc rfl b0)))) q0 (ce k1 c0) H
theorem vGCDW (u v:Int)  (dq:AV) (H :
  ((v>0)->(¬v=0) /\
   ZdF v (u.tmod v) (Zae dq)) /\
  (¬(v>0)->(0<=u/\u<=18446744073709551615) /\
   (O.Za0 3/\O.fits 3 u.toNat) /\
   Weak (bigA false (O.sg false u.toNat)) dq)) :
 ZdF u v (Zae dq):=by
 unfold ZdF
 rcases xq H with ⟨d2,H⟩|⟨d2,H⟩
 ·obtain ⟨k4,H⟩:=H
  exact Zac (G:=Zad kp88 [] []) 1000 [true] ⟨(atC (cd Try.f88) [1,1,0,0,0,1,0,1,1,0,1,0,0,0,0]),[(4,AV.ptr 0 0 0 0),(7,vw v),(9,vw (u.tmod v))],[⟨[ag [vb false,AV.vnil]],2,0,false,false⟩],_,[],_⟩ (by kernel_rfl) (bc (Zal (Zab.2 d2)) (bc (i_neq.2 k4) b0)) q0 c0 H
 ·obtain ⟨k5,k6,H⟩:=H
  exact Zao (G:=Zad kp88 [(8,1,.call (vf (us (O.Zat 3 u.toNat))) none),(8,2,.call (bigA false (O.sg false u.toNat)) none)] []) 1000 [false] (bigA false (O.sg false u.toNat)) (by kernel_rfl) (bc (Zak (fun h=>d2 (Zab.1 h))) (bc rfl b0)) q0 (ce (@ev85 u k5) (ce (@ev84 false false 3 (u.toNat) k6) c0)) H
end Go.Av

namespace Go.Av
open Go.Proofs
theorem Zdc (v:Nat):O.sg false v=(v:Int):=by simp [O.sg]
theorem Zfj (s:Bool) (v:Nat):(O.sg s v).natAbs=v:=by
 unfold O.sg
 split <;> omega
theorem ZbO {v:Int} (h:¬v<0):O.Zaa v=false:=Bool.eq_false_iff.2 (fun x=>h (Zan.1 x))
theorem sg_div {a b:Int} (_hb:b ≠ 0):a=b*O.sg (!(O.Zaa a==O.Zaa b)) (a.natAbs / b.natAbs)+O.sg (O.Zaa a) (a.natAbs % b.natAbs):=by
 have h:=Nat.div_add_mod a.natAbs b.natAbs
 generalize a.natAbs / b.natAbs=q at *
 generalize a.natAbs % b.natAbs=r at *
 have hz:(b.natAbs:Int)*(q:Int)+(r:Int)=(a.natAbs:Int):=by exact_mod_cast h
 by_cases ka:a<0 <;> by_cases kb:b<0
 ·rw [Zan.2 ka,Zan.2 kb]
  have e1:(a.natAbs:Int) = -a:=by omega
  have e2:(b.natAbs:Int) = -b:=by omega
  rw [e1,e2] at hz
  simp [O.sg];grind
 ·rw [Zan.2 ka,ZbO kb]
  have e1:(a.natAbs:Int) = -a:=by omega
  have e2:(b.natAbs:Int)=b:=by omega
  rw [e1,e2] at hz
  simp [O.sg];grind
 ·rw [ZbO ka,Zan.2 kb]
  have e1:(a.natAbs:Int)=a:=by omega
  have e2:(b.natAbs:Int) = -b:=by omega
  rw [e1,e2] at hz
  simp [O.sg];grind
 ·rw [ZbO ka,ZbO kb]
  have e1:(a.natAbs:Int)=a:=by omega
  have e2:(b.natAbs:Int)=b:=by omega
  rw [e1,e2] at hz
  simp [O.sg];grind
theorem ev100 (fa fb:Bool) (a b:Int) (h:O.okB a/\O.okB b/\b ≠ 0):Ev M1 (.pure 100 [bigA fa a,bigA fb b]) (.tup [bigA false (O.flo a b),bigA false (O.flr a b),.int .i64 0]) []:=by
 obtain ⟨ha,hb,h0⟩:=h
 have hl:=Zbv b
 have hd0:b.natAbs ≠ 0:=by omega
 obtain ⟨d1,d2,d3,d4⟩:=dqn_fits hd0 ⟨ha,hb⟩
 have hm:=Nat.mod_lt a.natAbs (Nat.pos_of_ne_zero hd0)
 have heq:=sg_div (a:=a) h0
 have okr:O.okB (O.sg (O.Zaa a) (a.natAbs % b.natAbs)):=by
  unfold O.okB
  rw [Zfj]
  have:=Zbf (Nat.le_of_lt hm)
  unfold O.okB at hb;omega
 have okq:O.okB (O.sg (!(O.Zaa a==O.Zaa b)) (a.natAbs / b.natAbs)):=by
  unfold O.okB
  rw [Zfj]
  have:=Zbf (Nat.div_le_self a.natAbs b.natAbs)
  unfold O.okB at ha;omega
 have hra:(O.sg (O.Zaa a) (a.natAbs % b.natAbs)).natAbs=a.natAbs % b.natAbs:=Zfj _ _
 have hlr:=Zbv (O.sg (O.Zaa a) (a.natAbs % b.natAbs))
 refine call100 (vDivMod _ _ _ _ _ ⟨fun h => ?_,fun _=>⟨⟨ha,hb,h0⟩,⟨d2,d1⟩,⟨d4,d3⟩,fun k=>⟨by unfold O.inI;omega,okq,⟨okr,hb⟩,?_⟩,fun k => ?_⟩⟩)
 ·have:=ZaZ (v:=b.natAbs)
  omega
 ·obtain ⟨k1,k2⟩:=k
  have hne:O.sg (O.Zaa a) (a.natAbs % b.natAbs) ≠ 0:=by
   intro e
   rw [e] at hlr
   have:O.cnt (Int.natAbs 0)=0:=ZbV
   rw [e] at k1
   omega
  generalize O.sg (O.Zaa a) (a.natAbs % b.natAbs)=r at *
  generalize O.sg (!(O.Zaa a==O.Zaa b)) (a.natAbs / b.natAbs)=q at *
  have hs:(r<0/\0<b)\/(0<r/\b<0):=by
   by_cases kr:r<0
   ·by_cases kb:b<0
    ·exact absurd (by rw [Zan.2 kr,Zan.2 kb]) k2
    ·exact .inl ⟨kr,by omega⟩
   ·by_cases kb:b<0
    ·exact .inr ⟨by omega,kb⟩
    ·exact absurd (by rw [ZbO kr,ZbO kb]) k2
  obtain ⟨e1,e2⟩:=ZgL (a:=a) (b:=b) (q:=q-1) (r:=r+b) (by grind) (by omega)
  rw [e1,e2]
  exact .refl _
 ·generalize hr:O.sg (O.Zaa a) (a.natAbs % b.natAbs)=r at *
  generalize O.sg (!(O.Zaa a==O.Zaa b)) (a.natAbs / b.natAbs)=q at *
  have hs:r=0\/(r<0/\b<0)\/(0<r/\0<b):=by
   by_cases hz:r=0
   ·exact .inl hz
   ·right
    have hc:O.cnt r.natAbs ≠ 0:=fun e=>hz (by have:=ZaZ.1 e;omega)
    have k:O.Zaa r=O.Zaa b:=Classical.byContradiction fun k2=>k ⟨by omega,k2⟩
    by_cases kr:r<0
    ·exact .inl ⟨kr,Zan.1 (k ▸ Zan.2 kr)⟩
    ·have:¬b<0:=fun x=>kr (Zan.1 (by rw [k];exact Zan.2 x))
     exact .inr ⟨by omega,by omega⟩
  obtain ⟨e1,e2⟩:=ZgL (a:=a) (b:=b) (q:=q) (r:=r) heq (by omega)
  rw [e1,e2]
  exact .refl _
theorem gcdW (n:Nat):∀ u v:Nat,v<=n->u<=18446744073709551615->v<=18446744073709551615->ZdF u v (Zae (bigA false (Nat.gcd u v:Nat))):=by
 induction n with
 | zero =>
  intro u v hv hu hv2
  have:v=0:=by omega
  subst this
  refine vGCDW _ _ _ ⟨fun h=>by omega,fun _=>⟨by omega,⟨by unfold O.Za0;omega,fits3 (by omega)⟩,?_⟩⟩
  rw [Int.toNat_natCast,Zdc,Nat.gcd_zero_right];exact .refl _
 | succ n ih =>
  intro u v hv hu hv2
  refine vGCDW _ _ _ ⟨fun h=>⟨by omega,?_⟩,fun h=>⟨by omega,⟨by unfold O.Za0;omega,fits3 (by omega)⟩,?_⟩⟩
  ·rw [<- Int.ofNat_tmod]
   have hlt:=Nat.mod_lt u (show 0<v by omega)
   have:=ih v (u % v) (by omega) hv2 (by omega)
   rwa [show Nat.gcd v (u % v)=Nat.gcd u v by rw [Nat.gcd_comm u v,Nat.gcd_rec v u,Nat.gcd_comm]] at this
  ·have:v=0:=by omega
   subst this
   rw [Int.toNat_natCast,Zdc,Nat.gcd_zero_right];exact .refl _
theorem gcdH (n:Nat):∀ x y:Nat,y<=n->O.cnt x<=400000->O.cnt y<=400000->ZcC x y (Zae (bigA false (Nat.gcd x y:Nat))):=by
 have base:∀ x:Nat,O.cnt x<=400000->ZcC x (0:Nat) (Zae (bigA false (Nat.gcd x 0:Nat))):=by
  intro x hx
  rw [Nat.gcd_zero_right]
  have e1:O.Zaf ((0:Nat):Int)=[]:=ZdZ
  have e2:O.Zaa ((0:Nat):Int)=false:=rfl
  unfold ZcC
  rw [e1,e2]
  by_cases h0:x=0
  ·subst h0
   rw [e1,e2]
   refine vGCDZ false _ ⟨false,[],?_,by show Weak _ (AV.agg [.bool (O.Zaa ((0:Nat):Int)),.vec false 1 ((O.Zaf ((0:Nat):Int)).map (.int .u32))]);rw [e1,e2];exact .refl _⟩
   exact call84 (vSigned0 false _ (vSigned0A false _ (weak_bnil false)))
  ·have hll:=Zbv (x:Int)
   have hne:O.Zaf (x:Int) ≠ []:=by
    intro e
    rw [e] at hll
    exact h0 (ZaZ.1 hll.symm)
   obtain ⟨c,l,hl⟩:=List.exists_cons_of_ne_nil hne
   have es:=ev84_a false false (x:Int) (by unfold O.ok;rw [Int.natAbs_natCast];omega)
   rw [Int.natAbs_natCast,Zdc] at es
   have es2:Ev M1 (.pure 84 [.bool false,.vec false 1 ((O.Zaf (x:Int)).map (.int .u32))]) (.agg [.bool (O.Zaa (x:Int)),.vec false 1 ((O.Zaf (x:Int)).map (.int .u32))]) []:=es
   rw [hl] at es2 hll
   rw [Int.natAbs_natCast] at hll
   simp only [List.length_cons] at hll
   have key:∀ d,bigA false (x:Int)=d->ZeO (O.Zaa (x:Int)) c l (Zae d):=by
    intro d hd
    refine vGCDE _ c l _ ⟨O.Zaa (x:Int),c::l,es2,by omega,?_⟩
    rw [<- hd]
    show Weak _ (AV.agg [.bool (O.Zaa (x:Int)),.vec false 1 ((O.Zaf (x:Int)).map (.int .u32))])
    rw [hl];exact .refl _
   have k:=key _ rfl
   unfold ZeO at k
   rw [<- hl] at k
   exact k
 induction n with
 | zero =>
  intro x y hy hx hcy
  have:y=0:=by omega
  subst this
  exact base x hx
 | succ n ih =>
  intro x y hy hx hcy
  by_cases h0:y=0
  ·subst h0;exact base x hx
  ·have hyl:=Zbv (y:Int)
   have hc:=ZaZ (v:=y)
   rw [Int.natAbs_natCast] at hyl
   refine vGCDH _ _ _ ⟨fun _=>⟨fun h => ?_,fun h=>⟨⟨by unfold O.okB;rw [Int.natAbs_natCast];exact hx,by unfold O.okB;rw [Int.natAbs_natCast];exact hcy,by omega⟩,?_,?_⟩⟩,fun h => ?_⟩
   ·obtain ⟨k1,k2⟩:=h
    unfold O.isW at k1 k2
    rw [Int.natAbs_natCast,decide_eq_true_eq] at k1 k2
    have w1:O.wrd (x:Int)=(x:Int):=by unfold O.wrd;rw [Int.natAbs_natCast,if_pos k1]
    have w2:O.wrd (y:Int)=(y:Int):=by unfold O.wrd;rw [Int.natAbs_natCast,if_pos k2]
    rw [w1,w2]
    have f:=Zb2 (Zap x) k1
    have:x<1000000000000000000:=by unfold O.fits at f;simpa using f
    have f':=Zb2 (Zap y) k2
    have:y<1000000000000000000:=by unfold O.fits at f';simpa using f'
    exact gcdW y x y (Nat.le_refl _) (by omega) (by omega)
   ·rw [Int.natAbs_natCast,Int.natAbs_natCast]
    obtain ⟨d1,d2,d3,d4⟩:=dqn_fits h0 ⟨hx,hcy⟩
    exact ⟨d4,d3⟩
   ·rw [Int.natAbs_natCast,Int.natAbs_natCast,Zdc]
    have hlt:=Nat.mod_lt x (show 0<y by omega)
    have hm:=Zbf (Nat.le_of_lt hlt)
    have:=ih y (x % y) (by omega) hcy (by omega)
    rwa [show Nat.gcd y (x % y)=Nat.gcd x y by rw [Nat.gcd_comm x y,Nat.gcd_rec y x,Nat.gcd_comm]] at this
   ·omega
theorem ev88 (fa fb:Bool) (a b:Int) (h:O.okB a/\O.okB b):Ev M1 (.pure 88 [bigA fa a,bigA fb b]) (bigA false (Int.gcd a b:Nat)) []:=by
 refine call88 (vGCD _ _ _ _ _ ⟨Zc3 h.1,Zc3 h.2,?_⟩)
 rw [Zdc,Zdc]
 exact gcdH b.natAbs a.natAbs b.natAbs (Nat.le_refl _) h.1 h.2
end Go.Av

namespace Go.Av
open Go.Proofs
end Go.Av

namespace Go.Av
open Go.Proofs
set_option maxRecDepth 100000
end Go.Av

namespace Go.Av
open Go.Proofs
namespace O
def okS (v:Int):Prop:=cnt v.natAbs<=300000
def val (s:Bool) (a:List Int):Bool:=a.all (fun x=>decide (x<1000000000))&&bif decide (0<a.length) then a.getD (a.length-1) default != 0 else !s
end O
end Go.Av

namespace Go.Av
open Go.Proofs
set_option maxRecDepth 100000
end Go.Av

namespace Go.Av
open Go.Proofs
namespace O
end O
end Go.Av

namespace Go.Av
open Go.Proofs
set_option maxRecDepth 100000
end Go.Av

namespace Go.Av
open Go.Proofs
theorem cnt_u64 {u:Nat} (h:u<=18446744073709551615):O.cnt u<=3:=ZaC.1 (fits3 h)
end Go.Av

namespace Go.Av
open Go.Proofs
set_option maxRecDepth 100000
end Go.Av

namespace Go.Av
open Go.Proofs
theorem ZdH {n:Int}:O.sgnI n=0 ↔ n=0:=by
 unfold O.sgnI
 (repeat' split) <;> omega
end Go.Av

namespace Go.Av
open Go.Proofs
end Go.Av

namespace Go.Av
open Go.Proofs
set_option maxRecDepth 100000
end Go.Av

namespace Go.Av
open Go.Proofs
end Go.Av

namespace Go.Av
open Go.Proofs
end Go.Av

namespace Go.Av
open Go.Proofs
end Go.Av

namespace Go.Av
open Go.Proofs
set_option maxRecDepth 100000
end Go.Av

namespace Go.Av
open Go.Proofs
end Go.Av

namespace Go.Av
open Go.Proofs
end Go.Av

namespace Go.Av
open Go.Proofs
set_option maxRecDepth 100000
end Go.Av

namespace Go.Av
open Go.Proofs
set_option maxRecDepth 100000
def fi83:Fi:=⟨2,[.cell 0 108]⟩
def kp83:List (Nat × List Nat):=[(0,[0]),(1,[0])]
def fi89:Fi:=⟨16,[.cell 4 108]⟩
def kp89:List (Nat × List Nat):=[(0,[2,3,4]),(1,[4,5]),(2,[4])]
def vUnit_at  (Q:AV->Heap->Prop):Prop:=Wp M1 (.run fi83 (atC (cd Try.f83) []) [] []) Q
def vExact_at (fa fb:Bool) (a b:Int) (Q:AV->Heap->Prop):Prop:=Wp M1 (.run fi89 (atC (cd Try.f89) []) [(0,bigA fa a),(1,bigA fb b)] []) Q
theorem call83 {args:List AV} {d:AV} (h:wc M1 fi83 Try.f83 args d):Ev M1 (.pure 83 args) d []:=pcl _ _ (by kernel_rfl) h
theorem call89 {args:List AV} {d:AV} (h:wc M1 fi89 Try.f89 args d):Ev M1 (.pure 89 args) d []:=pcl _ _ (by kernel_rfl) h
theorem vUnit   (dq:AV) (H :
  (O.inI 1) /\
  Weak (ag [vb false,vf (us (O.Zaf 1))]) dq) :
 vUnit_at  (Zae dq):=by
 unfold vUnit_at
 obtain ⟨k1,H⟩:=H
 exact Zao (G:=Zad kp83 [(1,0,.call (ag [vb false,vf (us (O.Zaf 1))]) none)] []) 1000 [] (ag [vb false,vf (us (O.Zaf 1))]) (by kernel_rfl) (bc rfl b0) q0 (ce (@ev75 1 k1) c0) H
theorem vExact (fa fb:Bool) (a b:Int)  (dq:AV) (H :
  (O.okB a/\O.okB b/\b ≠ 0) /\
  Weak (bigA false (O.flo a b)) dq) :
 vExact_at fa fb a b (Zae dq):=by
 unfold vExact_at
 obtain ⟨k1,H⟩:=H
 exact Zao (G:=Zad kp89 [(1,2,.call (tu [bigA false (O.flo a b),bigA false (O.flr a b),vi 0]) none)] []) 1000 [] (bigA false (O.flo a b)) (by kernel_rfl) (bc rfl (bc rfl (bc rfl (bc rfl (bc rfl (bc rfl b0)))))) q0 (ce (@ev100 fa fb a b k1) c0) H
end Go.Av

namespace Go.Av
open Go.Proofs
theorem ev83:Ev M1 (.pure 83 []) (.agg [.bool false,.vec false 1 ((O.Zaf 1).map (.int .u32))]) []:=
 call83 (vUnit _ ⟨by unfold O.inI;omega,.refl _⟩)
theorem ev89 (fa fb:Bool) (a b:Int) (h:O.okB a/\O.okB b/\b ≠ 0):Ev M1 (.pure 89 [bigA fa a,bigA fb b]) (bigA false (O.flo a b)) []:=
 call89 (vExact _ _ _ _ _ ⟨h,.refl _⟩)
theorem ev80_a (fa:Bool) (a:Int) (h:O.okB a):Ev M1 (.pure 80 [bigA fa a,.agg [.bool false,.vec false 1 ((O.Zaf 1).map (.int .u32))]]) (.int .i64 (O.sgnI (a-1))) []:=
 ev80 fa false a 1 ⟨h,okB_small (by decide)⟩
end Go.Av

namespace Go.Av
open Go.Proofs
set_option maxRecDepth 100000
def fi74:Fi:=⟨6,[.cell 2 110]⟩
def kp74:List (Nat × List Nat):=[(0,[1,2]),(1,[2])]
def fi76:Fi:=⟨29,[.cell 4 110]⟩
def kp76:List (Nat × List Nat):=[(0,[2,3,4]),(1,[2,3,4,8]),(2,[2,3,4]),(3,[2,3,4,5]),(4,[2,3,4,5,19]),(5,[2,3,4]),(6,[4])]
def fi79:Fi:=⟨6,[.tmp 2]⟩
def kp79:List (Nat × List Nat):=[(0,[1]),(1,[2])]
def fi114:Fi:=⟨9,[.cell 2 110]⟩
def kp114:List (Nat × List Nat):=[(0,[1,2]),(1,[2])]
def vWhole_at (fa:Bool) (a:Int) (Q:AV->Heap->Prop):Prop:=Wp M1 (.run fi74 (atC (cd Try.f74) []) [(0,bigA fa a)] []) Q
def Zgs (fa fb:Bool) (a b:Int) (Q:AV->Heap->Prop):Prop:=Wp M1 (.run fi76 (atC (cd Try.f76) []) [(0,bigA fa a),(1,bigA fb b)] []) Q
def vRSign_at (fa ga:Bool) (p q:Int) (Q:AV->Heap->Prop):Prop:=Wp M1 (.run fi79 (atC (cd Try.f79) []) [(0,.agg [.bool (O.Zaa p),.vec fa 1 ((O.Zaf p).map (.int .u32)),.bool (O.Zaa q),.vec ga 1 ((O.Zaf q).map (.int .u32))])] []) Q
def vRNeg_at (fa ga:Bool) (p q:Int) (Q:AV->Heap->Prop):Prop:=Wp M1 (.run fi114 (atC (cd Try.f114) []) [(0,.agg [.bool (O.Zaa p),.vec fa 1 ((O.Zaf p).map (.int .u32)),.bool (O.Zaa q),.vec ga 1 ((O.Zaf q).map (.int .u32))])] []) Q
theorem call74 {args:List AV} {d:AV} (h:wc M1 fi74 Try.f74 args d):Ev M1 (.pure 74 args) d []:=pcl _ _ (by kernel_rfl) h
theorem call76 {args:List AV} {d:AV} (h:wc M1 fi76 Try.f76 args d):Ev M1 (.pure 76 args) d []:=pcl _ _ (by kernel_rfl) h
theorem call79 {args:List AV} {d:AV} (h:wc M1 fi79 Try.f79 args d):Ev M1 (.pure 79 args) d []:=pcl _ _ (by kernel_rfl) h
theorem call114 {args:List AV} {d:AV} (h:wc M1 fi114 Try.f114 args d):Ev M1 (.pure 114 args) d []:=pcl _ _ (by kernel_rfl) h
theorem vWhole (fa:Bool) (a:Int)  (dq:AV) (H :
  Weak (ag [vb (O.Zaa a),AV.vec fa 1 (us (O.Zaf a)),vb false,vf (us (O.Zaf 1))]) dq) :
 vWhole_at fa a (Zae dq):=by
 unfold vWhole_at
 exact Zao (G:=Zad kp74 [(1,1,.call (ag [vb false,vf (us (O.Zaf 1))]) none)] []) 1000 [] (ag [vb (O.Zaa a),AV.vec fa 1 (us (O.Zaf a)),vb false,vf (us (O.Zaf 1))]) (by kernel_rfl) (bc rfl (bc rfl b0)) q0 (ce (@ev83 ) c0) H
noncomputable abbrev zNvJ1:=ag [vb false,AV.vnil,vb false,AV.vnil]
theorem vReduce (fa fb:Bool) (a b:Int)  (dq:AV) (H :
  ((O.sgnI b<0)->(O.okB a) /\
   (O.okB b) /\
   (O.okB (-a)/\O.okB (-b)) /\
   (O.okB (↑((-a).gcd (-b)):Int)) /\
   ((¬O.sgnI ((↑((-a).gcd (-b)):Int)-1)=0)->(O.okB (-a)/\O.okB (↑((-a).gcd (-b)):Int)/\(↑((-a).gcd (-b)):Int) ≠ 0) /\
    (O.okB (-b)/\O.okB (↑((-a).gcd (-b)):Int)/\(↑((-a).gcd (-b)):Int) ≠ 0) /\
    Weak (ag [vb (O.Zaa (O.flo (-a) (↑((-a).gcd (-b)):Int))),vf (us (O.Zaf (O.flo (-a) (↑((-a).gcd (-b)):Int)))),vb (O.Zaa (O.flo (-b) (↑((-a).gcd (-b)):Int))),vf (us (O.Zaf (O.flo (-b) (↑((-a).gcd (-b)):Int))))]) dq) /\
   (¬(¬O.sgnI ((↑((-a).gcd (-b)):Int)-1)=0)->Weak (ag [vb (O.Zaa (-a)),vf (us (O.Zaf (-a))),vb (O.Zaa (-b)),vf (us (O.Zaf (-b)))]) dq)) /\
  (¬(O.sgnI b<0)->(O.okB a/\O.okB b) /\
   (O.okB (↑(a.gcd b):Int)) /\
   ((¬O.sgnI ((↑(a.gcd b):Int)-1)=0)->(O.okB a/\O.okB (↑(a.gcd b):Int)/\(↑(a.gcd b):Int) ≠ 0) /\
    (O.okB b/\O.okB (↑(a.gcd b):Int)/\(↑(a.gcd b):Int) ≠ 0) /\
    Weak (ag [vb (O.Zaa (O.flo a (↑(a.gcd b):Int))),vf (us (O.Zaf (O.flo a (↑(a.gcd b):Int)))),vb (O.Zaa (O.flo b (↑(a.gcd b):Int))),vf (us (O.Zaf (O.flo b (↑(a.gcd b):Int))))]) dq) /\
   (¬(¬O.sgnI ((↑(a.gcd b):Int)-1)=0)->Weak (ag [vb (O.Zaa a),AV.vec fa 1 (us (O.Zaf a)),vb (O.Zaa b),AV.vec fb 1 (us (O.Zaf b))]) dq))) :
 Zgs fa fb a b (Zae dq):=by
 unfold Zgs
 refine Zac (G:=Zad kp76 [(1,1,.call (vi (O.sgnI b)) none)] []) 5 [] ⟨(atC (cd Try.f76) [1,0,1]),[(2,AV.ptr 0 0 0 0),(3,AV.ptr 1 0 0 0),(4,AV.ptr 2 0 0 0),(8,vb (decide (O.sgnI b<0)))],[⟨[bigA fa a],2,0,false,false⟩,⟨[bigA fb b],2,0,false,false⟩,⟨[zNvJ1],4,0,false,false⟩],_,[],_⟩ (by kernel_rfl) (bc rfl b0) q0 (ce (@ev86 fb b) c0) ?_
 rcases xq H with ⟨d2,H⟩|⟨d2,H⟩
 ·obtain ⟨k3,k4,k5,k6,H⟩:=H
  refine Zac (G:=Zad kp76 [(2,1,.call (bigA false (-a)) none),(2,3,.call (bigA false (-b)) none),(3,2,.call (bigA false (↑((-a).gcd (-b)):Int)) none),(4,1,.call (ag [vb false,vf (us (O.Zaf 1))]) none),(4,2,.call (vi (O.sgnI ((↑((-a).gcd (-b)):Int)-1))) none)] []) 7 [true] ⟨(atC (cd Try.f76) [1,1,0,1,1]),[(2,AV.ptr 0 0 0 0),(3,AV.ptr 1 0 0 0),(4,AV.ptr 2 0 0 0),(5,AV.ptr 3 0 0 0),(19,vb (O.sgnI ((↑((-a).gcd (-b)):Int)-1) != 0))],[⟨[bigA false (-a)],2,0,false,false⟩,⟨[bigA false (-b)],2,0,false,false⟩,⟨[zNvJ1],4,0,false,false⟩,⟨[bigA false (↑((-a).gcd (-b)):Int)],2,0,false,false⟩],_,[],_⟩ (by kernel_rfl) (bc (Zal (Zab.2 d2)) (bc rfl (bc rfl (bc rfl (bc rfl (bc rfl (bc rfl (bc rfl (bc rfl b0))))))))) q0 (ce (@ev87 fa a k3) (ce (@ev87 fb b k4) (ce (@ev88 false false (-a) (-b) k5) (ce (@ev83 ) (ce (@ev80_a false ((↑((-a).gcd (-b)):Int)) k6) c0))))) ?_
  rcases xq H with ⟨d8,H⟩|⟨d8,H⟩
  ·obtain ⟨k9,k10,H⟩:=H
   exact Zao (G:=Zad kp76 [(5,2,.call (bigA false (O.flo (-a) (↑((-a).gcd (-b)):Int))) none),(5,5,.call (bigA false (O.flo (-b) (↑((-a).gcd (-b)):Int))) none)] []) 1000 [true] (ag [vb (O.Zaa (O.flo (-a) (↑((-a).gcd (-b)):Int))),vf (us (O.Zaf (O.flo (-a) (↑((-a).gcd (-b)):Int)))),vb (O.Zaa (O.flo (-b) (↑((-a).gcd (-b)):Int))),vf (us (O.Zaf (O.flo (-b) (↑((-a).gcd (-b)):Int))))]) (by kernel_rfl) (bc (Zal (i_ne.2 d8)) (bc rfl (bc rfl (bc rfl (bc rfl (bc rfl (bc rfl (bc rfl (bc rfl (bc rfl b0)))))))))) q0 (ce (@ev89 false false (-a) ((↑((-a).gcd (-b)):Int)) k9) (ce (@ev89 false false (-b) ((↑((-a).gcd (-b)):Int)) k10) c0)) H
  ·exact Zao (G:=Zad kp76 [] []) 1000 [false] (ag [vb (O.Zaa (-a)),vf (us (O.Zaf (-a))),vb (O.Zaa (-b)),vf (us (O.Zaf (-b)))]) (by kernel_rfl) (bc (Zak (fun h=>d8 (i_ne.1 h))) (bc rfl (bc rfl (bc rfl b0)))) q0 c0 H
 ·obtain ⟨k11,k12,H⟩:=H
  refine Zac (G:=Zad kp76 [(3,2,.call (bigA false (↑(a.gcd b):Int)) none),(4,1,.call (ag [vb false,vf (us (O.Zaf 1))]) none),(4,2,.call (vi (O.sgnI ((↑(a.gcd b):Int)-1))) none)] []) 7 [false] ⟨(atC (cd Try.f76) [1,1,0,1,1]),[(2,AV.ptr 0 0 0 0),(3,AV.ptr 1 0 0 0),(4,AV.ptr 2 0 0 0),(5,AV.ptr 3 0 0 0),(19,vb (O.sgnI ((↑(a.gcd b):Int)-1) != 0))],[⟨[bigA fa a],2,0,false,false⟩,⟨[bigA fb b],2,0,false,false⟩,⟨[zNvJ1],4,0,false,false⟩,⟨[bigA false (↑(a.gcd b):Int)],2,0,false,false⟩],_,[],_⟩ (by kernel_rfl) (bc (Zak (fun h=>d2 (Zab.1 h))) (bc rfl (bc rfl (bc rfl (bc rfl b0))))) q0 (ce (@ev88 fa fb a b k11) (ce (@ev83 ) (ce (@ev80_a false ((↑(a.gcd b):Int)) k12) c0))) ?_
  rcases xq H with ⟨d14,H⟩|⟨d14,H⟩
  ·obtain ⟨k15,k16,H⟩:=H
   exact Zao (G:=Zad kp76 [(5,2,.call (bigA false (O.flo a (↑(a.gcd b):Int))) none),(5,5,.call (bigA false (O.flo b (↑(a.gcd b):Int))) none)] []) 1000 [true] (ag [vb (O.Zaa (O.flo a (↑(a.gcd b):Int))),vf (us (O.Zaf (O.flo a (↑(a.gcd b):Int)))),vb (O.Zaa (O.flo b (↑(a.gcd b):Int))),vf (us (O.Zaf (O.flo b (↑(a.gcd b):Int))))]) (by kernel_rfl) (bc (Zal (i_ne.2 d14)) (bc rfl (bc rfl (bc rfl (bc rfl (bc rfl (bc rfl (bc rfl (bc rfl (bc rfl b0)))))))))) q0 (ce (@ev89 fa false a ((↑(a.gcd b):Int)) k15) (ce (@ev89 fb false b ((↑(a.gcd b):Int)) k16) c0)) H
  ·exact Zao (G:=Zad kp76 [] []) 1000 [false] (ag [vb (O.Zaa a),AV.vec fa 1 (us (O.Zaf a)),vb (O.Zaa b),AV.vec fb 1 (us (O.Zaf b))]) (by kernel_rfl) (bc (Zak (fun h=>d14 (i_ne.1 h))) (bc rfl (bc rfl (bc rfl b0)))) q0 c0 H
theorem vRSign (fa ga:Bool) (p q:Int)  (dq:AV) (H :
  vi (O.sgnI p)=dq) :
 vRSign_at fa ga p q (Zae dq):=by
 unfold vRSign_at
 exact Zah (G:=Zad kp79 [(1,2,.call (vi (O.sgnI p)) none)] []) 1000 [] (vi (O.sgnI p)) (by kernel_rfl) (bc rfl b0) q0 (ce (@ev86 fa p) c0) H
theorem vRNeg (fa ga:Bool) (p q:Int)  (dq:AV) (H :
  (O.okB p) /\
  Weak (ag [vb (O.Zaa (-p)),vf (us (O.Zaf (-p))),vb (O.Zaa q),AV.vec ga 1 (us (O.Zaf q))]) dq) :
 vRNeg_at fa ga p q (Zae dq):=by
 unfold vRNeg_at
 obtain ⟨k1,H⟩:=H
 exact Zao (G:=Zad kp114 [(1,2,.call (bigA false (-p)) none)] []) 1000 [] (ag [vb (O.Zaa (-p)),vf (us (O.Zaf (-p))),vb (O.Zaa q),AV.vec ga 1 (us (O.Zaf q))]) (by kernel_rfl) (bc rfl (bc rfl (bc rfl b0))) q0 (ce (@ev87 fa p k1) c0) H
end Go.Av

namespace Go.Av
open Go.Proofs
abbrev ratA (f g:Bool) (r:Rat):AV:=.agg [.bool (O.Zaa r.num),.vec f 1 ((O.Zaf r.num).map (.int .u32)),.bool (O.Zaa (r.den:Int)),.vec g 1 ((O.Zaf (r.den:Int)).map (.int .u32))]
abbrev ratF (r:Rat):AV:=ratA false false r
theorem ZeN (b d f g:Bool) (xs ys:List AV):Weak (.agg [.bool b,.vec f 1 xs,.bool d,.vec g 1 ys]) (.agg [.bool b,.vec false 1 xs,.bool d,.vec false 1 ys]):=by
 refine .agg _ _ rfl fun i x y hx hy => ?_
 match i with
 | 0=>simp at hx hy;subst hx;subst hy;exact .refl _
 | 1=>simp at hx hy;subst hx;subst hy;exact ZcB _ _ _
 | 2=>simp at hx hy;subst hx;subst hy;exact .refl _
 | 3=>simp at hx hy;subst hx;subst hy;exact ZcB _ _ _
 | i+4=>simp at hx
theorem rat_neg {a b:Int} (h:b<0):(Rat.divInt a b).num=(-a) / (((-a).gcd (-b):Nat):Int)/\((Rat.divInt a b).den:Int)=(-b) / (((-a).gcd (-b):Nat):Int):=by
 have e:(-a).gcd (-b)=b.gcd a:=by rw [Int.neg_gcd,Int.gcd_neg,Int.gcd_comm]
 rw [e,Rat.num_divInt,Rat.den_divInt,if_neg (by omega),Int.sign_eq_neg_one_of_neg h]
 refine ⟨by rw [Int.neg_mul,Int.one_mul],?_⟩
 have e2:((b.natAbs / b.gcd a:Nat):Int)=(b.natAbs:Int) / (b.gcd a:Int):=rfl
 rw [e2]
 congr 1;omega
theorem rat_pos {a b:Int} (h:0<b):(Rat.divInt a b).num=a / ((a.gcd b:Nat):Int)/\((Rat.divInt a b).den:Int)=b / ((a.gcd b:Nat):Int):=by
 have e:a.gcd b=b.gcd a:=Int.gcd_comm _ _
 rw [e,Rat.num_divInt,Rat.den_divInt,if_neg (by omega),Int.sign_eq_one_of_pos h]
 refine ⟨by rw [Int.one_mul],?_⟩
 have e2:((b.natAbs / b.gcd a:Nat):Int)=(b.natAbs:Int) / (b.gcd a:Int):=rfl
 rw [e2]
 congr 1;omega
theorem gcd_okB {a b:Int} (hb:b ≠ 0) (h:O.okB b):O.okB ((a.gcd b:Nat):Int)/\((a.gcd b:Nat):Int) ≠ 0:=by
 have h1:0<a.gcd b:=Int.gcd_pos_of_ne_zero_right _ hb
 have h2:a.gcd b<=b.natAbs:=Nat.le_of_dvd (by omega) (Int.gcd_dvd_natAbs_right a b)
 have:=Zbf h2
 refine ⟨?_,by omega⟩
 unfold O.okB at *
 rw [Int.natAbs_natCast];omega
theorem flo_pos {a:Int} {g:Nat} (h:(g:Int) ≠ 0):O.flo a (g:Int)=a / (g:Int):=by
 unfold O.flo
 rw [if_pos (by omega)]
theorem ev76 (fa fb:Bool) (a b:Int) (h:O.okB a/\O.okB b/\b ≠ 0):Ev M1 (.pure 76 [bigA fa a,bigA fb b]) (ratF (Rat.divInt a b)) []:=by
 obtain ⟨ha,hb,h0⟩:=h
 have hna:O.okB (-a):=by unfold O.okB at *;rwa [Int.natAbs_neg]
 have hnb:O.okB (-b):=by unfold O.okB at *;rwa [Int.natAbs_neg]
 refine call76 (vReduce _ _ _ _ _ ⟨fun k => ?_,fun k => ?_⟩)
 ·rw [ZcV] at k
  obtain ⟨g1,g2⟩:=gcd_okB (a:=-a) (b:=-b) (by omega) hnb
  obtain ⟨r1,r2⟩:=rat_neg (a:=a) k
  refine ⟨ha,hb,⟨hna,hnb⟩,g1,fun _=>⟨⟨hna,g1,g2⟩,⟨hnb,g1,g2⟩,?_⟩,fun k2 => ?_⟩
  ·show Weak _ (AV.agg [.bool (O.Zaa (Rat.divInt a b).num),.vec false 1 ((O.Zaf (Rat.divInt a b).num).map (.int .u32)),.bool (O.Zaa ((Rat.divInt a b).den:Int)),.vec false 1 ((O.Zaf ((Rat.divInt a b).den:Int)).map (.int .u32))])
   rw [r1,r2,flo_pos g2,flo_pos g2];exact .refl _
  ·have k2:=ZdH.1 (Classical.not_not.1 k2)
   have e:(((-a).gcd (-b):Nat):Int)=1:=by omega
   show Weak _ (AV.agg [.bool (O.Zaa (Rat.divInt a b).num),.vec false 1 ((O.Zaf (Rat.divInt a b).num).map (.int .u32)),.bool (O.Zaa ((Rat.divInt a b).den:Int)),.vec false 1 ((O.Zaf ((Rat.divInt a b).den:Int)).map (.int .u32))])
   rw [r1,r2,e,Int.ediv_one,Int.ediv_one];exact ZeN _ _ _ _ _ _
 ·rw [ZcV] at k
  obtain ⟨g1,g2⟩:=gcd_okB (a:=a) (b:=b) h0 hb
  obtain ⟨r1,r2⟩:=rat_pos (a:=a) (show 0<b by omega)
  refine ⟨⟨ha,hb⟩,g1,fun _=>⟨⟨ha,g1,g2⟩,⟨hb,g1,g2⟩,?_⟩,fun k2 => ?_⟩
  ·show Weak _ (AV.agg [.bool (O.Zaa (Rat.divInt a b).num),.vec false 1 ((O.Zaf (Rat.divInt a b).num).map (.int .u32)),.bool (O.Zaa ((Rat.divInt a b).den:Int)),.vec false 1 ((O.Zaf ((Rat.divInt a b).den:Int)).map (.int .u32))])
   rw [r1,r2,flo_pos g2,flo_pos g2];exact .refl _
  ·have k2:=ZdH.1 (Classical.not_not.1 k2)
   have e:((a.gcd b:Nat):Int)=1:=by omega
   show Weak _ (AV.agg [.bool (O.Zaa (Rat.divInt a b).num),.vec false 1 ((O.Zaf (Rat.divInt a b).num).map (.int .u32)),.bool (O.Zaa ((Rat.divInt a b).den:Int)),.vec false 1 ((O.Zaf ((Rat.divInt a b).den:Int)).map (.int .u32))])
   rw [r1,r2,e,Int.ediv_one,Int.ediv_one];exact ZeN _ _ _ _ _ _
theorem ev79 (fa ga:Bool) (p q:Int):Ev M1 (.pure 79 [.agg [.bool (O.Zaa p),.vec fa 1 ((O.Zaf p).map (.int .u32)),.bool (O.Zaa q),.vec ga 1 ((O.Zaf q).map (.int .u32))]]) (.int .i64 (O.sgnI p)) []:=
 call79 (vRSign _ _ _ _ _ rfl)
end Go.Av

namespace Go.Av
open Go.Proofs
theorem ev114 (fa ga:Bool) (r:Rat) (h:O.okB r.num):Ev M1 (.pure 114 [ratA fa ga r]) (ratF (-r)) []:=by
 refine call114 (vRNeg _ _ _ _ _ ⟨h,?_⟩)
 show Weak _ (AV.agg [.bool (O.Zaa (-r).num),.vec false 1 ((O.Zaf (-r).num).map (.int .u32)),.bool (O.Zaa ((-r).den:Int)),.vec false 1 ((O.Zaf ((-r).den:Int)).map (.int .u32))])
 rw [Rat.neg_num,Rat.neg_den]
 exact ZeN _ _ _ _ _ _
namespace O
end O
theorem ev74 (fa:Bool) (a:Int):Ev M1 (.pure 74 [bigA fa a]) (ratF (a:Rat)) []:=by
 refine call74 (vWhole _ _ _ ?_)
 show Weak _ (AV.agg [.bool (O.Zaa (a:Rat).num),.vec false 1 ((O.Zaf (a:Rat).num).map (.int .u32)),.bool (O.Zaa ((a:Rat).den:Int)),.vec false 1 ((O.Zaf ((a:Rat).den:Int)).map (.int .u32))])
 rw [Rat.num_intCast,Rat.den_intCast]
 exact ZeN _ _ _ _ _ _
end Go.Av

namespace Go.Av
open Go.Proofs
set_option maxRecDepth 100000
def fi69:Fi:=⟨6,[.cell 2 110]⟩
def kp69:List (Nat × List Nat):=[(0,[0,2]),(1,[2])]
def fi70:Fi:=⟨16,[.cell 4 110]⟩
def kp70:List (Nat × List Nat):=[(0,[2,3,4]),(1,[4])]
def fi72:Fi:=⟨25,[.tmp 4]⟩
def kp72:List (Nat × List Nat):=[(0,[2,3]),(1,[2,3,5]),(2,[2,3,5,12]),(3,[4]),(4,[4])]
def fi104:Fi:=⟨21,[.cell 4 110,.tmp 5]⟩
def kp104:List (Nat × List Nat):=[(0,[2,3,4]),(1,[2,3,4,8]),(2,[4,5]),(3,[4,5])]
def fi111:Fi:=⟨36,[.cell 4 110]⟩
def kp111:List (Nat × List Nat):=[(0,[2,3,4]),(1,[2,3,4,10]),(2,[4]),(3,[4])]
def vRAdd_at (fa ga fb gb:Bool) (r s:Rat) (Q:AV->Heap->Prop):Prop:=Wp M1 (.run fi111 (atC (cd Try.f111) []) [(0,ratA fa ga r),(1,ratA fb gb s)] []) Q
def vRMul_at (fa ga fb gb:Bool) (r s:Rat) (Q:AV->Heap->Prop):Prop:=Wp M1 (.run fi70 (atC (cd Try.f70) []) [(0,ratA fa ga r),(1,ratA fb gb s)] []) Q
def vRDiv_at (fa ga fb gb:Bool) (r s:Rat) (Q:AV->Heap->Prop):Prop:=Wp M1 (.run fi104 (atC (cd Try.f104) []) [(0,ratA fa ga r),(1,ratA fb gb s)] []) Q
def vRCmp_at (fa ga fb gb:Bool) (r s:Rat) (Q:AV->Heap->Prop):Prop:=Wp M1 (.run fi72 (atC (cd Try.f72) []) [(0,ratA fa ga r),(1,ratA fb gb s)] []) Q
def vRFrom_at (n:Int) (Q:AV->Heap->Prop):Prop:=Wp M1 (.run fi69 (atC (cd Try.f69) []) [(0,.int .i64 n)] []) Q
theorem call69 {args:List AV} {d:AV} (h:wc M1 fi69 Try.f69 args d):Ev M1 (.pure 69 args) d []:=pcl _ _ (by kernel_rfl) h
theorem call70 {args:List AV} {d:AV} (h:wc M1 fi70 Try.f70 args d):Ev M1 (.pure 70 args) d []:=pcl _ _ (by kernel_rfl) h
theorem call72 {args:List AV} {d:AV} (h:wc M1 fi72 Try.f72 args d):Ev M1 (.pure 72 args) d []:=pcl _ _ (by kernel_rfl) h
theorem call104 {args:List AV} {d:AV} (h:wc M1 fi104 Try.f104 args d):Ev M1 (.pure 104 args) d []:=pcl _ _ (by kernel_rfl) h
theorem call111 {args:List AV} {d:AV} (h:wc M1 fi111 Try.f111 args d):Ev M1 (.pure 111 args) d []:=pcl _ _ (by kernel_rfl) h
theorem vRAdd (fa ga fb gb:Bool) (r s:Rat)  (dq:AV) (H :
  (O.okB (↑r.den:Int)/\O.okB (↑s.den:Int)) /\
  ((O.sgnI ((↑r.den:Int)-(↑s.den:Int))=0)->(O.okB r.num/\O.okB s.num) /\
   (O.okB (r.num+s.num)/\O.okB (↑r.den:Int)/\(↑r.den:Int) ≠ 0) /\
   Weak (ratF (Rat.divInt (r.num+s.num) (↑r.den:Int))) dq) /\
  (¬(O.sgnI ((↑r.den:Int)-(↑s.den:Int))=0)->(O.okB r.num/\O.okB (↑s.den:Int)) /\
   (O.okB s.num/\O.okB (↑r.den:Int)) /\
   (O.okB (r.num*(↑s.den:Int))/\O.okB (s.num*(↑r.den:Int))) /\
   (O.okB (r.num*(↑s.den:Int)+s.num*(↑r.den:Int))/\O.okB ((↑r.den:Int)*(↑s.den:Int))/\(↑r.den:Int)*(↑s.den:Int) ≠ 0) /\
   Weak (ratF (Rat.divInt (r.num*(↑s.den:Int)+s.num*(↑r.den:Int)) ((↑r.den:Int)*(↑s.den:Int)))) dq)) :
 vRAdd_at fa ga fb gb r s (Zae dq):=by
 unfold vRAdd_at
 obtain ⟨k1,H⟩:=H
 refine Zac (G:=Zad kp111 [(1,4,.call (vi (O.sgnI ((↑r.den:Int)-(↑s.den:Int)))) none)] []) 5 [] ⟨(atC (cd Try.f111) [1,0,1]),[(2,AV.ptr 0 0 0 0),(3,AV.ptr 1 0 0 0),(4,AV.ptr 2 0 0 0),(10,vb (O.sgnI ((↑r.den:Int)-(↑s.den:Int))==0))],[⟨[ratA fa ga r],4,0,false,false⟩,⟨[ratA fb gb s],4,0,false,false⟩,⟨[ag [vb false,AV.vnil,vb false,AV.vnil]],4,0,false,false⟩],_,[],_⟩ (by kernel_rfl) (bc rfl (bc rfl b0)) q0 (ce (@ev80 ga gb ((↑r.den:Int)) ((↑s.den:Int)) k1) c0) ?_
 rcases xq H with ⟨d3,H⟩|⟨d3,H⟩
 ·obtain ⟨k4,k5,H⟩:=H
  exact Zao (G:=Zad kp111 [(2,4,.call (bigA false (r.num+s.num)) none),(2,7,.call (ratF (Rat.divInt (r.num+s.num) (↑r.den:Int))) none)] []) 1000 [true] (ratF (Rat.divInt (r.num+s.num) (↑r.den:Int))) (by kernel_rfl) (bc (Zal (i_eq.2 d3)) (bc rfl (bc rfl (bc rfl (bc rfl b0))))) q0 (ce (@ev109 fa fb (r.num) (s.num) k4) (ce (@ev76 false ga (r.num+s.num) ((↑r.den:Int)) k5) c0)) H
 ·obtain ⟨k6,k7,k8,k9,H⟩:=H
  exact Zao (G:=Zad kp111 [(3,4,.call (bigA false (r.num*(↑s.den:Int))) none),(3,9,.call (bigA false (s.num*(↑r.den:Int))) none),(3,10,.call (bigA false (r.num*(↑s.den:Int)+s.num*(↑r.den:Int))) none),(3,15,.call (bigA false ((↑r.den:Int)*(↑s.den:Int))) none),(3,16,.call (ratF (Rat.divInt (r.num*(↑s.den:Int)+s.num*(↑r.den:Int)) ((↑r.den:Int)*(↑s.den:Int)))) none)] []) 1000 [false] (ratF (Rat.divInt (r.num*(↑s.den:Int)+s.num*(↑r.den:Int)) ((↑r.den:Int)*(↑s.den:Int)))) (by kernel_rfl) (bc (Zak (fun h=>d3 (i_eq.1 h))) (bc rfl (bc rfl (bc rfl (bc rfl (bc rfl (bc rfl (bc rfl b0)))))))) q0 (ce (@ev77 fa gb (r.num) ((↑s.den:Int)) k6) (ce (@ev77 fb ga (s.num) ((↑r.den:Int)) k7) (ce (@ev109 false false (r.num*(↑s.den:Int)) (s.num*(↑r.den:Int)) k8) (ce (@ev77 ga gb ((↑r.den:Int)) ((↑s.den:Int)) k1) (ce (@ev76 false false (r.num*(↑s.den:Int)+s.num*(↑r.den:Int)) ((↑r.den:Int)*(↑s.den:Int)) k9) c0))))) H
theorem vRMul (fa ga fb gb:Bool) (r s:Rat)  (dq:AV) (H :
  (O.okB r.num/\O.okB s.num) /\
  (O.okB (↑r.den:Int)/\O.okB (↑s.den:Int)) /\
  (O.okB (r.num*s.num)/\O.okB ((↑r.den:Int)*(↑s.den:Int))/\(↑r.den:Int)*(↑s.den:Int) ≠ 0) /\
  Weak (ratF (Rat.divInt (r.num*s.num) ((↑r.den:Int)*(↑s.den:Int)))) dq) :
 vRMul_at fa ga fb gb r s (Zae dq):=by
 unfold vRMul_at
 obtain ⟨k1,k2,k3,H⟩:=H
 exact Zao (G:=Zad kp70 [(1,4,.call (bigA false (r.num*s.num)) none),(1,9,.call (bigA false ((↑r.den:Int)*(↑s.den:Int))) none),(1,10,.call (ratF (Rat.divInt (r.num*s.num) ((↑r.den:Int)*(↑s.den:Int)))) none)] []) 1000 [] (ratF (Rat.divInt (r.num*s.num) ((↑r.den:Int)*(↑s.den:Int)))) (by kernel_rfl) (bc rfl (bc rfl (bc rfl (bc rfl (bc rfl b0))))) q0 (ce (@ev77 fa fb (r.num) (s.num) k1) (ce (@ev77 ga gb ((↑r.den:Int)) ((↑s.den:Int)) k2) (ce (@ev76 false false (r.num*s.num) ((↑r.den:Int)*(↑s.den:Int)) k3) c0))) H
theorem vRDiv (fa ga fb gb:Bool) (r s:Rat)  (dq:AV) (H :
  ((O.sgnI s.num=0)->Weak (tu [ag [vb false,AV.vnil,vb false,AV.vnil],vi 6]) dq) /\
  (¬(O.sgnI s.num=0)->(O.okB r.num/\O.okB (↑s.den:Int)) /\
   (O.okB (↑r.den:Int)/\O.okB s.num) /\
   (O.okB (r.num*(↑s.den:Int))/\O.okB ((↑r.den:Int)*s.num)/\(↑r.den:Int)*s.num ≠ 0) /\
   Weak (tu [ratF (Rat.divInt (r.num*(↑s.den:Int)) ((↑r.den:Int)*s.num)),vi 0]) dq)) :
 vRDiv_at fa ga fb gb r s (Zae dq):=by
 unfold vRDiv_at
 refine Zac (G:=Zad kp104 [(1,1,.call (vi (O.sgnI s.num)) none)] []) 5 [] ⟨(atC (cd Try.f104) [1,0,1]),[(2,AV.ptr 0 0 0 0),(3,AV.ptr 1 0 0 0),(4,AV.ptr 2 0 0 0),(8,vb (O.sgnI s.num==0))],[⟨[ratA fa ga r],4,0,false,false⟩,⟨[ratA fb gb s],4,0,false,false⟩,⟨[ag [vb false,AV.vnil,vb false,AV.vnil]],4,0,false,false⟩],_,[],_⟩ (by kernel_rfl) (bc rfl b0) q0 (ce (@ev79 fb gb (s.num) ((↑s.den:Int))) c0) ?_
 rcases xq H with ⟨d2,H⟩|⟨d2,H⟩
 ·exact Zao (G:=Zad kp104 [] []) 1000 [true] (tu [ag [vb false,AV.vnil,vb false,AV.vnil],vi 6]) (by kernel_rfl) (bc (Zal (i_eq.2 d2)) (bc rfl b0)) q0 c0 H
 ·obtain ⟨k3,k4,k5,H⟩:=H
  exact Zao (G:=Zad kp104 [(3,4,.call (bigA false (r.num*(↑s.den:Int))) none),(3,9,.call (bigA false ((↑r.den:Int)*s.num)) none),(3,10,.call (ratF (Rat.divInt (r.num*(↑s.den:Int)) ((↑r.den:Int)*s.num))) none)] []) 1000 [false] (tu [ratF (Rat.divInt (r.num*(↑s.den:Int)) ((↑r.den:Int)*s.num)),vi 0]) (by kernel_rfl) (bc (Zak (fun h=>d2 (i_eq.1 h))) (bc rfl (bc rfl (bc rfl (bc rfl (bc rfl b0)))))) q0 (ce (@ev77 fa gb (r.num) ((↑s.den:Int)) k3) (ce (@ev77 ga fb ((↑r.den:Int)) (s.num) k4) (ce (@ev76 false false (r.num*(↑s.den:Int)) ((↑r.den:Int)*s.num) k5) c0))) H
theorem vRCmp (fa ga fb gb:Bool) (r s:Rat)  (dq:AV) (H :
  ∃ (n1:Int),
  (Ev M1 (Conf.pure 78 [vi (O.sgnI r.num),vi (O.sgnI s.num)]) (vi n1) []) /\
  ((¬n1=0)->vi n1=dq) /\
  (¬(¬n1=0)->(O.okB r.num/\O.okB (↑s.den:Int)) /\
   (O.okB s.num/\O.okB (↑r.den:Int)) /\
   (O.okB (r.num*(↑s.den:Int))/\O.okB (s.num*(↑r.den:Int))) /\
   vi (O.sgnI (r.num*(↑s.den:Int)-s.num*(↑r.den:Int)))=dq)) :
 vRCmp_at fa ga fb gb r s (Zae dq):=by
 unfold vRCmp_at
 obtain ⟨n1,k1,H⟩:=H
 refine Zac (G:=Zad kp72 [(1,1,.call (vi (O.sgnI r.num)) none),(1,3,.call (vi (O.sgnI s.num)) none),(1,4,.call (vi n1) none)] []) 7 [] ⟨(atC (cd Try.f72) [1,0,1,1]),[(2,AV.ptr 0 0 0 0),(3,AV.ptr 1 0 0 0),(5,vi n1),(12,vb (n1 != 0))],[⟨[ratA fa ga r],4,0,false,false⟩,⟨[ratA fb gb s],4,0,false,false⟩],_,[],_⟩ (by kernel_rfl) (bc rfl (bc rfl b0)) q0 (ce (@ev79 fa ga (r.num) ((↑r.den:Int))) (ce (@ev79 fb gb (s.num) ((↑s.den:Int))) (ce k1 c0))) ?_
 rcases xq H with ⟨d3,H⟩|⟨d3,H⟩
 ·exact Zah (G:=Zad kp72 [] []) 1000 [true] (vi n1) (by kernel_rfl) (bc (Zal (i_ne.2 d3)) b0) q0 c0 H
 ·obtain ⟨k4,k5,k6,H⟩:=H
  exact Zah (G:=Zad kp72 [(4,4,.call (bigA false (r.num*(↑s.den:Int))) none),(4,9,.call (bigA false (s.num*(↑r.den:Int))) none),(4,10,.call (vi (O.sgnI (r.num*(↑s.den:Int)-s.num*(↑r.den:Int)))) none)] []) 1000 [false] (vi (O.sgnI (r.num*(↑s.den:Int)-s.num*(↑r.den:Int)))) (by kernel_rfl) (bc (Zak (fun h=>d3 (i_ne.1 h))) (bc rfl (bc rfl (bc rfl (bc rfl b0))))) q0 (ce (@ev77 fa gb (r.num) ((↑s.den:Int)) k4) (ce (@ev77 fb ga (s.num) ((↑r.den:Int)) k5) (ce (@ev80 false false (r.num*(↑s.den:Int)) (s.num*(↑r.den:Int)) k6) c0))) H
theorem vRFrom (n:Int)  (dq:AV) (H :
  (O.inI n) /\
  Weak (ratF (↑n:Rat)) dq) :
 vRFrom_at n (Zae dq):=by
 unfold vRFrom_at
 obtain ⟨k1,H⟩:=H
 exact Zao (G:=Zad kp69 [(1,1,.call (bigA false n) none),(1,2,.call (ratF (↑n:Rat)) none)] []) 1000 [] (ratF (↑n:Rat)) (by kernel_rfl) (bc rfl b0) q0 (ce (@ev75 n k1) (ce (@ev74 false n) c0)) H
end Go.Av

namespace Go.Av
open Go.Proofs
def O.okR (r:Rat):Prop:=O.cnt r.num.natAbs<=90000/\O.cnt r.den<=90000
theorem okR_B {r:Rat} (h:O.okR r):O.okB r.num/\O.okB (r.den:Int):=by
 unfold O.okR at h
 unfold O.okB
 rw [Int.natAbs_natCast];omega
theorem Za8 {a b:Int} {n m:Nat} (ha:O.cnt a.natAbs<=n) (hb:O.cnt b.natAbs<=m):O.cnt (a*b).natAbs<=n+m:=by
 rw [Int.natAbs_mul]
 exact ZaC.1 (ZfU (ZaC.2 ha) (ZaC.2 hb))
theorem cnt_addI {a b:Int} {n:Nat} (ha:O.cnt a.natAbs<=n) (hb:O.cnt b.natAbs<=n):O.cnt (a+b).natAbs<=n+1:=by
 have h:=ZaC.1 (fits_sum (ZaC.2 ha) (ZaC.2 hb))
 exact Nat.le_trans (Zbf (Int.natAbs_add_le a b)) h
theorem Zbk {r:Rat} {n:Nat} (h:O.cnt r.den<=n):O.cnt ((r.den:Int)).natAbs<=n:=by rwa [Int.natAbs_natCast]
theorem Zcr (r:Rat):(r.den:Int) ≠ 0:=by have:=r.den_pos;omega
theorem rat_add (r s:Rat):Rat.divInt (r.num*(s.den:Int)+s.num*(r.den:Int)) ((r.den:Int)*(s.den:Int))=r+s:=by
 rw [<- Rat.divInt_add_divInt _ _ (Zcr r) (Zcr s),Rat.num_divInt_den,Rat.num_divInt_den]
theorem rat_add_same {r s:Rat} (h:(r.den:Int)=(s.den:Int)):Rat.divInt (r.num+s.num) (r.den:Int)=r+s:=by
 rw [<- rat_add,<- h,<- Int.add_mul,Rat.divInt_mul_right (Zcr r)]
theorem rat_mul (r s:Rat):Rat.divInt (r.num*s.num) ((r.den:Int)*(s.den:Int))=r*s:=by
 rw [<- Rat.divInt_mul_divInt,Rat.num_divInt_den,Rat.num_divInt_den]
theorem rat_div (r s:Rat):Rat.divInt (r.num*(s.den:Int)) ((r.den:Int)*s.num)=r / s:=by
 rw [<- Rat.divInt_mul_divInt,Rat.num_divInt_den,<- Rat.inv_divInt,Rat.num_divInt_den,Rat.div_def]
theorem ev111 (fa ga fb gb:Bool) (r s:Rat) (h:O.okR r/\O.okR s):Ev M1 (.pure 111 [ratA fa ga r,ratA fb gb s]) (ratF (r+s)) []:=by
 obtain ⟨hr,hs⟩:=h
 obtain ⟨r1,r2⟩:=okR_B hr
 obtain ⟨s1,s2⟩:=okR_B hs
 obtain ⟨cr1,cr2⟩:=hr
 obtain ⟨cs1,cs2⟩:=hs
 have m1:=Za8 cr1 (Zbk cs2)
 have m2:=Za8 cs1 (Zbk cr2)
 have m3:=Za8 (Zbk cr2) (Zbk cs2)
 have a1:=cnt_addI m1 m2
 have a2:=cnt_addI cr1 cs1
 refine call111 (vRAdd _ _ _ _ _ _ _ ⟨⟨r2,s2⟩,fun k=>⟨⟨r1,s1⟩,⟨by unfold O.okB;omega,r2,Zcr r⟩,?_⟩,fun k=>⟨⟨r1,s2⟩,⟨s1,r2⟩,⟨by unfold O.okB;omega,by unfold O.okB;omega⟩,⟨by unfold O.okB;omega,by unfold O.okB;omega,Int.mul_ne_zero (Zcr r) (Zcr s)⟩,?_⟩⟩)
 ·have k:=ZdH.1 k
  rw [rat_add_same (by omega)];exact .refl _
 ·rw [rat_add];exact .refl _
theorem ev70 (fa ga fb gb:Bool) (r s:Rat) (h:O.okR r/\O.okR s):Ev M1 (.pure 70 [ratA fa ga r,ratA fb gb s]) (ratF (r*s)) []:=by
 obtain ⟨hr,hs⟩:=h
 obtain ⟨r1,r2⟩:=okR_B hr
 obtain ⟨s1,s2⟩:=okR_B hs
 obtain ⟨cr1,cr2⟩:=hr
 obtain ⟨cs1,cs2⟩:=hs
 have m1:=Za8 cr1 cs1
 have m3:=Za8 (Zbk cr2) (Zbk cs2)
 refine call70 (vRMul _ _ _ _ _ _ _ ⟨⟨r1,s1⟩,⟨r2,s2⟩,⟨by unfold O.okB;omega,by unfold O.okB;omega,Int.mul_ne_zero (Zcr r) (Zcr s)⟩,?_⟩)
 rw [rat_mul];exact .refl _
theorem hid_ex (r:Rat):∃ s:Rat,s=r:=⟨r,rfl⟩
noncomputable def O.hid (r:Rat):Rat:=Classical.choose (hid_ex r)
theorem hid_eq (r:Rat):O.hid r=r:=Classical.choose_spec (hid_ex r)
noncomputable def O.qi (n:Int):Rat:=O.hid n
theorem qi_eq (n:Int):O.qi n=(n:Rat):=hid_eq _
theorem ev69 (n:Int) (h:O.inI n):Ev M1 (.pure 69 [.int .i64 n]) (ratF (O.qi n)) []:=by
 rw [qi_eq]
 exact call69 (vRFrom _ _ ⟨h,.refl _⟩)
end Go.Av

namespace Go.Av
open Go.Proofs
namespace O
end O
end Go.Av

namespace Go.Av
open Go.Proofs
end Go.Av

namespace Go.Av
open Go.Proofs
set_option maxRecDepth 100000
end Go.Av

namespace Go.Av
open Go.Proofs
set_option maxRecDepth 100000
def fi91:Fi:=⟨6,[.tmp 2]⟩
def kp91:List (Nat × List Nat):=[(0,[0]),(1,[2])]
def vIsNaN_at (x:Int) (Q:AV->Heap->Prop):Prop:=Wp M1 (.run fi91 (atC (cd Try.f91) []) [(0,.int .i64 x)] []) Q
theorem call91 {args:List AV} {d:AV} (h:wc M1 fi91 Try.f91 args d):Ev M1 (.pure 91 args) d []:=pcl _ _ (by kernel_rfl) h
theorem vIsNaN (x:Int)  (dq:AV) (H :
  (vb (x != x))=dq) :
 vIsNaN_at x (Zae dq):=by
 unfold vIsNaN_at
 exact Zah (G:=Zad kp91 [] []) 1000 [] (vb (x != x)) (by kernel_rfl) b0 q0 c0 H
end Go.Av

namespace Go.Av
open Go.Proofs
theorem ev91 (x:Int):Ev M1 (.pure 91 [.int .i64 x]) (.bool false) []:=
 call91 (vIsNaN _ _ (by simp))
theorem ev104 (fa ga fb gb:Bool) (r s:Rat) (h:O.okR r/\O.okR s/\s.num ≠ 0):Ev M1 (.pure 104 [ratA fa ga r,ratA fb gb s]) (.tup [ratF (r / s),.int .i64 0]) []:=by
 obtain ⟨hr,hs,h0⟩:=h
 obtain ⟨r1,r2⟩:=okR_B hr
 obtain ⟨s1,s2⟩:=okR_B hs
 obtain ⟨cr1,cr2⟩:=hr
 obtain ⟨cs1,cs2⟩:=hs
 have m1:=Za8 cr1 (Zbk cs2)
 have m3:=Za8 (Zbk cr2) cs1
 refine call104 (vRDiv _ _ _ _ _ _ _ ⟨fun k=>absurd (ZdH.1 k) h0,fun _=>⟨⟨r1,s2⟩,⟨r2,s1⟩,⟨by unfold O.okB;omega,by unfold O.okB;omega,Int.mul_ne_zero (Zcr r) h0⟩,?_⟩⟩)
 rw [rat_div];exact .refl _
end Go.Av

namespace Go.Av
open Go.Proofs
set_option maxRecDepth 100000
def fi78:Fi:=⟨20,[.tmp 4]⟩
def kp78:List (Nat × List Nat):=[(0,[0,1]),(1,[0,1,5]),(2,[0,1,5,6]),(3,[0,1,6,11]),(4,[12]),(5,[4]),(6,[4]),(7,[0,1,13]),(8,[4]),(9,[0,1,16]),(10,[4]),(11,[19]),(12,[4]),(13,[4])]
def fi110:Fi:=⟨9,[.cell 4 110]⟩
def kp110:List (Nat × List Nat):=[(0,[2,3,4]),(1,[4])]
def Zgu (x y:Int) (Q:AV->Heap->Prop):Prop:=Wp M1 (.run fi78 (atC (cd Try.f78) []) [(0,.int .i64 x),(1,.int .i64 y)] []) Q
def vRSub_at (fa ga fb gb:Bool) (r s:Rat) (Q:AV->Heap->Prop):Prop:=Wp M1 (.run fi110 (atC (cd Try.f110) []) [(0,ratA fa ga r),(1,ratA fb gb s)] []) Q
theorem call78 {args:List AV} {d:AV} (h:wc M1 fi78 Try.f78 args d):Ev M1 (.pure 78 args) d []:=pcl _ _ (by kernel_rfl) h
theorem call110 {args:List AV} {d:AV} (h:wc M1 fi110 Try.f110 args d):Ev M1 (.pure 110 args) d []:=pcl _ _ (by kernel_rfl) h
theorem vCmpInt (x y:Int)  (dq:AV) (H :
  ((x<y)->vi (-1)=dq) /\
  (¬(x<y)->((x>y)->vi 1=dq) /\
   (¬(x>y)->vi 0=dq))) :
 Zgu x y (Zae dq):=by
 unfold Zgu
 refine Zac (G:=Zad kp78 [(1,1,.call (vb false) none),(2,1,.call (vb false) none)] []) 19 [false,false] ⟨(atC (cd Try.f78) [1,1,1,1,1,0,1]),[(0,vi x),(1,vi y),(16,vb (decide (x<y)))],[],_,[],_⟩ (by kernel_rfl) (bc rfl (bc rfl b0)) q0 (ce (@ev91 x) (ce (@ev91 y) c0)) ?_
 rcases xq H with ⟨d2,H⟩|⟨d2,H⟩
 ·exact Zah (G:=Zad kp78 [] []) 1000 [true] (vi (-1)) (by kernel_rfl) (bc (Zal (Zab.2 d2)) b0) q0 c0 H
 ·rcases xq H with ⟨d4,H⟩|⟨d4,H⟩
  ·exact Zah (G:=Zad kp78 [] []) 1000 [false,true] (vi 1) (by kernel_rfl) (bc (Zak (fun h=>d2 (Zab.1 h))) (bc (Zal (Zab.2 d4)) b0)) q0 c0 H
  ·exact Zah (G:=Zad kp78 [] []) 1000 [false,false] (vi 0) (by kernel_rfl) (bc (Zak (fun h=>d2 (Zab.1 h))) (bc (Zak (fun h=>d4 (Zab.1 h))) b0)) q0 c0 H
theorem vRSub (fa ga fb gb:Bool) (r s:Rat)  (dq:AV) (H :
  (O.okB s.num) /\
  (O.okR r/\O.okR (-s)) /\
  Weak (ratF (r + -s)) dq) :
 vRSub_at fa ga fb gb r s (Zae dq):=by
 unfold vRSub_at
 obtain ⟨k1,k2,H⟩:=H
 exact Zao (G:=Zad kp110 [(1,2,.call (ratF (-s)) none),(1,3,.call (ratF (r + -s)) none)] []) 1000 [] (ratF (r + -s)) (by kernel_rfl) (bc rfl (bc rfl (bc rfl b0))) q0 (ce (@ev114 fb gb s k1) (ce (@ev111 fa ga false false r (-s) k2) c0)) H
end Go.Av

namespace Go.Av
open Go.Proofs
theorem ev78 (x y:Int):Ev M1 (.pure 78 [.int .i64 x,.int .i64 y]) (.int .i64 (O.sgnI (x-y))) []:=by
 refine call78 (vCmpInt _ _ _ ⟨fun h => ?_,fun h=>⟨fun k => ?_,fun k => ?_⟩⟩)
 ·unfold O.sgnI;rw [if_pos (by omega)]
 ·unfold O.sgnI;rw [if_neg (by omega),if_pos (by omega)]
 ·unfold O.sgnI;rw [if_neg (by omega),if_neg (by omega)]
theorem okR_neg {s:Rat} (h:O.okR s):O.okR (-s):=by
 unfold O.okR at *
 rw [Rat.neg_num,Rat.neg_den,Int.natAbs_neg];exact h
theorem ev110 (fa ga fb gb:Bool) (r s:Rat) (h:O.okR r/\O.okR s):Ev M1 (.pure 110 [ratA fa ga r,ratA fb gb s]) (ratF (r-s)) []:=by
 refine call110 (vRSub _ _ _ _ _ _ _ ⟨(okR_B h.2).1,⟨h.1,okR_neg h.2⟩,?_⟩)
 rw [<- Rat.sub_eq_add_neg];exact .refl _
theorem sgn_mul (a:Int) {d:Int} (h:0<d):(a<0->a*d<0)/\(a=0->a*d=0)/\(0<a->0<a*d):=
 ⟨fun k=>Int.mul_neg_of_neg_of_pos k h,fun k=>by rw [k,Int.zero_mul],fun k=>Int.mul_pos k h⟩
theorem ev72 (fa ga fb gb:Bool) (r s:Rat) (h:O.okR r/\O.okR s):Ev M1 (.pure 72 [ratA fa ga r,ratA fb gb s]) (.int .i64 (O.sgnI (r.num*(s.den:Int)-s.num*(r.den:Int)))) []:=by
 obtain ⟨hr,hs⟩:=h
 obtain ⟨r1,r2⟩:=okR_B hr
 obtain ⟨s1,s2⟩:=okR_B hs
 obtain ⟨cr1,cr2⟩:=hr
 obtain ⟨cs1,cs2⟩:=hs
 have m1:=Za8 cr1 (Zbk cs2)
 have m2:=Za8 cs1 (Zbk cr2)
 refine call72 (vRCmp _ _ _ _ _ _ _ ⟨_,ev78 _ _,fun k => ?_,fun _=>⟨⟨r1,s2⟩,⟨s1,r2⟩,⟨by unfold O.okB;omega,by unfold O.okB;omega⟩,rfl⟩⟩)
 obtain ⟨a1,a2,a3⟩:=sgn_mul r.num (d:=(s.den:Int)) (by have:=s.den_pos;omega)
 obtain ⟨b1,b2,b3⟩:=sgn_mul s.num (d:=(r.den:Int)) (by have:=r.den_pos;omega)
 congr 1
 generalize r.num*(s.den:Int)=A at a1 a2 a3 ⊢
 generalize s.num*(r.den:Int)=B at b1 b2 b3 ⊢
 unfold O.sgnI at k ⊢
 (repeat' split at k) <;> (repeat' split) <;> omega
end Go.Av

namespace Go.Av
open Go.Proofs
end Go.Av

namespace Go.Av
open Go.Proofs
end Go.Av

namespace Go.Av
open Go.Proofs
set_option maxRecDepth 100000
end Go.Av

namespace Go.Av
open Go.Proofs
set_option maxRecDepth 100000
end Go.Av

namespace Go.Av
open Go.Proofs
end Go.Av

namespace Go.Av
open Go.Proofs
theorem inI_cnt {n:Int} (h:O.inI n):O.cnt n.natAbs<=3:=by
 unfold O.inI at h
 exact cnt_u64 (by omega)
end Go.Av

namespace Go.Av
open Go.Proofs
set_option maxRecDepth 100000
end Go.Av

namespace Go.Av
open Go.Proofs
end Go.Av

namespace Go.Av
open Go.Proofs
set_option maxRecDepth 100000
end Go.Av

namespace Go.Av
open Go.Proofs
def O.okT (k:Nat) (r:Rat):Prop:=O.cnt r.num.natAbs<=k/\O.cnt r.den<=k
theorem Zb4 {k:Nat} {r:Rat} (h:O.okT k r) (hk:k<=90000):O.okR r:=⟨Nat.le_trans h.1 hk,Nat.le_trans h.2 hk⟩
theorem Zb6 {k m:Nat} {r:Rat} (h:O.okT k r) (hk:k<=m):O.okT m r:=⟨Nat.le_trans h.1 hk,Nat.le_trans h.2 hk⟩
theorem ZfZ {p q:Int} (hq:q ≠ 0):(Rat.divInt p q).num.natAbs<=p.natAbs/\(Rat.divInt p q).den<=q.natAbs:=by
 by_cases h:0<q
 ·obtain ⟨e1,e2⟩:=rat_pos (a:=p) h
  have e3:(Rat.divInt p q).den=((q / ((p.gcd q:Nat):Int))).natAbs:=by omega
  rw [e1,e3]
  refine ⟨?_,?_⟩
  ·rw [Int.natAbs_ediv_of_dvd (Int.gcd_dvd_left ..)];exact Nat.div_le_self _ _
  ·rw [Int.natAbs_ediv_of_dvd (Int.gcd_dvd_right ..)];exact Nat.div_le_self _ _
 ·obtain ⟨e1,e2⟩:=rat_neg (a:=p) (b:=q) (by omega)
  have e3:(Rat.divInt p q).den=((-q / (((-p).gcd (-q):Nat):Int))).natAbs:=by omega
  rw [e1,e3]
  refine ⟨?_,?_⟩
  ·rw [Int.natAbs_ediv_of_dvd (Int.gcd_dvd_left ..),Int.natAbs_neg];exact Nat.div_le_self _ _
  ·rw [Int.natAbs_ediv_of_dvd (Int.gcd_dvd_right ..),Int.natAbs_neg];exact Nat.div_le_self _ _
theorem Zci {k m:Nat} {r s:Rat} (h:O.okT k r) (h2:O.okT m s):O.okT (k+m) (r*s):=by
 have e:=ZfZ (p:=r.num*s.num) (q:=(r.den:Int)*(s.den:Int)) (Int.mul_ne_zero (Zcr r) (Zcr s))
 rw [rat_mul] at e
 refine ⟨Nat.le_trans (Zbf e.1) (Za8 h.1 h2.1),Nat.le_trans (Zbf e.2) (Za8 (Zbk h.2) (Zbk h2.2))⟩
theorem okT_add {k m:Nat} {r s:Rat} (h:O.okT k r) (h2:O.okT m s):O.okT (k+m+1) (r+s):=by
 have e:=ZfZ (p:=r.num*(s.den:Int)+s.num*(r.den:Int)) (q:=(r.den:Int)*(s.den:Int)) (Int.mul_ne_zero (Zcr r) (Zcr s))
 rw [rat_add] at e
 have m1:=Za8 h.1 (Zbk h2.2)
 have m2:=Za8 h2.1 (Zbk h.2)
 have m3:=Za8 (Zbk h.2) (Zbk h2.2)
 have:=cnt_addI m1 (Nat.le_trans m2 (by omega))
 exact ⟨Nat.le_trans (Zbf e.1) this,Nat.le_trans (Zbf e.2) (Nat.le_trans m3 (by omega))⟩
theorem okT_neg {k:Nat} {r:Rat} (h:O.okT k r):O.okT k (-r):=by
 unfold O.okT
 rw [Rat.neg_num,Rat.neg_den,Int.natAbs_neg];exact h
theorem ZbM {k m:Nat} {r s:Rat} (h:O.okT k r) (h2:O.okT m s):O.okT (k+m+1) (r-s):=by
 rw [Rat.sub_eq_add_neg];exact okT_add h (okT_neg h2)
theorem okT_int {n:Int} (h:O.inI n):O.okT 3 (O.qi n):=by
 rw [qi_eq]
 unfold O.okT
 rw [Rat.num_intCast,Rat.den_intCast]
 exact ⟨inI_cnt h,by have:=cnt_small (n:=1) (by decide);omega⟩
def O.isCom (b c y z:Rat):Prop:=b=0\/y=0\/c=z
instance (b c y z:Rat):Decidable (O.isCom b c y z):=inferInstanceAs (Decidable (_\/_))
end Go.Av

namespace Go.Av
open Go.Proofs
set_option maxRecDepth 100000
def fi68:Fi:=⟨31,[.tmp 4]⟩
def kp68:List (Nat × List Nat):=[(0,[2,3]),(1,[4])]
def fi71:Fi:=⟨10,[.cell 4 114]⟩
def kp71:List (Nat × List Nat):=[(0,[0,1,4]),(1,[4])]
def fi96:Fi:=⟨17,[.cell 4 110]⟩
def kp96:List (Nat × List Nat):=[(0,[2,3,4]),(1,[4,5,6]),(2,[4,5,14]),(3,[4]),(4,[4])]
def fi97:Fi:=⟨8,[.cell 4 110]⟩
def kp97:List (Nat × List Nat):=[(0,[2,3,4]),(1,[4])]
def fi102:Fi:=⟨8,[.cell 4 110]⟩
def kp102:List (Nat × List Nat):=[(0,[2,3,4]),(1,[4])]
def fi103:Fi:=⟨8,[.cell 4 110]⟩
def kp103:List (Nat × List Nat):=[(0,[2,3,4]),(1,[4])]
def qAdd_at (f1 f2 g1 g2:Bool) (r s:Rat) (Q:AV->Heap->Prop):Prop:=Wp M1 (.run fi103 (atC (cd Try.f103) []) [(0,ratA f1 f2 r),(1,ratA g1 g2 s)] []) Q
def qSub_at (f1 f2 g1 g2:Bool) (r s:Rat) (Q:AV->Heap->Prop):Prop:=Wp M1 (.run fi102 (atC (cd Try.f102) []) [(0,ratA f1 f2 r),(1,ratA g1 g2 s)] []) Q
def qMul_at (f1 f2 g1 g2:Bool) (r s:Rat) (Q:AV->Heap->Prop):Prop:=Wp M1 (.run fi97 (atC (cd Try.f97) []) [(0,ratA f1 f2 r),(1,ratA g1 g2 s)] []) Q
def qOver_at (f1 f2 g1 g2:Bool) (r s:Rat) (Q:AV->Heap->Prop):Prop:=Wp M1 (.run fi96 (atC (cd Try.f96) []) [(0,ratA f1 f2 r),(1,ratA g1 g2 s)] []) Q
def qVec_at (x y:Int) (Q:AV->Heap->Prop):Prop:=Wp M1 (.run fi71 (atC (cd Try.f71) []) [(0,.int .i64 x),(1,.int .i64 y)] []) Q
def qHolds_at (x0 y0 x1 y1 tp x y:Int) (Q:AV->Heap->Prop):Prop:=Wp M1 (.run fi68 (atC (cd Try.f68) []) [(0,.agg [.int .i64 x0,.int .i64 y0,.int .i64 x1,.int .i64 y1,.int .i64 tp]),(1,.agg [.int .i64 x,.int .i64 y])] []) Q
theorem call68 {args:List AV} {d:AV} (h:wc M1 fi68 Try.f68 args d):Ev M1 (.pure 68 args) d []:=pcl _ _ (by kernel_rfl) h
theorem call71 {args:List AV} {d:AV} (h:wc M1 fi71 Try.f71 args d):Ev M1 (.pure 71 args) d []:=pcl _ _ (by kernel_rfl) h
theorem call96 {args:List AV} {d:AV} (h:wc M1 fi96 Try.f96 args d):Ev M1 (.pure 96 args) d []:=pcl _ _ (by kernel_rfl) h
theorem call97 {args:List AV} {d:AV} (h:wc M1 fi97 Try.f97 args d):Ev M1 (.pure 97 args) d []:=pcl _ _ (by kernel_rfl) h
theorem call102 {args:List AV} {d:AV} (h:wc M1 fi102 Try.f102 args d):Ev M1 (.pure 102 args) d []:=pcl _ _ (by kernel_rfl) h
theorem call103 {args:List AV} {d:AV} (h:wc M1 fi103 Try.f103 args d):Ev M1 (.pure 103 args) d []:=pcl _ _ (by kernel_rfl) h
theorem qAdd (f1 f2 g1 g2:Bool) (r s:Rat)  (dq:AV) (H :
  (O.okR r/\O.okR s) /\
  Weak (ratF (r+s)) dq) :
 qAdd_at f1 f2 g1 g2 r s (Zae dq):=by
 unfold qAdd_at
 obtain ⟨k1,H⟩:=H
 exact Zao (G:=Zad kp103 [(1,2,.call (ratF (r+s)) none)] []) 1000 [] (ratF (r+s)) (by kernel_rfl) (bc rfl (bc rfl (bc rfl b0))) q0 (ce (@ev111 f1 f2 g1 g2 r s k1) c0) H
theorem qSub (f1 f2 g1 g2:Bool) (r s:Rat)  (dq:AV) (H :
  (O.okR r/\O.okR s) /\
  Weak (ratF (r-s)) dq) :
 qSub_at f1 f2 g1 g2 r s (Zae dq):=by
 unfold qSub_at
 obtain ⟨k1,H⟩:=H
 exact Zao (G:=Zad kp102 [(1,2,.call (ratF (r-s)) none)] []) 1000 [] (ratF (r-s)) (by kernel_rfl) (bc rfl (bc rfl (bc rfl b0))) q0 (ce (@ev110 f1 f2 g1 g2 r s k1) c0) H
theorem qMul (f1 f2 g1 g2:Bool) (r s:Rat)  (dq:AV) (H :
  (O.okR r/\O.okR s) /\
  Weak (ratF (r*s)) dq) :
 qMul_at f1 f2 g1 g2 r s (Zae dq):=by
 unfold qMul_at
 obtain ⟨k1,H⟩:=H
 exact Zao (G:=Zad kp97 [(1,2,.call (ratF (r*s)) none)] []) 1000 [] (ratF (r*s)) (by kernel_rfl) (bc rfl (bc rfl (bc rfl b0))) q0 (ce (@ev70 f1 f2 g1 g2 r s k1) c0) H
theorem qOver (f1 f2 g1 g2:Bool) (r s:Rat)  (dq:AV) (H :
  (O.okR r/\O.okR s/\s.num ≠ 0) /\
  Weak (ratF (r / s)) dq) :
 qOver_at f1 f2 g1 g2 r s (Zae dq):=by
 unfold qOver_at
 obtain ⟨k1,H⟩:=H
 exact Zao (G:=Zad kp96 [(1,2,.call (tu [ratF (r / s),vi 0]) none)] []) 1000 [false] (ratF (r / s)) (by kernel_rfl) (bc rfl (bc rfl (bc rfl (bc rfl (bc rfl (bc rfl b0)))))) q0 (ce (@ev104 f1 f2 g1 g2 r s k1) c0) H
theorem qVec (x y:Int)  (dq:AV) (H :
  (O.inI x) /\
  (O.inI y) /\
  Weak (ag [vb (O.Zaa (O.qi x).num),vf (us (O.Zaf (O.qi x).num)),vb (O.Zaa (↑(O.qi x).den:Int)),vf (us (O.Zaf (↑(O.qi x).den:Int))),vb (O.Zaa (O.qi y).num),vf (us (O.Zaf (O.qi y).num)),vb (O.Zaa (↑(O.qi y).den:Int)),vf (us (O.Zaf (↑(O.qi y).den:Int)))]) dq) :
 qVec_at x y (Zae dq):=by
 unfold qVec_at
 obtain ⟨k1,k2,H⟩:=H
 exact Zao (G:=Zad kp71 [(1,1,.call (ratF (O.qi x)) none),(1,3,.call (ratF (O.qi y)) none)] []) 1000 [] (ag [vb (O.Zaa (O.qi x).num),vf (us (O.Zaf (O.qi x).num)),vb (O.Zaa (↑(O.qi x).den:Int)),vf (us (O.Zaf (↑(O.qi x).den:Int))),vb (O.Zaa (O.qi y).num),vf (us (O.Zaf (O.qi y).num)),vb (O.Zaa (↑(O.qi y).den:Int)),vf (us (O.Zaf (↑(O.qi y).den:Int)))]) (by kernel_rfl) (bc rfl b0) q0 (ce (@ev69 x k1) (ce (@ev69 y k2) c0)) H
theorem qHolds (x0 y0 x1 y1 tp x y:Int)  (dq:AV) (H :
  vb (bif bif bif decide (x0<=x) then decide (x<=x1) else false then decide (y0<=y) else false then decide (y<=y1) else false)=dq) :
 qHolds_at x0 y0 x1 y1 tp x y (Zae dq):=by
 unfold qHolds_at
 exact Zah (G:=Zad kp68 [] []) 1000 [] (asm:=[true,true,!(decide (x0<=x)==true&&true)||true,!(decide (x0<=x)==true&&true)||true,!((bif decide (x0<=x) then decide (x<=x1) else false)==true&&true)||true,!((bif decide (x0<=x) then decide (x<=x1) else false)==true&&true)||true,!((bif bif decide (x0<=x) then decide (x<=x1) else false then decide (y0<=y) else false)==true&&true)||true,!((bif bif decide (x0<=x) then decide (x<=x1) else false then decide (y0<=y) else false)==true&&true)||true]) (vb (bif bif bif decide (x0<=x) then decide (x<=x1) else false then decide (y0<=y) else false then decide (y<=y1) else false)) (by kernel_rfl) (bc rfl (bc rfl (bc (Bool.or_true _) (bc (Bool.or_true _) (bc (Bool.or_true _) (bc (Bool.or_true _) (bc (Bool.or_true _) (bc (Bool.or_true _) b0)))))))) q0 c0 H
end Go.Av

namespace Go.Av
open Go.Proofs
theorem ev103 (f1 f2 g1 g2:Bool) (r s:Rat) (h:O.okR r/\O.okR s):Ev M1 (.pure 103 [ratA f1 f2 r,ratA g1 g2 s]) (ratF (r+s)) []:=call103 (qAdd _ _ _ _ _ _ _ ⟨h,.refl _⟩)
theorem ev102 (f1 f2 g1 g2:Bool) (r s:Rat) (h:O.okR r/\O.okR s):Ev M1 (.pure 102 [ratA f1 f2 r,ratA g1 g2 s]) (ratF (r-s)) []:=call102 (qSub _ _ _ _ _ _ _ ⟨h,.refl _⟩)
theorem ev97 (f1 f2 g1 g2:Bool) (r s:Rat) (h:O.okR r/\O.okR s):Ev M1 (.pure 97 [ratA f1 f2 r,ratA g1 g2 s]) (ratF (r*s)) []:=call97 (qMul _ _ _ _ _ _ _ ⟨h,.refl _⟩)
theorem ev96 (f1 f2 g1 g2:Bool) (r s:Rat) (h:O.okR r/\O.okR s/\s.num ≠ 0):Ev M1 (.pure 96 [ratA f1 f2 r,ratA g1 g2 s]) (ratF (r / s)) []:=call96 (qOver _ _ _ _ _ _ _ ⟨h,.refl _⟩)
abbrev vecA (f1 f2 f3 f4:Bool) (x y:Rat):AV:=.agg [.bool (O.Zaa x.num),.vec f1 1 ((O.Zaf x.num).map (.int .u32)),.bool (O.Zaa (x.den:Int)),.vec f2 1 ((O.Zaf (x.den:Int)).map (.int .u32)),.bool (O.Zaa y.num),.vec f3 1 ((O.Zaf y.num).map (.int .u32)),.bool (O.Zaa (y.den:Int)),.vec f4 1 ((O.Zaf (y.den:Int)).map (.int .u32))]
def O.inI2 (x y:Int):Prop:=O.inI x/\O.inI y
theorem ev71 (x y:Int) (h:O.inI2 x y):Ev M1 (.pure 71 [.int .i64 x,.int .i64 y]) (vecA false false false false (O.qi x) (O.qi y)) []:=call71 (qVec _ _ _ ⟨h.1,h.2,.refl _⟩)
namespace O
def hld (x0 y0 x1 y1 x y:Int):Prop:=x0<=x/\x<=x1/\y0<=y/\y<=y1
def rct (x0 y0 x1 y1:Int):Prop:=x0<x1/\y0<y1/\x0 >= -10000000/\y0 >= -10000000/\x1<=10000000/\y1<=10000000
def wth (n l:Int):Prop:=n>=l/\n<=10000000
end O
instance (x0 y0 x1 y1 x y:Int):Decidable (O.hld x0 y0 x1 y1 x y):=by unfold O.hld;infer_instance
instance (x0 y0 x1 y1:Int):Decidable (O.rct x0 y0 x1 y1):=by unfold O.rct;infer_instance
instance (n l:Int):Decidable (O.wth n l):=by unfold O.wth;infer_instance
theorem ev68 (x0 y0 x1 y1 tp x y:Int):Ev M1 (.pure 68 [.agg [.int .i64 x0,.int .i64 y0,.int .i64 x1,.int .i64 y1,.int .i64 tp],.agg [.int .i64 x,.int .i64 y]]) (.bool (decide (O.hld x0 y0 x1 y1 x y))) []:=
 call68 (qHolds _ _ _ _ _ _ _ _ (congrArg AV.bool (by rw [ZcK,ZcK,ZcK];exact Zc7 (by unfold O.hld;omega))))
end Go.Av

namespace Go.Av
open Go.Proofs
set_option maxRecDepth 100000
def fi93:Fi:=⟨16,[.cell 4 114]⟩
def kp93:List (Nat × List Nat):=[(0,[2,3,4]),(1,[4])]
def fi94:Fi:=⟨16,[.cell 4 110]⟩
def kp94:List (Nat × List Nat):=[(0,[2,3,4]),(1,[4])]
def fi95:Fi:=⟨16,[.cell 4 110]⟩
def kp95:List (Nat × List Nat):=[(0,[2,3,4]),(1,[4])]
def qWay_at (f1 f2 f3 f4 f5 f6 f7 f8:Bool) (x1 y1 x2 y2:Rat) (Q:AV->Heap->Prop):Prop:=Wp M1 (.run fi93 (atC (cd Try.f93) []) [(0,.agg [.bool (O.Zaa x1.num),.vec f1 1 ((O.Zaf x1.num).map (.int .u32)),.bool (O.Zaa (x1.den:Int)),.vec f2 1 ((O.Zaf (x1.den:Int)).map (.int .u32)),.bool (O.Zaa y1.num),.vec f3 1 ((O.Zaf y1.num).map (.int .u32)),.bool (O.Zaa (y1.den:Int)),.vec f4 1 ((O.Zaf (y1.den:Int)).map (.int .u32))]),(1,.agg [.bool (O.Zaa x2.num),.vec f5 1 ((O.Zaf x2.num).map (.int .u32)),.bool (O.Zaa (x2.den:Int)),.vec f6 1 ((O.Zaf (x2.den:Int)).map (.int .u32)),.bool (O.Zaa y2.num),.vec f7 1 ((O.Zaf y2.num).map (.int .u32)),.bool (O.Zaa (y2.den:Int)),.vec f8 1 ((O.Zaf (y2.den:Int)).map (.int .u32))])] []) Q
def qDot_at (f1 f2 f3 f4 f5 f6 f7 f8:Bool) (x1 y1 x2 y2:Rat) (Q:AV->Heap->Prop):Prop:=Wp M1 (.run fi95 (atC (cd Try.f95) []) [(0,.agg [.bool (O.Zaa x1.num),.vec f1 1 ((O.Zaf x1.num).map (.int .u32)),.bool (O.Zaa (x1.den:Int)),.vec f2 1 ((O.Zaf (x1.den:Int)).map (.int .u32)),.bool (O.Zaa y1.num),.vec f3 1 ((O.Zaf y1.num).map (.int .u32)),.bool (O.Zaa (y1.den:Int)),.vec f4 1 ((O.Zaf (y1.den:Int)).map (.int .u32))]),(1,.agg [.bool (O.Zaa x2.num),.vec f5 1 ((O.Zaf x2.num).map (.int .u32)),.bool (O.Zaa (x2.den:Int)),.vec f6 1 ((O.Zaf (x2.den:Int)).map (.int .u32)),.bool (O.Zaa y2.num),.vec f7 1 ((O.Zaf y2.num).map (.int .u32)),.bool (O.Zaa (y2.den:Int)),.vec f8 1 ((O.Zaf (y2.den:Int)).map (.int .u32))])] []) Q
def qCross_at (f1 f2 f3 f4 f5 f6 f7 f8:Bool) (x1 y1 x2 y2:Rat) (Q:AV->Heap->Prop):Prop:=Wp M1 (.run fi94 (atC (cd Try.f94) []) [(0,.agg [.bool (O.Zaa x1.num),.vec f1 1 ((O.Zaf x1.num).map (.int .u32)),.bool (O.Zaa (x1.den:Int)),.vec f2 1 ((O.Zaf (x1.den:Int)).map (.int .u32)),.bool (O.Zaa y1.num),.vec f3 1 ((O.Zaf y1.num).map (.int .u32)),.bool (O.Zaa (y1.den:Int)),.vec f4 1 ((O.Zaf (y1.den:Int)).map (.int .u32))]),(1,.agg [.bool (O.Zaa x2.num),.vec f5 1 ((O.Zaf x2.num).map (.int .u32)),.bool (O.Zaa (x2.den:Int)),.vec f6 1 ((O.Zaf (x2.den:Int)).map (.int .u32)),.bool (O.Zaa y2.num),.vec f7 1 ((O.Zaf y2.num).map (.int .u32)),.bool (O.Zaa (y2.den:Int)),.vec f8 1 ((O.Zaf (y2.den:Int)).map (.int .u32))])] []) Q
theorem call93 {args:List AV} {d:AV} (h:wc M1 fi93 Try.f93 args d):Ev M1 (.pure 93 args) d []:=pcl _ _ (by kernel_rfl) h
theorem call94 {args:List AV} {d:AV} (h:wc M1 fi94 Try.f94 args d):Ev M1 (.pure 94 args) d []:=pcl _ _ (by kernel_rfl) h
theorem call95 {args:List AV} {d:AV} (h:wc M1 fi95 Try.f95 args d):Ev M1 (.pure 95 args) d []:=pcl _ _ (by kernel_rfl) h
theorem qWay (f1 f2 f3 f4 f5 f6 f7 f8:Bool) (x1 y1 x2 y2:Rat)  (dq:AV) (H :
  (O.okR x2/\O.okR x1) /\
  (O.okR y2/\O.okR y1) /\
  Weak (ag [vb (O.Zaa (x2-x1).num),vf (us (O.Zaf (x2-x1).num)),vb (O.Zaa (↑(x2-x1).den:Int)),vf (us (O.Zaf (↑(x2-x1).den:Int))),vb (O.Zaa (y2-y1).num),vf (us (O.Zaf (y2-y1).num)),vb (O.Zaa (↑(y2-y1).den:Int)),vf (us (O.Zaf (↑(y2-y1).den:Int)))]) dq) :
 qWay_at f1 f2 f3 f4 f5 f6 f7 f8 x1 y1 x2 y2 (Zae dq):=by
 unfold qWay_at
 obtain ⟨k1,k2,H⟩:=H
 exact Zao (G:=Zad kp93 [(1,4,.call (ratF (x2-x1)) none),(1,9,.call (ratF (y2-y1)) none)] []) 1000 [] (ag [vb (O.Zaa (x2-x1).num),vf (us (O.Zaf (x2-x1).num)),vb (O.Zaa (↑(x2-x1).den:Int)),vf (us (O.Zaf (↑(x2-x1).den:Int))),vb (O.Zaa (y2-y1).num),vf (us (O.Zaf (y2-y1).num)),vb (O.Zaa (↑(y2-y1).den:Int)),vf (us (O.Zaf (↑(y2-y1).den:Int)))]) (by kernel_rfl) (bc rfl (bc rfl (bc rfl (bc rfl (bc rfl b0))))) q0 (ce (@ev102 f5 f6 f1 f2 x2 x1 k1) (ce (@ev102 f7 f8 f3 f4 y2 y1 k2) c0)) H
theorem qDot (f1 f2 f3 f4 f5 f6 f7 f8:Bool) (x1 y1 x2 y2:Rat)  (dq:AV) (H :
  (O.okR x1/\O.okR x2) /\
  (O.okR y1/\O.okR y2) /\
  (O.okR (x1*x2)/\O.okR (y1*y2)) /\
  Weak (ratF (x1*x2+y1*y2)) dq) :
 qDot_at f1 f2 f3 f4 f5 f6 f7 f8 x1 y1 x2 y2 (Zae dq):=by
 unfold qDot_at
 obtain ⟨k1,k2,k3,H⟩:=H
 exact Zao (G:=Zad kp95 [(1,4,.call (ratF (x1*x2)) none),(1,9,.call (ratF (y1*y2)) none),(1,10,.call (ratF (x1*x2+y1*y2)) none)] []) 1000 [] (ratF (x1*x2+y1*y2)) (by kernel_rfl) (bc rfl (bc rfl (bc rfl (bc rfl (bc rfl b0))))) q0 (ce (@ev97 f1 f2 f5 f6 x1 x2 k1) (ce (@ev97 f3 f4 f7 f8 y1 y2 k2) (ce (@ev103 false false false false (x1*x2) (y1*y2) k3) c0))) H
theorem qCross (f1 f2 f3 f4 f5 f6 f7 f8:Bool) (x1 y1 x2 y2:Rat)  (dq:AV) (H :
  (O.okR x1/\O.okR y2) /\
  (O.okR y1/\O.okR x2) /\
  (O.okR (x1*y2)/\O.okR (y1*x2)) /\
  Weak (ratF (x1*y2-y1*x2)) dq) :
 qCross_at f1 f2 f3 f4 f5 f6 f7 f8 x1 y1 x2 y2 (Zae dq):=by
 unfold qCross_at
 obtain ⟨k1,k2,k3,H⟩:=H
 exact Zao (G:=Zad kp94 [(1,4,.call (ratF (x1*y2)) none),(1,9,.call (ratF (y1*x2)) none),(1,10,.call (ratF (x1*y2-y1*x2)) none)] []) 1000 [] (ratF (x1*y2-y1*x2)) (by kernel_rfl) (bc rfl (bc rfl (bc rfl (bc rfl (bc rfl b0))))) q0 (ce (@ev97 f1 f2 f7 f8 x1 y2 k1) (ce (@ev97 f3 f4 f5 f6 y1 x2 k2) (ce (@ev102 false false false false (x1*y2) (y1*x2) k3) c0))) H
end Go.Av

namespace Go.Av
open Go.Proofs
namespace O
def okW (x1 y1 x2 y2:Rat):Prop:=(okT 100 x1/\okT 100 y1)/\okT 100 x2/\okT 100 y2
def okD (x1 y1 x2 y2:Rat):Prop:=(okT 1000 x1/\okT 1000 y1)/\okT 1000 x2/\okT 1000 y2
end O
theorem ev93 (f1 f2 f3 f4 f5 f6 f7 f8:Bool) (x1 y1 x2 y2:Rat) (h:O.okW x1 y1 x2 y2):Ev M1 (.pure 93 [vecA f1 f2 f3 f4 x1 y1,vecA f5 f6 f7 f8 x2 y2]) (vecA false false false false (x2-x1) (y2-y1)) []:=by
 obtain ⟨⟨h1,h2⟩,h3,h4⟩:=h
 exact call93 (qWay _ _ _ _ _ _ _ _ _ _ _ _ _ ⟨⟨Zb4 h3 (by omega),Zb4 h1 (by omega)⟩,⟨Zb4 h4 (by omega),Zb4 h2 (by omega)⟩,.refl _⟩)
theorem ev95 (f1 f2 f3 f4 f5 f6 f7 f8:Bool) (x1 y1 x2 y2:Rat) (h:O.okD x1 y1 x2 y2):Ev M1 (.pure 95 [vecA f1 f2 f3 f4 x1 y1,vecA f5 f6 f7 f8 x2 y2]) (ratF (x1*x2+y1*y2)) []:=by
 obtain ⟨⟨h1,h2⟩,h3,h4⟩:=h
 exact call95 (qDot _ _ _ _ _ _ _ _ _ _ _ _ _ ⟨⟨Zb4 h1 (by omega),Zb4 h3 (by omega)⟩,⟨Zb4 h2 (by omega),Zb4 h4 (by omega)⟩,⟨Zb4 (Zci h1 h3) (by omega),Zb4 (Zci h2 h4) (by omega)⟩,.refl _⟩)
theorem ev94 (f1 f2 f3 f4 f5 f6 f7 f8:Bool) (x1 y1 x2 y2:Rat) (h:O.okD x1 y1 x2 y2):Ev M1 (.pure 94 [vecA f1 f2 f3 f4 x1 y1,vecA f5 f6 f7 f8 x2 y2]) (ratF (x1*y2-y1*x2)) []:=by
 obtain ⟨⟨h1,h2⟩,h3,h4⟩:=h
 exact call94 (qCross _ _ _ _ _ _ _ _ _ _ _ _ _ ⟨⟨Zb4 h1 (by omega),Zb4 h4 (by omega)⟩,⟨Zb4 h2 (by omega),Zb4 h3 (by omega)⟩,⟨Zb4 (Zci h1 h4) (by omega),Zb4 (Zci h2 h3) (by omega)⟩,.refl _⟩)
end Go.Av

namespace Go.Av
open Go.Proofs
set_option maxRecDepth 100000
def fi81:Fi:=⟨47,[.tmp 8]⟩
def kp81:List (Nat × List Nat):=[(0,[4,5,6,7]),(1,[4,5,6,7,9,10]),(2,[8])]
def fi82:Fi:=⟨51,[.cell 6 110]⟩
def kp82:List (Nat × List Nat):=[(0,[3,4,5,6]),(1,[4,5,6,7,8]),(2,[4,5,6,7,8,9,10]),(3,[4,5,6,7,8,9,10,25]),(4,[6]),(5,[4,5,6,7,8,9,32]),(6,[6,11]),(7,[6]),(8,[6,9,12]),(9,[6])]
def qToS_at (f1 f2 f3 f4 f5 f6 f7 f8 f9 f10 f11 f12:Bool) (x1 y1 x2 y2 x3 y3:Rat) (Q:AV->Heap->Prop):Prop:=Wp M1 (.run fi82 (atC (cd Try.f82) []) [(0,.agg [.bool (O.Zaa x1.num),.vec f1 1 ((O.Zaf x1.num).map (.int .u32)),.bool (O.Zaa (x1.den:Int)),.vec f2 1 ((O.Zaf (x1.den:Int)).map (.int .u32)),.bool (O.Zaa y1.num),.vec f3 1 ((O.Zaf y1.num).map (.int .u32)),.bool (O.Zaa (y1.den:Int)),.vec f4 1 ((O.Zaf (y1.den:Int)).map (.int .u32))]),(1,.agg [.bool (O.Zaa x2.num),.vec f5 1 ((O.Zaf x2.num).map (.int .u32)),.bool (O.Zaa (x2.den:Int)),.vec f6 1 ((O.Zaf (x2.den:Int)).map (.int .u32)),.bool (O.Zaa y2.num),.vec f7 1 ((O.Zaf y2.num).map (.int .u32)),.bool (O.Zaa (y2.den:Int)),.vec f8 1 ((O.Zaf (y2.den:Int)).map (.int .u32))]),(2,.agg [.bool (O.Zaa x3.num),.vec f9 1 ((O.Zaf x3.num).map (.int .u32)),.bool (O.Zaa (x3.den:Int)),.vec f10 1 ((O.Zaf (x3.den:Int)).map (.int .u32)),.bool (O.Zaa y3.num),.vec f11 1 ((O.Zaf y3.num).map (.int .u32)),.bool (O.Zaa (y3.den:Int)),.vec f12 1 ((O.Zaf (y3.den:Int)).map (.int .u32))])] []) Q
def qCrs_at (f1 f2 f3 f4 f5 f6 f7 f8 f9 f10 f11 f12 f13 f14 f15 f16:Bool) (x1 y1 x2 y2 x3 y3 x4 y4:Rat) (Q:AV->Heap->Prop):Prop:=Wp M1 (.run fi81 (atC (cd Try.f81) []) [(0,.agg [.bool (O.Zaa x1.num),.vec f1 1 ((O.Zaf x1.num).map (.int .u32)),.bool (O.Zaa (x1.den:Int)),.vec f2 1 ((O.Zaf (x1.den:Int)).map (.int .u32)),.bool (O.Zaa y1.num),.vec f3 1 ((O.Zaf y1.num).map (.int .u32)),.bool (O.Zaa (y1.den:Int)),.vec f4 1 ((O.Zaf (y1.den:Int)).map (.int .u32))]),(1,.agg [.bool (O.Zaa x2.num),.vec f5 1 ((O.Zaf x2.num).map (.int .u32)),.bool (O.Zaa (x2.den:Int)),.vec f6 1 ((O.Zaf (x2.den:Int)).map (.int .u32)),.bool (O.Zaa y2.num),.vec f7 1 ((O.Zaf y2.num).map (.int .u32)),.bool (O.Zaa (y2.den:Int)),.vec f8 1 ((O.Zaf (y2.den:Int)).map (.int .u32))]),(2,.agg [.bool (O.Zaa x3.num),.vec f9 1 ((O.Zaf x3.num).map (.int .u32)),.bool (O.Zaa (x3.den:Int)),.vec f10 1 ((O.Zaf (x3.den:Int)).map (.int .u32)),.bool (O.Zaa y3.num),.vec f11 1 ((O.Zaf y3.num).map (.int .u32)),.bool (O.Zaa (y3.den:Int)),.vec f12 1 ((O.Zaf (y3.den:Int)).map (.int .u32))]),(3,.agg [.bool (O.Zaa x4.num),.vec f13 1 ((O.Zaf x4.num).map (.int .u32)),.bool (O.Zaa (x4.den:Int)),.vec f14 1 ((O.Zaf (x4.den:Int)).map (.int .u32)),.bool (O.Zaa y4.num),.vec f15 1 ((O.Zaf y4.num).map (.int .u32)),.bool (O.Zaa (y4.den:Int)),.vec f16 1 ((O.Zaf (y4.den:Int)).map (.int .u32))])] []) Q
theorem call81 {args:List AV} {d:AV} (h:wc M1 fi81 Try.f81 args d):Ev M1 (.pure 81 args) d []:=pcl _ _ (by kernel_rfl) h
theorem call82 {args:List AV} {d:AV} (h:wc M1 fi82 Try.f82 args d):Ev M1 (.pure 82 args) d []:=pcl _ _ (by kernel_rfl) h
noncomputable abbrev Ze9 (x2:Rat) (x1:Rat) (y2:Rat) (y1:Rat):=ag [vb (O.Zaa (x2-x1).num),vf (us (O.Zaf (x2-x1).num)),vb (O.Zaa (↑(x2-x1).den:Int)),vf (us (O.Zaf (↑(x2-x1).den:Int))),vb (O.Zaa (y2-y1).num),vf (us (O.Zaf (y2-y1).num)),vb (O.Zaa (↑(y2-y1).den:Int)),vf (us (O.Zaf (↑(y2-y1).den:Int)))]
noncomputable abbrev zNqM2 (x3:Rat) (x1:Rat) (y3:Rat) (y1:Rat):=ag [vb (O.Zaa (x3-x1).num),vf (us (O.Zaf (x3-x1).num)),vb (O.Zaa (↑(x3-x1).den:Int)),vf (us (O.Zaf (↑(x3-x1).den:Int))),vb (O.Zaa (y3-y1).num),vf (us (O.Zaf (y3-y1).num)),vb (O.Zaa (↑(y3-y1).den:Int)),vf (us (O.Zaf (↑(y3-y1).den:Int)))]
noncomputable abbrev zNqM3 (x1:Rat) (f1:Bool) (f2:Bool) (y1:Rat) (f3:Bool) (f4:Bool):=ag [vb (O.Zaa x1.num),AV.vec f1 1 (us (O.Zaf x1.num)),vb (O.Zaa (↑x1.den:Int)),AV.vec f2 1 (us (O.Zaf (↑x1.den:Int))),vb (O.Zaa y1.num),AV.vec f3 1 (us (O.Zaf y1.num)),vb (O.Zaa (↑y1.den:Int)),AV.vec f4 1 (us (O.Zaf (↑y1.den:Int)))]
noncomputable abbrev zNqM4 (x2:Rat) (f5:Bool) (f6:Bool) (y2:Rat) (f7:Bool) (f8:Bool):=ag [vb (O.Zaa x2.num),AV.vec f5 1 (us (O.Zaf x2.num)),vb (O.Zaa (↑x2.den:Int)),AV.vec f6 1 (us (O.Zaf (↑x2.den:Int))),vb (O.Zaa y2.num),AV.vec f7 1 (us (O.Zaf y2.num)),vb (O.Zaa (↑y2.den:Int)),AV.vec f8 1 (us (O.Zaf (↑y2.den:Int)))]
noncomputable abbrev zNqM5 (x3:Rat) (f9:Bool) (f10:Bool) (y3:Rat) (f11:Bool) (f12:Bool):=ag [vb (O.Zaa x3.num),AV.vec f9 1 (us (O.Zaf x3.num)),vb (O.Zaa (↑x3.den:Int)),AV.vec f10 1 (us (O.Zaf (↑x3.den:Int))),vb (O.Zaa y3.num),AV.vec f11 1 (us (O.Zaf y3.num)),vb (O.Zaa (↑y3.den:Int)),AV.vec f12 1 (us (O.Zaf (↑y3.den:Int)))]
noncomputable abbrev zNqM6:=ag [vb false,AV.vnil,vb false,AV.vnil]
noncomputable abbrev zNqM7 (x2:Rat) (x1:Rat) (x3:Rat) (y2:Rat) (y1:Rat) (y3:Rat):=O.sgnI (((x2-x1)*(x3-x1)+(y2-y1)*(y3-y1)).num*(↑((x2-x1)*(x2-x1)+(y2-y1)*(y2-y1)).den:Int)-((x2-x1)*(x2-x1)+(y2-y1)*(y2-y1)).num*(↑((x2-x1)*(x3-x1)+(y2-y1)*(y3-y1)).den:Int))>=0
theorem qToS (f1 f2 f3 f4 f5 f6 f7 f8 f9 f10 f11 f12:Bool) (x1 y1 x2 y2 x3 y3:Rat)  (dq:AV) (H :
  (O.okW x1 y1 x2 y2) /\
  (O.okW x1 y1 x3 y3) /\
  (O.okD (x2-x1) (y2-y1) (x2-x1) (y2-y1)) /\
  (O.okD (x2-x1) (y2-y1) (x3-x1) (y3-y1)) /\
  ((O.sgnI ((x2-x1)*(x3-x1)+(y2-y1)*(y3-y1)).num<=0)->(O.okD (x3-x1) (y3-y1) (x3-x1) (y3-y1)) /\
   Weak (ratF ((x3-x1)*(x3-x1)+(y3-y1)*(y3-y1))) dq) /\
  (¬(O.sgnI ((x2-x1)*(x3-x1)+(y2-y1)*(y3-y1)).num<=0)->(O.okR ((x2-x1)*(x3-x1)+(y2-y1)*(y3-y1))/\O.okR ((x2-x1)*(x2-x1)+(y2-y1)*(y2-y1))) /\
   ((O.sgnI (((x2-x1)*(x3-x1)+(y2-y1)*(y3-y1)).num*(↑((x2-x1)*(x2-x1)+(y2-y1)*(y2-y1)).den:Int)-((x2-x1)*(x2-x1)+(y2-y1)*(y2-y1)).num*(↑((x2-x1)*(x3-x1)+(y2-y1)*(y3-y1)).den:Int))>=0)->(O.okW x2 y2 x3 y3) /\
    (O.okD (x3-x2) (y3-y2) (x3-x2) (y3-y2)) /\
    Weak (ratF ((x3-x2)*(x3-x2)+(y3-y2)*(y3-y2))) dq) /\
   (¬(O.sgnI (((x2-x1)*(x3-x1)+(y2-y1)*(y3-y1)).num*(↑((x2-x1)*(x2-x1)+(y2-y1)*(y2-y1)).den:Int)-((x2-x1)*(x2-x1)+(y2-y1)*(y2-y1)).num*(↑((x2-x1)*(x3-x1)+(y2-y1)*(y3-y1)).den:Int))>=0)->(O.okR ((x2-x1)*(y3-y1)-(y2-y1)*(x3-x1))/\O.okR ((x2-x1)*(y3-y1)-(y2-y1)*(x3-x1))) /\
    (O.okR (((x2-x1)*(y3-y1)-(y2-y1)*(x3-x1))*((x2-x1)*(y3-y1)-(y2-y1)*(x3-x1)))/\O.okR ((x2-x1)*(x2-x1)+(y2-y1)*(y2-y1))/\((x2-x1)*(x2-x1)+(y2-y1)*(y2-y1)).num ≠ 0) /\
    Weak (ratF (((x2-x1)*(y3-y1)-(y2-y1)*(x3-x1))*((x2-x1)*(y3-y1)-(y2-y1)*(x3-x1)) / ((x2-x1)*(x2-x1)+(y2-y1)*(y2-y1)))) dq))) :
 qToS_at f1 f2 f3 f4 f5 f6 f7 f8 f9 f10 f11 f12 x1 y1 x2 y2 x3 y3 (Zae dq):=by
 unfold qToS_at
 obtain ⟨k1,k2,H⟩:=H
 refine Zac (G:=Zad kp82 [(1,2,.call ((Ze9 x2 x1 y2 y1)) none),(1,5,.call ((zNqM2 x3 x1 y3 y1)) none)] []) 3 [] ⟨(atC (cd Try.f82) [1,0]),[(3,AV.ptr 0 0 0 0),(4,AV.ptr 1 0 0 0),(5,AV.ptr 2 0 0 0),(6,AV.ptr 3 0 0 0)],[⟨[(zNqM3 x1 f1 f2 y1 f3 f4)],8,0,false,false⟩,⟨[(zNqM4 x2 f5 f6 y2 f7 f8)],8,0,false,false⟩,⟨[(zNqM5 x3 f9 f10 y3 f11 f12)],8,0,false,false⟩,⟨[zNqM6],4,0,false,false⟩],_,[],_⟩ (by kernel_rfl) b0 q0 c0 (Zee (G:=Zad kp82 [(1,2,.call ((Ze9 x2 x1 y2 y1)) none),(1,5,.call ((zNqM2 x3 x1 y3 y1)) none)] []) [0,1,2,3,5,4] 6 (e1:=[(4,AV.ptr 1 0 0 0),(5,AV.ptr 2 0 0 0),(6,AV.ptr 3 0 0 0),(7,AV.ptr 4 0 0 0),(8,AV.ptr 5 0 0 0)]) (L1:=[⟨[(zNqM3 x1 f1 f2 y1 f3 f4)],8,0,false,false⟩,⟨[(zNqM4 x2 f5 f6 y2 f7 f8)],8,0,false,false⟩,⟨[(zNqM5 x3 f9 f10 y3 f11 f12)],8,0,false,false⟩,⟨[zNqM6],4,0,false,false⟩,⟨[(Ze9 x2 x1 y2 y1)],8,0,false,false⟩,⟨[(zNqM2 x3 x1 y3 y1)],8,0,false,false⟩]) (a:=[true,true,true,true,true,true]) (q:=[]) (cs:=[⟨true,false,93,[(zNqM3 x1 f1 f2 y1 f3 f4),(zNqM4 x2 f5 f6 y2 f7 f8)],[],(Ze9 x2 x1 y2 y1),[]⟩,⟨true,false,93,[(zNqM3 x1 f1 f2 y1 f3 f4),(zNqM5 x3 f9 f10 y3 f11 f12)],[],(zNqM2 x3 x1 y3 y1),[]⟩]) (by kernel_rfl) (by kernel_rfl) (Zag rfl (Zag rfl (Zag rfl (Zag rfl (Zag rfl (Zag rfl Zax)))))) ZaN (ZaL (fun _=>(@ev93 f1 f2 f3 f4 f5 f6 f7 f8 x1 y1 x2 y2 k1)) (ZaL (fun _=>(@ev93 f1 f2 f3 f4 f9 f10 f11 f12 x1 y1 x3 y3 k2)) ZaO)) ?_)
 obtain ⟨k3,k4,H⟩:=H
 refine Zac (G:=Zad kp82 [(2,2,.call (ratF ((x2-x1)*(x2-x1)+(y2-y1)*(y2-y1))) none),(2,5,.call (ratF ((x2-x1)*(x3-x1)+(y2-y1)*(y3-y1))) none)] []) 1 [] ⟨(atC (cd Try.f82) [1,1,0]),[(4,AV.ptr 1 0 0 0),(5,AV.ptr 2 0 0 0),(6,AV.ptr 3 0 0 0),(7,AV.ptr 4 0 0 0),(8,AV.ptr 5 0 0 0)],[⟨[(zNqM3 x1 f1 f2 y1 f3 f4)],8,0,false,false⟩,⟨[(zNqM4 x2 f5 f6 y2 f7 f8)],8,0,false,false⟩,⟨[(zNqM5 x3 f9 f10 y3 f11 f12)],8,0,false,false⟩,⟨[zNqM6],4,0,false,false⟩,⟨[(Ze9 x2 x1 y2 y1)],8,0,false,false⟩,⟨[(zNqM2 x3 x1 y3 y1)],8,0,false,false⟩],_,[],_⟩ (by kernel_rfl) b0 q0 c0 (Zee (G:=Zad kp82 [(2,2,.call (ratF ((x2-x1)*(x2-x1)+(y2-y1)*(y2-y1))) none),(2,5,.call (ratF ((x2-x1)*(x3-x1)+(y2-y1)*(y3-y1))) none)] []) [0,1,2,3,4,5,7,6] 6 (e1:=[(4,AV.ptr 1 0 0 0),(5,AV.ptr 2 0 0 0),(6,AV.ptr 3 0 0 0),(7,AV.ptr 4 0 0 0),(8,AV.ptr 5 0 0 0),(9,AV.ptr 6 0 0 0),(10,AV.ptr 7 0 0 0)]) (L1:=[⟨[(zNqM3 x1 f1 f2 y1 f3 f4)],8,0,false,false⟩,⟨[(zNqM4 x2 f5 f6 y2 f7 f8)],8,0,false,false⟩,⟨[(zNqM5 x3 f9 f10 y3 f11 f12)],8,0,false,false⟩,⟨[zNqM6],4,0,false,false⟩,⟨[(Ze9 x2 x1 y2 y1)],8,0,false,false⟩,⟨[(zNqM2 x3 x1 y3 y1)],8,0,false,false⟩,⟨[ratF ((x2-x1)*(x2-x1)+(y2-y1)*(y2-y1))],4,0,false,false⟩,⟨[ratF ((x2-x1)*(x3-x1)+(y2-y1)*(y3-y1))],4,0,false,false⟩]) (a:=[true,true,true,true,true,true]) (q:=[]) (cs:=[⟨true,false,95,[(Ze9 x2 x1 y2 y1),(Ze9 x2 x1 y2 y1)],[],ratF ((x2-x1)*(x2-x1)+(y2-y1)*(y2-y1)),[]⟩,⟨true,false,95,[(Ze9 x2 x1 y2 y1),(zNqM2 x3 x1 y3 y1)],[],ratF ((x2-x1)*(x3-x1)+(y2-y1)*(y3-y1)),[]⟩]) (by kernel_rfl) (by kernel_rfl) (Zag rfl (Zag rfl (Zag rfl (Zag rfl (Zag rfl (Zag rfl Zax)))))) ZaN (ZaL (fun _=>(@ev95 false false false false false false false false (x2-x1) (y2-y1) (x2-x1) (y2-y1) k3)) (ZaL (fun _=>(@ev95 false false false false false false false false (x2-x1) (y2-y1) (x3-x1) (y3-y1) k4)) ZaO)) ?_)
 refine Zac (G:=Zad kp82 [(3,1,.call (vi (O.sgnI ((x2-x1)*(x3-x1)+(y2-y1)*(y3-y1)).num)) none)] []) 4 [] ⟨(atC (cd Try.f82) [1,1,1,0,0,1]),[(4,AV.ptr 1 0 0 0),(5,AV.ptr 2 0 0 0),(6,AV.ptr 3 0 0 0),(7,AV.ptr 4 0 0 0),(8,AV.ptr 5 0 0 0),(9,AV.ptr 6 0 0 0),(10,AV.ptr 7 0 0 0),(25,vb (decide (O.sgnI ((x2-x1)*(x3-x1)+(y2-y1)*(y3-y1)).num<=0)))],[⟨[(zNqM3 x1 f1 f2 y1 f3 f4)],8,0,false,false⟩,⟨[(zNqM4 x2 f5 f6 y2 f7 f8)],8,0,false,false⟩,⟨[(zNqM5 x3 f9 f10 y3 f11 f12)],8,0,false,false⟩,⟨[zNqM6],4,0,false,false⟩,⟨[(Ze9 x2 x1 y2 y1)],8,0,false,false⟩,⟨[(zNqM2 x3 x1 y3 y1)],8,0,false,false⟩,⟨[ratF ((x2-x1)*(x2-x1)+(y2-y1)*(y2-y1))],4,0,false,false⟩,⟨[ratF ((x2-x1)*(x3-x1)+(y2-y1)*(y3-y1))],4,0,false,false⟩],_,[],_⟩ (by kernel_rfl) (bc rfl b0) q0 (ce (@ev79 false false (((x2-x1)*(x3-x1)+(y2-y1)*(y3-y1)).num) ((↑((x2-x1)*(x3-x1)+(y2-y1)*(y3-y1)).den:Int))) c0) ?_
 rcases xq H with ⟨d6,H⟩|⟨d6,H⟩
 ·obtain ⟨k7,H⟩:=H
  exact Zao (G:=Zad kp82 [(4,2,.call (ratF ((x3-x1)*(x3-x1)+(y3-y1)*(y3-y1))) none)] []) 1000 [true] (ratF ((x3-x1)*(x3-x1)+(y3-y1)*(y3-y1))) (by kernel_rfl) (bc (Zal (Zab.2 d6)) (bc rfl (bc rfl (bc rfl b0)))) q0 (ce (@ev95 false false false false false false false false (x3-x1) (y3-y1) (x3-x1) (y3-y1) k7) c0) H
 ·obtain ⟨k8,H⟩:=H
  refine Zac (G:=Zad kp82 [(5,2,.call (vi (O.sgnI (((x2-x1)*(x3-x1)+(y2-y1)*(y3-y1)).num*(↑((x2-x1)*(x2-x1)+(y2-y1)*(y2-y1)).den:Int)-((x2-x1)*(x2-x1)+(y2-y1)*(y2-y1)).num*(↑((x2-x1)*(x3-x1)+(y2-y1)*(y3-y1)).den:Int)))) none)] []) 3 [false] ⟨(atC (cd Try.f82) [1,1,1,0,0,1,1,1]),[(4,AV.ptr 1 0 0 0),(5,AV.ptr 2 0 0 0),(6,AV.ptr 3 0 0 0),(7,AV.ptr 4 0 0 0),(8,AV.ptr 5 0 0 0),(9,AV.ptr 6 0 0 0),(32,vb (decide (zNqM7 x2 x1 x3 y2 y1 y3)))],[⟨[(zNqM3 x1 f1 f2 y1 f3 f4)],8,0,false,false⟩,⟨[(zNqM4 x2 f5 f6 y2 f7 f8)],8,0,false,false⟩,⟨[(zNqM5 x3 f9 f10 y3 f11 f12)],8,0,false,false⟩,⟨[zNqM6],4,0,false,false⟩,⟨[(Ze9 x2 x1 y2 y1)],8,0,false,false⟩,⟨[(zNqM2 x3 x1 y3 y1)],8,0,false,false⟩,⟨[ratF ((x2-x1)*(x2-x1)+(y2-y1)*(y2-y1))],4,0,false,false⟩,⟨[ratF ((x2-x1)*(x3-x1)+(y2-y1)*(y3-y1))],4,0,false,false⟩],_,[],_⟩ (by kernel_rfl) (bc (Zak (fun h=>d6 (Zab.1 h))) (bc rfl (bc rfl b0))) q0 (ce (@ev72 false false false false ((x2-x1)*(x3-x1)+(y2-y1)*(y3-y1)) ((x2-x1)*(x2-x1)+(y2-y1)*(y2-y1)) k8) c0) ?_
  rcases xq H with ⟨d10,H⟩|⟨d10,H⟩
  ·obtain ⟨k11,k12,H⟩:=H
   exact Zao (G:=Zad kp82 [(6,2,.call (ag [vb (O.Zaa (x3-x2).num),vf (us (O.Zaf (x3-x2).num)),vb (O.Zaa (↑(x3-x2).den:Int)),vf (us (O.Zaf (↑(x3-x2).den:Int))),vb (O.Zaa (y3-y2).num),vf (us (O.Zaf (y3-y2).num)),vb (O.Zaa (↑(y3-y2).den:Int)),vf (us (O.Zaf (↑(y3-y2).den:Int)))]) none),(7,2,.call (ratF ((x3-x2)*(x3-x2)+(y3-y2)*(y3-y2))) none)] []) 1000 [true] (ratF ((x3-x2)*(x3-x2)+(y3-y2)*(y3-y2))) (by kernel_rfl) (bc (Zal (Zab.2 d10)) (bc rfl (bc rfl (bc rfl (bc rfl (bc rfl (bc rfl b0))))))) q0 (ce (@ev93 f5 f6 f7 f8 f9 f10 f11 f12 x2 y2 x3 y3 k11) (ce (@ev95 false false false false false false false false (x3-x2) (y3-y2) (x3-x2) (y3-y2) k12) c0)) H
  ·obtain ⟨k13,k14,H⟩:=H
   exact Zao (G:=Zad kp82 [(8,2,.call (ratF ((x2-x1)*(y3-y1)-(y2-y1)*(x3-x1))) none),(9,2,.call (ratF (((x2-x1)*(y3-y1)-(y2-y1)*(x3-x1))*((x2-x1)*(y3-y1)-(y2-y1)*(x3-x1)))) none),(9,4,.call (ratF (((x2-x1)*(y3-y1)-(y2-y1)*(x3-x1))*((x2-x1)*(y3-y1)-(y2-y1)*(x3-x1)) / ((x2-x1)*(x2-x1)+(y2-y1)*(y2-y1)))) none)] []) 1000 [false] (ratF (((x2-x1)*(y3-y1)-(y2-y1)*(x3-x1))*((x2-x1)*(y3-y1)-(y2-y1)*(x3-x1)) / ((x2-x1)*(x2-x1)+(y2-y1)*(y2-y1)))) (by kernel_rfl) (bc (Zak (fun h=>d10 (Zab.1 h))) (bc rfl (bc rfl (bc rfl (bc rfl (bc rfl (bc rfl (bc rfl b0)))))))) q0 (ce (@ev94 false false false false false false false false (x2-x1) (y2-y1) (x3-x1) (y3-y1) k4) (ce (@ev97 false false false false ((x2-x1)*(y3-y1)-(y2-y1)*(x3-x1)) ((x2-x1)*(y3-y1)-(y2-y1)*(x3-x1)) k13) (ce (@ev96 false false false false (((x2-x1)*(y3-y1)-(y2-y1)*(x3-x1))*((x2-x1)*(y3-y1)-(y2-y1)*(x3-x1))) ((x2-x1)*(x2-x1)+(y2-y1)*(y2-y1)) k14) c0))) H
noncomputable abbrev zNqM8 (x4:Rat) (x3:Rat) (y4:Rat) (y3:Rat):=ag [vb (O.Zaa (x4-x3).num),vf (us (O.Zaf (x4-x3).num)),vb (O.Zaa (↑(x4-x3).den:Int)),vf (us (O.Zaf (↑(x4-x3).den:Int))),vb (O.Zaa (y4-y3).num),vf (us (O.Zaf (y4-y3).num)),vb (O.Zaa (↑(y4-y3).den:Int)),vf (us (O.Zaf (↑(y4-y3).den:Int)))]
noncomputable abbrev zNqM9 (x3:Rat) (f9:Bool) (f10:Bool) (y3:Rat) (f11:Bool) (f12:Bool):=ag [vb (O.Zaa x3.num),AV.vec f9 1 (us (O.Zaf x3.num)),vb (O.Zaa (↑x3.den:Int)),AV.vec f10 1 (us (O.Zaf (↑x3.den:Int))),vb (O.Zaa y3.num),AV.vec f11 1 (us (O.Zaf y3.num)),vb (O.Zaa (↑y3.den:Int)),AV.vec f12 1 (us (O.Zaf (↑y3.den:Int)))]
noncomputable abbrev Zgp (x2:Rat) (x1:Rat) (y2:Rat) (y1:Rat):=ag [vb (O.Zaa (x2-x1).num),vf (us (O.Zaf (x2-x1).num)),vb (O.Zaa (↑(x2-x1).den:Int)),vf (us (O.Zaf (↑(x2-x1).den:Int))),vb (O.Zaa (y2-y1).num),vf (us (O.Zaf (y2-y1).num)),vb (O.Zaa (↑(y2-y1).den:Int)),vf (us (O.Zaf (↑(y2-y1).den:Int)))]
noncomputable abbrev Ze8 (x1:Rat) (f1:Bool) (f2:Bool) (y1:Rat) (f3:Bool) (f4:Bool):=ag [vb (O.Zaa x1.num),AV.vec f1 1 (us (O.Zaf x1.num)),vb (O.Zaa (↑x1.den:Int)),AV.vec f2 1 (us (O.Zaf (↑x1.den:Int))),vb (O.Zaa y1.num),AV.vec f3 1 (us (O.Zaf y1.num)),vb (O.Zaa (↑y1.den:Int)),AV.vec f4 1 (us (O.Zaf (↑y1.den:Int)))]
noncomputable abbrev zNqM12 (x1:Rat) (x3:Rat) (y1:Rat) (y3:Rat):=ag [vb (O.Zaa (x1-x3).num),vf (us (O.Zaf (x1-x3).num)),vb (O.Zaa (↑(x1-x3).den:Int)),vf (us (O.Zaf (↑(x1-x3).den:Int))),vb (O.Zaa (y1-y3).num),vf (us (O.Zaf (y1-y3).num)),vb (O.Zaa (↑(y1-y3).den:Int)),vf (us (O.Zaf (↑(y1-y3).den:Int)))]
noncomputable abbrev zNqM13 (x2:Rat) (x3:Rat) (y2:Rat) (y3:Rat):=ag [vb (O.Zaa (x2-x3).num),vf (us (O.Zaf (x2-x3).num)),vb (O.Zaa (↑(x2-x3).den:Int)),vf (us (O.Zaf (↑(x2-x3).den:Int))),vb (O.Zaa (y2-y3).num),vf (us (O.Zaf (y2-y3).num)),vb (O.Zaa (↑(y2-y3).den:Int)),vf (us (O.Zaf (↑(y2-y3).den:Int)))]
noncomputable abbrev zNqM14 (x2:Rat) (f5:Bool) (f6:Bool) (y2:Rat) (f7:Bool) (f8:Bool):=ag [vb (O.Zaa x2.num),AV.vec f5 1 (us (O.Zaf x2.num)),vb (O.Zaa (↑x2.den:Int)),AV.vec f6 1 (us (O.Zaf (↑x2.den:Int))),vb (O.Zaa y2.num),AV.vec f7 1 (us (O.Zaf y2.num)),vb (O.Zaa (↑y2.den:Int)),AV.vec f8 1 (us (O.Zaf (↑y2.den:Int)))]
noncomputable abbrev zNqM15 (x4:Rat) (f13:Bool) (f14:Bool) (y4:Rat) (f15:Bool) (f16:Bool):=ag [vb (O.Zaa x4.num),AV.vec f13 1 (us (O.Zaf x4.num)),vb (O.Zaa (↑x4.den:Int)),AV.vec f14 1 (us (O.Zaf (↑x4.den:Int))),vb (O.Zaa y4.num),AV.vec f15 1 (us (O.Zaf y4.num)),vb (O.Zaa (↑y4.den:Int)),AV.vec f16 1 (us (O.Zaf (↑y4.den:Int)))]
noncomputable abbrev zNqM16 (x3:Rat) (x1:Rat) (y3:Rat) (y1:Rat):=ag [vb (O.Zaa (x3-x1).num),vf (us (O.Zaf (x3-x1).num)),vb (O.Zaa (↑(x3-x1).den:Int)),vf (us (O.Zaf (↑(x3-x1).den:Int))),vb (O.Zaa (y3-y1).num),vf (us (O.Zaf (y3-y1).num)),vb (O.Zaa (↑(y3-y1).den:Int)),vf (us (O.Zaf (↑(y3-y1).den:Int)))]
noncomputable abbrev zNqM17 (x4:Rat) (x1:Rat) (y4:Rat) (y1:Rat):=ag [vb (O.Zaa (x4-x1).num),vf (us (O.Zaf (x4-x1).num)),vb (O.Zaa (↑(x4-x1).den:Int)),vf (us (O.Zaf (↑(x4-x1).den:Int))),vb (O.Zaa (y4-y1).num),vf (us (O.Zaf (y4-y1).num)),vb (O.Zaa (↑(y4-y1).den:Int)),vf (us (O.Zaf (↑(y4-y1).den:Int)))]
noncomputable abbrev Zgo (x2:Rat) (x1:Rat) (y3:Rat) (y1:Rat) (y2:Rat) (x3:Rat) (y4:Rat) (x4:Rat):=O.sgnI ((x2-x1)*(y3-y1)-(y2-y1)*(x3-x1)).num*O.sgnI ((x2-x1)*(y4-y1)-(y2-y1)*(x4-x1)).num<0
theorem qCrs (f1 f2 f3 f4 f5 f6 f7 f8 f9 f10 f11 f12 f13 f14 f15 f16:Bool) (x1 y1 x2 y2 x3 y3 x4 y4:Rat)  (dq:AV) (H :
  (O.okW x1 y1 x2 y2) /\
  (O.okW x3 y3 x4 y4) /\
  (O.okW x1 y1 x3 y3) /\
  (O.okD (x2-x1) (y2-y1) (x3-x1) (y3-y1)) /\
  (O.okW x1 y1 x4 y4) /\
  (O.okD (x2-x1) (y2-y1) (x4-x1) (y4-y1)) /\
  (-9223372036854775808<=O.sgnI ((x2-x1)*(y3-y1)-(y2-y1)*(x3-x1)).num*O.sgnI ((x2-x1)*(y4-y1)-(y2-y1)*(x4-x1)).num/\O.sgnI ((x2-x1)*(y3-y1)-(y2-y1)*(x3-x1)).num*O.sgnI ((x2-x1)*(y4-y1)-(y2-y1)*(x4-x1)).num<=9223372036854775807) /\
  ((O.sgnI ((x2-x1)*(y3-y1)-(y2-y1)*(x3-x1)).num*O.sgnI ((x2-x1)*(y4-y1)-(y2-y1)*(x4-x1)).num<0)->(O.okW x3 y3 x1 y1)) /\
  ((O.sgnI ((x2-x1)*(y3-y1)-(y2-y1)*(x3-x1)).num*O.sgnI ((x2-x1)*(y4-y1)-(y2-y1)*(x4-x1)).num<0)->(O.okD (x4-x3) (y4-y3) (x1-x3) (y1-y3))) /\
  ((O.sgnI ((x2-x1)*(y3-y1)-(y2-y1)*(x3-x1)).num*O.sgnI ((x2-x1)*(y4-y1)-(y2-y1)*(x4-x1)).num<0)->(O.okW x3 y3 x2 y2)) /\
  ((O.sgnI ((x2-x1)*(y3-y1)-(y2-y1)*(x3-x1)).num*O.sgnI ((x2-x1)*(y4-y1)-(y2-y1)*(x4-x1)).num<0)->(O.okD (x4-x3) (y4-y3) (x2-x3) (y2-y3))) /\
  vb (bif decide (O.sgnI ((x2-x1)*(y3-y1)-(y2-y1)*(x3-x1)).num*O.sgnI ((x2-x1)*(y4-y1)-(y2-y1)*(x4-x1)).num<0) then decide (IntKind.i64.wrap (O.sgnI ((x4-x3)*(y1-y3)-(y4-y3)*(x1-x3)).num*O.sgnI ((x4-x3)*(y2-y3)-(y4-y3)*(x2-x3)).num)<0) else false)=dq) :
 qCrs_at f1 f2 f3 f4 f5 f6 f7 f8 f9 f10 f11 f12 f13 f14 f15 f16 x1 y1 x2 y2 x3 y3 x4 y4 (Zae dq):=by
 unfold qCrs_at
 obtain ⟨k1,k2,H⟩:=H
 refine Zac (G:=Zad kp81 [(1,2,.call ((Zgp x2 x1 y2 y1)) none),(1,5,.call ((zNqM8 x4 x3 y4 y3)) none)] []) 3 [] ⟨(atC (cd Try.f81) [1,0]),[(4,AV.ptr 0 0 0 0),(5,AV.ptr 1 0 0 0),(6,AV.ptr 2 0 0 0),(7,AV.ptr 3 0 0 0)],[⟨[(Ze8 x1 f1 f2 y1 f3 f4)],8,0,false,false⟩,⟨[(zNqM14 x2 f5 f6 y2 f7 f8)],8,0,false,false⟩,⟨[(zNqM9 x3 f9 f10 y3 f11 f12)],8,0,false,false⟩,⟨[(zNqM15 x4 f13 f14 y4 f15 f16)],8,0,false,false⟩],_,[],_⟩ (by kernel_rfl) b0 q0 c0 (Zee (G:=Zad kp81 [(1,2,.call ((Zgp x2 x1 y2 y1)) none),(1,5,.call ((zNqM8 x4 x3 y4 y3)) none)] []) [0,1,2,3,5,4] 6 (e1:=[(4,AV.ptr 0 0 0 0),(5,AV.ptr 1 0 0 0),(6,AV.ptr 2 0 0 0),(7,AV.ptr 3 0 0 0),(9,AV.ptr 4 0 0 0),(10,AV.ptr 5 0 0 0)]) (L1:=[⟨[(Ze8 x1 f1 f2 y1 f3 f4)],8,0,false,false⟩,⟨[(zNqM14 x2 f5 f6 y2 f7 f8)],8,0,false,false⟩,⟨[(zNqM9 x3 f9 f10 y3 f11 f12)],8,0,false,false⟩,⟨[(zNqM15 x4 f13 f14 y4 f15 f16)],8,0,false,false⟩,⟨[(Zgp x2 x1 y2 y1)],8,0,false,false⟩,⟨[(zNqM8 x4 x3 y4 y3)],8,0,false,false⟩]) (a:=[true,true,true,true,true,true]) (q:=[]) (cs:=[⟨true,false,93,[(Ze8 x1 f1 f2 y1 f3 f4),(zNqM14 x2 f5 f6 y2 f7 f8)],[],(Zgp x2 x1 y2 y1),[]⟩,⟨true,false,93,[(zNqM9 x3 f9 f10 y3 f11 f12),(zNqM15 x4 f13 f14 y4 f15 f16)],[],(zNqM8 x4 x3 y4 y3),[]⟩]) (by kernel_rfl) (by kernel_rfl) (Zag rfl (Zag rfl (Zag rfl (Zag rfl (Zag rfl (Zag rfl Zax)))))) ZaN (ZaL (fun _=>(@ev93 f1 f2 f3 f4 f5 f6 f7 f8 x1 y1 x2 y2 k1)) (ZaL (fun _=>(@ev93 f9 f10 f11 f12 f13 f14 f15 f16 x3 y3 x4 y4 k2)) ZaO)) ?_)
 obtain ⟨k3,k4,k5,k6,k7,H⟩:=H
 have w8:wi (O.sgnI ((x2-x1)*(y3-y1)-(y2-y1)*(x3-x1)).num*O.sgnI ((x2-x1)*(y4-y1)-(y2-y1)*(x4-x1)).num)=O.sgnI ((x2-x1)*(y3-y1)-(y2-y1)*(x3-x1)).num*O.sgnI ((x2-x1)*(y4-y1)-(y2-y1)*(x4-x1)).num:=wI64 k7
 have i9:(decide (wi (O.sgnI ((x2-x1)*(y3-y1)-(y2-y1)*(x3-x1)).num*O.sgnI ((x2-x1)*(y4-y1)-(y2-y1)*(x4-x1)).num)<0)==true&&true&&true)=true ↔ (Zgo x2 x1 y3 y1 y2 x3 y4 x4):=(by (try rw [w8]);all_goals exact (i_at (i_at (i_bt Zab))))
 obtain ⟨k10,H⟩:=H
 have i11:(decide (wi (O.sgnI ((x2-x1)*(y3-y1)-(y2-y1)*(x3-x1)).num*O.sgnI ((x2-x1)*(y4-y1)-(y2-y1)*(x4-x1)).num)<0)==true&&true&&true)=true ↔ (Zgo x2 x1 y3 y1 y2 x3 y4 x4):=(by (try rw [w8]);all_goals exact (i_at (i_at (i_bt Zab))))
 obtain ⟨k12,H⟩:=H
 have i13:(decide (wi (O.sgnI ((x2-x1)*(y3-y1)-(y2-y1)*(x3-x1)).num*O.sgnI ((x2-x1)*(y4-y1)-(y2-y1)*(x4-x1)).num)<0)==true&&true&&true)=true ↔ (Zgo x2 x1 y3 y1 y2 x3 y4 x4):=(by (try rw [w8]);all_goals exact (i_at (i_at (i_bt Zab))))
 have i14:(decide (wi (O.sgnI ((x2-x1)*(y3-y1)-(y2-y1)*(x3-x1)).num*O.sgnI ((x2-x1)*(y4-y1)-(y2-y1)*(x4-x1)).num)<0)==true&&true&&true)=true ↔ (Zgo x2 x1 y3 y1 y2 x3 y4 x4):=(by (try rw [w8]);all_goals exact (i_at (i_at (i_bt Zab))))
 obtain ⟨k15,H⟩:=H
 have i16:(decide (wi (O.sgnI ((x2-x1)*(y3-y1)-(y2-y1)*(x3-x1)).num*O.sgnI ((x2-x1)*(y4-y1)-(y2-y1)*(x4-x1)).num)<0)==true&&true&&true)=true ↔ (Zgo x2 x1 y3 y1 y2 x3 y4 x4):=(by (try rw [w8]);all_goals exact (i_at (i_at (i_bt Zab))))
 obtain ⟨k17,H⟩:=H
 have i18:(decide (wi (O.sgnI ((x2-x1)*(y3-y1)-(y2-y1)*(x3-x1)).num*O.sgnI ((x2-x1)*(y4-y1)-(y2-y1)*(x4-x1)).num)<0)==true&&true&&true)=true ↔ (Zgo x2 x1 y3 y1 y2 x3 y4 x4):=(by (try rw [w8]);all_goals exact (i_at (i_at (i_bt Zab))))
 exact Zah (G:=Zad kp81 [(2,3,.call ((zNqM16 x3 x1 y3 y1)) none),(2,4,.call (ratF ((x2-x1)*(y3-y1)-(y2-y1)*(x3-x1))) none),(2,5,.call (vi (O.sgnI ((x2-x1)*(y3-y1)-(y2-y1)*(x3-x1)).num)) none),(2,9,.call ((zNqM17 x4 x1 y4 y1)) none),(2,10,.call (ratF ((x2-x1)*(y4-y1)-(y2-y1)*(x4-x1))) none),(2,11,.call (vi (O.sgnI ((x2-x1)*(y4-y1)-(y2-y1)*(x4-x1)).num)) none),(2,18,.call ((zNqM12 x1 x3 y1 y3)) none),(2,19,.call (ratF ((x4-x3)*(y1-y3)-(y4-y3)*(x1-x3))) none),(2,20,.call (vi (O.sgnI ((x4-x3)*(y1-y3)-(y4-y3)*(x1-x3)).num)) none),(2,24,.call ((zNqM13 x2 x3 y2 y3)) none),(2,25,.call (ratF ((x4-x3)*(y2-y3)-(y4-y3)*(x2-x3))) none),(2,26,.call (vi (O.sgnI ((x4-x3)*(y2-y3)-(y4-y3)*(x2-x3)).num)) none)] []) 1000 [] (asm:=[true,true,true,true,true,true,!(decide (wi (O.sgnI ((x2-x1)*(y3-y1)-(y2-y1)*(x3-x1)).num*O.sgnI ((x2-x1)*(y4-y1)-(y2-y1)*(x4-x1)).num)<0)==true&&true)||true,!(decide (wi (O.sgnI ((x2-x1)*(y3-y1)-(y2-y1)*(x3-x1)).num*O.sgnI ((x2-x1)*(y4-y1)-(y2-y1)*(x4-x1)).num)<0)==true&&true)||true,!(decide (wi (O.sgnI ((x2-x1)*(y3-y1)-(y2-y1)*(x3-x1)).num*O.sgnI ((x2-x1)*(y4-y1)-(y2-y1)*(x4-x1)).num)<0)==true&&true)||true,!(decide (wi (O.sgnI ((x2-x1)*(y3-y1)-(y2-y1)*(x3-x1)).num*O.sgnI ((x2-x1)*(y4-y1)-(y2-y1)*(x4-x1)).num)<0)==true&&true)||true,!(decide (wi (O.sgnI ((x2-x1)*(y3-y1)-(y2-y1)*(x3-x1)).num*O.sgnI ((x2-x1)*(y4-y1)-(y2-y1)*(x4-x1)).num)<0)==true&&true)||true,!(decide (wi (O.sgnI ((x2-x1)*(y3-y1)-(y2-y1)*(x3-x1)).num*O.sgnI ((x2-x1)*(y4-y1)-(y2-y1)*(x4-x1)).num)<0)==true&&true)||true]) (calls:=[⟨true,false,93,[(Ze8 x1 f1 f2 y1 f3 f4),(zNqM9 x3 f9 f10 y3 f11 f12)],[],(zNqM16 x3 x1 y3 y1),[]⟩,⟨true,false,94,[(Zgp x2 x1 y2 y1),(zNqM16 x3 x1 y3 y1)],[],ratF ((x2-x1)*(y3-y1)-(y2-y1)*(x3-x1)),[]⟩,⟨true,false,79,[ratF ((x2-x1)*(y3-y1)-(y2-y1)*(x3-x1))],[],vi (O.sgnI ((x2-x1)*(y3-y1)-(y2-y1)*(x3-x1)).num),[]⟩,⟨true,false,93,[(Ze8 x1 f1 f2 y1 f3 f4),(zNqM15 x4 f13 f14 y4 f15 f16)],[],(zNqM17 x4 x1 y4 y1),[]⟩,⟨true,false,94,[(Zgp x2 x1 y2 y1),(zNqM17 x4 x1 y4 y1)],[],ratF ((x2-x1)*(y4-y1)-(y2-y1)*(x4-x1)),[]⟩,⟨true,false,79,[ratF ((x2-x1)*(y4-y1)-(y2-y1)*(x4-x1))],[],vi (O.sgnI ((x2-x1)*(y4-y1)-(y2-y1)*(x4-x1)).num),[]⟩,⟨decide (wi (O.sgnI ((x2-x1)*(y3-y1)-(y2-y1)*(x3-x1)).num*O.sgnI ((x2-x1)*(y4-y1)-(y2-y1)*(x4-x1)).num)<0)==true&&true&&true,false,93,[(zNqM9 x3 f9 f10 y3 f11 f12),(Ze8 x1 f1 f2 y1 f3 f4)],[],(zNqM12 x1 x3 y1 y3),[]⟩,⟨decide (wi (O.sgnI ((x2-x1)*(y3-y1)-(y2-y1)*(x3-x1)).num*O.sgnI ((x2-x1)*(y4-y1)-(y2-y1)*(x4-x1)).num)<0)==true&&true&&true,false,94,[(zNqM8 x4 x3 y4 y3),(zNqM12 x1 x3 y1 y3)],[],ratF ((x4-x3)*(y1-y3)-(y4-y3)*(x1-x3)),[]⟩,⟨decide (wi (O.sgnI ((x2-x1)*(y3-y1)-(y2-y1)*(x3-x1)).num*O.sgnI ((x2-x1)*(y4-y1)-(y2-y1)*(x4-x1)).num)<0)==true&&true&&true,false,79,[ratF ((x4-x3)*(y1-y3)-(y4-y3)*(x1-x3))],[],vi (O.sgnI ((x4-x3)*(y1-y3)-(y4-y3)*(x1-x3)).num),[]⟩,⟨decide (wi (O.sgnI ((x2-x1)*(y3-y1)-(y2-y1)*(x3-x1)).num*O.sgnI ((x2-x1)*(y4-y1)-(y2-y1)*(x4-x1)).num)<0)==true&&true&&true,false,93,[(zNqM9 x3 f9 f10 y3 f11 f12),(zNqM14 x2 f5 f6 y2 f7 f8)],[],(zNqM13 x2 x3 y2 y3),[]⟩,⟨decide (wi (O.sgnI ((x2-x1)*(y3-y1)-(y2-y1)*(x3-x1)).num*O.sgnI ((x2-x1)*(y4-y1)-(y2-y1)*(x4-x1)).num)<0)==true&&true&&true,false,94,[(zNqM8 x4 x3 y4 y3),(zNqM13 x2 x3 y2 y3)],[],ratF ((x4-x3)*(y2-y3)-(y4-y3)*(x2-x3)),[]⟩,⟨decide (wi (O.sgnI ((x2-x1)*(y3-y1)-(y2-y1)*(x3-x1)).num*O.sgnI ((x2-x1)*(y4-y1)-(y2-y1)*(x4-x1)).num)<0)==true&&true&&true,false,79,[ratF ((x4-x3)*(y2-y3)-(y4-y3)*(x2-x3))],[],vi (O.sgnI ((x4-x3)*(y2-y3)-(y4-y3)*(x2-x3)).num),[]⟩]) (vb (bif decide (wi (O.sgnI ((x2-x1)*(y3-y1)-(y2-y1)*(x3-x1)).num*O.sgnI ((x2-x1)*(y4-y1)-(y2-y1)*(x4-x1)).num)<0) then decide (wi (O.sgnI ((x4-x3)*(y1-y3)-(y4-y3)*(x1-x3)).num*O.sgnI ((x4-x3)*(y2-y3)-(y4-y3)*(x2-x3)).num)<0) else false)) (by kernel_rfl) (bc rfl (bc rfl (bc rfl (bc rfl (bc rfl (bc rfl (bc (Bool.or_true _) (bc (Bool.or_true _) (bc (Bool.or_true _) (bc (Bool.or_true _) (bc (Bool.or_true _) (bc (Bool.or_true _) b0)))))))))))) q0 (cc (fun _=>(@ev93 f1 f2 f3 f4 f9 f10 f11 f12 x1 y1 x3 y3 k3)) (cc (fun _=>(@ev94 false false false false false false false false (x2-x1) (y2-y1) (x3-x1) (y3-y1) k4)) (cc (fun _=>(@ev79 false false (((x2-x1)*(y3-y1)-(y2-y1)*(x3-x1)).num) ((↑((x2-x1)*(y3-y1)-(y2-y1)*(x3-x1)).den:Int)))) (cc (fun _=>(@ev93 f1 f2 f3 f4 f13 f14 f15 f16 x1 y1 x4 y4 k5)) (cc (fun _=>(@ev94 false false false false false false false false (x2-x1) (y2-y1) (x4-x1) (y4-y1) k6)) (cc (fun _=>(@ev79 false false (((x2-x1)*(y4-y1)-(y2-y1)*(x4-x1)).num) ((↑((x2-x1)*(y4-y1)-(y2-y1)*(x4-x1)).den:Int)))) (cc (fun hc=>((@ev93 f9 f10 f11 f12 f1 f2 f3 f4 x3 y3 x1 y1 (k10 (i9.1 hc))):Ev M1 (Conf.pure 93 [(zNqM9 x3 f9 f10 y3 f11 f12),(Ze8 x1 f1 f2 y1 f3 f4)]) ((zNqM12 x1 x3 y1 y3)) [])) (cc (fun hc=>((@ev94 false false false false false false false false (x4-x3) (y4-y3) (x1-x3) (y1-y3) (k12 (i11.1 hc))):Ev M1 (Conf.pure 94 [(zNqM8 x4 x3 y4 y3),(zNqM12 x1 x3 y1 y3)]) (ratF ((x4-x3)*(y1-y3)-(y4-y3)*(x1-x3))) [])) (cc (fun hc=>((@ev79 false false (((x4-x3)*(y1-y3)-(y4-y3)*(x1-x3)).num) ((↑((x4-x3)*(y1-y3)-(y4-y3)*(x1-x3)).den:Int))):Ev M1 (Conf.pure 79 [ratF ((x4-x3)*(y1-y3)-(y4-y3)*(x1-x3))]) (vi (O.sgnI ((x4-x3)*(y1-y3)-(y4-y3)*(x1-x3)).num)) [])) (cc (fun hc=>((@ev93 f9 f10 f11 f12 f5 f6 f7 f8 x3 y3 x2 y2 (k15 (i14.1 hc))):Ev M1 (Conf.pure 93 [(zNqM9 x3 f9 f10 y3 f11 f12),(zNqM14 x2 f5 f6 y2 f7 f8)]) ((zNqM13 x2 x3 y2 y3)) [])) (cc (fun hc=>((@ev94 false false false false false false false false (x4-x3) (y4-y3) (x2-x3) (y2-y3) (k17 (i16.1 hc))):Ev M1 (Conf.pure 94 [(zNqM8 x4 x3 y4 y3),(zNqM13 x2 x3 y2 y3)]) (ratF ((x4-x3)*(y2-y3)-(y4-y3)*(x2-x3))) [])) (cc (fun hc=>((@ev79 false false (((x4-x3)*(y2-y3)-(y4-y3)*(x2-x3)).num) ((↑((x4-x3)*(y2-y3)-(y4-y3)*(x2-x3)).den:Int))):Ev M1 (Conf.pure 79 [ratF ((x4-x3)*(y2-y3)-(y4-y3)*(x2-x3))]) (vi (O.sgnI ((x4-x3)*(y2-y3)-(y4-y3)*(x2-x3)).num)) [])) c0)))))))))))) (by (try rw [w8]);all_goals exact H)
end Go.Av

namespace Go.Av
open Go.Proofs
namespace O
noncomputable def tsg (x1 y1 x2 y2 x3 y3:Rat):Rat:=
 if (x2-x1)*(x3-x1)+(y2-y1)*(y3-y1)<=0 then (x3-x1)*(x3-x1)+(y3-y1)*(y3-y1)
 else if (x2-x1)*(x2-x1)+(y2-y1)*(y2-y1)<=(x2-x1)*(x3-x1)+(y2-y1)*(y3-y1) then (x3-x2)*(x3-x2)+(y3-y2)*(y3-y2)
 else ((x2-x1)*(y3-y1)-(y2-y1)*(x3-x1))*((x2-x1)*(y3-y1)-(y2-y1)*(x3-x1)) / ((x2-x1)*(x2-x1)+(y2-y1)*(y2-y1))
def crs (x1 y1 x2 y2 x3 y3 x4 y4:Rat):Prop:=
 sgnI ((x2-x1)*(y3-y1)-(y2-y1)*(x3-x1)).num*sgnI ((x2-x1)*(y4-y1)-(y2-y1)*(x4-x1)).num<0/\sgnI ((x4-x3)*(y1-y3)-(y4-y3)*(x1-x3)).num*sgnI ((x4-x3)*(y2-y3)-(y4-y3)*(x2-x3)).num<0
def okV (x y:Rat):Prop:=okT 10 x/\okT 10 y
def okV3 (x1 y1 x2 y2 x3 y3:Rat):Prop:=okV x1 y1/\okV x2 y2/\okV x3 y3
def okV4 (x1 y1 x2 y2 x3 y3 x4 y4:Rat):Prop:=okV x1 y1/\okV x2 y2/\okV x3 y3/\okV x4 y4
end O
instance (x1 y1 x2 y2 x3 y3 x4 y4:Rat):Decidable (O.crs x1 y1 x2 y2 x3 y3 x4 y4):=by unfold O.crs;infer_instance
theorem cmp_ge2 {r s:Rat}:O.sgnI (r.num*(s.den:Int)-s.num*(r.den:Int))>=0 ↔ s<=r:=by
 rw [Rat.le_iff]
 generalize r.num*(s.den:Int)=u
 generalize s.num*(r.den:Int)=v
 unfold O.sgnI
 split
 ·omega
 ·split <;> omega
theorem Zct {r s:Rat}:O.sgnI (r.num*(s.den:Int)-s.num*(r.den:Int))<0 ↔ r<s:=by
 rw [<- Rat.not_le,<- cmp_ge2];omega
theorem sgn_le0 {d:Rat}:O.sgnI d.num<=0 ↔ d<=0:=by
 rw [Rat.le_iff]
 show _ ↔ d.num*(1:Int)<=0*_
 rw [Int.zero_mul,Int.mul_one]
 unfold O.sgnI
 split
 ·omega
 ·split <;> omega
theorem okW_V {x1 y1 x2 y2:Rat} (h:O.okV x1 y1) (k:O.okV x2 y2):O.okW x1 y1 x2 y2:=⟨⟨Zb6 h.1 (by omega),Zb6 h.2 (by omega)⟩,Zb6 k.1 (by omega),Zb6 k.2 (by omega)⟩
theorem okD_V {x1 y1 x2 y2 x3 y3 x4 y4:Rat} (h1:O.okV x1 y1) (h2:O.okV x2 y2) (h3:O.okV x3 y3) (h4:O.okV x4 y4):O.okD (x2-x1) (y2-y1) (x4-x3) (y4-y3):=
 ⟨⟨Zb6 (ZbM h2.1 h1.1) (by omega),Zb6 (ZbM h2.2 h1.2) (by omega)⟩,Zb6 (ZbM h4.1 h3.1) (by omega),Zb6 (ZbM h4.2 h3.2) (by omega)⟩
theorem ZfC {x1 y1 x2 y2 x3 y3 x4 y4:Rat} (h1:O.okV x1 y1) (h2:O.okV x2 y2) (h3:O.okV x3 y3) (h4:O.okV x4 y4):O.okT 100 ((x2-x1)*(x4-x3)+(y2-y1)*(y4-y3)):=
 Zb6 (okT_add (Zci (ZbM h2.1 h1.1) (ZbM h4.1 h3.1)) (Zci (ZbM h2.2 h1.2) (ZbM h4.2 h3.2))) (by omega)
theorem okT_crs {x1 y1 x2 y2 x3 y3 x4 y4:Rat} (h1:O.okV x1 y1) (h2:O.okV x2 y2) (h3:O.okV x3 y3) (h4:O.okV x4 y4):O.okT 100 ((x2-x1)*(y4-y3)-(y2-y1)*(x4-x3)):=
 Zb6 (ZbM (Zci (ZbM h2.1 h1.1) (ZbM h4.2 h3.2)) (Zci (ZbM h2.2 h1.2) (ZbM h4.1 h3.1))) (by omega)
theorem okT_dv {k m:Nat} {r s:Rat} (h:O.okT k r) (h2:O.okT m s) (h0:s.num ≠ 0):O.okT (k+m) (r / s):=by
 have e:=ZfZ (p:=r.num*(s.den:Int)) (q:=(r.den:Int)*s.num) (Int.mul_ne_zero (Zcr r) h0)
 rw [rat_div] at e
 exact ⟨Nat.le_trans (Zbf e.1) (Za8 h.1 (Zbk h2.2)),Nat.le_trans (Zbf e.2) (Za8 (Zbk h.2) h2.1)⟩
theorem Zc2 {x1 y1 x2 y2 x3 y3:Rat} (h1:O.okV x1 y1) (h2:O.okV x2 y2) (h3:O.okV x3 y3):O.okT 400 (O.tsg x1 y1 x2 y2 x3 y3):=by
 unfold O.tsg
 split
 ·exact Zb6 (ZfC h1 h3 h1 h3) (by omega)
 ·split
  ·exact Zb6 (ZfC h2 h3 h2 h3) (by omega)
  ·rename_i n1 n2
   refine Zb6 (okT_dv (Zci (okT_crs h1 h2 h1 h3) (okT_crs h1 h2 h1 h3)) (ZfC h1 h2 h1 h2) fun e => ?_) (by omega)
   have:=Rat.num_eq_zero.1 e
   rw [this] at n2
   grind
theorem ev82 (f1 f2 f3 f4 f5 f6 f7 f8 f9 f10 f11 f12:Bool) (x1 y1 x2 y2 x3 y3:Rat) (h:O.okV3 x1 y1 x2 y2 x3 y3):Ev M1 (.pure 82 [vecA f1 f2 f3 f4 x1 y1,vecA f5 f6 f7 f8 x2 y2,vecA f9 f10 f11 f12 x3 y3]) (ratF (O.tsg x1 y1 x2 y2 x3 y3)) []:=by
 obtain ⟨h1,h2,h3⟩:=h
 have dd:=ZfC h1 h2 h1 h2
 have dt:=ZfC h1 h2 h1 h3
 have cr:=okT_crs h1 h2 h1 h3
 refine call82 (qToS _ _ _ _ _ _ _ _ _ _ _ _ _ _ _ _ _ _ _ ⟨okW_V h1 h2,okW_V h1 h3,okD_V h1 h2 h1 h2,okD_V h1 h2 h1 h3,fun k=>⟨okD_V h1 h3 h1 h3,?_⟩,fun k=>⟨⟨Zb4 dt (by omega),Zb4 dd (by omega)⟩,fun j=>⟨okW_V h2 h3,okD_V h2 h3 h2 h3,?_⟩,fun j=>⟨⟨Zb4 cr (by omega),Zb4 cr (by omega)⟩,⟨Zb4 (Zci cr cr) (by omega),Zb4 dd (by omega),fun e => ?_⟩,?_⟩⟩⟩)
 ·unfold O.tsg;rw [if_pos (sgn_le0.1 k)];exact .refl _
 ·unfold O.tsg;rw [if_neg fun x=>k (sgn_le0.2 x),if_pos (cmp_ge2.1 j)];exact .refl _
 ·have e0:=Rat.num_eq_zero.1 e
  have k0:¬_:=fun x=>k (sgn_le0.2 x)
  have j0:¬_:=fun x=>j (cmp_ge2.2 x)
  rw [e0] at j0
  grind
 ·unfold O.tsg;rw [if_neg fun x=>k (sgn_le0.2 x),if_neg fun x=>j (cmp_ge2.2 x)];exact .refl _
theorem sgn_bd (n:Int):-1<=O.sgnI n/\O.sgnI n<=1:=by
 unfold O.sgnI
 split
 ·omega
 ·split <;> omega
theorem Zgx (m n:Int):-1<=O.sgnI m*O.sgnI n/\O.sgnI m*O.sgnI n<=1:=by
 have a:=sgn_bd m
 have b:=sgn_bd n
 have c:O.sgnI m = -1\/O.sgnI m=0\/O.sgnI m=1:=by omega
 rcases c with c | c | c <;> rw [c] <;> omega
theorem crs_bool (x1 y1 x2 y2 x3 y3 x4 y4:Rat):(bif decide (O.sgnI ((x2-x1)*(y3-y1)-(y2-y1)*(x3-x1)).num*O.sgnI ((x2-x1)*(y4-y1)-(y2-y1)*(x4-x1)).num<0) then decide (IntKind.i64.wrap (O.sgnI ((x4-x3)*(y1-y3)-(y4-y3)*(x1-x3)).num*O.sgnI ((x4-x3)*(y2-y3)-(y4-y3)*(x2-x3)).num)<0) else false)=decide (O.crs x1 y1 x2 y2 x3 y3 x4 y4):=by
 have b:=Zgx ((x4-x3)*(y1-y3)-(y4-y3)*(x1-x3)).num ((x4-x3)*(y2-y3)-(y4-y3)*(x2-x3)).num
 rw [w64 _ (by omega),ZcK]
 exact Zc7 Iff.rfl
theorem ev81 (f1 f2 f3 f4 f5 f6 f7 f8 f9 f10 f11 f12 f13 f14 f15 f16:Bool) (x1 y1 x2 y2 x3 y3 x4 y4:Rat) (h:O.okV4 x1 y1 x2 y2 x3 y3 x4 y4):Ev M1 (.pure 81 [vecA f1 f2 f3 f4 x1 y1,vecA f5 f6 f7 f8 x2 y2,vecA f9 f10 f11 f12 x3 y3,vecA f13 f14 f15 f16 x4 y4]) (.bool (decide (O.crs x1 y1 x2 y2 x3 y3 x4 y4))) []:=by
 obtain ⟨h1,h2,h3,h4⟩:=h
 have b:=Zgx ((x2-x1)*(y3-y1)-(y2-y1)*(x3-x1)).num ((x2-x1)*(y4-y1)-(y2-y1)*(x4-x1)).num
 exact call81 (qCrs _ _ _ _ _ _ _ _ _ _ _ _ _ _ _ _ _ _ _ _ _ _ _ _ _ ⟨okW_V h1 h2,okW_V h3 h4,okW_V h1 h3,okD_V h1 h2 h1 h3,okW_V h1 h4,okD_V h1 h2 h1 h4,by omega,fun _=>okW_V h3 h1,fun _=>okD_V h3 h4 h3 h1,fun _=>okW_V h3 h2,fun _=>okD_V h3 h4 h3 h2,congrArg AV.bool (crs_bool _ _ _ _ _ _ _ _)⟩)
end Go.Av

namespace Go.Av
open Go.Proofs
set_option maxRecDepth 100000
def fi73:Fi:=⟨47,[.cell 8 110]⟩
def kp73:List (Nat × List Nat):=[(0,[4,5,6,7,8]),(1,[4,5,6,7,8,16]),(2,[8]),(3,[4,5,6,7,8,9]),(4,[8,9,34,35,36]),(5,[8,9,34,35,36,37]),(6,[8,9,11,34,35,36]),(7,[8,9,11,34,35,36,43]),(8,[8,9,34,35,36]),(9,[8,9,34,35,36]),(10,[8])]
def qSeg_at (f1 f2 f3 f4 f5 f6 f7 f8 f9 f10 f11 f12 f13 f14 f15 f16:Bool) (x1 y1 x2 y2 x3 y3 x4 y4:Rat) (Q:AV->Heap->Prop):Prop:=Wp M1 (.run fi73 (atC (cd Try.f73) []) [(0,.agg [.bool (O.Zaa x1.num),.vec f1 1 ((O.Zaf x1.num).map (.int .u32)),.bool (O.Zaa (x1.den:Int)),.vec f2 1 ((O.Zaf (x1.den:Int)).map (.int .u32)),.bool (O.Zaa y1.num),.vec f3 1 ((O.Zaf y1.num).map (.int .u32)),.bool (O.Zaa (y1.den:Int)),.vec f4 1 ((O.Zaf (y1.den:Int)).map (.int .u32))]),(1,.agg [.bool (O.Zaa x2.num),.vec f5 1 ((O.Zaf x2.num).map (.int .u32)),.bool (O.Zaa (x2.den:Int)),.vec f6 1 ((O.Zaf (x2.den:Int)).map (.int .u32)),.bool (O.Zaa y2.num),.vec f7 1 ((O.Zaf y2.num).map (.int .u32)),.bool (O.Zaa (y2.den:Int)),.vec f8 1 ((O.Zaf (y2.den:Int)).map (.int .u32))]),(2,.agg [.bool (O.Zaa x3.num),.vec f9 1 ((O.Zaf x3.num).map (.int .u32)),.bool (O.Zaa (x3.den:Int)),.vec f10 1 ((O.Zaf (x3.den:Int)).map (.int .u32)),.bool (O.Zaa y3.num),.vec f11 1 ((O.Zaf y3.num).map (.int .u32)),.bool (O.Zaa (y3.den:Int)),.vec f12 1 ((O.Zaf (y3.den:Int)).map (.int .u32))]),(3,.agg [.bool (O.Zaa x4.num),.vec f13 1 ((O.Zaf x4.num).map (.int .u32)),.bool (O.Zaa (x4.den:Int)),.vec f14 1 ((O.Zaf (x4.den:Int)).map (.int .u32)),.bool (O.Zaa y4.num),.vec f15 1 ((O.Zaf y4.num).map (.int .u32)),.bool (O.Zaa (y4.den:Int)),.vec f16 1 ((O.Zaf (y4.den:Int)).map (.int .u32))])] []) Q
def ZeV (q r1 r2 r3:Rat) (Q:AV->Heap->Prop):Prop:=Wp M1 (.run fi73 (atC (cd Try.f73) [1,1,1,0,1,0,0]) [(8,.ptr 0 0 0 0),(9,.ptr 1 0 0 0),(34,.vec true 4 [ratF r1,ratF r2,ratF r3]),(35,.int .i64 3),(36,.int .i64 0)] [⟨[.agg [.bool false,.vnil,.bool false,.vnil]],4,0,false,false⟩,⟨[ratF q],4,0,false,false⟩]) Q
def ZdN (q r1 r2 r3:Rat) (Q:AV->Heap->Prop):Prop:=Wp M1 (.run fi73 (atC (cd Try.f73) [1,1,1,0,1,0,0]) [(8,.ptr 0 0 0 0),(9,.ptr 1 0 0 0),(34,.vec true 4 [ratF r1,ratF r2,ratF r3]),(35,.int .i64 3),(36,.int .i64 1)] [⟨[.agg [.bool false,.vnil,.bool false,.vnil]],4,0,false,false⟩,⟨[ratF q],4,0,false,false⟩]) Q
def ZdM (q r1 r2 r3:Rat) (Q:AV->Heap->Prop):Prop:=Wp M1 (.run fi73 (atC (cd Try.f73) [1,1,1,0,1,0,0]) [(8,.ptr 0 0 0 0),(9,.ptr 1 0 0 0),(34,.vec true 4 [ratF r1,ratF r2,ratF r3]),(35,.int .i64 3),(36,.int .i64 2)] [⟨[.agg [.bool false,.vnil,.bool false,.vnil]],4,0,false,false⟩,⟨[ratF q],4,0,false,false⟩]) Q
def ZdL (q r1 r2 r3:Rat) (Q:AV->Heap->Prop):Prop:=Wp M1 (.run fi73 (atC (cd Try.f73) [1,1,1,0,1,0,0]) [(8,.ptr 0 0 0 0),(9,.ptr 1 0 0 0),(34,.vec true 4 [ratF r1,ratF r2,ratF r3]),(35,.int .i64 3),(36,.int .i64 3)] [⟨[.agg [.bool false,.vnil,.bool false,.vnil]],4,0,false,false⟩,⟨[ratF q],4,0,false,false⟩]) Q
theorem call73 {args:List AV} {d:AV} (h:wc M1 fi73 Try.f73 args d):Ev M1 (.pure 73 args) d []:=pcl _ _ (by kernel_rfl) h
noncomputable abbrev zNqN1 (x1:Rat) (f1:Bool) (f2:Bool) (y1:Rat) (f3:Bool) (f4:Bool):=ag [vb (O.Zaa x1.num),AV.vec f1 1 (us (O.Zaf x1.num)),vb (O.Zaa (↑x1.den:Int)),AV.vec f2 1 (us (O.Zaf (↑x1.den:Int))),vb (O.Zaa y1.num),AV.vec f3 1 (us (O.Zaf y1.num)),vb (O.Zaa (↑y1.den:Int)),AV.vec f4 1 (us (O.Zaf (↑y1.den:Int)))]
noncomputable abbrev zNqN2 (x2:Rat) (f5:Bool) (f6:Bool) (y2:Rat) (f7:Bool) (f8:Bool):=ag [vb (O.Zaa x2.num),AV.vec f5 1 (us (O.Zaf x2.num)),vb (O.Zaa (↑x2.den:Int)),AV.vec f6 1 (us (O.Zaf (↑x2.den:Int))),vb (O.Zaa y2.num),AV.vec f7 1 (us (O.Zaf y2.num)),vb (O.Zaa (↑y2.den:Int)),AV.vec f8 1 (us (O.Zaf (↑y2.den:Int)))]
noncomputable abbrev zNqN3 (x3:Rat) (f9:Bool) (f10:Bool) (y3:Rat) (f11:Bool) (f12:Bool):=ag [vb (O.Zaa x3.num),AV.vec f9 1 (us (O.Zaf x3.num)),vb (O.Zaa (↑x3.den:Int)),AV.vec f10 1 (us (O.Zaf (↑x3.den:Int))),vb (O.Zaa y3.num),AV.vec f11 1 (us (O.Zaf y3.num)),vb (O.Zaa (↑y3.den:Int)),AV.vec f12 1 (us (O.Zaf (↑y3.den:Int)))]
noncomputable abbrev zNqN4 (x4:Rat) (f13:Bool) (f14:Bool) (y4:Rat) (f15:Bool) (f16:Bool):=ag [vb (O.Zaa x4.num),AV.vec f13 1 (us (O.Zaf x4.num)),vb (O.Zaa (↑x4.den:Int)),AV.vec f14 1 (us (O.Zaf (↑x4.den:Int))),vb (O.Zaa y4.num),AV.vec f15 1 (us (O.Zaf y4.num)),vb (O.Zaa (↑y4.den:Int)),AV.vec f16 1 (us (O.Zaf (↑y4.den:Int)))]
theorem qSeg (f1 f2 f3 f4 f5 f6 f7 f8 f9 f10 f11 f12 f13 f14 f15 f16:Bool) (x1 y1 x2 y2 x3 y3 x4 y4:Rat)  (dq:AV) (H :
  (O.okV4 x1 y1 x2 y2 x3 y3 x4 y4) /\
  ((O.crs x1 y1 x2 y2 x3 y3 x4 y4)->(O.inI 0) /\
   Weak (ratF (O.qi 0)) dq) /\
  (¬(O.crs x1 y1 x2 y2 x3 y3 x4 y4)->(O.okV3 x1 y1 x2 y2 x3 y3) /\
   (O.okV3 x1 y1 x2 y2 x4 y4) /\
   (O.okV3 x3 y3 x4 y4 x1 y1) /\
   (O.okV3 x3 y3 x4 y4 x2 y2) /\
   ZeV (O.tsg x1 y1 x2 y2 x3 y3) (O.tsg x1 y1 x2 y2 x4 y4) (O.tsg x3 y3 x4 y4 x1 y1) (O.tsg x3 y3 x4 y4 x2 y2) (Zae dq))) :
 qSeg_at f1 f2 f3 f4 f5 f6 f7 f8 f9 f10 f11 f12 f13 f14 f15 f16 x1 y1 x2 y2 x3 y3 x4 y4 (Zae dq):=by
 unfold qSeg_at
 obtain ⟨k1,H⟩:=H
 refine Zac (G:=Zad kp73 [(1,4,.call (vb (decide (O.crs x1 y1 x2 y2 x3 y3 x4 y4))) none)] []) 5 [] ⟨(atC (cd Try.f73) [1,0,1]),[(4,AV.ptr 0 0 0 0),(5,AV.ptr 1 0 0 0),(6,AV.ptr 2 0 0 0),(7,AV.ptr 3 0 0 0),(8,AV.ptr 4 0 0 0),(16,vb (decide (O.crs x1 y1 x2 y2 x3 y3 x4 y4)))],[⟨[(zNqN1 x1 f1 f2 y1 f3 f4)],8,0,false,false⟩,⟨[(zNqN2 x2 f5 f6 y2 f7 f8)],8,0,false,false⟩,⟨[(zNqN3 x3 f9 f10 y3 f11 f12)],8,0,false,false⟩,⟨[(zNqN4 x4 f13 f14 y4 f15 f16)],8,0,false,false⟩,⟨[ag [vb false,AV.vnil,vb false,AV.vnil]],4,0,false,false⟩],_,[],_⟩ (by kernel_rfl) (bc rfl (bc rfl (bc rfl (bc rfl b0)))) q0 (ce (@ev81 f1 f2 f3 f4 f5 f6 f7 f8 f9 f10 f11 f12 f13 f14 f15 f16 x1 y1 x2 y2 x3 y3 x4 y4 k1) c0) ?_
 rcases xq H with ⟨d3,H⟩|⟨d3,H⟩
 ·obtain ⟨k4,H⟩:=H
  exact Zao (G:=Zad kp73 [(2,0,.call (ratF (O.qi 0)) none)] []) 1000 [true] (ratF (O.qi 0)) (by kernel_rfl) (bc (Zal (Zab.2 d3)) (bc rfl b0)) q0 (ce (@ev69 0 k4) c0) H
 ·obtain ⟨k5,k6,k7,k8,H⟩:=H
  exact Zac (G:=Zad kp73 [(3,3,.call (ratF (O.tsg x1 y1 x2 y2 x3 y3)) none),(4,3,.call (ratF (O.tsg x1 y1 x2 y2 x4 y4)) none),(4,7,.call (ratF (O.tsg x3 y3 x4 y4 x1 y1)) none),(4,11,.call (ratF (O.tsg x3 y3 x4 y4 x2 y2)) none)] []) 1000 [false] ⟨(atC (cd Try.f73) [1,1,1,0,1,0,0]),[(8,AV.ptr 4 0 0 0),(9,AV.ptr 5 0 0 0),(34,AV.vec true 4 [ratF (O.tsg x1 y1 x2 y2 x4 y4),ratF (O.tsg x3 y3 x4 y4 x1 y1),ratF (O.tsg x3 y3 x4 y4 x2 y2)]),(35,vi 3),(36,vi 0)],[⟨[(zNqN1 x1 f1 f2 y1 f3 f4)],8,0,false,false⟩,⟨[(zNqN2 x2 f5 f6 y2 f7 f8)],8,0,false,false⟩,⟨[(zNqN3 x3 f9 f10 y3 f11 f12)],8,0,false,false⟩,⟨[(zNqN4 x4 f13 f14 y4 f15 f16)],8,0,false,false⟩,⟨[ag [vb false,AV.vnil,vb false,AV.vnil]],4,0,false,false⟩,⟨[ratF (O.tsg x1 y1 x2 y2 x3 y3)],4,0,false,false⟩],_,[],_⟩ (by kernel_rfl) (bc (Zak (fun h=>d3 (Zab.1 h))) (bc rfl (bc rfl (bc rfl (bc rfl (bc rfl (bc rfl (bc rfl (bc rfl (bc rfl (bc rfl (bc rfl (bc rfl (bc rfl b0)))))))))))))) q0 (ce (@ev82 f1 f2 f3 f4 f5 f6 f7 f8 f9 f10 f11 f12 x1 y1 x2 y2 x3 y3 k5) (ce (@ev82 f1 f2 f3 f4 f5 f6 f7 f8 f13 f14 f15 f16 x1 y1 x2 y2 x4 y4 k6) (ce (@ev82 f9 f10 f11 f12 f13 f14 f15 f16 f1 f2 f3 f4 x3 y3 x4 y4 x1 y1 k7) (ce (@ev82 f9 f10 f11 f12 f13 f14 f15 f16 f5 f6 f7 f8 x3 y3 x4 y4 x2 y2 k8) c0)))) (Zas [4,5] (by kernel_rfl) H)
noncomputable abbrev zNqN5:=ag [vb false,AV.vnil,vb false,AV.vnil]
theorem qSeg0 (q r1 r2 r3:Rat)  (dq:AV) (H :
  (O.okR r1/\O.okR q) /\
  ((O.sgnI (r1.num*(↑q.den:Int)-q.num*(↑r1.den:Int))<0)->ZdN r1 r1 r2 r3 (Zae dq)) /\
  (¬(O.sgnI (r1.num*(↑q.den:Int)-q.num*(↑r1.den:Int))<0)->ZdN q r1 r2 r3 (Zae dq))) :
 ZeV q r1 r2 r3 (Zae dq):=by
 unfold ZeV
 obtain ⟨k1,H⟩:=H
 refine Zac (G:=Zad kp73 [(7,2,.call (vi (O.sgnI (r1.num*(↑q.den:Int)-q.num*(↑r1.den:Int)))) none)] []) 11 [true] ⟨(atC (cd Try.f73) [1,1,1,0,1,0,0,1,1,0,0,1,1]),[(8,AV.ptr 0 0 0 0),(9,AV.ptr 1 0 0 0),(11,AV.ptr 2 0 0 0),(34,AV.vec true 4 [ratF r1,ratF r2,ratF r3]),(35,vi 3),(36,vi 0),(43,vb (decide (O.sgnI (r1.num*(↑q.den:Int)-q.num*(↑r1.den:Int))<0)))],[⟨[zNqN5],4,0,false,false⟩,⟨[ratF q],4,0,false,false⟩,⟨[ratF r1],4,0,false,false⟩],_,[],_⟩ (by kernel_rfl) (bc rfl (bc rfl (bc rfl (bc rfl (bc rfl (bc rfl b0)))))) q0 (ce (@ev72 false false false false r1 q k1) c0) ?_
 rcases xq H with ⟨d3,H⟩|⟨d3,H⟩
 ·exact Zac (G:=Zad kp73 [] []) 1000 [true] ⟨(atC (cd Try.f73) [1,1,1,0,1,0,0]),[(8,AV.ptr 0 0 0 0),(9,AV.ptr 1 0 0 0),(34,AV.vec true 4 [ratF r1,ratF r2,ratF r3]),(35,vi 3),(36,vi 1)],[⟨[zNqN5],4,0,false,false⟩,⟨[ratF r1],4,0,false,false⟩,⟨[ratF r1],4,0,false,false⟩],_,[],_⟩ (by kernel_rfl) (bc (Zal (Zab.2 d3)) (bc rfl (bc rfl b0))) q0 c0 (Zas [0,1] (by kernel_rfl) H)
 ·exact Zac (G:=Zad kp73 [] []) 1000 [false] ⟨(atC (cd Try.f73) [1,1,1,0,1,0,0]),[(8,AV.ptr 0 0 0 0),(9,AV.ptr 1 0 0 0),(34,AV.vec true 4 [ratF r1,ratF r2,ratF r3]),(35,vi 3),(36,vi 1)],[⟨[zNqN5],4,0,false,false⟩,⟨[ratF q],4,0,false,false⟩,⟨[ratF r1],4,0,false,false⟩],_,[],_⟩ (by kernel_rfl) (bc (Zak (fun h=>d3 (Zab.1 h))) b0) q0 c0 (Zas [0,1] (by kernel_rfl) H)
noncomputable abbrev zNqN6:=ag [vb false,AV.vnil,vb false,AV.vnil]
theorem qSeg1 (q r1 r2 r3:Rat)  (dq:AV) (H :
  (O.okR r2/\O.okR q) /\
  ((O.sgnI (r2.num*(↑q.den:Int)-q.num*(↑r2.den:Int))<0)->ZdM r2 r1 r2 r3 (Zae dq)) /\
  (¬(O.sgnI (r2.num*(↑q.den:Int)-q.num*(↑r2.den:Int))<0)->ZdM q r1 r2 r3 (Zae dq))) :
 ZdN q r1 r2 r3 (Zae dq):=by
 unfold ZdN
 obtain ⟨k1,H⟩:=H
 refine Zac (G:=Zad kp73 [(7,2,.call (vi (O.sgnI (r2.num*(↑q.den:Int)-q.num*(↑r2.den:Int)))) none)] []) 11 [true] ⟨(atC (cd Try.f73) [1,1,1,0,1,0,0,1,1,0,0,1,1]),[(8,AV.ptr 0 0 0 0),(9,AV.ptr 1 0 0 0),(11,AV.ptr 2 0 0 0),(34,AV.vec true 4 [ratF r1,ratF r2,ratF r3]),(35,vi 3),(36,vi 1),(43,vb (decide (O.sgnI (r2.num*(↑q.den:Int)-q.num*(↑r2.den:Int))<0)))],[⟨[zNqN6],4,0,false,false⟩,⟨[ratF q],4,0,false,false⟩,⟨[ratF r2],4,0,false,false⟩],_,[],_⟩ (by kernel_rfl) (bc rfl (bc rfl (bc rfl (bc rfl (bc rfl (bc rfl b0)))))) q0 (ce (@ev72 false false false false r2 q k1) c0) ?_
 rcases xq H with ⟨d3,H⟩|⟨d3,H⟩
 ·exact Zac (G:=Zad kp73 [] []) 1000 [true] ⟨(atC (cd Try.f73) [1,1,1,0,1,0,0]),[(8,AV.ptr 0 0 0 0),(9,AV.ptr 1 0 0 0),(34,AV.vec true 4 [ratF r1,ratF r2,ratF r3]),(35,vi 3),(36,vi 2)],[⟨[zNqN6],4,0,false,false⟩,⟨[ratF r2],4,0,false,false⟩,⟨[ratF r2],4,0,false,false⟩],_,[],_⟩ (by kernel_rfl) (bc (Zal (Zab.2 d3)) (bc rfl (bc rfl b0))) q0 c0 (Zas [0,1] (by kernel_rfl) H)
 ·exact Zac (G:=Zad kp73 [] []) 1000 [false] ⟨(atC (cd Try.f73) [1,1,1,0,1,0,0]),[(8,AV.ptr 0 0 0 0),(9,AV.ptr 1 0 0 0),(34,AV.vec true 4 [ratF r1,ratF r2,ratF r3]),(35,vi 3),(36,vi 2)],[⟨[zNqN6],4,0,false,false⟩,⟨[ratF q],4,0,false,false⟩,⟨[ratF r2],4,0,false,false⟩],_,[],_⟩ (by kernel_rfl) (bc (Zak (fun h=>d3 (Zab.1 h))) b0) q0 c0 (Zas [0,1] (by kernel_rfl) H)
noncomputable abbrev zNqN7:=ag [vb false,AV.vnil,vb false,AV.vnil]
theorem qSeg2 (q r1 r2 r3:Rat)  (dq:AV) (H :
  (O.okR r3/\O.okR q) /\
  ((O.sgnI (r3.num*(↑q.den:Int)-q.num*(↑r3.den:Int))<0)->ZdL r3 r1 r2 r3 (Zae dq)) /\
  (¬(O.sgnI (r3.num*(↑q.den:Int)-q.num*(↑r3.den:Int))<0)->ZdL q r1 r2 r3 (Zae dq))) :
 ZdM q r1 r2 r3 (Zae dq):=by
 unfold ZdM
 obtain ⟨k1,H⟩:=H
 refine Zac (G:=Zad kp73 [(7,2,.call (vi (O.sgnI (r3.num*(↑q.den:Int)-q.num*(↑r3.den:Int)))) none)] []) 11 [true] ⟨(atC (cd Try.f73) [1,1,1,0,1,0,0,1,1,0,0,1,1]),[(8,AV.ptr 0 0 0 0),(9,AV.ptr 1 0 0 0),(11,AV.ptr 2 0 0 0),(34,AV.vec true 4 [ratF r1,ratF r2,ratF r3]),(35,vi 3),(36,vi 2),(43,vb (decide (O.sgnI (r3.num*(↑q.den:Int)-q.num*(↑r3.den:Int))<0)))],[⟨[zNqN7],4,0,false,false⟩,⟨[ratF q],4,0,false,false⟩,⟨[ratF r3],4,0,false,false⟩],_,[],_⟩ (by kernel_rfl) (bc rfl (bc rfl (bc rfl (bc rfl (bc rfl (bc rfl b0)))))) q0 (ce (@ev72 false false false false r3 q k1) c0) ?_
 rcases xq H with ⟨d3,H⟩|⟨d3,H⟩
 ·exact Zac (G:=Zad kp73 [] []) 1000 [true] ⟨(atC (cd Try.f73) [1,1,1,0,1,0,0]),[(8,AV.ptr 0 0 0 0),(9,AV.ptr 1 0 0 0),(34,AV.vec true 4 [ratF r1,ratF r2,ratF r3]),(35,vi 3),(36,vi 3)],[⟨[zNqN7],4,0,false,false⟩,⟨[ratF r3],4,0,false,false⟩,⟨[ratF r3],4,0,false,false⟩],_,[],_⟩ (by kernel_rfl) (bc (Zal (Zab.2 d3)) (bc rfl (bc rfl b0))) q0 c0 (Zas [0,1] (by kernel_rfl) H)
 ·exact Zac (G:=Zad kp73 [] []) 1000 [false] ⟨(atC (cd Try.f73) [1,1,1,0,1,0,0]),[(8,AV.ptr 0 0 0 0),(9,AV.ptr 1 0 0 0),(34,AV.vec true 4 [ratF r1,ratF r2,ratF r3]),(35,vi 3),(36,vi 3)],[⟨[zNqN7],4,0,false,false⟩,⟨[ratF q],4,0,false,false⟩,⟨[ratF r3],4,0,false,false⟩],_,[],_⟩ (by kernel_rfl) (bc (Zak (fun h=>d3 (Zab.1 h))) b0) q0 c0 (Zas [0,1] (by kernel_rfl) H)
theorem qSeg3 (q r1 r2 r3:Rat)  (dq:AV) (H :
  Weak (ratF q) dq) :
 ZdL q r1 r2 r3 (Zae dq):=by
 unfold ZdL
 exact Zao (G:=Zad kp73 [] []) 1000 [false] (ratF q) (by kernel_rfl) (bc rfl (bc rfl (bc rfl b0))) q0 c0 H
end Go.Av

namespace Go.Av
open Go.Proofs
namespace O
noncomputable def mn (r q:Rat):Rat:=if r<q then r else q
noncomputable def seg (x1 y1 x2 y2 x3 y3 x4 y4:Rat):Rat:=
 if crs x1 y1 x2 y2 x3 y3 x4 y4 then qi 0 else mn (tsg x3 y3 x4 y4 x2 y2) (mn (tsg x3 y3 x4 y4 x1 y1) (mn (tsg x1 y1 x2 y2 x4 y4) (tsg x1 y1 x2 y2 x3 y3)))
end O
theorem okT_mn {k:Nat} {r q:Rat} (h:O.okT k r) (h2:O.okT k q):O.okT k (O.mn r q):=by
 unfold O.mn
 split
 ·exact h
 ·exact h2
theorem mn_y {r q:Rat} (h:O.sgnI (r.num*(q.den:Int)-q.num*(r.den:Int))<0):O.mn r q=r:=if_pos (Zct.1 h)
theorem mn_n {r q:Rat} (h:¬O.sgnI (r.num*(q.den:Int)-q.num*(r.den:Int))<0):O.mn r q=q:=if_neg fun x=>h (Zct.2 x)
theorem seg_loop {q r1 r2 r3:Rat} (h:O.okT 400 q) (h1:O.okT 400 r1) (h2:O.okT 400 r2) (h3:O.okT 400 r3):ZeV q r1 r2 r3 (Zae (ratF (O.mn r3 (O.mn r2 (O.mn r1 q))))):=by
 have R {r:Rat} (h:O.okT 400 r):O.okR r:=Zb4 h (by omega)
 have s3:∀ q,ZdL q r1 r2 r3 (Zae (ratF q)):=fun q=>qSeg3 _ _ _ _ _ (.refl _)
 have s2:∀ q,O.okT 400 q->ZdM q r1 r2 r3 (Zae (ratF (O.mn r3 q))):=fun q hq=>qSeg2 _ _ _ _ _ ⟨⟨R h3,R hq⟩,fun k=>by rw [mn_y k];exact s3 _,fun k=>by rw [mn_n k];exact s3 _⟩
 have s1:∀ q,O.okT 400 q->ZdN q r1 r2 r3 (Zae (ratF (O.mn r3 (O.mn r2 q)))):=fun q hq=>qSeg1 _ _ _ _ _ ⟨⟨R h2,R hq⟩,fun k=>by rw [mn_y k];exact s2 _ h2,fun k=>by rw [mn_n k];exact s2 _ hq⟩
 exact qSeg0 _ _ _ _ _ ⟨⟨R h1,R h⟩,fun k=>by rw [mn_y k];exact s1 _ h1,fun k=>by rw [mn_n k];exact s1 _ h⟩
theorem okT_seg {x1 y1 x2 y2 x3 y3 x4 y4:Rat} (h:O.okV4 x1 y1 x2 y2 x3 y3 x4 y4):O.okT 400 (O.seg x1 y1 x2 y2 x3 y3 x4 y4):=by
 obtain ⟨h1,h2,h3,h4⟩:=h
 unfold O.seg
 split
 ·exact Zb6 (okT_int (by unfold O.inI;omega)) (by omega)
 ·exact okT_mn (Zc2 h3 h4 h2) (okT_mn (Zc2 h3 h4 h1) (okT_mn (Zc2 h1 h2 h4) (Zc2 h1 h2 h3)))
theorem ev73 (f1 f2 f3 f4 f5 f6 f7 f8 f9 f10 f11 f12 f13 f14 f15 f16:Bool) (x1 y1 x2 y2 x3 y3 x4 y4:Rat) (h:O.okV4 x1 y1 x2 y2 x3 y3 x4 y4):Ev M1 (.pure 73 [vecA f1 f2 f3 f4 x1 y1,vecA f5 f6 f7 f8 x2 y2,vecA f9 f10 f11 f12 x3 y3,vecA f13 f14 f15 f16 x4 y4]) (ratF (O.seg x1 y1 x2 y2 x3 y3 x4 y4)) []:=by
 have h0:=h
 obtain ⟨h1,h2,h3,h4⟩:=h
 refine call73 (qSeg _ _ _ _ _ _ _ _ _ _ _ _ _ _ _ _ _ _ _ _ _ _ _ _ _ ⟨h0,fun k=>⟨by unfold O.inI;omega,?_⟩,fun k=>⟨⟨h1,h2,h3⟩,⟨h1,h2,h4⟩,⟨h3,h4,h1⟩,⟨h3,h4,h2⟩,?_⟩⟩)
 ·unfold O.seg;rw [if_pos k];exact .refl _
 ·unfold O.seg;rw [if_neg k];exact seg_loop (Zc2 h1 h2 h3) (Zc2 h1 h2 h4) (Zc2 h3 h4 h1) (Zc2 h3 h4 h2)
section
variable {f:Bool} {cs:List Bx} {u0 v0 u1 v1 th gp sf:Int}
end
end Go.Av

namespace Go.Av
open Go.Proofs
set_option maxRecDepth 100000
def fi67:Fi:=⟨82,[.tmp 8]⟩
def kp67:List (Nat × List Nat):=[(0,[3,4,5,6]),(1,[3,4,5,6,16]),(2,[8]),(3,[3,4,5,6,24]),(4,[8]),(5,[4,5,6,9]),(6,[4,5,6,9]),(7,[4,9,10,11]),(8,[9,10,11,12]),(9,[9,10,11,12,61,62,63]),(10,[9,10,11,12,61,62,63,64]),(11,[9,10,11,12,13,14,61,62,63]),(12,[9,10,11,12,61,62,63,80]),(13,[8]),(14,[9,10,11,12,61,62,63]),(15,[8])]
def qNe_at (x0 y0 x1 y1 tp ax ay bx by_ r:Int) (Q:AV->Heap->Prop):Prop:=Wp M1 (.run fi67 (atC (cd Try.f67) []) [(0,.agg [.int .i64 x0,.int .i64 y0,.int .i64 x1,.int .i64 y1,.int .i64 tp]),(1,.agg [.int .i64 ax,.int .i64 ay]),(2,.agg [.int .i64 bx,.int .i64 by_]),(3,.int .i64 r)] []) Q
def qNe0_at (u0 v0 u1 v1 a1 a2 b1 b2 m:Rat) (Q:AV->Heap->Prop):Prop:=Wp M1 (.run fi67 (atC (cd Try.f67) [1,1,1,1,1,1,1,0,1,0,0]) [(9,.ptr 0 0 0 0),(10,.ptr 1 0 0 0),(11,.ptr 2 0 0 0),(12,.vec true 8 [.agg [.bool (O.Zaa u0.num),.vec false 1 ((O.Zaf u0.num).map (.int .u32)),.bool (O.Zaa (u0.den:Int)),.vec false 1 ((O.Zaf (u0.den:Int)).map (.int .u32)),.bool (O.Zaa v0.num),.vec false 1 ((O.Zaf v0.num).map (.int .u32)),.bool (O.Zaa (v0.den:Int)),.vec false 1 ((O.Zaf (v0.den:Int)).map (.int .u32))],.agg [.bool (O.Zaa u1.num),.vec false 1 ((O.Zaf u1.num).map (.int .u32)),.bool (O.Zaa (u1.den:Int)),.vec false 1 ((O.Zaf (u1.den:Int)).map (.int .u32)),.bool (O.Zaa v0.num),.vec false 1 ((O.Zaf v0.num).map (.int .u32)),.bool (O.Zaa (v0.den:Int)),.vec false 1 ((O.Zaf (v0.den:Int)).map (.int .u32))],.agg [.bool (O.Zaa u1.num),.vec false 1 ((O.Zaf u1.num).map (.int .u32)),.bool (O.Zaa (u1.den:Int)),.vec false 1 ((O.Zaf (u1.den:Int)).map (.int .u32)),.bool (O.Zaa v1.num),.vec false 1 ((O.Zaf v1.num).map (.int .u32)),.bool (O.Zaa (v1.den:Int)),.vec false 1 ((O.Zaf (v1.den:Int)).map (.int .u32))],.agg [.bool (O.Zaa u0.num),.vec false 1 ((O.Zaf u0.num).map (.int .u32)),.bool (O.Zaa (u0.den:Int)),.vec false 1 ((O.Zaf (u0.den:Int)).map (.int .u32)),.bool (O.Zaa v1.num),.vec false 1 ((O.Zaf v1.num).map (.int .u32)),.bool (O.Zaa (v1.den:Int)),.vec false 1 ((O.Zaf (v1.den:Int)).map (.int .u32))]]),(61,.vec true 8 [.agg [.bool (O.Zaa u0.num),.vec false 1 ((O.Zaf u0.num).map (.int .u32)),.bool (O.Zaa (u0.den:Int)),.vec false 1 ((O.Zaf (u0.den:Int)).map (.int .u32)),.bool (O.Zaa v0.num),.vec false 1 ((O.Zaf v0.num).map (.int .u32)),.bool (O.Zaa (v0.den:Int)),.vec false 1 ((O.Zaf (v0.den:Int)).map (.int .u32))],.agg [.bool (O.Zaa u1.num),.vec false 1 ((O.Zaf u1.num).map (.int .u32)),.bool (O.Zaa (u1.den:Int)),.vec false 1 ((O.Zaf (u1.den:Int)).map (.int .u32)),.bool (O.Zaa v0.num),.vec false 1 ((O.Zaf v0.num).map (.int .u32)),.bool (O.Zaa (v0.den:Int)),.vec false 1 ((O.Zaf (v0.den:Int)).map (.int .u32))],.agg [.bool (O.Zaa u1.num),.vec false 1 ((O.Zaf u1.num).map (.int .u32)),.bool (O.Zaa (u1.den:Int)),.vec false 1 ((O.Zaf (u1.den:Int)).map (.int .u32)),.bool (O.Zaa v1.num),.vec false 1 ((O.Zaf v1.num).map (.int .u32)),.bool (O.Zaa (v1.den:Int)),.vec false 1 ((O.Zaf (v1.den:Int)).map (.int .u32))],.agg [.bool (O.Zaa u0.num),.vec false 1 ((O.Zaf u0.num).map (.int .u32)),.bool (O.Zaa (u0.den:Int)),.vec false 1 ((O.Zaf (u0.den:Int)).map (.int .u32)),.bool (O.Zaa v1.num),.vec false 1 ((O.Zaf v1.num).map (.int .u32)),.bool (O.Zaa (v1.den:Int)),.vec false 1 ((O.Zaf (v1.den:Int)).map (.int .u32))]]),(62,.int .i64 4),(63,.int .i64 0)] [⟨[ratF m],4,0,false,false⟩,⟨[.agg [.bool (O.Zaa a1.num),.vec false 1 ((O.Zaf a1.num).map (.int .u32)),.bool (O.Zaa (a1.den:Int)),.vec false 1 ((O.Zaf (a1.den:Int)).map (.int .u32)),.bool (O.Zaa a2.num),.vec false 1 ((O.Zaf a2.num).map (.int .u32)),.bool (O.Zaa (a2.den:Int)),.vec false 1 ((O.Zaf (a2.den:Int)).map (.int .u32))]],8,0,false,false⟩,⟨[.agg [.bool (O.Zaa b1.num),.vec false 1 ((O.Zaf b1.num).map (.int .u32)),.bool (O.Zaa (b1.den:Int)),.vec false 1 ((O.Zaf (b1.den:Int)).map (.int .u32)),.bool (O.Zaa b2.num),.vec false 1 ((O.Zaf b2.num).map (.int .u32)),.bool (O.Zaa (b2.den:Int)),.vec false 1 ((O.Zaf (b2.den:Int)).map (.int .u32))]],8,0,false,false⟩]) Q
def qNe1_at (u0 v0 u1 v1 a1 a2 b1 b2 m:Rat) (Q:AV->Heap->Prop):Prop:=Wp M1 (.run fi67 (atC (cd Try.f67) [1,1,1,1,1,1,1,0,1,0,0]) [(9,.ptr 0 0 0 0),(10,.ptr 1 0 0 0),(11,.ptr 2 0 0 0),(12,.vec true 8 [.agg [.bool (O.Zaa u0.num),.vec false 1 ((O.Zaf u0.num).map (.int .u32)),.bool (O.Zaa (u0.den:Int)),.vec false 1 ((O.Zaf (u0.den:Int)).map (.int .u32)),.bool (O.Zaa v0.num),.vec false 1 ((O.Zaf v0.num).map (.int .u32)),.bool (O.Zaa (v0.den:Int)),.vec false 1 ((O.Zaf (v0.den:Int)).map (.int .u32))],.agg [.bool (O.Zaa u1.num),.vec false 1 ((O.Zaf u1.num).map (.int .u32)),.bool (O.Zaa (u1.den:Int)),.vec false 1 ((O.Zaf (u1.den:Int)).map (.int .u32)),.bool (O.Zaa v0.num),.vec false 1 ((O.Zaf v0.num).map (.int .u32)),.bool (O.Zaa (v0.den:Int)),.vec false 1 ((O.Zaf (v0.den:Int)).map (.int .u32))],.agg [.bool (O.Zaa u1.num),.vec false 1 ((O.Zaf u1.num).map (.int .u32)),.bool (O.Zaa (u1.den:Int)),.vec false 1 ((O.Zaf (u1.den:Int)).map (.int .u32)),.bool (O.Zaa v1.num),.vec false 1 ((O.Zaf v1.num).map (.int .u32)),.bool (O.Zaa (v1.den:Int)),.vec false 1 ((O.Zaf (v1.den:Int)).map (.int .u32))],.agg [.bool (O.Zaa u0.num),.vec false 1 ((O.Zaf u0.num).map (.int .u32)),.bool (O.Zaa (u0.den:Int)),.vec false 1 ((O.Zaf (u0.den:Int)).map (.int .u32)),.bool (O.Zaa v1.num),.vec false 1 ((O.Zaf v1.num).map (.int .u32)),.bool (O.Zaa (v1.den:Int)),.vec false 1 ((O.Zaf (v1.den:Int)).map (.int .u32))]]),(61,.vec true 8 [.agg [.bool (O.Zaa u0.num),.vec false 1 ((O.Zaf u0.num).map (.int .u32)),.bool (O.Zaa (u0.den:Int)),.vec false 1 ((O.Zaf (u0.den:Int)).map (.int .u32)),.bool (O.Zaa v0.num),.vec false 1 ((O.Zaf v0.num).map (.int .u32)),.bool (O.Zaa (v0.den:Int)),.vec false 1 ((O.Zaf (v0.den:Int)).map (.int .u32))],.agg [.bool (O.Zaa u1.num),.vec false 1 ((O.Zaf u1.num).map (.int .u32)),.bool (O.Zaa (u1.den:Int)),.vec false 1 ((O.Zaf (u1.den:Int)).map (.int .u32)),.bool (O.Zaa v0.num),.vec false 1 ((O.Zaf v0.num).map (.int .u32)),.bool (O.Zaa (v0.den:Int)),.vec false 1 ((O.Zaf (v0.den:Int)).map (.int .u32))],.agg [.bool (O.Zaa u1.num),.vec false 1 ((O.Zaf u1.num).map (.int .u32)),.bool (O.Zaa (u1.den:Int)),.vec false 1 ((O.Zaf (u1.den:Int)).map (.int .u32)),.bool (O.Zaa v1.num),.vec false 1 ((O.Zaf v1.num).map (.int .u32)),.bool (O.Zaa (v1.den:Int)),.vec false 1 ((O.Zaf (v1.den:Int)).map (.int .u32))],.agg [.bool (O.Zaa u0.num),.vec false 1 ((O.Zaf u0.num).map (.int .u32)),.bool (O.Zaa (u0.den:Int)),.vec false 1 ((O.Zaf (u0.den:Int)).map (.int .u32)),.bool (O.Zaa v1.num),.vec false 1 ((O.Zaf v1.num).map (.int .u32)),.bool (O.Zaa (v1.den:Int)),.vec false 1 ((O.Zaf (v1.den:Int)).map (.int .u32))]]),(62,.int .i64 4),(63,.int .i64 1)] [⟨[ratF m],4,0,false,false⟩,⟨[.agg [.bool (O.Zaa a1.num),.vec false 1 ((O.Zaf a1.num).map (.int .u32)),.bool (O.Zaa (a1.den:Int)),.vec false 1 ((O.Zaf (a1.den:Int)).map (.int .u32)),.bool (O.Zaa a2.num),.vec false 1 ((O.Zaf a2.num).map (.int .u32)),.bool (O.Zaa (a2.den:Int)),.vec false 1 ((O.Zaf (a2.den:Int)).map (.int .u32))]],8,0,false,false⟩,⟨[.agg [.bool (O.Zaa b1.num),.vec false 1 ((O.Zaf b1.num).map (.int .u32)),.bool (O.Zaa (b1.den:Int)),.vec false 1 ((O.Zaf (b1.den:Int)).map (.int .u32)),.bool (O.Zaa b2.num),.vec false 1 ((O.Zaf b2.num).map (.int .u32)),.bool (O.Zaa (b2.den:Int)),.vec false 1 ((O.Zaf (b2.den:Int)).map (.int .u32))]],8,0,false,false⟩]) Q
def qNe2_at (u0 v0 u1 v1 a1 a2 b1 b2 m:Rat) (Q:AV->Heap->Prop):Prop:=Wp M1 (.run fi67 (atC (cd Try.f67) [1,1,1,1,1,1,1,0,1,0,0]) [(9,.ptr 0 0 0 0),(10,.ptr 1 0 0 0),(11,.ptr 2 0 0 0),(12,.vec true 8 [.agg [.bool (O.Zaa u0.num),.vec false 1 ((O.Zaf u0.num).map (.int .u32)),.bool (O.Zaa (u0.den:Int)),.vec false 1 ((O.Zaf (u0.den:Int)).map (.int .u32)),.bool (O.Zaa v0.num),.vec false 1 ((O.Zaf v0.num).map (.int .u32)),.bool (O.Zaa (v0.den:Int)),.vec false 1 ((O.Zaf (v0.den:Int)).map (.int .u32))],.agg [.bool (O.Zaa u1.num),.vec false 1 ((O.Zaf u1.num).map (.int .u32)),.bool (O.Zaa (u1.den:Int)),.vec false 1 ((O.Zaf (u1.den:Int)).map (.int .u32)),.bool (O.Zaa v0.num),.vec false 1 ((O.Zaf v0.num).map (.int .u32)),.bool (O.Zaa (v0.den:Int)),.vec false 1 ((O.Zaf (v0.den:Int)).map (.int .u32))],.agg [.bool (O.Zaa u1.num),.vec false 1 ((O.Zaf u1.num).map (.int .u32)),.bool (O.Zaa (u1.den:Int)),.vec false 1 ((O.Zaf (u1.den:Int)).map (.int .u32)),.bool (O.Zaa v1.num),.vec false 1 ((O.Zaf v1.num).map (.int .u32)),.bool (O.Zaa (v1.den:Int)),.vec false 1 ((O.Zaf (v1.den:Int)).map (.int .u32))],.agg [.bool (O.Zaa u0.num),.vec false 1 ((O.Zaf u0.num).map (.int .u32)),.bool (O.Zaa (u0.den:Int)),.vec false 1 ((O.Zaf (u0.den:Int)).map (.int .u32)),.bool (O.Zaa v1.num),.vec false 1 ((O.Zaf v1.num).map (.int .u32)),.bool (O.Zaa (v1.den:Int)),.vec false 1 ((O.Zaf (v1.den:Int)).map (.int .u32))]]),(61,.vec true 8 [.agg [.bool (O.Zaa u0.num),.vec false 1 ((O.Zaf u0.num).map (.int .u32)),.bool (O.Zaa (u0.den:Int)),.vec false 1 ((O.Zaf (u0.den:Int)).map (.int .u32)),.bool (O.Zaa v0.num),.vec false 1 ((O.Zaf v0.num).map (.int .u32)),.bool (O.Zaa (v0.den:Int)),.vec false 1 ((O.Zaf (v0.den:Int)).map (.int .u32))],.agg [.bool (O.Zaa u1.num),.vec false 1 ((O.Zaf u1.num).map (.int .u32)),.bool (O.Zaa (u1.den:Int)),.vec false 1 ((O.Zaf (u1.den:Int)).map (.int .u32)),.bool (O.Zaa v0.num),.vec false 1 ((O.Zaf v0.num).map (.int .u32)),.bool (O.Zaa (v0.den:Int)),.vec false 1 ((O.Zaf (v0.den:Int)).map (.int .u32))],.agg [.bool (O.Zaa u1.num),.vec false 1 ((O.Zaf u1.num).map (.int .u32)),.bool (O.Zaa (u1.den:Int)),.vec false 1 ((O.Zaf (u1.den:Int)).map (.int .u32)),.bool (O.Zaa v1.num),.vec false 1 ((O.Zaf v1.num).map (.int .u32)),.bool (O.Zaa (v1.den:Int)),.vec false 1 ((O.Zaf (v1.den:Int)).map (.int .u32))],.agg [.bool (O.Zaa u0.num),.vec false 1 ((O.Zaf u0.num).map (.int .u32)),.bool (O.Zaa (u0.den:Int)),.vec false 1 ((O.Zaf (u0.den:Int)).map (.int .u32)),.bool (O.Zaa v1.num),.vec false 1 ((O.Zaf v1.num).map (.int .u32)),.bool (O.Zaa (v1.den:Int)),.vec false 1 ((O.Zaf (v1.den:Int)).map (.int .u32))]]),(62,.int .i64 4),(63,.int .i64 2)] [⟨[ratF m],4,0,false,false⟩,⟨[.agg [.bool (O.Zaa a1.num),.vec false 1 ((O.Zaf a1.num).map (.int .u32)),.bool (O.Zaa (a1.den:Int)),.vec false 1 ((O.Zaf (a1.den:Int)).map (.int .u32)),.bool (O.Zaa a2.num),.vec false 1 ((O.Zaf a2.num).map (.int .u32)),.bool (O.Zaa (a2.den:Int)),.vec false 1 ((O.Zaf (a2.den:Int)).map (.int .u32))]],8,0,false,false⟩,⟨[.agg [.bool (O.Zaa b1.num),.vec false 1 ((O.Zaf b1.num).map (.int .u32)),.bool (O.Zaa (b1.den:Int)),.vec false 1 ((O.Zaf (b1.den:Int)).map (.int .u32)),.bool (O.Zaa b2.num),.vec false 1 ((O.Zaf b2.num).map (.int .u32)),.bool (O.Zaa (b2.den:Int)),.vec false 1 ((O.Zaf (b2.den:Int)).map (.int .u32))]],8,0,false,false⟩]) Q
def qNe3_at (u0 v0 u1 v1 a1 a2 b1 b2 m:Rat) (Q:AV->Heap->Prop):Prop:=Wp M1 (.run fi67 (atC (cd Try.f67) [1,1,1,1,1,1,1,0,1,0,0]) [(9,.ptr 0 0 0 0),(10,.ptr 1 0 0 0),(11,.ptr 2 0 0 0),(12,.vec true 8 [.agg [.bool (O.Zaa u0.num),.vec false 1 ((O.Zaf u0.num).map (.int .u32)),.bool (O.Zaa (u0.den:Int)),.vec false 1 ((O.Zaf (u0.den:Int)).map (.int .u32)),.bool (O.Zaa v0.num),.vec false 1 ((O.Zaf v0.num).map (.int .u32)),.bool (O.Zaa (v0.den:Int)),.vec false 1 ((O.Zaf (v0.den:Int)).map (.int .u32))],.agg [.bool (O.Zaa u1.num),.vec false 1 ((O.Zaf u1.num).map (.int .u32)),.bool (O.Zaa (u1.den:Int)),.vec false 1 ((O.Zaf (u1.den:Int)).map (.int .u32)),.bool (O.Zaa v0.num),.vec false 1 ((O.Zaf v0.num).map (.int .u32)),.bool (O.Zaa (v0.den:Int)),.vec false 1 ((O.Zaf (v0.den:Int)).map (.int .u32))],.agg [.bool (O.Zaa u1.num),.vec false 1 ((O.Zaf u1.num).map (.int .u32)),.bool (O.Zaa (u1.den:Int)),.vec false 1 ((O.Zaf (u1.den:Int)).map (.int .u32)),.bool (O.Zaa v1.num),.vec false 1 ((O.Zaf v1.num).map (.int .u32)),.bool (O.Zaa (v1.den:Int)),.vec false 1 ((O.Zaf (v1.den:Int)).map (.int .u32))],.agg [.bool (O.Zaa u0.num),.vec false 1 ((O.Zaf u0.num).map (.int .u32)),.bool (O.Zaa (u0.den:Int)),.vec false 1 ((O.Zaf (u0.den:Int)).map (.int .u32)),.bool (O.Zaa v1.num),.vec false 1 ((O.Zaf v1.num).map (.int .u32)),.bool (O.Zaa (v1.den:Int)),.vec false 1 ((O.Zaf (v1.den:Int)).map (.int .u32))]]),(61,.vec true 8 [.agg [.bool (O.Zaa u0.num),.vec false 1 ((O.Zaf u0.num).map (.int .u32)),.bool (O.Zaa (u0.den:Int)),.vec false 1 ((O.Zaf (u0.den:Int)).map (.int .u32)),.bool (O.Zaa v0.num),.vec false 1 ((O.Zaf v0.num).map (.int .u32)),.bool (O.Zaa (v0.den:Int)),.vec false 1 ((O.Zaf (v0.den:Int)).map (.int .u32))],.agg [.bool (O.Zaa u1.num),.vec false 1 ((O.Zaf u1.num).map (.int .u32)),.bool (O.Zaa (u1.den:Int)),.vec false 1 ((O.Zaf (u1.den:Int)).map (.int .u32)),.bool (O.Zaa v0.num),.vec false 1 ((O.Zaf v0.num).map (.int .u32)),.bool (O.Zaa (v0.den:Int)),.vec false 1 ((O.Zaf (v0.den:Int)).map (.int .u32))],.agg [.bool (O.Zaa u1.num),.vec false 1 ((O.Zaf u1.num).map (.int .u32)),.bool (O.Zaa (u1.den:Int)),.vec false 1 ((O.Zaf (u1.den:Int)).map (.int .u32)),.bool (O.Zaa v1.num),.vec false 1 ((O.Zaf v1.num).map (.int .u32)),.bool (O.Zaa (v1.den:Int)),.vec false 1 ((O.Zaf (v1.den:Int)).map (.int .u32))],.agg [.bool (O.Zaa u0.num),.vec false 1 ((O.Zaf u0.num).map (.int .u32)),.bool (O.Zaa (u0.den:Int)),.vec false 1 ((O.Zaf (u0.den:Int)).map (.int .u32)),.bool (O.Zaa v1.num),.vec false 1 ((O.Zaf v1.num).map (.int .u32)),.bool (O.Zaa (v1.den:Int)),.vec false 1 ((O.Zaf (v1.den:Int)).map (.int .u32))]]),(62,.int .i64 4),(63,.int .i64 3)] [⟨[ratF m],4,0,false,false⟩,⟨[.agg [.bool (O.Zaa a1.num),.vec false 1 ((O.Zaf a1.num).map (.int .u32)),.bool (O.Zaa (a1.den:Int)),.vec false 1 ((O.Zaf (a1.den:Int)).map (.int .u32)),.bool (O.Zaa a2.num),.vec false 1 ((O.Zaf a2.num).map (.int .u32)),.bool (O.Zaa (a2.den:Int)),.vec false 1 ((O.Zaf (a2.den:Int)).map (.int .u32))]],8,0,false,false⟩,⟨[.agg [.bool (O.Zaa b1.num),.vec false 1 ((O.Zaf b1.num).map (.int .u32)),.bool (O.Zaa (b1.den:Int)),.vec false 1 ((O.Zaf (b1.den:Int)).map (.int .u32)),.bool (O.Zaa b2.num),.vec false 1 ((O.Zaf b2.num).map (.int .u32)),.bool (O.Zaa (b2.den:Int)),.vec false 1 ((O.Zaf (b2.den:Int)).map (.int .u32))]],8,0,false,false⟩]) Q
def qNe4_at (u0 v0 u1 v1 a1 a2 b1 b2 m:Rat) (Q:AV->Heap->Prop):Prop:=Wp M1 (.run fi67 (atC (cd Try.f67) [1,1,1,1,1,1,1,0,1,0,0]) [(9,.ptr 0 0 0 0),(10,.ptr 1 0 0 0),(11,.ptr 2 0 0 0),(12,.vec true 8 [.agg [.bool (O.Zaa u0.num),.vec false 1 ((O.Zaf u0.num).map (.int .u32)),.bool (O.Zaa (u0.den:Int)),.vec false 1 ((O.Zaf (u0.den:Int)).map (.int .u32)),.bool (O.Zaa v0.num),.vec false 1 ((O.Zaf v0.num).map (.int .u32)),.bool (O.Zaa (v0.den:Int)),.vec false 1 ((O.Zaf (v0.den:Int)).map (.int .u32))],.agg [.bool (O.Zaa u1.num),.vec false 1 ((O.Zaf u1.num).map (.int .u32)),.bool (O.Zaa (u1.den:Int)),.vec false 1 ((O.Zaf (u1.den:Int)).map (.int .u32)),.bool (O.Zaa v0.num),.vec false 1 ((O.Zaf v0.num).map (.int .u32)),.bool (O.Zaa (v0.den:Int)),.vec false 1 ((O.Zaf (v0.den:Int)).map (.int .u32))],.agg [.bool (O.Zaa u1.num),.vec false 1 ((O.Zaf u1.num).map (.int .u32)),.bool (O.Zaa (u1.den:Int)),.vec false 1 ((O.Zaf (u1.den:Int)).map (.int .u32)),.bool (O.Zaa v1.num),.vec false 1 ((O.Zaf v1.num).map (.int .u32)),.bool (O.Zaa (v1.den:Int)),.vec false 1 ((O.Zaf (v1.den:Int)).map (.int .u32))],.agg [.bool (O.Zaa u0.num),.vec false 1 ((O.Zaf u0.num).map (.int .u32)),.bool (O.Zaa (u0.den:Int)),.vec false 1 ((O.Zaf (u0.den:Int)).map (.int .u32)),.bool (O.Zaa v1.num),.vec false 1 ((O.Zaf v1.num).map (.int .u32)),.bool (O.Zaa (v1.den:Int)),.vec false 1 ((O.Zaf (v1.den:Int)).map (.int .u32))]]),(61,.vec true 8 [.agg [.bool (O.Zaa u0.num),.vec false 1 ((O.Zaf u0.num).map (.int .u32)),.bool (O.Zaa (u0.den:Int)),.vec false 1 ((O.Zaf (u0.den:Int)).map (.int .u32)),.bool (O.Zaa v0.num),.vec false 1 ((O.Zaf v0.num).map (.int .u32)),.bool (O.Zaa (v0.den:Int)),.vec false 1 ((O.Zaf (v0.den:Int)).map (.int .u32))],.agg [.bool (O.Zaa u1.num),.vec false 1 ((O.Zaf u1.num).map (.int .u32)),.bool (O.Zaa (u1.den:Int)),.vec false 1 ((O.Zaf (u1.den:Int)).map (.int .u32)),.bool (O.Zaa v0.num),.vec false 1 ((O.Zaf v0.num).map (.int .u32)),.bool (O.Zaa (v0.den:Int)),.vec false 1 ((O.Zaf (v0.den:Int)).map (.int .u32))],.agg [.bool (O.Zaa u1.num),.vec false 1 ((O.Zaf u1.num).map (.int .u32)),.bool (O.Zaa (u1.den:Int)),.vec false 1 ((O.Zaf (u1.den:Int)).map (.int .u32)),.bool (O.Zaa v1.num),.vec false 1 ((O.Zaf v1.num).map (.int .u32)),.bool (O.Zaa (v1.den:Int)),.vec false 1 ((O.Zaf (v1.den:Int)).map (.int .u32))],.agg [.bool (O.Zaa u0.num),.vec false 1 ((O.Zaf u0.num).map (.int .u32)),.bool (O.Zaa (u0.den:Int)),.vec false 1 ((O.Zaf (u0.den:Int)).map (.int .u32)),.bool (O.Zaa v1.num),.vec false 1 ((O.Zaf v1.num).map (.int .u32)),.bool (O.Zaa (v1.den:Int)),.vec false 1 ((O.Zaf (v1.den:Int)).map (.int .u32))]]),(62,.int .i64 4),(63,.int .i64 4)] [⟨[ratF m],4,0,false,false⟩,⟨[.agg [.bool (O.Zaa a1.num),.vec false 1 ((O.Zaf a1.num).map (.int .u32)),.bool (O.Zaa (a1.den:Int)),.vec false 1 ((O.Zaf (a1.den:Int)).map (.int .u32)),.bool (O.Zaa a2.num),.vec false 1 ((O.Zaf a2.num).map (.int .u32)),.bool (O.Zaa (a2.den:Int)),.vec false 1 ((O.Zaf (a2.den:Int)).map (.int .u32))]],8,0,false,false⟩,⟨[.agg [.bool (O.Zaa b1.num),.vec false 1 ((O.Zaf b1.num).map (.int .u32)),.bool (O.Zaa (b1.den:Int)),.vec false 1 ((O.Zaf (b1.den:Int)).map (.int .u32)),.bool (O.Zaa b2.num),.vec false 1 ((O.Zaf b2.num).map (.int .u32)),.bool (O.Zaa (b2.den:Int)),.vec false 1 ((O.Zaf (b2.den:Int)).map (.int .u32))]],8,0,false,false⟩]) Q
theorem call67 {args:List AV} {d:AV} (h:wc M1 fi67 Try.f67 args d):Ev M1 (.pure 67 args) d []:=pcl _ _ (by kernel_rfl) h
noncomputable abbrev zNqO1 (bx:Int) (by_:Int):=ag [vb (O.Zaa (O.qi bx).num),vf (us (O.Zaf (O.qi bx).num)),vb (O.Zaa (↑(O.qi bx).den:Int)),vf (us (O.Zaf (↑(O.qi bx).den:Int))),vb (O.Zaa (O.qi by_).num),vf (us (O.Zaf (O.qi by_).num)),vb (O.Zaa (↑(O.qi by_).den:Int)),vf (us (O.Zaf (↑(O.qi by_).den:Int)))]
noncomputable abbrev zNqO2 (ax:Int) (ay:Int):=ag [vb (O.Zaa (O.qi ax).num),vf (us (O.Zaf (O.qi ax).num)),vb (O.Zaa (↑(O.qi ax).den:Int)),vf (us (O.Zaf (↑(O.qi ax).den:Int))),vb (O.Zaa (O.qi ay).num),vf (us (O.Zaf (O.qi ay).num)),vb (O.Zaa (↑(O.qi ay).den:Int)),vf (us (O.Zaf (↑(O.qi ay).den:Int)))]
noncomputable abbrev zNqO3 (x0:Int) (y0:Int):=ag [vb (O.Zaa (O.qi x0).num),vf (us (O.Zaf (O.qi x0).num)),vb (O.Zaa (↑(O.qi x0).den:Int)),vf (us (O.Zaf (↑(O.qi x0).den:Int))),vb (O.Zaa (O.qi y0).num),vf (us (O.Zaf (O.qi y0).num)),vb (O.Zaa (↑(O.qi y0).den:Int)),vf (us (O.Zaf (↑(O.qi y0).den:Int)))]
noncomputable abbrev zNqO4 (x1:Int) (y0:Int):=ag [vb (O.Zaa (O.qi x1).num),vf (us (O.Zaf (O.qi x1).num)),vb (O.Zaa (↑(O.qi x1).den:Int)),vf (us (O.Zaf (↑(O.qi x1).den:Int))),vb (O.Zaa (O.qi y0).num),vf (us (O.Zaf (O.qi y0).num)),vb (O.Zaa (↑(O.qi y0).den:Int)),vf (us (O.Zaf (↑(O.qi y0).den:Int)))]
noncomputable abbrev zNqO5 (x1:Int) (y1:Int):=ag [vb (O.Zaa (O.qi x1).num),vf (us (O.Zaf (O.qi x1).num)),vb (O.Zaa (↑(O.qi x1).den:Int)),vf (us (O.Zaf (↑(O.qi x1).den:Int))),vb (O.Zaa (O.qi y1).num),vf (us (O.Zaf (O.qi y1).num)),vb (O.Zaa (↑(O.qi y1).den:Int)),vf (us (O.Zaf (↑(O.qi y1).den:Int)))]
noncomputable abbrev zNqO6 (x0:Int) (y1:Int):=ag [vb (O.Zaa (O.qi x0).num),vf (us (O.Zaf (O.qi x0).num)),vb (O.Zaa (↑(O.qi x0).den:Int)),vf (us (O.Zaf (↑(O.qi x0).den:Int))),vb (O.Zaa (O.qi y1).num),vf (us (O.Zaf (O.qi y1).num)),vb (O.Zaa (↑(O.qi y1).den:Int)),vf (us (O.Zaf (↑(O.qi y1).den:Int)))]
noncomputable abbrev zNqO7 (x0:Int) (y0:Int) (x1:Int) (y1:Int) (tp:Int):=ag [vi x0,vi y0,vi x1,vi y1,vi tp]
noncomputable abbrev zNqO8 (bx:Int) (by_:Int):=ag [vi bx,vi by_]
noncomputable abbrev zNqO9 (ax:Int) (ay:Int):=ag [vi ax,vi ay]
theorem qNe (x0 y0 x1 y1 tp ax ay bx by_ r:Int)  (dq:AV) (H :
  ((r<=0)->vb false=dq) /\
  (¬(r<=0)->(((O.hld x0 y0 x1 y1 ax ay)\/(O.hld x0 y0 x1 y1 bx by_))->vb true=dq) /\
   (¬((O.hld x0 y0 x1 y1 ax ay)\/(O.hld x0 y0 x1 y1 bx by_))->(O.inI r) /\
    (O.okR (O.qi r)/\O.okR (O.qi r)) /\
    (O.inI2 ax ay) /\
    (O.inI2 bx by_) /\
    (O.inI2 x0 y0) /\
    (O.inI2 x1 y0) /\
    (O.inI2 x1 y1) /\
    (O.inI2 x0 y1) /\
    qNe0_at (O.qi x0) (O.qi y0) (O.qi x1) (O.qi y1) (O.qi ax) (O.qi ay) (O.qi bx) (O.qi by_) (O.qi r*O.qi r) (Zae dq)))) :
 qNe_at x0 y0 x1 y1 tp ax ay bx by_ r (Zae dq):=by
 unfold qNe_at
 rcases xq H with ⟨d2,H⟩|⟨d2,H⟩
 ·exact Zah (G:=Zad kp67 [] []) 1000 [true] (vb false) (by kernel_rfl) (bc (Zal (Zab.2 d2)) b0) q0 c0 H
 ·refine Zac (G:=Zad kp67 [(3,2,.call (vb (decide (O.hld x0 y0 x1 y1 ax ay))) none),(3,6,.call (vb (decide (O.hld x0 y0 x1 y1 bx by_))) none)] []) 10 [false] ⟨(atC (cd Try.f67) [1,1,0,1]),[(3,vi r),(4,AV.ptr 0 0 0 0),(5,AV.ptr 1 0 0 0),(6,AV.ptr 2 0 0 0),(24,vb (bif decide (O.hld x0 y0 x1 y1 ax ay) then true else decide (O.hld x0 y0 x1 y1 bx by_)))],[⟨[(zNqO7 x0 y0 x1 y1 tp)],5,0,false,false⟩,⟨[(zNqO9 ax ay)],2,0,false,false⟩,⟨[(zNqO8 bx by_)],2,0,false,false⟩],[(decide (r<=0))==false,true,true,!(decide (O.hld x0 y0 x1 y1 ax ay)==false&&true)||true,!(decide (O.hld x0 y0 x1 y1 ax ay)==false&&true)||true],[],[⟨true,false,68,[(zNqO7 x0 y0 x1 y1 tp),(zNqO9 ax ay)],[],vb (decide (O.hld x0 y0 x1 y1 ax ay)),[]⟩,⟨decide (O.hld x0 y0 x1 y1 ax ay)==false&&true&&true,false,68,[(zNqO7 x0 y0 x1 y1 tp),(zNqO8 bx by_)],[],vb (decide (O.hld x0 y0 x1 y1 bx by_)),[]⟩]⟩ (by kernel_rfl) (bc (Zak (fun h=>d2 (Zab.1 h))) (bc rfl (bc rfl (bc (Bool.or_true _) (bc (Bool.or_true _) b0))))) q0 (cc (fun _=>(@ev68 x0 y0 x1 y1 tp ax ay)) (cc (fun hc=>((@ev68 x0 y0 x1 y1 tp bx by_):Ev M1 (Conf.pure 68 [(zNqO7 x0 y0 x1 y1 tp),(zNqO8 bx by_)]) (vb (decide (O.hld x0 y0 x1 y1 bx by_))) [])) c0)) ?_
  rcases xq H with ⟨d5,H⟩|⟨d5,H⟩
  ·exact Zah (G:=Zad kp67 [] []) 1000 [true] (vb true) (by kernel_rfl) (bc (Zal ((ZaE Zab Zab).2 d5)) b0) q0 c0 H
  ·obtain ⟨k6,k7,k8,k9,H⟩:=H
   refine Zac (G:=Zad kp67 [(5,1,.call (ratF (O.qi r)) none),(6,2,.call (ratF (O.qi r*O.qi r)) none),(7,4,.call ((zNqO2 ax ay)) none),(7,9,.call ((zNqO1 bx by_)) none)] []) 7 [false] ⟨(atC (cd Try.f67) [1,1,1,1,1,0]),[(4,AV.ptr 0 0 0 0),(5,AV.ptr 1 0 0 0),(6,AV.ptr 2 0 0 0),(9,AV.ptr 3 0 0 0)],[⟨[(zNqO7 x0 y0 x1 y1 tp)],5,0,false,false⟩,⟨[(zNqO9 ax ay)],2,0,false,false⟩,⟨[(zNqO8 bx by_)],2,0,false,false⟩,⟨[ratF (O.qi r*O.qi r)],4,0,false,false⟩],_,[],_⟩ (by kernel_rfl) (bc (Zak (fun h=>d5 ((ZaE Zab Zab).1 h))) (bc rfl (bc rfl (bc rfl (bc rfl b0))))) q0 (ce (@ev69 r k6) (ce (@ev70 false false false false (O.qi r) (O.qi r) k7) c0)) (Zee (G:=Zad kp67 [(5,1,.call (ratF (O.qi r)) none),(6,2,.call (ratF (O.qi r*O.qi r)) none),(7,4,.call ((zNqO2 ax ay)) none),(7,9,.call ((zNqO1 bx by_)) none)] []) [0,1,2,3,5,4] 10 (e1:=[(4,AV.ptr 0 0 0 0),(9,AV.ptr 3 0 0 0),(10,AV.ptr 4 0 0 0),(11,AV.ptr 5 0 0 0)]) (L1:=[⟨[(zNqO7 x0 y0 x1 y1 tp)],5,0,false,false⟩,⟨[(zNqO9 ax ay)],2,0,false,false⟩,⟨[(zNqO8 bx by_)],2,0,false,false⟩,⟨[ratF (O.qi r*O.qi r)],4,0,false,false⟩,⟨[(zNqO2 ax ay)],8,0,false,false⟩,⟨[(zNqO1 bx by_)],8,0,false,false⟩]) (a:=[true,true,true,true,true,true]) (q:=[]) (cs:=[⟨true,false,71,[vi ax,vi ay],[],(zNqO2 ax ay),[]⟩,⟨true,false,71,[vi bx,vi by_],[],(zNqO1 bx by_),[]⟩]) (by kernel_rfl) (by kernel_rfl) (Zag rfl (Zag rfl (Zag rfl (Zag rfl (Zag rfl (Zag rfl Zax)))))) ZaN (ZaL (fun _=>(@ev71 ax ay k8)) (ZaL (fun _=>(@ev71 bx by_ k9)) ZaO)) ?_)
   obtain ⟨k10,k11,k12,k13,H⟩:=H
   exact Zac (G:=Zad kp67 [(8,4,.call ((zNqO3 x0 y0)) none),(8,9,.call ((zNqO4 x1 y0)) none),(8,14,.call ((zNqO5 x1 y1)) none),(8,19,.call ((zNqO6 x0 y1)) none)] []) 1000 [] ⟨(atC (cd Try.f67) [1,1,1,1,1,1,1,0,1,0,0]),[(9,AV.ptr 3 0 0 0),(10,AV.ptr 4 0 0 0),(11,AV.ptr 5 0 0 0),(12,AV.vec true 8 [(zNqO3 x0 y0),(zNqO4 x1 y0),(zNqO5 x1 y1),(zNqO6 x0 y1)]),(61,AV.vec true 8 [(zNqO3 x0 y0),(zNqO4 x1 y0),(zNqO5 x1 y1),(zNqO6 x0 y1)]),(62,vi 4),(63,vi 0)],[⟨[(zNqO7 x0 y0 x1 y1 tp)],5,0,false,false⟩,⟨[(zNqO9 ax ay)],2,0,false,false⟩,⟨[(zNqO8 bx by_)],2,0,false,false⟩,⟨[ratF (O.qi r*O.qi r)],4,0,false,false⟩,⟨[(zNqO2 ax ay)],8,0,false,false⟩,⟨[(zNqO1 bx by_)],8,0,false,false⟩],_,[],_⟩ (by kernel_rfl) (bc rfl (bc rfl (bc rfl (bc rfl (bc rfl (bc rfl (bc rfl (bc rfl b0)))))))) q0 (ce (@ev71 x0 y0 k10) (ce (@ev71 x1 y0 k11) (ce (@ev71 x1 y1 k12) (ce (@ev71 x0 y1 k13) c0)))) (Zas [3,4,5] (by kernel_rfl) H)
noncomputable abbrev Zgn (u0:Rat) (v0:Rat):=ag [vb (O.Zaa u0.num),vf (us (O.Zaf u0.num)),vb (O.Zaa (↑u0.den:Int)),vf (us (O.Zaf (↑u0.den:Int))),vb (O.Zaa v0.num),vf (us (O.Zaf v0.num)),vb (O.Zaa (↑v0.den:Int)),vf (us (O.Zaf (↑v0.den:Int)))]
noncomputable abbrev zNqO11 (u1:Rat) (v0:Rat):=ag [vb (O.Zaa u1.num),vf (us (O.Zaf u1.num)),vb (O.Zaa (↑u1.den:Int)),vf (us (O.Zaf (↑u1.den:Int))),vb (O.Zaa v0.num),vf (us (O.Zaf v0.num)),vb (O.Zaa (↑v0.den:Int)),vf (us (O.Zaf (↑v0.den:Int)))]
noncomputable abbrev zNqO12 (u1:Rat) (v1:Rat):=ag [vb (O.Zaa u1.num),vf (us (O.Zaf u1.num)),vb (O.Zaa (↑u1.den:Int)),vf (us (O.Zaf (↑u1.den:Int))),vb (O.Zaa v1.num),vf (us (O.Zaf v1.num)),vb (O.Zaa (↑v1.den:Int)),vf (us (O.Zaf (↑v1.den:Int)))]
noncomputable abbrev zNqO13 (u0:Rat) (v1:Rat):=ag [vb (O.Zaa u0.num),vf (us (O.Zaf u0.num)),vb (O.Zaa (↑u0.den:Int)),vf (us (O.Zaf (↑u0.den:Int))),vb (O.Zaa v1.num),vf (us (O.Zaf v1.num)),vb (O.Zaa (↑v1.den:Int)),vf (us (O.Zaf (↑v1.den:Int)))]
noncomputable abbrev zNqO14 (a1:Rat) (a2:Rat):=ag [vb (O.Zaa a1.num),vf (us (O.Zaf a1.num)),vb (O.Zaa (↑a1.den:Int)),vf (us (O.Zaf (↑a1.den:Int))),vb (O.Zaa a2.num),vf (us (O.Zaf a2.num)),vb (O.Zaa (↑a2.den:Int)),vf (us (O.Zaf (↑a2.den:Int)))]
noncomputable abbrev zNqO15 (b1:Rat) (b2:Rat):=ag [vb (O.Zaa b1.num),vf (us (O.Zaf b1.num)),vb (O.Zaa (↑b1.den:Int)),vf (us (O.Zaf (↑b1.den:Int))),vb (O.Zaa b2.num),vf (us (O.Zaf b2.num)),vb (O.Zaa (↑b2.den:Int)),vf (us (O.Zaf (↑b2.den:Int)))]
theorem qNe0 (u0 v0 u1 v1 a1 a2 b1 b2 m:Rat)  (dq:AV) (H :
  (O.okV4 a1 a2 b1 b2 u0 v0 u1 v0) /\
  (O.okR (O.seg a1 a2 b1 b2 u0 v0 u1 v0)/\O.okR m) /\
  ((O.sgnI ((O.seg a1 a2 b1 b2 u0 v0 u1 v0).num*(↑m.den:Int)-m.num*(↑(O.seg a1 a2 b1 b2 u0 v0 u1 v0).den:Int))<0)->vb true=dq) /\
  (¬(O.sgnI ((O.seg a1 a2 b1 b2 u0 v0 u1 v0).num*(↑m.den:Int)-m.num*(↑(O.seg a1 a2 b1 b2 u0 v0 u1 v0).den:Int))<0)->qNe1_at u0 v0 u1 v1 a1 a2 b1 b2 m (Zae dq))) :
 qNe0_at u0 v0 u1 v1 a1 a2 b1 b2 m (Zae dq):=by
 unfold qNe0_at
 obtain ⟨k1,k2,H⟩:=H
 refine Zac (G:=Zad kp67 [(12,9,.call (ratF (O.seg a1 a2 b1 b2 u0 v0 u1 v0)) none),(12,11,.call (vi (O.sgnI ((O.seg a1 a2 b1 b2 u0 v0 u1 v0).num*(↑m.den:Int)-m.num*(↑(O.seg a1 a2 b1 b2 u0 v0 u1 v0).den:Int)))) none)] []) 11 [true] ⟨(atC (cd Try.f67) [1,1,1,1,1,1,1,0,1,0,0,1,1,0,0,1,1]),[(9,AV.ptr 0 0 0 0),(10,AV.ptr 1 0 0 0),(11,AV.ptr 2 0 0 0),(12,AV.vec true 8 [(Zgn u0 v0),(zNqO11 u1 v0),(zNqO12 u1 v1),(zNqO13 u0 v1)]),(61,AV.vec true 8 [(Zgn u0 v0),(zNqO11 u1 v0),(zNqO12 u1 v1),(zNqO13 u0 v1)]),(62,vi 4),(63,vi 0),(80,vb (decide (O.sgnI ((O.seg a1 a2 b1 b2 u0 v0 u1 v0).num*(↑m.den:Int)-m.num*(↑(O.seg a1 a2 b1 b2 u0 v0 u1 v0).den:Int))<0)))],[⟨[ratF m],4,0,false,false⟩,⟨[(zNqO14 a1 a2)],8,0,false,false⟩,⟨[(zNqO15 b1 b2)],8,0,false,false⟩,⟨[(Zgn u0 v0)],8,0,false,false⟩],_,[],_⟩ (by kernel_rfl) (bc rfl (bc rfl (bc rfl (bc rfl (bc rfl (bc rfl (bc rfl (bc rfl (bc rfl (bc rfl (bc rfl b0))))))))))) q0 (ce (@ev73 false false false false false false false false false false false false false false false false a1 a2 b1 b2 u0 v0 u1 v0 k1) (ce (@ev72 false false false false (O.seg a1 a2 b1 b2 u0 v0 u1 v0) m k2) c0)) ?_
 rcases xq H with ⟨d4,H⟩|⟨d4,H⟩
 ·exact Zah (G:=Zad kp67 [] []) 1000 [true] (vb true) (by kernel_rfl) (bc (Zal (Zab.2 d4)) b0) q0 c0 H
 ·exact Zac (G:=Zad kp67 [] []) 1000 [false] ⟨(atC (cd Try.f67) [1,1,1,1,1,1,1,0,1,0,0]),[(9,AV.ptr 0 0 0 0),(10,AV.ptr 1 0 0 0),(11,AV.ptr 2 0 0 0),(12,AV.vec true 8 [(Zgn u0 v0),(zNqO11 u1 v0),(zNqO12 u1 v1),(zNqO13 u0 v1)]),(61,AV.vec true 8 [(Zgn u0 v0),(zNqO11 u1 v0),(zNqO12 u1 v1),(zNqO13 u0 v1)]),(62,vi 4),(63,vi 1)],[⟨[ratF m],4,0,false,false⟩,⟨[(zNqO14 a1 a2)],8,0,false,false⟩,⟨[(zNqO15 b1 b2)],8,0,false,false⟩,⟨[(Zgn u0 v0)],8,0,false,false⟩],_,[],_⟩ (by kernel_rfl) (bc (Zak (fun h=>d4 (Zab.1 h))) b0) q0 c0 (Zas [0,1,2] (by kernel_rfl) H)
noncomputable abbrev Zgm (u1:Rat) (v0:Rat):=ag [vb (O.Zaa u1.num),vf (us (O.Zaf u1.num)),vb (O.Zaa (↑u1.den:Int)),vf (us (O.Zaf (↑u1.den:Int))),vb (O.Zaa v0.num),vf (us (O.Zaf v0.num)),vb (O.Zaa (↑v0.den:Int)),vf (us (O.Zaf (↑v0.den:Int)))]
noncomputable abbrev zNqO17 (u0:Rat) (v0:Rat):=ag [vb (O.Zaa u0.num),vf (us (O.Zaf u0.num)),vb (O.Zaa (↑u0.den:Int)),vf (us (O.Zaf (↑u0.den:Int))),vb (O.Zaa v0.num),vf (us (O.Zaf v0.num)),vb (O.Zaa (↑v0.den:Int)),vf (us (O.Zaf (↑v0.den:Int)))]
noncomputable abbrev zNqO18 (u1:Rat) (v1:Rat):=ag [vb (O.Zaa u1.num),vf (us (O.Zaf u1.num)),vb (O.Zaa (↑u1.den:Int)),vf (us (O.Zaf (↑u1.den:Int))),vb (O.Zaa v1.num),vf (us (O.Zaf v1.num)),vb (O.Zaa (↑v1.den:Int)),vf (us (O.Zaf (↑v1.den:Int)))]
noncomputable abbrev zNqO19 (u0:Rat) (v1:Rat):=ag [vb (O.Zaa u0.num),vf (us (O.Zaf u0.num)),vb (O.Zaa (↑u0.den:Int)),vf (us (O.Zaf (↑u0.den:Int))),vb (O.Zaa v1.num),vf (us (O.Zaf v1.num)),vb (O.Zaa (↑v1.den:Int)),vf (us (O.Zaf (↑v1.den:Int)))]
noncomputable abbrev zNqO20 (a1:Rat) (a2:Rat):=ag [vb (O.Zaa a1.num),vf (us (O.Zaf a1.num)),vb (O.Zaa (↑a1.den:Int)),vf (us (O.Zaf (↑a1.den:Int))),vb (O.Zaa a2.num),vf (us (O.Zaf a2.num)),vb (O.Zaa (↑a2.den:Int)),vf (us (O.Zaf (↑a2.den:Int)))]
noncomputable abbrev zNqO21 (b1:Rat) (b2:Rat):=ag [vb (O.Zaa b1.num),vf (us (O.Zaf b1.num)),vb (O.Zaa (↑b1.den:Int)),vf (us (O.Zaf (↑b1.den:Int))),vb (O.Zaa b2.num),vf (us (O.Zaf b2.num)),vb (O.Zaa (↑b2.den:Int)),vf (us (O.Zaf (↑b2.den:Int)))]
theorem qNe1 (u0 v0 u1 v1 a1 a2 b1 b2 m:Rat)  (dq:AV) (H :
  (O.okV4 a1 a2 b1 b2 u1 v0 u1 v1) /\
  (O.okR (O.seg a1 a2 b1 b2 u1 v0 u1 v1)/\O.okR m) /\
  ((O.sgnI ((O.seg a1 a2 b1 b2 u1 v0 u1 v1).num*(↑m.den:Int)-m.num*(↑(O.seg a1 a2 b1 b2 u1 v0 u1 v1).den:Int))<0)->vb true=dq) /\
  (¬(O.sgnI ((O.seg a1 a2 b1 b2 u1 v0 u1 v1).num*(↑m.den:Int)-m.num*(↑(O.seg a1 a2 b1 b2 u1 v0 u1 v1).den:Int))<0)->qNe2_at u0 v0 u1 v1 a1 a2 b1 b2 m (Zae dq))) :
 qNe1_at u0 v0 u1 v1 a1 a2 b1 b2 m (Zae dq):=by
 unfold qNe1_at
 obtain ⟨k1,k2,H⟩:=H
 refine Zac (G:=Zad kp67 [(12,9,.call (ratF (O.seg a1 a2 b1 b2 u1 v0 u1 v1)) none),(12,11,.call (vi (O.sgnI ((O.seg a1 a2 b1 b2 u1 v0 u1 v1).num*(↑m.den:Int)-m.num*(↑(O.seg a1 a2 b1 b2 u1 v0 u1 v1).den:Int)))) none)] []) 11 [true] ⟨(atC (cd Try.f67) [1,1,1,1,1,1,1,0,1,0,0,1,1,0,0,1,1]),[(9,AV.ptr 0 0 0 0),(10,AV.ptr 1 0 0 0),(11,AV.ptr 2 0 0 0),(12,AV.vec true 8 [(zNqO17 u0 v0),(Zgm u1 v0),(zNqO18 u1 v1),(zNqO19 u0 v1)]),(61,AV.vec true 8 [(zNqO17 u0 v0),(Zgm u1 v0),(zNqO18 u1 v1),(zNqO19 u0 v1)]),(62,vi 4),(63,vi 1),(80,vb (decide (O.sgnI ((O.seg a1 a2 b1 b2 u1 v0 u1 v1).num*(↑m.den:Int)-m.num*(↑(O.seg a1 a2 b1 b2 u1 v0 u1 v1).den:Int))<0)))],[⟨[ratF m],4,0,false,false⟩,⟨[(zNqO20 a1 a2)],8,0,false,false⟩,⟨[(zNqO21 b1 b2)],8,0,false,false⟩,⟨[(Zgm u1 v0)],8,0,false,false⟩],_,[],_⟩ (by kernel_rfl) (bc rfl (bc rfl (bc rfl (bc rfl (bc rfl (bc rfl (bc rfl (bc rfl (bc rfl (bc rfl (bc rfl b0))))))))))) q0 (ce (@ev73 false false false false false false false false false false false false false false false false a1 a2 b1 b2 u1 v0 u1 v1 k1) (ce (@ev72 false false false false (O.seg a1 a2 b1 b2 u1 v0 u1 v1) m k2) c0)) ?_
 rcases xq H with ⟨d4,H⟩|⟨d4,H⟩
 ·exact Zah (G:=Zad kp67 [] []) 1000 [true] (vb true) (by kernel_rfl) (bc (Zal (Zab.2 d4)) b0) q0 c0 H
 ·exact Zac (G:=Zad kp67 [] []) 1000 [false] ⟨(atC (cd Try.f67) [1,1,1,1,1,1,1,0,1,0,0]),[(9,AV.ptr 0 0 0 0),(10,AV.ptr 1 0 0 0),(11,AV.ptr 2 0 0 0),(12,AV.vec true 8 [(zNqO17 u0 v0),(Zgm u1 v0),(zNqO18 u1 v1),(zNqO19 u0 v1)]),(61,AV.vec true 8 [(zNqO17 u0 v0),(Zgm u1 v0),(zNqO18 u1 v1),(zNqO19 u0 v1)]),(62,vi 4),(63,vi 2)],[⟨[ratF m],4,0,false,false⟩,⟨[(zNqO20 a1 a2)],8,0,false,false⟩,⟨[(zNqO21 b1 b2)],8,0,false,false⟩,⟨[(Zgm u1 v0)],8,0,false,false⟩],_,[],_⟩ (by kernel_rfl) (bc (Zak (fun h=>d4 (Zab.1 h))) b0) q0 c0 (Zas [0,1,2] (by kernel_rfl) H)
noncomputable abbrev Zgl (u1:Rat) (v1:Rat):=ag [vb (O.Zaa u1.num),vf (us (O.Zaf u1.num)),vb (O.Zaa (↑u1.den:Int)),vf (us (O.Zaf (↑u1.den:Int))),vb (O.Zaa v1.num),vf (us (O.Zaf v1.num)),vb (O.Zaa (↑v1.den:Int)),vf (us (O.Zaf (↑v1.den:Int)))]
noncomputable abbrev zNqO23 (u0:Rat) (v0:Rat):=ag [vb (O.Zaa u0.num),vf (us (O.Zaf u0.num)),vb (O.Zaa (↑u0.den:Int)),vf (us (O.Zaf (↑u0.den:Int))),vb (O.Zaa v0.num),vf (us (O.Zaf v0.num)),vb (O.Zaa (↑v0.den:Int)),vf (us (O.Zaf (↑v0.den:Int)))]
noncomputable abbrev zNqO24 (u1:Rat) (v0:Rat):=ag [vb (O.Zaa u1.num),vf (us (O.Zaf u1.num)),vb (O.Zaa (↑u1.den:Int)),vf (us (O.Zaf (↑u1.den:Int))),vb (O.Zaa v0.num),vf (us (O.Zaf v0.num)),vb (O.Zaa (↑v0.den:Int)),vf (us (O.Zaf (↑v0.den:Int)))]
noncomputable abbrev zNqO25 (u0:Rat) (v1:Rat):=ag [vb (O.Zaa u0.num),vf (us (O.Zaf u0.num)),vb (O.Zaa (↑u0.den:Int)),vf (us (O.Zaf (↑u0.den:Int))),vb (O.Zaa v1.num),vf (us (O.Zaf v1.num)),vb (O.Zaa (↑v1.den:Int)),vf (us (O.Zaf (↑v1.den:Int)))]
noncomputable abbrev zNqO26 (a1:Rat) (a2:Rat):=ag [vb (O.Zaa a1.num),vf (us (O.Zaf a1.num)),vb (O.Zaa (↑a1.den:Int)),vf (us (O.Zaf (↑a1.den:Int))),vb (O.Zaa a2.num),vf (us (O.Zaf a2.num)),vb (O.Zaa (↑a2.den:Int)),vf (us (O.Zaf (↑a2.den:Int)))]
noncomputable abbrev zNqO27 (b1:Rat) (b2:Rat):=ag [vb (O.Zaa b1.num),vf (us (O.Zaf b1.num)),vb (O.Zaa (↑b1.den:Int)),vf (us (O.Zaf (↑b1.den:Int))),vb (O.Zaa b2.num),vf (us (O.Zaf b2.num)),vb (O.Zaa (↑b2.den:Int)),vf (us (O.Zaf (↑b2.den:Int)))]
theorem qNe2 (u0 v0 u1 v1 a1 a2 b1 b2 m:Rat)  (dq:AV) (H :
  (O.okV4 a1 a2 b1 b2 u1 v1 u0 v1) /\
  (O.okR (O.seg a1 a2 b1 b2 u1 v1 u0 v1)/\O.okR m) /\
  ((O.sgnI ((O.seg a1 a2 b1 b2 u1 v1 u0 v1).num*(↑m.den:Int)-m.num*(↑(O.seg a1 a2 b1 b2 u1 v1 u0 v1).den:Int))<0)->vb true=dq) /\
  (¬(O.sgnI ((O.seg a1 a2 b1 b2 u1 v1 u0 v1).num*(↑m.den:Int)-m.num*(↑(O.seg a1 a2 b1 b2 u1 v1 u0 v1).den:Int))<0)->qNe3_at u0 v0 u1 v1 a1 a2 b1 b2 m (Zae dq))) :
 qNe2_at u0 v0 u1 v1 a1 a2 b1 b2 m (Zae dq):=by
 unfold qNe2_at
 obtain ⟨k1,k2,H⟩:=H
 refine Zac (G:=Zad kp67 [(12,9,.call (ratF (O.seg a1 a2 b1 b2 u1 v1 u0 v1)) none),(12,11,.call (vi (O.sgnI ((O.seg a1 a2 b1 b2 u1 v1 u0 v1).num*(↑m.den:Int)-m.num*(↑(O.seg a1 a2 b1 b2 u1 v1 u0 v1).den:Int)))) none)] []) 11 [true] ⟨(atC (cd Try.f67) [1,1,1,1,1,1,1,0,1,0,0,1,1,0,0,1,1]),[(9,AV.ptr 0 0 0 0),(10,AV.ptr 1 0 0 0),(11,AV.ptr 2 0 0 0),(12,AV.vec true 8 [(zNqO23 u0 v0),(zNqO24 u1 v0),(Zgl u1 v1),(zNqO25 u0 v1)]),(61,AV.vec true 8 [(zNqO23 u0 v0),(zNqO24 u1 v0),(Zgl u1 v1),(zNqO25 u0 v1)]),(62,vi 4),(63,vi 2),(80,vb (decide (O.sgnI ((O.seg a1 a2 b1 b2 u1 v1 u0 v1).num*(↑m.den:Int)-m.num*(↑(O.seg a1 a2 b1 b2 u1 v1 u0 v1).den:Int))<0)))],[⟨[ratF m],4,0,false,false⟩,⟨[(zNqO26 a1 a2)],8,0,false,false⟩,⟨[(zNqO27 b1 b2)],8,0,false,false⟩,⟨[(Zgl u1 v1)],8,0,false,false⟩],_,[],_⟩ (by kernel_rfl) (bc rfl (bc rfl (bc rfl (bc rfl (bc rfl (bc rfl (bc rfl (bc rfl (bc rfl (bc rfl (bc rfl b0))))))))))) q0 (ce (@ev73 false false false false false false false false false false false false false false false false a1 a2 b1 b2 u1 v1 u0 v1 k1) (ce (@ev72 false false false false (O.seg a1 a2 b1 b2 u1 v1 u0 v1) m k2) c0)) ?_
 rcases xq H with ⟨d4,H⟩|⟨d4,H⟩
 ·exact Zah (G:=Zad kp67 [] []) 1000 [true] (vb true) (by kernel_rfl) (bc (Zal (Zab.2 d4)) b0) q0 c0 H
 ·exact Zac (G:=Zad kp67 [] []) 1000 [false] ⟨(atC (cd Try.f67) [1,1,1,1,1,1,1,0,1,0,0]),[(9,AV.ptr 0 0 0 0),(10,AV.ptr 1 0 0 0),(11,AV.ptr 2 0 0 0),(12,AV.vec true 8 [(zNqO23 u0 v0),(zNqO24 u1 v0),(Zgl u1 v1),(zNqO25 u0 v1)]),(61,AV.vec true 8 [(zNqO23 u0 v0),(zNqO24 u1 v0),(Zgl u1 v1),(zNqO25 u0 v1)]),(62,vi 4),(63,vi 3)],[⟨[ratF m],4,0,false,false⟩,⟨[(zNqO26 a1 a2)],8,0,false,false⟩,⟨[(zNqO27 b1 b2)],8,0,false,false⟩,⟨[(Zgl u1 v1)],8,0,false,false⟩],_,[],_⟩ (by kernel_rfl) (bc (Zak (fun h=>d4 (Zab.1 h))) b0) q0 c0 (Zas [0,1,2] (by kernel_rfl) H)
noncomputable abbrev Zgk (u0:Rat) (v1:Rat):=ag [vb (O.Zaa u0.num),vf (us (O.Zaf u0.num)),vb (O.Zaa (↑u0.den:Int)),vf (us (O.Zaf (↑u0.den:Int))),vb (O.Zaa v1.num),vf (us (O.Zaf v1.num)),vb (O.Zaa (↑v1.den:Int)),vf (us (O.Zaf (↑v1.den:Int)))]
noncomputable abbrev zNqO29 (u0:Rat) (v0:Rat):=ag [vb (O.Zaa u0.num),vf (us (O.Zaf u0.num)),vb (O.Zaa (↑u0.den:Int)),vf (us (O.Zaf (↑u0.den:Int))),vb (O.Zaa v0.num),vf (us (O.Zaf v0.num)),vb (O.Zaa (↑v0.den:Int)),vf (us (O.Zaf (↑v0.den:Int)))]
noncomputable abbrev zNqO30 (u1:Rat) (v0:Rat):=ag [vb (O.Zaa u1.num),vf (us (O.Zaf u1.num)),vb (O.Zaa (↑u1.den:Int)),vf (us (O.Zaf (↑u1.den:Int))),vb (O.Zaa v0.num),vf (us (O.Zaf v0.num)),vb (O.Zaa (↑v0.den:Int)),vf (us (O.Zaf (↑v0.den:Int)))]
noncomputable abbrev zNqO31 (u1:Rat) (v1:Rat):=ag [vb (O.Zaa u1.num),vf (us (O.Zaf u1.num)),vb (O.Zaa (↑u1.den:Int)),vf (us (O.Zaf (↑u1.den:Int))),vb (O.Zaa v1.num),vf (us (O.Zaf v1.num)),vb (O.Zaa (↑v1.den:Int)),vf (us (O.Zaf (↑v1.den:Int)))]
noncomputable abbrev zNqO32 (a1:Rat) (a2:Rat):=ag [vb (O.Zaa a1.num),vf (us (O.Zaf a1.num)),vb (O.Zaa (↑a1.den:Int)),vf (us (O.Zaf (↑a1.den:Int))),vb (O.Zaa a2.num),vf (us (O.Zaf a2.num)),vb (O.Zaa (↑a2.den:Int)),vf (us (O.Zaf (↑a2.den:Int)))]
noncomputable abbrev zNqO33 (b1:Rat) (b2:Rat):=ag [vb (O.Zaa b1.num),vf (us (O.Zaf b1.num)),vb (O.Zaa (↑b1.den:Int)),vf (us (O.Zaf (↑b1.den:Int))),vb (O.Zaa b2.num),vf (us (O.Zaf b2.num)),vb (O.Zaa (↑b2.den:Int)),vf (us (O.Zaf (↑b2.den:Int)))]
theorem qNe3 (u0 v0 u1 v1 a1 a2 b1 b2 m:Rat)  (dq:AV) (H :
  (O.okV4 a1 a2 b1 b2 u0 v1 u0 v0) /\
  (O.okR (O.seg a1 a2 b1 b2 u0 v1 u0 v0)/\O.okR m) /\
  ((O.sgnI ((O.seg a1 a2 b1 b2 u0 v1 u0 v0).num*(↑m.den:Int)-m.num*(↑(O.seg a1 a2 b1 b2 u0 v1 u0 v0).den:Int))<0)->vb true=dq) /\
  (¬(O.sgnI ((O.seg a1 a2 b1 b2 u0 v1 u0 v0).num*(↑m.den:Int)-m.num*(↑(O.seg a1 a2 b1 b2 u0 v1 u0 v0).den:Int))<0)->qNe4_at u0 v0 u1 v1 a1 a2 b1 b2 m (Zae dq))) :
 qNe3_at u0 v0 u1 v1 a1 a2 b1 b2 m (Zae dq):=by
 unfold qNe3_at
 obtain ⟨k1,k2,H⟩:=H
 refine Zac (G:=Zad kp67 [(12,9,.call (ratF (O.seg a1 a2 b1 b2 u0 v1 u0 v0)) none),(12,11,.call (vi (O.sgnI ((O.seg a1 a2 b1 b2 u0 v1 u0 v0).num*(↑m.den:Int)-m.num*(↑(O.seg a1 a2 b1 b2 u0 v1 u0 v0).den:Int)))) none)] []) 11 [true] ⟨(atC (cd Try.f67) [1,1,1,1,1,1,1,0,1,0,0,1,1,0,0,1,1]),[(9,AV.ptr 0 0 0 0),(10,AV.ptr 1 0 0 0),(11,AV.ptr 2 0 0 0),(12,AV.vec true 8 [(zNqO29 u0 v0),(zNqO30 u1 v0),(zNqO31 u1 v1),(Zgk u0 v1)]),(61,AV.vec true 8 [(zNqO29 u0 v0),(zNqO30 u1 v0),(zNqO31 u1 v1),(Zgk u0 v1)]),(62,vi 4),(63,vi 3),(80,vb (decide (O.sgnI ((O.seg a1 a2 b1 b2 u0 v1 u0 v0).num*(↑m.den:Int)-m.num*(↑(O.seg a1 a2 b1 b2 u0 v1 u0 v0).den:Int))<0)))],[⟨[ratF m],4,0,false,false⟩,⟨[(zNqO32 a1 a2)],8,0,false,false⟩,⟨[(zNqO33 b1 b2)],8,0,false,false⟩,⟨[(Zgk u0 v1)],8,0,false,false⟩],_,[],_⟩ (by kernel_rfl) (bc rfl (bc rfl (bc rfl (bc rfl (bc rfl (bc rfl (bc rfl (bc rfl (bc rfl (bc rfl (bc rfl b0))))))))))) q0 (ce (@ev73 false false false false false false false false false false false false false false false false a1 a2 b1 b2 u0 v1 u0 v0 k1) (ce (@ev72 false false false false (O.seg a1 a2 b1 b2 u0 v1 u0 v0) m k2) c0)) ?_
 rcases xq H with ⟨d4,H⟩|⟨d4,H⟩
 ·exact Zah (G:=Zad kp67 [] []) 1000 [true] (vb true) (by kernel_rfl) (bc (Zal (Zab.2 d4)) b0) q0 c0 H
 ·exact Zac (G:=Zad kp67 [] []) 1000 [false] ⟨(atC (cd Try.f67) [1,1,1,1,1,1,1,0,1,0,0]),[(9,AV.ptr 0 0 0 0),(10,AV.ptr 1 0 0 0),(11,AV.ptr 2 0 0 0),(12,AV.vec true 8 [(zNqO29 u0 v0),(zNqO30 u1 v0),(zNqO31 u1 v1),(Zgk u0 v1)]),(61,AV.vec true 8 [(zNqO29 u0 v0),(zNqO30 u1 v0),(zNqO31 u1 v1),(Zgk u0 v1)]),(62,vi 4),(63,vi 4)],[⟨[ratF m],4,0,false,false⟩,⟨[(zNqO32 a1 a2)],8,0,false,false⟩,⟨[(zNqO33 b1 b2)],8,0,false,false⟩,⟨[(Zgk u0 v1)],8,0,false,false⟩],_,[],_⟩ (by kernel_rfl) (bc (Zak (fun h=>d4 (Zab.1 h))) b0) q0 c0 (Zas [0,1,2] (by kernel_rfl) H)
theorem qNe4 (u0 v0 u1 v1 a1 a2 b1 b2 m:Rat)  (dq:AV) (H :
  vb false=dq) :
 qNe4_at u0 v0 u1 v1 a1 a2 b1 b2 m (Zae dq):=by
 unfold qNe4_at
 exact Zah (G:=Zad kp67 [] []) 1000 [false] (vb false) (by kernel_rfl) (bc rfl b0) q0 c0 H
end Go.Av

namespace Go.Av
open Go.Proofs
namespace O
noncomputable def neS (p0 q0 p1 q1 a1 a2 b1 b2 m:Rat):Prop:=seg a1 a2 b1 b2 p0 q0 p1 q0<m\/seg a1 a2 b1 b2 p1 q0 p1 q1<m\/seg a1 a2 b1 b2 p1 q1 p0 q1<m\/seg a1 a2 b1 b2 p0 q1 p0 q0<m
noncomputable def nea (x0 y0 x1 y1 ax ay bx by_ r:Int):Prop:=¬(r<=0)/\(hld x0 y0 x1 y1 ax ay\/hld x0 y0 x1 y1 bx by_\/neS (qi x0) (qi y0) (qi x1) (qi y1) (qi ax) (qi ay) (qi bx) (qi by_) (qi r*qi r))
def okNe (x0 y0 x1 y1 ax ay bx by_ r:Int):Prop:=cc x0/\cc y0/\cc x1/\cc y1/\cc ax/\cc ay/\cc bx/\cc by_/\cc r
end O
noncomputable instance (p0 q0 p1 q1 a1 a2 b1 b2 m:Rat):Decidable (O.neS p0 q0 p1 q1 a1 a2 b1 b2 m):=by unfold O.neS;infer_instance
noncomputable instance (x0 y0 x1 y1 ax ay bx by_ r:Int):Decidable (O.nea x0 y0 x1 y1 ax ay bx by_ r):=by unfold O.nea;infer_instance
theorem cc_inI {n:Int} (h:O.cc n):O.inI n:=by unfold O.cc at h;unfold O.inI;omega
theorem okT_qi {n:Int} (h:O.cc n):O.okT 10 (O.qi n):=Zb6 (okT_int (cc_inI h)) (by omega)
theorem near_loop {p0 q0 p1 q1 a1 a2 b1 b2 m:Rat} (h1:O.okV p0 q0) (h2:O.okV p1 q1) (h3:O.okV a1 a2) (h4:O.okV b1 b2) (hm:O.okT 400 m):qNe0_at p0 q0 p1 q1 a1 a2 b1 b2 m (Zae (.bool (decide (O.neS p0 q0 p1 q1 a1 a2 b1 b2 m)))):=by
 have R {r:Rat} (h:O.okT 400 r):O.okR r:=Zb4 h (by omega)
 have g1:O.okV p1 q0:=⟨h2.1,h1.2⟩
 have g2:O.okV p0 q1:=⟨h1.1,h2.2⟩
 have k0:O.okV4 a1 a2 b1 b2 p0 q0 p1 q0:=⟨h3,h4,h1,g1⟩
 have k1:O.okV4 a1 a2 b1 b2 p1 q0 p1 q1:=⟨h3,h4,g1,h2⟩
 have k2:O.okV4 a1 a2 b1 b2 p1 q1 p0 q1:=⟨h3,h4,h2,g2⟩
 have k3:O.okV4 a1 a2 b1 b2 p0 q1 p0 q0:=⟨h3,h4,g2,h1⟩
 have y:∀ h:O.neS p0 q0 p1 q1 a1 a2 b1 b2 m,AV.bool true = .bool (decide (O.neS p0 q0 p1 q1 a1 a2 b1 b2 m)):=fun h=>by rw [ZeM h]
 refine qNe0 _ _ _ _ _ _ _ _ _ _ ⟨k0,⟨R (okT_seg k0),R hm⟩,fun x=>y (.inl (Zct.1 x)),fun x0 => ?_⟩
 refine qNe1 _ _ _ _ _ _ _ _ _ _ ⟨k1,⟨R (okT_seg k1),R hm⟩,fun x=>y (.inr (.inl (Zct.1 x))),fun x1 => ?_⟩
 refine qNe2 _ _ _ _ _ _ _ _ _ _ ⟨k2,⟨R (okT_seg k2),R hm⟩,fun x=>y (.inr (.inr (.inl (Zct.1 x)))),fun x2 => ?_⟩
 refine qNe3 _ _ _ _ _ _ _ _ _ _ ⟨k3,⟨R (okT_seg k3),R hm⟩,fun x=>y (.inr (.inr (.inr (Zct.1 x)))),fun x3 => ?_⟩
 refine qNe4 _ _ _ _ _ _ _ _ _ _ ?_
 rw [decide_eq_false]
 rintro (h | h | h | h)
 ·exact x0 (Zct.2 h)
 ·exact x1 (Zct.2 h)
 ·exact x2 (Zct.2 h)
 ·exact x3 (Zct.2 h)
theorem ev67 (x0 y0 x1 y1 tp ax ay bx by_ r:Int) (h:O.okNe x0 y0 x1 y1 ax ay bx by_ r):Ev M1 (.pure 67 [.agg [.int .i64 x0,.int .i64 y0,.int .i64 x1,.int .i64 y1,.int .i64 tp],.agg [.int .i64 ax,.int .i64 ay],.agg [.int .i64 bx,.int .i64 by_],.int .i64 r]) (.bool (decide (O.nea x0 y0 x1 y1 ax ay bx by_ r))) []:=by
 obtain ⟨c1,c2,c3,c4,c5,c6,c7,c8,c9⟩:=h
 have V {u v:Int} (a:O.cc u) (b:O.cc v):O.okV (O.qi u) (O.qi v):=⟨okT_qi a,okT_qi b⟩
 have J {u v:Int} (a:O.cc u) (b:O.cc v):O.inI2 u v:=⟨cc_inI a,cc_inI b⟩
 have mm:O.okT 400 (O.qi r*O.qi r):=Zb6 (Zci (okT_qi c9) (okT_qi c9)) (by omega)
 have R:O.okR (O.qi r):=Zb4 (okT_qi c9) (by omega)
 refine call67 (qNe _ _ _ _ _ _ _ _ _ _ _ ⟨fun k => ?_,fun k=>⟨fun j => ?_,fun j=>⟨cc_inI c9,⟨R,R⟩,J c5 c6,J c7 c8,J c1 c2,J c3 c2,J c3 c4,J c1 c4,?_⟩⟩⟩)
 ·rw [decide_eq_false fun x=>x.1 k]
 ·rw [decide_eq_true (show O.nea x0 y0 x1 y1 ax ay bx by_ r from ⟨k,j.elim .inl fun x => .inr (.inl x)⟩)]
 ·have e:decide (O.nea x0 y0 x1 y1 ax ay bx by_ r)=decide (O.neS (O.qi x0) (O.qi y0) (O.qi x1) (O.qi y1) (O.qi ax) (O.qi ay) (O.qi bx) (O.qi by_) (O.qi r*O.qi r)):=
   Zc7 ⟨fun x=>x.2.elim (fun y=>absurd (.inl y) j) fun y=>y.elim (fun y=>absurd (.inr y) j) id,fun x=>⟨k,.inr (.inr x)⟩⟩
  rw [e]
  exact near_loop (V c1 c2) (V c3 c4) (V c5 c6) (V c7 c8) mm
end Go.Av

namespace Go.Av
open Go.Proofs
set_option maxRecDepth 100000
def fi30:Fi:=⟨4,[.cell 0 45]⟩
def kp30:List (Nat × List Nat):=[(0,[0]),(1,[0])]
def fi31:Fi:=⟨46,[.tmp 6]⟩
def kp31:List (Nat × List Nat):=[(0,[1,2,3]),(1,[1,2,3,7]),(2,[1,2,7,11,12,13]),(3,[1,2,7,11,12,13,14]),(4,[1,2,7,9,11,12,13]),(5,[1,2,7,9,11,12,13,21]),(6,[1,2,7,11,12,13]),(7,[1,2,7,11,12,13]),(8,[6])]
def fi54:Fi:=⟨41,[.tmp 8,.tmp 9]⟩
def kp54:List (Nat × List Nat):=[(0,[3,4,5,6]),(1,[3,4,5,6,10,11]),(2,[3,5,6,10,11,15,16,17]),(3,[3,5,6,10,11,15,16,17,18]),(4,[3,5,6,10,11,13,15,16,17]),(5,[3,5,6,10,11,13,15,16,17,35]),(6,[3,5,6,10,11,15,16,17]),(7,[3,5,6,10,11,15,16,17]),(8,[8,9])]
def qHi_at (f:Bool) (cs:List Bx) (u0 v0 u1 v1 th gp sf:Int) (ax ay bx by_ r:Int) (Q:AV->Heap->Prop):Prop:=Wp M1 (.run fi54 (atC (cd Try.f54) []) [(0,.agg [.int .i64 u0,.int .i64 v0,.int .i64 u1,.int .i64 v1,.int .i64 th,.int .i64 gp,.vec f 5 (cs.map Bx.a),.int .i64 sf]),(1,.agg [.int .i64 ax,.int .i64 ay]),(2,.agg [.int .i64 bx,.int .i64 by_]),(3,.int .i64 r)] []) Q
def Zem (f:Bool) (cs:List Bx) (ax ay bx by_ r t:Int) (fo:Bool) (n i:Int) (Q:AV->Heap->Prop):Prop:=Wp M1 (.run fi54 (atC (cd Try.f54) [1,1,0,1,0,0]) [(3,.int .i64 r),(5,.ptr 0 0 0 0),(6,.ptr 1 0 0 0),(10,.int .i64 t),(11,.bool fo),(15,.vec f 5 (cs.map Bx.a)),(16,.int .i64 n),(17,.int .i64 i)] [⟨[.agg [.int .i64 ax,.int .i64 ay]],2,0,false,false⟩,⟨[.agg [.int .i64 bx,.int .i64 by_]],2,0,false,false⟩]) Q
def qBl_at (f:Bool) (cs:List Bx) (u0 v0 u1 v1 th gp sf:Int) (z r:Int) (Q:AV->Heap->Prop):Prop:=Wp M1 (.run fi31 (atC (cd Try.f31) []) [(0,.agg [.int .i64 u0,.int .i64 v0,.int .i64 u1,.int .i64 v1,.int .i64 th,.int .i64 gp,.vec f 5 (cs.map Bx.a),.int .i64 sf]),(1,.int .i64 z),(2,.int .i64 r)] []) Q
def Zfv (f:Bool) (cs:List Bx) (z r n i:Int) (Q:AV->Heap->Prop):Prop:=Wp M1 (.run fi31 (atC (cd Try.f31) [1,1,0,1,0,0]) [(1,.int .i64 z),(2,.int .i64 r),(7,.vnil),(11,.vec f 5 (cs.map Bx.a)),(12,.int .i64 n),(13,.int .i64 i)] []) Q
def Zen (f:Bool) (cs gs:List Bx) (v:Nat) (z r n i:Int) (Q:AV->Heap->Prop):Prop:=Wp M1 (.run fi31 (atC (cd Try.f31) [1,1,0,1,0,0]) [(1,.int .i64 z),(2,.int .i64 r),(7,.row 0 v),(11,.vec f 5 (cs.map Bx.a)),(12,.int .i64 n),(13,.int .i64 i)] [⟨gs.map Bx.a,5,v,false,true⟩]) Q
def qBen_at  (Q:AV->Heap->Prop):Prop:=Wp M1 (.run fi30 (atC (cd Try.f30) []) [] []) Q
theorem call30 {args:List AV} {d:AV} (h:wc M1 fi30 Try.f30 args d):Ev M1 (.pure 30 args) d []:=pcl _ _ (by kernel_rfl) h
theorem call31 {args:List AV} {d:AV} (h:wc M1 fi31 Try.f31 args d):Ev M1 (.pure 31 args) d []:=pcl _ _ (by kernel_rfl) h
theorem call54 {args:List AV} {d:AV} (h:wc M1 fi54 Try.f54 args d):Ev M1 (.pure 54 args) d []:=pcl _ _ (by kernel_rfl) h
theorem qHi (f:Bool) (cs:List Bx) (u0 v0 u1 v1 th gp sf:Int) (ax ay bx by_ r:Int)  (dq:AV) (H :
  Zem f cs ax ay bx by_ r 0 false ((↑cs.length:Int)) 0 (Zae dq)) :
 qHi_at f cs u0 v0 u1 v1 th gp sf ax ay bx by_ r (Zae dq):=by
 unfold qHi_at
 have w1:(List.map Bx.a cs).length=cs.length:=List.length_map ..
 exact Zac (G:=Zad kp54 [] []) 1000 [] ⟨(atC (cd Try.f54) [1,1,0,1,0,0]),[(3,vi r),(5,AV.ptr 1 0 0 0),(6,AV.ptr 2 0 0 0),(10,vi 0),(11,vb false),(15,AV.vec f 5 (List.map Bx.a cs)),(16,vi (↑(List.map Bx.a cs).length:Int)),(17,vi 0)],[⟨[ag [vi u0,vi v0,vi u1,vi v1,vi th,vi gp,AV.vec f 5 (List.map Bx.a cs),vi sf]],8,0,false,false⟩,⟨[ag [vi ax,vi ay]],2,0,false,false⟩,⟨[ag [vi bx,vi by_]],2,0,false,false⟩],_,[],_⟩ (by kernel_rfl) (bc rfl b0) q0 c0 (by (try rw [w1]);all_goals exact Zas [1,2] (by kernel_rfl) H)
noncomputable abbrev zNqP1 (cs:List Bx) (i:Int):=ag [vi (cs.getD i.toNat default).x0,vi (cs.getD i.toNat default).y0,vi (cs.getD i.toNat default).x1,vi (cs.getD i.toNat default).y1,vi (cs.getD i.toNat default).top]
noncomputable abbrev zNqP2 (cs:List Bx) (i:Int) (ax:Int) (ay:Int) (bx:Int) (by_:Int) (r:Int):=O.nea (cs.getD i.toNat default).x0 (cs.getD i.toNat default).y0 (cs.getD i.toNat default).x1 (cs.getD i.toNat default).y1 ax ay bx by_ r
theorem qHiL (f:Bool) (cs:List Bx) (ax ay bx by_ r t:Int) (fo:Bool) (n i:Int)  (dq:AV) (H :
  ((i<n)->(0<=i) /\
   (i.toNat<cs.length) /\
   (O.okNe (cs.getD i.toNat default).x0 (cs.getD i.toNat default).y0 (cs.getD i.toNat default).x1 (cs.getD i.toNat default).y1 ax ay bx by_ r) /\
   (((O.nea (cs.getD i.toNat default).x0 (cs.getD i.toNat default).y0 (cs.getD i.toNat default).x1 (cs.getD i.toNat default).y1 ax ay bx by_ r)/\((¬(fo=true))\/((cs.getD i.toNat default).top>t)))->(-9223372036854775808<=i+1/\i+1<=9223372036854775807) /\
    Zem f cs ax ay bx by_ r ((cs.getD i.toNat default).top) true n (i+1) (Zae dq)) /\
   (¬((O.nea (cs.getD i.toNat default).x0 (cs.getD i.toNat default).y0 (cs.getD i.toNat default).x1 (cs.getD i.toNat default).y1 ax ay bx by_ r)/\((¬(fo=true))\/((cs.getD i.toNat default).top>t)))->(-9223372036854775808<=i+1/\i+1<=9223372036854775807) /\
    Zem f cs ax ay bx by_ r t fo n (i+1) (Zae dq))) /\
  (¬(i<n)->tu [vi t,vb fo]=dq)) :
 Zem f cs ax ay bx by_ r t fo n i (Zae dq):=by
 unfold Zem
 rcases xq H with ⟨d2,H⟩|⟨d2,H⟩
 ·obtain ⟨k4,H⟩:=H
  have w5:(List.map Bx.a cs).length=cs.length:=List.length_map ..
  have i6:(decide (i.toNat<(List.map Bx.a cs).length))=true ↔ (i.toNat<cs.length):=(by (try rw [w5]);all_goals exact Zab)
  obtain ⟨k7,k8,H⟩:=H
  refine Zac (G:=Zad kp54 [(4,1,.elem ((zNqP1 cs i))),(5,4,.call (vb (decide (zNqP2 cs i ax ay bx by_ r))) none)] []) 11 [true] ⟨(atC (cd Try.f54) [1,1,0,1,0,0,1,1,0,0,1,1]),[(3,vi r),(5,AV.ptr 0 0 0 0),(6,AV.ptr 1 0 0 0),(10,vi t),(11,vb fo),(13,AV.ptr 2 0 0 0),(15,AV.vec f 5 (List.map Bx.a cs)),(16,vi n),(17,vi i),(35,vb (bif decide (zNqP2 cs i ax ay bx by_ r) then bif !fo then true else decide ((cs.getD i.toNat default).top>t) else false))],[⟨[ag [vi ax,vi ay]],2,0,false,false⟩,⟨[ag [vi bx,vi by_]],2,0,false,false⟩,⟨[(zNqP1 cs i)],5,0,false,false⟩],[(decide (i<n))==true,decide (0<=i),decide (i.toNat<(List.map Bx.a cs).length),true,true,true,true,!((!fo)==false&&(decide (zNqP2 cs i ax ay bx by_ r)==true&&true))||true],[((List.map Bx.a cs).get?Internal i.toNat=some ((zNqP1 cs i)))],_⟩ (by kernel_rfl) (bc (Zal (Zab.2 d2)) (bc (Zab.2 k4) (bc (i6.2 k7) (bc rfl (bc rfl (bc rfl (bc rfl (bc (Bool.or_true _) b0)))))))) (qc (Zai k7) q0) (ce (@ev67 ((cs.getD i.toNat default).x0) ((cs.getD i.toNat default).y0) ((cs.getD i.toNat default).x1) ((cs.getD i.toNat default).y1) ((cs.getD i.toNat default).top) ax ay bx by_ r k8) c0) ?_
  rcases xq H with ⟨d10,H⟩|⟨d10,H⟩
  ·obtain ⟨k11,H⟩:=H
   have w12:wi (i+1)=i+1:=wI64 k11
   exact Zac (G:=Zad kp54 [] []) 1000 [true] ⟨(atC (cd Try.f54) [1,1,0,1,0,0]),[(3,vi r),(5,AV.ptr 0 0 0 0),(6,AV.ptr 1 0 0 0),(10,vi (cs.getD i.toNat default).top),(11,vb true),(15,AV.vec f 5 (List.map Bx.a cs)),(16,vi n),(17,vi (wi (i+1)))],[⟨[ag [vi ax,vi ay]],2,0,false,false⟩,⟨[ag [vi bx,vi by_]],2,0,false,false⟩,⟨[(zNqP1 cs i)],5,0,false,false⟩],[(bif decide (zNqP2 cs i ax ay bx by_ r) then bif !fo then true else decide ((cs.getD i.toNat default).top>t) else false)==true,true],[],_⟩ (by kernel_rfl) (bc (Zal ((ZaM Zab (ZaE (Za2 (Zay _)) Zab)).2 d10)) (bc rfl b0)) q0 c0 (by (try rw [w12]);all_goals exact Zas [0,1] (by kernel_rfl) H)
  ·obtain ⟨k13,H⟩:=H
   have w14:wi (i+1)=i+1:=wI64 k13
   exact Zac (G:=Zad kp54 [] []) 1000 [false] ⟨(atC (cd Try.f54) [1,1,0,1,0,0]),[(3,vi r),(5,AV.ptr 0 0 0 0),(6,AV.ptr 1 0 0 0),(10,vi t),(11,vb fo),(15,AV.vec f 5 (List.map Bx.a cs)),(16,vi n),(17,vi (wi (i+1)))],[⟨[ag [vi ax,vi ay]],2,0,false,false⟩,⟨[ag [vi bx,vi by_]],2,0,false,false⟩,⟨[(zNqP1 cs i)],5,0,false,false⟩],[(bif decide (zNqP2 cs i ax ay bx by_ r) then bif !fo then true else decide ((cs.getD i.toNat default).top>t) else false)==false],[],_⟩ (by kernel_rfl) (bc (Zak (fun h=>d10 ((ZaM Zab (ZaE (Za2 (Zay _)) Zab)).1 h))) b0) q0 c0 (by (try rw [w14]);all_goals exact Zas [0,1] (by kernel_rfl) H)
 ·exact Zah (G:=Zad kp54 [] []) 1000 [false] (tu [vi t,vb fo]) (by kernel_rfl) (bc (Zak (fun h=>d2 (Zab.1 h))) b0) q0 c0 H
theorem qBl (f:Bool) (cs:List Bx) (u0 v0 u1 v1 th gp sf:Int) (z r:Int)  (dq:AV) (H :
  Zfv f cs z r ((↑cs.length:Int)) 0 (Zae dq)) :
 qBl_at f cs u0 v0 u1 v1 th gp sf z r (Zae dq):=by
 unfold qBl_at
 have w1:(List.map Bx.a cs).length=cs.length:=List.length_map ..
 exact Zac (G:=Zad kp31 [] []) 1000 [] ⟨(atC (cd Try.f31) [1,1,0,1,0,0]),[(1,vi z),(2,vi r),(7,AV.vnil),(11,AV.vec f 5 (List.map Bx.a cs)),(12,vi (↑(List.map Bx.a cs).length:Int)),(13,vi 0)],[⟨[ag [vi u0,vi v0,vi u1,vi v1,vi th,vi gp,AV.vec f 5 (List.map Bx.a cs),vi sf]],8,0,false,false⟩],_,[],_⟩ (by kernel_rfl) (bc rfl b0) q0 c0 (by (try rw [w1]);all_goals exact Zas [] (by kernel_rfl) H)
noncomputable abbrev zNqP3 (cs:List Bx) (i:Int):=ag [vi (cs.getD i.toNat default).x0,vi (cs.getD i.toNat default).y0,vi (cs.getD i.toNat default).x1,vi (cs.getD i.toNat default).y1,vi (cs.getD i.toNat default).top]
theorem qBl0 (f:Bool) (cs:List Bx) (z r n i:Int)  (dq:AV) (H :
  ((i<n)->(0<=i) /\
   (i.toNat<cs.length) /\
   (-9223372036854775808<=(cs.getD i.toNat default).top+1000/\(cs.getD i.toNat default).top+1000<=9223372036854775807) /\
   (((cs.getD i.toNat default).top+1000>z)->(-9223372036854775808<=(cs.getD i.toNat default).x0-r/\(cs.getD i.toNat default).x0-r<=9223372036854775807) /\
    (-9223372036854775808<=(cs.getD i.toNat default).y0-r/\(cs.getD i.toNat default).y0-r<=9223372036854775807) /\
    (-9223372036854775808<=(cs.getD i.toNat default).x1+r/\(cs.getD i.toNat default).x1+r<=9223372036854775807) /\
    (-9223372036854775808<=(cs.getD i.toNat default).y1+r/\(cs.getD i.toNat default).y1+r<=9223372036854775807) /\
    (-9223372036854775808<=i+1/\i+1<=9223372036854775807) /\
    Zen f cs ([{ x0:=(cs.getD i.toNat default).x0-r,y0:=(cs.getD i.toNat default).y0-r,x1:=(cs.getD i.toNat default).x1+r,y1:=(cs.getD i.toNat default).y1+r,top:=(cs.getD i.toNat default).top }]) 0 z r n (i+1) (Zae dq)) /\
   (¬((cs.getD i.toNat default).top+1000>z)->(-9223372036854775808<=i+1/\i+1<=9223372036854775807) /\
    Zfv f cs z r n (i+1) (Zae dq))) /\
  (¬(i<n)->Weak (AV.vnil) dq)) :
 Zfv f cs z r n i (Zae dq):=by
 unfold Zfv
 rcases xq H with ⟨d2,H⟩|⟨d2,H⟩
 ·obtain ⟨k4,H⟩:=H
  have w5:(List.map Bx.a cs).length=cs.length:=List.length_map ..
  have i6:(decide (i.toNat<(List.map Bx.a cs).length))=true ↔ (i.toNat<cs.length):=(by (try rw [w5]);all_goals exact Zab)
  obtain ⟨k7,k8,H⟩:=H
  have w9:wi ((cs.getD i.toNat default).top+1000)=(cs.getD i.toNat default).top+1000:=wI64 k8
  have i10:(decide (wi ((cs.getD i.toNat default).top+1000)>z))=true ↔ ((cs.getD i.toNat default).top+1000>z):=(by (try rw [w9]);all_goals exact Zab)
  refine Zac (G:=Zad kp31 [(4,1,.elem ((zNqP3 cs i)))] []) 11 [true] ⟨(atC (cd Try.f31) [1,1,0,1,0,0,1,1,0,0,1,1]),[(1,vi z),(2,vi r),(7,AV.vnil),(9,AV.ptr 0 0 0 0),(11,AV.vec f 5 (List.map Bx.a cs)),(12,vi n),(13,vi i),(21,vb (decide (wi ((cs.getD i.toNat default).top+1000)>z)))],[⟨[(zNqP3 cs i)],5,0,false,false⟩],_,[((List.map Bx.a cs).get?Internal i.toNat=some ((zNqP3 cs i)))],_⟩ (by kernel_rfl) (bc (Zal (Zab.2 d2)) (bc (Zab.2 k4) (bc (i6.2 k7) (bc rfl (bc rfl b0))))) (qc (Zai k7) q0) c0 ?_
  rcases xq H with ⟨d11,H⟩|⟨d11,H⟩
  ·obtain ⟨k12,H⟩:=H
   have w13:wi ((cs.getD i.toNat default).x0-r)=(cs.getD i.toNat default).x0-r:=wI64 k12
   obtain ⟨k14,H⟩:=H
   have w15:wi ((cs.getD i.toNat default).y0-r)=(cs.getD i.toNat default).y0-r:=wI64 k14
   obtain ⟨k16,H⟩:=H
   have w17:wi ((cs.getD i.toNat default).x1+r)=(cs.getD i.toNat default).x1+r:=wI64 k16
   obtain ⟨k18,H⟩:=H
   have w19:wi ((cs.getD i.toNat default).y1+r)=(cs.getD i.toNat default).y1+r:=wI64 k18
   obtain ⟨k20,H⟩:=H
   have w21:wi (i+1)=i+1:=wI64 k20
   have w22:[ag [vi ((cs.getD i.toNat default).x0-r),vi ((cs.getD i.toNat default).y0-r),vi ((cs.getD i.toNat default).x1+r),vi ((cs.getD i.toNat default).y1+r),vi (cs.getD i.toNat default).top]]=List.map Bx.a [{ x0:=(cs.getD i.toNat default).x0-r,y0:=(cs.getD i.toNat default).y0-r,x1:=(cs.getD i.toNat default).x1+r,y1:=(cs.getD i.toNat default).y1+r,top:=(cs.getD i.toNat default).top }]:=rfl
   exact Zac (G:=Zad kp31 [] []) 1000 [true] ⟨(atC (cd Try.f31) [1,1,0,1,0,0]),[(1,vi z),(2,vi r),(7,AV.row 1 0),(11,AV.vec f 5 (List.map Bx.a cs)),(12,vi n),(13,vi (wi (i+1)))],[⟨[(zNqP3 cs i)],5,0,false,false⟩,⟨[ag [vi (wi ((cs.getD i.toNat default).x0-r)),vi (wi ((cs.getD i.toNat default).y0-r)),vi (wi ((cs.getD i.toNat default).x1+r)),vi (wi ((cs.getD i.toNat default).y1+r)),vi (cs.getD i.toNat default).top]],5,0,false,true⟩],_,[],_⟩ (by kernel_rfl) (bc (Zal (i10.2 d11)) (bc rfl (bc rfl (bc rfl (bc rfl (bc rfl (bc rfl b0))))))) q0 c0 (by (try rw [w13]);(try rw [w15]);(try rw [w17]);(try rw [w19]);(try rw [w21]);(try rw [w22]);all_goals exact Zas [1] (by kernel_rfl) H)
  ·obtain ⟨k23,H⟩:=H
   have w24:wi (i+1)=i+1:=wI64 k23
   exact Zac (G:=Zad kp31 [] []) 1000 [false] ⟨(atC (cd Try.f31) [1,1,0,1,0,0]),[(1,vi z),(2,vi r),(7,AV.vnil),(11,AV.vec f 5 (List.map Bx.a cs)),(12,vi n),(13,vi (wi (i+1)))],[⟨[(zNqP3 cs i)],5,0,false,false⟩],_,[],_⟩ (by kernel_rfl) (bc (Zak (fun h=>d11 (i10.1 h))) b0) q0 c0 (by (try rw [w24]);all_goals exact Zas [] (by kernel_rfl) H)
 ·exact Zao (G:=Zad kp31 [] []) 1000 [false] (AV.vnil) (by kernel_rfl) (bc (Zak (fun h=>d2 (Zab.1 h))) b0) q0 c0 H
noncomputable abbrev zNqP4 (cs:List Bx) (i:Int):=ag [vi (cs.getD i.toNat default).x0,vi (cs.getD i.toNat default).y0,vi (cs.getD i.toNat default).x1,vi (cs.getD i.toNat default).y1,vi (cs.getD i.toNat default).top]
theorem qBlL (f:Bool) (cs gs:List Bx) (v:Nat) (z r n i:Int)  (dq:AV) (H :
  ((i<n)->(0<=i) /\
   (i.toNat<cs.length) /\
   (-9223372036854775808<=(cs.getD i.toNat default).top+1000/\(cs.getD i.toNat default).top+1000<=9223372036854775807) /\
   (((cs.getD i.toNat default).top+1000>z)->(-9223372036854775808<=(cs.getD i.toNat default).x0-r/\(cs.getD i.toNat default).x0-r<=9223372036854775807) /\
    (-9223372036854775808<=(cs.getD i.toNat default).y0-r/\(cs.getD i.toNat default).y0-r<=9223372036854775807) /\
    (-9223372036854775808<=(cs.getD i.toNat default).x1+r/\(cs.getD i.toNat default).x1+r<=9223372036854775807) /\
    (-9223372036854775808<=(cs.getD i.toNat default).y1+r/\(cs.getD i.toNat default).y1+r<=9223372036854775807) /\
    ((gs.length+1)*40<=1099511627776) /\
    (-9223372036854775808<=i+1/\i+1<=9223372036854775807) /\
    Zen f cs (gs++[{ x0:=(cs.getD i.toNat default).x0-r,y0:=(cs.getD i.toNat default).y0-r,x1:=(cs.getD i.toNat default).x1+r,y1:=(cs.getD i.toNat default).y1+r,top:=(cs.getD i.toNat default).top }]) (v+1) z r n (i+1) (Zae dq)) /\
   (¬((cs.getD i.toNat default).top+1000>z)->(-9223372036854775808<=i+1/\i+1<=9223372036854775807) /\
    Zen f cs gs v z r n (i+1) (Zae dq))) /\
  (¬(i<n)->Weak (AV.vec false 5 (List.map Bx.a gs)) dq)) :
 Zen f cs gs v z r n i (Zae dq):=by
 unfold Zen
 rcases xq H with ⟨d2,H⟩|⟨d2,H⟩
 ·obtain ⟨k4,H⟩:=H
  have w5:(List.map Bx.a cs).length=cs.length:=List.length_map ..
  have i6:(decide (i.toNat<(List.map Bx.a cs).length))=true ↔ (i.toNat<cs.length):=(by (try rw [w5]);all_goals exact Zab)
  obtain ⟨k7,k8,H⟩:=H
  have w9:wi ((cs.getD i.toNat default).top+1000)=(cs.getD i.toNat default).top+1000:=wI64 k8
  have i10:(decide (wi ((cs.getD i.toNat default).top+1000)>z))=true ↔ ((cs.getD i.toNat default).top+1000>z):=(by (try rw [w9]);all_goals exact Zab)
  refine Zac (G:=Zad kp31 [(4,1,.elem ((zNqP4 cs i)))] []) 11 [true] ⟨(atC (cd Try.f31) [1,1,0,1,0,0,1,1,0,0,1,1]),[(1,vi z),(2,vi r),(7,AV.row 0 v),(9,AV.ptr 1 0 0 0),(11,AV.vec f 5 (List.map Bx.a cs)),(12,vi n),(13,vi i),(21,vb (decide (wi ((cs.getD i.toNat default).top+1000)>z)))],[⟨List.map Bx.a gs,5,v,false,true⟩,⟨[(zNqP4 cs i)],5,0,false,false⟩],_,[((List.map Bx.a cs).get?Internal i.toNat=some ((zNqP4 cs i)))],_⟩ (by kernel_rfl) (bc (Zal (Zab.2 d2)) (bc (Zab.2 k4) (bc (i6.2 k7) (bc rfl (bc rfl b0))))) (qc (Zai k7) q0) c0 ?_
  rcases xq H with ⟨d11,H⟩|⟨d11,H⟩
  ·have w12:(List.map Bx.a gs).length=gs.length:=List.length_map ..
   obtain ⟨k13,H⟩:=H
   have w14:wi ((cs.getD i.toNat default).x0-r)=(cs.getD i.toNat default).x0-r:=wI64 k13
   obtain ⟨k15,H⟩:=H
   have w16:wi ((cs.getD i.toNat default).y0-r)=(cs.getD i.toNat default).y0-r:=wI64 k15
   obtain ⟨k17,H⟩:=H
   have w18:wi ((cs.getD i.toNat default).x1+r)=(cs.getD i.toNat default).x1+r:=wI64 k17
   obtain ⟨k19,H⟩:=H
   have w20:wi ((cs.getD i.toNat default).y1+r)=(cs.getD i.toNat default).y1+r:=wI64 k19
   have i21:(decide (((List.map Bx.a gs).length+1)*40<=1099511627776))=true ↔ ((gs.length+1)*40<=1099511627776):=(by (try rw [w12]);(try rw [w14]);(try rw [w16]);(try rw [w18]);(try rw [w20]);all_goals exact Zab)
   obtain ⟨k22,H⟩:=H
   have w23:List.map Bx.a gs++[ag [vi ((cs.getD i.toNat default).x0-r),vi ((cs.getD i.toNat default).y0-r),vi ((cs.getD i.toNat default).x1+r),vi ((cs.getD i.toNat default).y1+r),vi (cs.getD i.toNat default).top]]=List.map Bx.a (gs++[{ x0:=(cs.getD i.toNat default).x0-r,y0:=(cs.getD i.toNat default).y0-r,x1:=(cs.getD i.toNat default).x1+r,y1:=(cs.getD i.toNat default).y1+r,top:=(cs.getD i.toNat default).top }]):=(ZcO rfl rfl)
   obtain ⟨k24,H⟩:=H
   have w25:wi (i+1)=i+1:=wI64 k24
   exact Zac (G:=Zad kp31 [] []) 1000 [true] ⟨(atC (cd Try.f31) [1,1,0,1,0,0]),[(1,vi z),(2,vi r),(7,AV.row 0 (v+1)),(11,AV.vec f 5 (List.map Bx.a cs)),(12,vi n),(13,vi (wi (i+1)))],[⟨List.map Bx.a gs++[ag [vi (wi ((cs.getD i.toNat default).x0-r)),vi (wi ((cs.getD i.toNat default).y0-r)),vi (wi ((cs.getD i.toNat default).x1+r)),vi (wi ((cs.getD i.toNat default).y1+r)),vi (cs.getD i.toNat default).top]],5,v+1,false,true⟩,⟨[(zNqP4 cs i)],5,0,false,false⟩],[(decide (wi ((cs.getD i.toNat default).top+1000)>z))==true,true,true,true,true,true,v==v,decide (((List.map Bx.a gs).length+1)*40<=1099511627776)],[],_⟩ (by kernel_rfl) (bc (Zal (i10.2 d11)) (bc rfl (bc rfl (bc rfl (bc rfl (bc rfl (bc (beq_self_eq_true _) (bc (i21.2 k22) b0)))))))) q0 c0 (by (try rw [w14]);(try rw [w16]);(try rw [w18]);(try rw [w20]);(try rw [w23]);(try rw [w25]);all_goals exact Zas [0] (by kernel_rfl) H)
  ·obtain ⟨k26,H⟩:=H
   have w27:wi (i+1)=i+1:=wI64 k26
   exact Zac (G:=Zad kp31 [] []) 1000 [false] ⟨(atC (cd Try.f31) [1,1,0,1,0,0]),[(1,vi z),(2,vi r),(7,AV.row 0 v),(11,AV.vec f 5 (List.map Bx.a cs)),(12,vi n),(13,vi (wi (i+1)))],[⟨List.map Bx.a gs,5,v,false,true⟩,⟨[(zNqP4 cs i)],5,0,false,false⟩],_,[],_⟩ (by kernel_rfl) (bc (Zak (fun h=>d11 (i10.1 h))) b0) q0 c0 (by (try rw [w27]);all_goals exact Zas [0] (by kernel_rfl) H)
 ·exact Zbm (G:=Zad kp31 [] []) 1000 [false] (k:=((atC (cd Try.f31) [1,1,1,1])).tail) (env':=[(6,AV.row 0 v)]) (L':=[⟨List.map Bx.a gs,5,v,false,true⟩]) (asm:=[(decide (i<n))==false]) (eqs:=[]) (calls:=[]) (AV.row 0 v) (by kernel_rfl) (by kernel_rfl) (Zag (Zak (fun h=>d2 (Zab.1 h))) Zax) ZaN ZaO (ZcF (d:=(AV.vec false 5 (List.map Bx.a gs))) (bs:=[v==v]) (by kernel_rfl) (by kernel_rfl) (Zag (beq_self_eq_true _) Zax) (by kernel_rfl) H)
theorem qBen   (dq:AV) (H :
  Weak (ag [vi 0,vi 0,vi 40000,vi 30000,vi 5000,vi 0,AV.vec true 5 [ag [vi 10000,vi 0,vi 20000,vi 5000,vi 8000]],vi 20000]) dq) :
 qBen_at  (Zae dq):=by
 unfold qBen_at
 exact Zao (G:=Zad kp30 [] []) 1000 [] (ag [vi 0,vi 0,vi 40000,vi 30000,vi 5000,vi 0,AV.vec true 5 [ag [vi 10000,vi 0,vi 20000,vi 5000,vi 8000]],vi 20000]) (by kernel_rfl) (bc rfl b0) q0 c0 H
end Go.Av

namespace Go.Av
open Go.Proofs
namespace O
noncomputable def hiF (ax ay bx by_ r:Int):List Bx->Int->Bool->Int × Bool
 | [],t,fo=>(t,fo)
 | c::cs,t,fo=>if nea c.x0 c.y0 c.x1 c.y1 ax ay bx by_ r/\(¬fo=true\/c.top>t) then hiF ax ay bx by_ r cs c.top true else hiF ax ay bx by_ r cs t fo
def okHi (cs:List Bx) (ax ay bx by_ r:Int):Prop:=cs.length<=1000/\(∀ c ∈ cs,ccb c)/\cc ax/\cc ay/\cc bx/\cc by_/\cc r
def blk1 (r:Int) (c:Bx):Bx:=⟨c.x0-r,c.y0-r,c.x1+r,c.y1+r,c.top⟩
def blk (cs:List Bx) (z r:Int):List Bx:=(cs.filter fun c=>decide (c.top+1000>z)).map (blk1 r)
def okBlk (cs:List Bx) (r:Int):Prop:=cs.length<=1000/\(∀ c ∈ cs,ccb c/\cc c.top)/\cc r
def bcs:List Bx:=[⟨10000,0,20000,5000,8000⟩]
end O
theorem hi_loop {f:Bool} {cs:List Bx} {ax ay bx by_ r:Int} (h:O.okHi cs ax ay bx by_ r) (m:Nat):∀ (i:Nat) (t:Int) (fo:Bool),i+m=cs.length ->
  Zem f cs ax ay bx by_ r t fo cs.length i (Zae (.tup [.int .i64 (O.hiF ax ay bx by_ r (cs.drop i) t fo).1,.bool (O.hiF ax ay bx by_ r (cs.drop i) t fo).2])):=by
 obtain ⟨h1,h2,h3,h4,h5,h6,h7⟩:=h
 induction m with
 | zero =>
  intro i t fo e
  refine qHiL _ _ _ _ _ _ _ _ _ _ _ _ ⟨fun x=>by omega,fun _ => ?_⟩
  rw [List.drop_eq_nil_of_le (by omega)];rfl
 | succ m ih =>
  intro i t fo e
  have hi:i<cs.length:=by omega
  refine qHiL _ _ _ _ _ _ _ _ _ _ _ _ ⟨fun x => ?_,fun x=>by omega⟩
  rw [Int.toNat_natCast,show (i:Int)+1=((i+1:Nat):Int) by omega,ZaP hi]
  obtain ⟨c1,c2,c3,c4⟩:=h2 _ (ZaA hi)
  refine ⟨by omega,hi,⟨c1,c2,c3,c4,h3,h4,h5,h6,h7⟩,fun k=>⟨by omega,?_⟩,fun k=>⟨by omega,?_⟩⟩
  ·rw [O.hiF,if_pos k];exact ih (i+1) _ _ (by omega)
  ·rw [O.hiF,if_neg k];exact ih (i+1) _ _ (by omega)
theorem ev54 (f:Bool) (cs:List Bx) (u0 v0 u1 v1 th gp sf ax ay bx by_ r:Int) (h:O.okHi cs ax ay bx by_ r):Ev M1 (.pure 54 [.agg [.int .i64 u0,.int .i64 v0,.int .i64 u1,.int .i64 v1,.int .i64 th,.int .i64 gp,.vec f 5 (cs.map Bx.a),.int .i64 sf],.agg [.int .i64 ax,.int .i64 ay],.agg [.int .i64 bx,.int .i64 by_],.int .i64 r]) (.tup [.int .i64 (O.hiF ax ay bx by_ r cs 0 false).1,.bool (O.hiF ax ay bx by_ r cs 0 false).2]) []:=by
 have:=hi_loop (f:=f) h cs.length 0 0 false (by omega)
 exact call54 (qHi _ _ _ _ _ _ _ _ _ _ _ _ _ _ _ this)
theorem blk_add {cs:List Bx} {z r:Int} {i:Nat} (hi:i<cs.length) (k:(cs.getD i default).top+1000>z):O.blk (cs.drop i) z r=⟨(cs.getD i default).x0-r,(cs.getD i default).y0-r,(cs.getD i default).x1+r,(cs.getD i default).y1+r,(cs.getD i default).top⟩::O.blk (cs.drop (i+1)) z r:=by
 rw [ZaP hi];unfold O.blk;rw [List.filter_cons_of_pos (p:=fun c:Bx=>decide (c.top+1000>z)) (decide_eq_true k)];rfl
theorem blk_skip {cs:List Bx} {z r:Int} {i:Nat} (hi:i<cs.length) (k:¬(cs.getD i default).top+1000>z):O.blk (cs.drop i) z r=O.blk (cs.drop (i+1)) z r:=by
 rw [ZaP hi];unfold O.blk;rw [List.filter_cons_of_neg (by rw [decide_eq_true_iff];exact k)]
theorem blk_end {cs:List Bx} {z r:Int} {i:Nat} (hi:cs.length<=i):O.blk (cs.drop i) z r=[]:=by
 rw [List.drop_eq_nil_of_le hi];rfl
section
variable {f:Bool} {cs:List Bx} {z r:Int}
theorem bl_loop (h:O.okBlk cs r) (m:Nat):∀ (i:Nat) (gs:List Bx) (v:Nat),i+m=cs.length->gs.length<=i ->
  Zen f cs gs v z r cs.length i (Zae (.vec false 5 ((gs++O.blk (cs.drop i) z r).map Bx.a))):=by
 obtain ⟨h1,h2,h3⟩:=h
 induction m with
 | zero =>
  intro i gs v e hg
  refine qBlL _ _ _ _ _ _ _ _ _ ⟨fun x=>by omega,fun _ => ?_⟩
  rw [blk_end (by omega),List.append_nil];exact .refl _
 | succ m ih =>
  intro i gs v e hg
  have hi:i<cs.length:=by omega
  obtain ⟨⟨c1,c2,c3,c4⟩,c5⟩:=h2 _ (ZaA hi)
  unfold O.cc at c1 c2 c3 c4 c5 h3
  refine qBlL _ _ _ _ _ _ _ _ _ ⟨fun x => ?_,fun x=>by omega⟩
  rw [Int.toNat_natCast,show (i:Int)+1=((i+1:Nat):Int) by omega]
  refine ⟨by omega,hi,by omega,fun k=>⟨by omega,by omega,by omega,by omega,by omega,by omega,?_⟩,fun k=>⟨by omega,?_⟩⟩
  ·have:=ih (i+1) (gs++[⟨(cs.getD i default).x0-r,(cs.getD i default).y0-r,(cs.getD i default).x1+r,(cs.getD i default).y1+r,(cs.getD i default).top⟩]) (v+1) (by omega) (by rw [List.length_append];show gs.length+1<=_;omega)
   rw [List.append_assoc] at this
   rw [blk_add hi k];exact this
  ·rw [blk_skip hi k];exact ih (i+1) gs v (by omega) (by omega)
theorem bl_nil (h:O.okBlk cs r) (m:Nat):∀ i:Nat,i+m=cs.length ->
  Zfv f cs z r cs.length i (Zae (.vec false 5 ((O.blk (cs.drop i) z r).map Bx.a))):=by
 have hh:=h
 obtain ⟨h1,h2,h3⟩:=h
 induction m with
 | zero =>
  intro i e
  refine qBl0 _ _ _ _ _ _ _ ⟨fun x=>by omega,fun _ => ?_⟩
  rw [blk_end (by omega)];exact .vnil 5
 | succ m ih =>
  intro i e
  have hi:i<cs.length:=by omega
  obtain ⟨⟨c1,c2,c3,c4⟩,c5⟩:=h2 _ (ZaA hi)
  unfold O.cc at c1 c2 c3 c4 c5 h3
  refine qBl0 _ _ _ _ _ _ _ ⟨fun x => ?_,fun x=>by omega⟩
  rw [Int.toNat_natCast,show (i:Int)+1=((i+1:Nat):Int) by omega]
  refine ⟨by omega,hi,by omega,fun k=>⟨by omega,by omega,by omega,by omega,by omega,?_⟩,fun k=>⟨by omega,?_⟩⟩
  ·rw [blk_add hi k]
   exact bl_loop hh m (i+1) [_] 0 (by omega) (by show 1<=_;omega)
  ·rw [blk_skip hi k];exact ih (i+1) (by omega)
variable {u0 v0 u1 v1 th gp sf:Int}
end
theorem ev31 (f:Bool) (cs:List Bx) (u0 v0 u1 v1 th gp sf z r:Int) (h:O.okBlk cs r):Ev M1 (.pure 31 [.agg [.int .i64 u0,.int .i64 v0,.int .i64 u1,.int .i64 v1,.int .i64 th,.int .i64 gp,.vec f 5 (cs.map Bx.a),.int .i64 sf],.int .i64 z,.int .i64 r]) (.vec false 5 ((O.blk cs z r).map Bx.a)) []:=
 call31 (qBl _ _ _ _ _ _ _ _ _ _ _ _ (bl_nil h cs.length 0 (by omega)))
theorem ev30:Ev M1 (.pure 30 []) (.agg [.int .i64 0,.int .i64 0,.int .i64 40000,.int .i64 30000,.int .i64 5000,.int .i64 0,.vec true 5 (O.bcs.map Bx.a),.int .i64 20000]) []:=
 call30 (qBen _ (.refl _))
end Go.Av

namespace Go.Av
open Go.Proofs
set_option maxRecDepth 100000
def fi22:Fi:=⟨22,[.tmp 8]⟩
def kp22:List (Nat × List Nat):=[(0,[3,4,5,6]),(1,[9]),(2,[8])]
def qHgt_at (f:Bool) (cs:List Bx) (u0 v0 u1 v1 th gp sf:Int) (ax ay bx by_ r:Int) (Q:AV->Heap->Prop):Prop:=Wp M1 (.run fi22 (atC (cd Try.f22) []) [(0,.agg [.int .i64 u0,.int .i64 v0,.int .i64 u1,.int .i64 v1,.int .i64 th,.int .i64 gp,.vec f 5 (cs.map Bx.a),.int .i64 sf]),(1,.agg [.int .i64 ax,.int .i64 ay]),(2,.agg [.int .i64 bx,.int .i64 by_]),(3,.int .i64 r)] []) Q
theorem call22 {args:List AV} {d:AV} (h:wc M1 fi22 Try.f22 args d):Ev M1 (.pure 22 args) d []:=pcl _ _ (by kernel_rfl) h
theorem qHgt (f:Bool) (cs:List Bx) (u0 v0 u1 v1 th gp sf:Int) (ax ay bx by_ r:Int)  (dq:AV) (H :
  (O.okHi cs ax ay bx by_ r) /\
  (-9223372036854775808<=(1000+if (O.hiF ax ay bx by_ r cs 0 false).fst>0 then (O.hiF ax ay bx by_ r cs 0 false).fst else 0)/\(1000+if (O.hiF ax ay bx by_ r cs 0 false).fst>0 then (O.hiF ax ay bx by_ r cs 0 false).fst else 0)<=9223372036854775807) /\
  vi (1000+if (O.hiF ax ay bx by_ r cs 0 false).fst>0 then (O.hiF ax ay bx by_ r cs 0 false).fst else 0)=dq) :
 qHgt_at f cs u0 v0 u1 v1 th gp sf ax ay bx by_ r (Zae dq):=by
 unfold qHgt_at
 obtain ⟨k1,k2,H⟩:=H
 have w3:wi (1000+if (O.hiF ax ay bx by_ r cs 0 false).fst>0 then (O.hiF ax ay bx by_ r cs 0 false).fst else 0)=1000+if (O.hiF ax ay bx by_ r cs 0 false).fst>0 then (O.hiF ax ay bx by_ r cs 0 false).fst else 0:=wI64 k2
 exact Zah (G:=Zad kp22 [(1,4,.call (tu [vi (O.hiF ax ay bx by_ r cs 0 false).fst,vb (O.hiF ax ay bx by_ r cs 0 false).2]) none)] []) 1000 [] (vi (wi (1000+if (O.hiF ax ay bx by_ r cs 0 false).fst>0 then (O.hiF ax ay bx by_ r cs 0 false).fst else 0))) (by kernel_rfl) (bc rfl (bc rfl (bc rfl b0))) q0 (ce (@ev54 f cs u0 v0 u1 v1 th gp sf ax ay bx by_ r k1) c0) (by (try rw [w3]);all_goals exact H)
end Go.Av

namespace Go.Av
open Go.Proofs
noncomputable def O.hgt (cs:List Bx) (ax ay bx by_ r:Int):Int:=1000+if (O.hiF ax ay bx by_ r cs 0 false).fst>0 then (O.hiF ax ay bx by_ r cs 0 false).fst else 0
def O.okHg (cs:List Bx) (ax ay bx by_ r:Int):Prop:=O.okHi cs ax ay bx by_ r /\ ∀ c ∈ cs,c.top<=1000000000
theorem hiF_le {ax ay bx by_ r:Int}:∀ (cs:List Bx) (t:Int) (fo:Bool),t<=1000000000->(∀ c ∈ cs,c.top<=1000000000)->(O.hiF ax ay bx by_ r cs t fo).1<=1000000000:=by
 intro cs
 induction cs with
 | nil=>intro t fo h _;exact h
 | cons c cs ih =>
  intro t fo h h2
  rw [O.hiF]
  split
  ·exact ih _ _ (h2 c (.head _)) fun d hd=>h2 d (.tail _ hd)
  ·exact ih _ _ h fun d hd=>h2 d (.tail _ hd)
theorem hgt_bd {cs:List Bx} {ax ay bx by_ r:Int} (h:O.okHg cs ax ay bx by_ r):1000<=O.hgt cs ax ay bx by_ r/\O.hgt cs ax ay bx by_ r<=1000001000:=by
 have:=hiF_le (ax:=ax) (ay:=ay) (bx:=bx) (by_:=by_) (r:=r) cs 0 false (by omega) h.2
 unfold O.hgt
 split <;> omega
theorem ev22 (f:Bool) (cs:List Bx) (u0 v0 u1 v1 th gp sf ax ay bx by_ r:Int) (h:O.okHg cs ax ay bx by_ r):Ev M1 (.pure 22 [.agg [.int .i64 u0,.int .i64 v0,.int .i64 u1,.int .i64 v1,.int .i64 th,.int .i64 gp,.vec f 5 (cs.map Bx.a),.int .i64 sf],.agg [.int .i64 ax,.int .i64 ay],.agg [.int .i64 bx,.int .i64 by_],.int .i64 r]) (.int .i64 (O.hgt cs ax ay bx by_ r)) []:=by
 have b:=hgt_bd h
 exact call22 (qHgt _ _ _ _ _ _ _ _ _ _ _ _ _ _ _ ⟨h.1,by show _<=O.hgt cs ax ay bx by_ r/\O.hgt cs ax ay bx by_ r<=_;omega,rfl⟩)
end Go.Av

namespace Go.Av
open Go.Proofs
set_option maxRecDepth 100000
def fi8:Fi:=⟨43,[.tmp 0]⟩
def kp8:List (Nat × List Nat):=[(0,[]),(1,[1]),(2,[1,2,3]),(3,[0])]
def qAw_at  (Q:AV->Heap->Prop):Prop:=Wp M1 (.run fi8 (atC (cd Try.f8) []) [] []) Q
theorem call8 {args:List AV} {d:AV} (h:wc M1 fi8 Try.f8 args d):Ev M1 (.pure 8 args) d []:=pcl _ _ (by kernel_rfl) h
noncomputable abbrev zNqR1:=ag [vi 30000,vi 1000]
noncomputable abbrev zNqR2:=ag [vi 0,vi 1000]
noncomputable abbrev zNqR3:=ag [vi 30000,vi 9000]
noncomputable abbrev zNqR4:=ag [vi 0,vi 9000]
noncomputable abbrev zNqR5:=ag [vi 10000,vi 0,vi 20000,vi 5000,vi 8000]
noncomputable abbrev zNqR6:=ag [vi 30000,vi 0]
noncomputable abbrev zNqR7:=ag [vi 0,vi 0]
theorem qAw   (dq:AV) (H :
  (O.okBlk O.bcs 0) /\
  ((O.blk O.bcs 5000 0).length<=100) /\
  (O.okHg O.bcs 0 0 30000 0 3000) /\
  ((O.hgt O.bcs 0 0 30000 0 3000=9000)->(O.okHg O.bcs 0 9000 30000 9000 3000)) /\
  ((((O.hgt O.bcs 0 0 30000 0 3000=9000)/\(O.hgt O.bcs 0 9000 30000 9000 3000=1000))/\(O.arE (O.blk O.bcs 5000 0) { x:=0,y:=1000 } { x:=30000,y:=1000 } = 0))->(O.okG (O.arP false (O.blk O.bcs 5000 0) { x:=0,y:=1000 } { x:=30000,y:=1000 }))) /\
  (((((O.hgt O.bcs 0 0 30000 0 3000=9000)/\(O.hgt O.bcs 0 9000 30000 9000 3000=1000))/\(O.arE (O.blk O.bcs 5000 0) { x:=0,y:=1000 } { x:=30000,y:=1000 } = 0))/\(O.ZbJ (O.arP false (O.blk O.bcs 5000 0) { x:=0,y:=1000 } { x:=30000,y:=1000 })=30000))->(O.cc8 10000 0 20000 5000 0 1000 30000 1000)) /\
  vb (bif bif bif bif O.hgt O.bcs 0 0 30000 0 3000==9000 then O.hgt O.bcs 0 9000 30000 9000 3000==1000 else false then O.arE (O.blk O.bcs 5000 0) { x:=0,y:=1000 } { x:=30000,y:=1000 } == 0 else false then O.ZbJ (O.arP false (O.blk O.bcs 5000 0) { x:=0,y:=1000 } { x:=30000,y:=1000 })==30000 else false then true else false)=dq) :
 qAw_at  (Zae dq):=by
 unfold qAw_at
 obtain ⟨k1,k2,k3,k7,k9,k13,H⟩:=H
 exact Zah (G:=Zad kp8 [(1,0,.call (ag [vi 0,vi 0,vi 40000,vi 30000,vi 5000,vi 0,AV.vec true 5 (List.map Bx.a O.bcs),vi 20000]) none),(2,1,.call (AV.vec false 5 (List.map Bx.a (O.blk O.bcs 5000 0))) none),(2,2,.call zNqR2 none),(2,3,.call zNqR1 none),(2,4,.call (tu [AV.vec false 2 (List.map Gp.a (O.arP false (O.blk O.bcs 5000 0) { x:=0,y:=1000 } { x:=30000,y:=1000 })),vi (O.arE (O.blk O.bcs 5000 0) { x:=0,y:=1000 } { x:=30000,y:=1000 })]) none),(3,1,.call zNqR7 none),(3,2,.call zNqR6 none),(3,3,.call (vi (O.hgt O.bcs 0 0 30000 0 3000)) none),(3,7,.call zNqR4 none),(3,8,.call zNqR3 none),(3,9,.call (vi (O.hgt O.bcs 0 9000 30000 9000 3000)) none),(3,18,.call (vi (O.ZbJ (O.arP false (O.blk O.bcs 5000 0) { x:=0,y:=1000 } { x:=30000,y:=1000 }))) none),(3,26,.call zNqR2 none),(3,27,.call zNqR1 none),(3,28,.call (vb true) none)] []) 1000 [] (asm:=[true,true,true,!((O.hgt O.bcs 0 0 30000 0 3000==9000)==true&&true)||true,!((bif bif bif O.hgt O.bcs 0 0 30000 0 3000==9000 then O.hgt O.bcs 0 9000 30000 9000 3000==1000 else false then O.arE (O.blk O.bcs 5000 0) { x:=0,y:=1000 } { x:=30000,y:=1000 } == 0 else false then O.ZbJ (O.arP false (O.blk O.bcs 5000 0) { x:=0,y:=1000 } { x:=30000,y:=1000 })==30000 else false)==true&&true)||true,!((bif bif bif O.hgt O.bcs 0 0 30000 0 3000==9000 then O.hgt O.bcs 0 9000 30000 9000 3000==1000 else false then O.arE (O.blk O.bcs 5000 0) { x:=0,y:=1000 } { x:=30000,y:=1000 } == 0 else false then O.ZbJ (O.arP false (O.blk O.bcs 5000 0) { x:=0,y:=1000 } { x:=30000,y:=1000 })==30000 else false)==true&&true)||true,!((bif bif bif O.hgt O.bcs 0 0 30000 0 3000==9000 then O.hgt O.bcs 0 9000 30000 9000 3000==1000 else false then O.arE (O.blk O.bcs 5000 0) { x:=0,y:=1000 } { x:=30000,y:=1000 } == 0 else false then O.ZbJ (O.arP false (O.blk O.bcs 5000 0) { x:=0,y:=1000 } { x:=30000,y:=1000 })==30000 else false)==true&&true)||true]) (calls:=[⟨true,false,30,[],[],ag [vi 0,vi 0,vi 40000,vi 30000,vi 5000,vi 0,AV.vec true 5 (List.map Bx.a O.bcs),vi 20000],[]⟩,⟨true,false,31,[ag [vi 0,vi 0,vi 40000,vi 30000,vi 5000,vi 0,AV.vec true 5 (List.map Bx.a O.bcs),vi 20000],vi 5000,vi 0],[],AV.vec false 5 (List.map Bx.a (O.blk O.bcs 5000 0)),[]⟩,⟨true,false,23,[vi 0,vi 1000],[],zNqR2,[]⟩,⟨true,false,23,[vi 30000,vi 1000],[],zNqR1,[]⟩,⟨true,false,11,[AV.vec false 5 (List.map Bx.a (O.blk O.bcs 5000 0)),zNqR2,zNqR1],[],tu [AV.vec false 2 (List.map Gp.a (O.arP false (O.blk O.bcs 5000 0) { x:=0,y:=1000 } { x:=30000,y:=1000 })),vi (O.arE (O.blk O.bcs 5000 0) { x:=0,y:=1000 } { x:=30000,y:=1000 })],[]⟩,⟨true,false,23,[vi 0,vi 0],[],zNqR7,[]⟩,⟨true,false,23,[vi 30000,vi 0],[],zNqR6,[]⟩,⟨true,false,22,[ag [vi 0,vi 0,vi 40000,vi 30000,vi 5000,vi 0,AV.vec true 5 (List.map Bx.a O.bcs),vi 20000],zNqR7,zNqR6,vi 3000],[],vi (O.hgt O.bcs 0 0 30000 0 3000),[]⟩,⟨(O.hgt O.bcs 0 0 30000 0 3000==9000)==true&&true&&true,false,23,[vi 0,vi 9000],[],zNqR4,[]⟩,⟨(O.hgt O.bcs 0 0 30000 0 3000==9000)==true&&true&&true,false,23,[vi 30000,vi 9000],[],zNqR3,[]⟩,⟨(O.hgt O.bcs 0 0 30000 0 3000==9000)==true&&true&&true,false,22,[ag [vi 0,vi 0,vi 40000,vi 30000,vi 5000,vi 0,AV.vec true 5 (List.map Bx.a O.bcs),vi 20000],zNqR4,zNqR3,vi 3000],[],vi (O.hgt O.bcs 0 9000 30000 9000 3000),[]⟩,⟨(bif bif O.hgt O.bcs 0 0 30000 0 3000==9000 then O.hgt O.bcs 0 9000 30000 9000 3000==1000 else false then O.arE (O.blk O.bcs 5000 0) { x:=0,y:=1000 } { x:=30000,y:=1000 } == 0 else false)==true&&true&&true,false,18,[AV.vec false 2 (List.map Gp.a (O.arP false (O.blk O.bcs 5000 0) { x:=0,y:=1000 } { x:=30000,y:=1000 }))],[],vi (O.ZbJ (O.arP false (O.blk O.bcs 5000 0) { x:=0,y:=1000 } { x:=30000,y:=1000 })),[]⟩,⟨(bif bif bif O.hgt O.bcs 0 0 30000 0 3000==9000 then O.hgt O.bcs 0 9000 30000 9000 3000==1000 else false then O.arE (O.blk O.bcs 5000 0) { x:=0,y:=1000 } { x:=30000,y:=1000 } == 0 else false then O.ZbJ (O.arP false (O.blk O.bcs 5000 0) { x:=0,y:=1000 } { x:=30000,y:=1000 })==30000 else false)==true&&true&&true,false,23,[vi 0,vi 1000],[],zNqR2,[]⟩,⟨(bif bif bif O.hgt O.bcs 0 0 30000 0 3000==9000 then O.hgt O.bcs 0 9000 30000 9000 3000==1000 else false then O.arE (O.blk O.bcs 5000 0) { x:=0,y:=1000 } { x:=30000,y:=1000 } == 0 else false then O.ZbJ (O.arP false (O.blk O.bcs 5000 0) { x:=0,y:=1000 } { x:=30000,y:=1000 })==30000 else false)==true&&true&&true,false,23,[vi 30000,vi 1000],[],zNqR1,[]⟩,⟨(bif bif bif O.hgt O.bcs 0 0 30000 0 3000==9000 then O.hgt O.bcs 0 9000 30000 9000 3000==1000 else false then O.arE (O.blk O.bcs 5000 0) { x:=0,y:=1000 } { x:=30000,y:=1000 } == 0 else false then O.ZbJ (O.arP false (O.blk O.bcs 5000 0) { x:=0,y:=1000 } { x:=30000,y:=1000 })==30000 else false)==true&&true&&true,false,9,[zNqR5,zNqR2,zNqR1],[],vb true,[]⟩]) (vb (bif bif bif bif O.hgt O.bcs 0 0 30000 0 3000==9000 then O.hgt O.bcs 0 9000 30000 9000 3000==1000 else false then O.arE (O.blk O.bcs 5000 0) { x:=0,y:=1000 } { x:=30000,y:=1000 } == 0 else false then O.ZbJ (O.arP false (O.blk O.bcs 5000 0) { x:=0,y:=1000 } { x:=30000,y:=1000 })==30000 else false then true else false)) (by kernel_rfl) (bc rfl (bc rfl (bc rfl (bc (Bool.or_true _) (bc (Bool.or_true _) (bc (Bool.or_true _) (bc (Bool.or_true _) b0))))))) q0 (cc (fun _=>(@ev30 )) (cc (fun _=>(@ev31 true (O.bcs) 0 0 40000 30000 5000 0 20000 5000 0 k1)) (cc (fun _=>(@ev23 0 1000)) (cc (fun _=>(@ev23 30000 1000)) (cc (fun _=>(@ev11 false (O.blk O.bcs 5000 0) 0 1000 30000 1000 k2)) (cc (fun _=>(@ev23 0 0)) (cc (fun _=>(@ev23 30000 0)) (cc (fun _=>(@ev22 true (O.bcs) 0 0 40000 30000 5000 0 20000 0 0 30000 0 3000 k3)) (cc (fun hc=>((@ev23 0 9000):Ev M1 (Conf.pure 23 [vi 0,vi 9000]) zNqR4 [])) (cc (fun hc=>((@ev23 30000 9000):Ev M1 (Conf.pure 23 [vi 30000,vi 9000]) zNqR3 [])) (cc (fun hc=>((@ev22 true (O.bcs) 0 0 40000 30000 5000 0 20000 0 9000 30000 9000 3000 (k7 ((i_at (i_at (i_bt i_eq))).1 hc))):Ev M1 (Conf.pure 22 [ag [vi 0,vi 0,vi 40000,vi 30000,vi 5000,vi 0,AV.vec true 5 (List.map Bx.a O.bcs),vi 20000],zNqR4,zNqR3,vi 3000]) (vi (O.hgt O.bcs 0 9000 30000 9000 3000)) [])) (cc (fun hc=>((@ev18 false (O.arP false (O.blk O.bcs 5000 0) { x:=0,y:=1000 } { x:=30000,y:=1000 }) (k9 ((i_at (i_at (i_bt (ZaM (ZaM i_eq i_eq) i_eq)))).1 hc))):Ev M1 (Conf.pure 18 [AV.vec false 2 (List.map Gp.a (O.arP false (O.blk O.bcs 5000 0) { x:=0,y:=1000 } { x:=30000,y:=1000 }))]) (vi (O.ZbJ (O.arP false (O.blk O.bcs 5000 0) { x:=0,y:=1000 } { x:=30000,y:=1000 }))) [])) (cc (fun hc=>((@ev23 0 1000):Ev M1 (Conf.pure 23 [vi 0,vi 1000]) zNqR2 [])) (cc (fun hc=>((@ev23 30000 1000):Ev M1 (Conf.pure 23 [vi 30000,vi 1000]) zNqR1 [])) (cc (fun hc=>((@ev9 10000 0 20000 5000 8000 0 1000 30000 1000 (k13 ((i_at (i_at (i_bt (ZaM (ZaM (ZaM i_eq i_eq) i_eq) i_eq)))).1 hc))):Ev M1 (Conf.pure 9 [zNqR5,zNqR2,zNqR1]) (vb true) [])) c0))))))))))))))) H
end Go.Av

namespace Go.Av
open Go.Proofs
theorem ent_self {c:Bx} {p:Gp}:O.Zge c p p=true ↔ O.Zgi c.x0 c.y0 c.x1 c.y1 p.x p.y:=by
 unfold O.Zge;rw [ent_ref];unfold O.refP;rw [if_pos ⟨rfl,rfl⟩]
theorem free_self {bs:List Bx} {p:Gp}:O.Zbz bs p p ↔ ∀ c ∈ bs,¬O.Zgi c.x0 c.y0 c.x1 c.y1 p.x p.y:=by
 unfold O.Zbz
 constructor
 ·intro h c hc k;exact absurd ((h c hc).symm.trans (ent_self.2 k)) (by decide)
 ·intro h c hc
  cases v:O.Zge c p p with
  | false=>rfl
  | true=>exact absurd (ent_self.1 v) (h c hc)
theorem bxC_iff {bs:List Bx} {a b:Gp}:(∃ c ∈ bs,O.bxC a b c) ↔ ¬O.Zbz bs a a\/¬O.Zbz bs b b:=by
 rw [free_self,free_self]
 constructor
 ·rintro ⟨c,hc,k | k⟩
  ·exact .inl fun h=>h c hc k
  ·exact .inr fun h=>h c hc k
 ·rintro (h | h)
  ·apply Classical.byContradiction;intro n;exact h fun c hc k=>n ⟨c,hc,.inl k⟩
  ·apply Classical.byContradiction;intro n;exact h fun c hc k=>n ⟨c,hc,.inr k⟩
open Classical in
theorem ar_er (bs:List Bx) (a b:Gp):O.arE bs a b=if O.erI bs a b=0 then (if a=b then 0 else if O.lnk bs (O.ZcP bs a b) then 0 else 16) else O.erI bs a b:=by
 unfold O.arE O.erI
 by_cases h1:∃ c ∈ bs,O.bxI c
 ·rw [if_pos h1,if_pos h1,if_neg (by decide)]
 ·rw [if_neg h1,if_neg h1]
  by_cases h2:bs.length>8
  ·rw [if_pos h2,if_pos h2,if_neg (by decide)]
  ·rw [if_neg h2,if_neg h2]
   by_cases h3:O.fr4 a.x a.y b.x b.y
   ·rw [if_pos (.inl h3),if_pos h3,if_neg (by decide)]
   ·rw [if_neg h3]
    by_cases h4:∃ c ∈ bs,O.bxF c
    ·rw [if_pos (.inr h4),if_pos h4,if_neg (by decide)]
    ·rw [if_neg (not_or.2 ⟨h3,h4⟩),if_neg h4]
     by_cases h5:∃ c ∈ bs,O.bxC a b c
     ·rw [if_pos (bxC_iff.1 h5),if_pos h5,if_neg (by decide)]
     ·rw [if_neg fun x=>h5 (bxC_iff.2 x),if_neg h5,if_pos rfl]
structure O.Er0 (bs:List Bx) (a b:Gp):Prop where
 len:bs.length<=8
 ok:O.okB8 bs
 ca:O.ccp a
 cb:O.ccp b
 fa:O.Zbz bs a a
 fb:O.Zbz bs b b
theorem er0 {bs:List Bx} {a b:Gp} (e:O.erI bs a b=0):O.Er0 bs a b:=by
 unfold O.erI at e
 by_cases h1:∃ c ∈ bs,O.bxI c
 ·rw [if_pos h1] at e;exact absurd e (by decide)
 rw [if_neg h1] at e
 by_cases h2:bs.length>8
 ·rw [if_pos h2] at e;exact absurd e (by decide)
 rw [if_neg h2] at e
 by_cases h3:O.fr4 a.x a.y b.x b.y
 ·rw [if_pos h3] at e;exact absurd e (by decide)
 rw [if_neg h3] at e
 by_cases h4:∃ c ∈ bs,O.bxF c
 ·rw [if_pos h4] at e;exact absurd e (by decide)
 rw [if_neg h4] at e
 by_cases h5:∃ c ∈ bs,O.bxC a b c
 ·rw [if_pos h5] at e;exact absurd e (by decide)
 have f5:¬(¬O.Zbz bs a a\/¬O.Zbz bs b b):=fun x=>h5 (bxC_iff.2 x)
 unfold O.fr4 O.fr1 at h3
 refine ⟨by omega,⟨by omega,fun c hc => ?_⟩,?_,?_,Classical.not_not.1 fun x=>f5 (.inl x),Classical.not_not.1 fun x=>f5 (.inr x)⟩
 ·have:¬O.bxF c:=fun x=>h4 ⟨c,hc,x⟩
  unfold O.bxF O.fr4 O.fr1 at this
  unfold O.ccb O.cc;omega
 ·unfold O.ccp O.cc;omega
 ·unfold O.ccp O.cc;omega
structure O.ArOk (bs:List Bx) (a b:Gp) (P:List Gp):Prop where
 er:O.erI bs a b=0
 ne:P ≠ []
 head:P.getD 0 default=a
 last:P.getD (P.length-1) default=b
 mem:∀ p ∈ P,p ∈ O.Zbu bs a b
 chn:O.chn (O.Zbz bs) P
 walk:O.Wk (O.nd (O.Zbu bs a b)) (O.Zbz bs) a b (O.ZbJ P)
 least:∀ d,O.Wk (O.nd (O.Zbu bs a b)) (O.Zbz bs) a b d->O.ZbJ P<=d
 len:P.length<=40
 one:a=b->P.length=1
open Classical in
theorem ar_ok {f:Bool} {bs:List Bx} {a b:Gp} (e:O.arE bs a b=0):O.ArOk bs a b (O.arP f bs a b):=by
 have e2:=ar_er bs a b
 by_cases h:O.erI bs a b=0
 ·rw [if_pos h,e] at e2
  have E:=er0 h
  by_cases k:a=b
  ·subst k
   have p:O.arP f bs a a=[a]:=by unfold O.arP;rw [if_pos e,if_pos rfl]
   rw [p]
   exact ⟨h,by simp,rfl,rfl,fun p hp=>by rw [List.mem_singleton.1 hp];exact .head _,trivial,.nil,fun d w=>wk_nn w,by show 1<=40;omega,fun _=>rfl⟩
  ·rw [if_neg k] at e2
   by_cases j:O.lnk bs (O.ZcP bs a b)
   ·have p:O.arP f bs a b=O.shP f false bs (O.ZcP bs a b):=by unfold O.arP;rw [if_pos e,if_neg k]
    have ok:O.okSh bs (O.ZcP bs a b):=⟨E.ok,nodP_ok E.ok E.ca E.cb,by rw [ZeZ];omega,E.fa⟩
    have g:=(shP_spec (f:=f) (g:=false) ok j).2
    rw [p]
    have w0:=g.walk
    have l0:=g.least
    have la:=nodP_last bs a b
    rw [la] at w0 l0
    exact ⟨h,g.ne,g.head,by rw [g.last,la],fun p hp=>Ze0.1 (g.mem p hp),g.chn,wk_nod.1 w0,fun d w=>l0 d (wk_nod.2 w),by have:=g.len;rw [ZeZ] at this;have:=E.len;omega,fun x=>absurd x k⟩
   ·rw [if_neg j] at e2;exact absurd e2 (by decide)
 ·rw [if_neg h,e] at e2;exact absurd e2.symm h
theorem arP_no {f:Bool} {bs:List Bx} {a b:Gp} (e:O.arE bs a b ≠ 0):O.arP f bs a b=[]:=by unfold O.arP;rw [if_neg e]
theorem mind_eq {bs:List Bx} {a b:Gp} {P:List Gp} (h:O.ArOk bs a b P):O.mind bs (O.Zbu bs a b)=O.ZbJ P:=by
 have m:O.MinD bs (O.Zbu bs a b) (O.ZbJ P):=.inr (by rw [nod_last];exact ⟨h.walk,h.least⟩)
 exact ZfE (Classical.epsilon_spec (p:=O.MinD bs (O.Zbu bs a b)) ⟨_,m⟩) m
theorem mind_no {bs:List Bx} {a b:Gp} (h:¬O.lnk bs (O.ZcP bs a b)):O.mind bs (O.Zbu bs a b) = -1:=by
 have m:O.MinD bs (O.Zbu bs a b) (-1):=.inl ⟨rfl,fun x=>h (lnk_nod.2 x)⟩
 exact ZfE (Classical.epsilon_spec (p:=O.MinD bs (O.Zbu bs a b)) ⟨_,m⟩) m
theorem ar_okP {bs:List Bx} {a b:Gp} {P:List Gp} (h:O.ArOk bs a b P):O.okP8 P:=by
 have E:=er0 h.er
 exact ⟨by have:=h.len;omega,fun p hp=>(nod_ok E.ok E.ca E.cb).2 p (h.mem p hp)⟩
end Go.Av

namespace Go.Av
open Go.Proofs
theorem bcs_mem {c:Bx} (h:c ∈ O.bcs):c=⟨10000,0,20000,5000,8000⟩:=List.mem_singleton.1 h
theorem bcs_blk:O.blk O.bcs 5000 0=[⟨10000,0,20000,5000,8000⟩]:=rfl
theorem bcs_hg {ax ay bx by_ r:Int} (h:(O.cc ax/\O.cc ay)/\(O.cc bx/\O.cc by_)/\O.cc r):O.okHg O.bcs ax ay bx by_ r:=
 ⟨⟨by decide,fun c hc=>by rw [bcs_mem hc];unfold O.ccb O.cc;decide,h.1.1,h.1.2,h.2.1.1,h.2.1.2,h.2.2⟩,fun c hc=>by rw [bcs_mem hc];decide⟩
theorem bcs_ok:O.okBlk O.bcs 0:=⟨by decide,fun c hc=>by rw [bcs_mem hc];unfold O.ccb O.cc;decide,by unfold O.cc;decide⟩
theorem bcs_n1:O.nea 10000 0 20000 5000 0 0 30000 0 3000:=by
 unfold O.nea O.neS O.seg;simp only [qi_eq];decide +kernel
theorem bcs_n2:¬O.nea 10000 0 20000 5000 0 9000 30000 9000 3000:=by
 unfold O.nea O.neS O.seg;simp only [qi_eq];decide +kernel
theorem bcs_h1:O.hgt O.bcs 0 0 30000 0 3000=9000:=by
 have e:O.hiF 0 0 30000 0 3000 O.bcs 0 false=(8000,true):=by
  unfold O.bcs;rw [O.hiF,if_pos ⟨bcs_n1,.inl (by decide)⟩];rfl
 unfold O.hgt;rw [e];rfl
theorem bcs_h2:O.hgt O.bcs 0 9000 30000 9000 3000=1000:=by
 have e:O.hiF 0 9000 30000 9000 3000 O.bcs 0 false=(0,false):=by
  unfold O.bcs;rw [O.hiF,if_neg fun x=>bcs_n2 x.1];rfl
 unfold O.hgt;rw [e];rfl
theorem bcs_er:O.erI [⟨10000,0,20000,5000,8000⟩] ⟨0,1000⟩ ⟨30000,1000⟩=0:=by
 have N {p:Bx->Prop} (h:¬p ⟨10000,0,20000,5000,8000⟩):¬∃ c ∈ [(⟨10000,0,20000,5000,8000⟩:Bx)],p c:=fun ⟨c,hc,k⟩=>h (by rw [List.mem_singleton.1 hc] at k;exact k)
 unfold O.erI
 rw [if_neg (N (by unfold O.bxI;decide)),if_neg (by decide),if_neg (by unfold O.fr4 O.fr1;decide),if_neg (N (by unfold O.bxF O.fr4 O.fr1;decide)),if_neg (N (by unfold O.bxC O.Zgi;decide))]
theorem bcs_wk:O.Wk (O.nd (O.Zbu [⟨10000,0,20000,5000,8000⟩] ⟨0,1000⟩ ⟨30000,1000⟩)) (O.Zbz [⟨10000,0,20000,5000,8000⟩]) ⟨0,1000⟩ ⟨30000,1000⟩ 30000:=by
 have F {p q:Gp} (h:O.Zge ⟨10000,0,20000,5000,8000⟩ p q=false):O.Zbz [⟨10000,0,20000,5000,8000⟩] p q:=fun c hc=>by rw [List.mem_singleton.1 hc];exact h
 exact ((O.Wk.nil.snoc (q:=⟨10000,0⟩) (ZfD.2 (by decide)) (F (by decide +kernel))).snoc (q:=⟨20000,0⟩) (ZfD.2 (by decide)) (F (by decide +kernel))).snoc (q:=⟨30000,1000⟩) (ZfD.2 (by decide)) (F (by decide +kernel))
theorem bcs_lnk:O.lnk [⟨10000,0,20000,5000,8000⟩] (O.ZcP [⟨10000,0,20000,5000,8000⟩] ⟨0,1000⟩ ⟨30000,1000⟩):=by
 refine lnk_nod.2 ⟨30000,?_⟩
 rw [nod_last];exact bcs_wk
theorem bcs_ar:O.arE [⟨10000,0,20000,5000,8000⟩] ⟨0,1000⟩ ⟨30000,1000⟩=0:=by
 rw [ar_er,if_pos bcs_er,if_neg (by decide),if_pos bcs_lnk]
theorem bcs_len (f:Bool):O.ZbJ (O.arP f [⟨10000,0,20000,5000,8000⟩] ⟨0,1000⟩ ⟨30000,1000⟩)=30000:=by
 have h:=ar_ok (f:=f) bcs_ar
 have a:=h.least _ bcs_wk
 have b:=wk_gap h.walk
 have:O.gap ⟨0,1000⟩ ⟨30000,1000⟩=30000:=by decide
 omega
theorem okP_G {l:List Gp} (h:O.okP8 l):O.okG l:=by
 refine ⟨by have:=h.1;omega,fun p hp => ?_⟩
 have:=h.2 p hp
 unfold O.ccp O.cc at this
 unfold O.cbp O.cb;omega
theorem ev8:Ev M1 (.pure 8 []) (.bool true) []:=by
 have C {n:Int} (h:-20000000<=n/\n<=20000000):O.cc n:=h
 refine call8 (qAw _ ⟨bcs_ok,by decide,bcs_hg ⟨⟨C (by decide),C (by decide)⟩,⟨C (by decide),C (by decide)⟩,C (by decide)⟩,fun _=>bcs_hg ⟨⟨C (by decide),C (by decide)⟩,⟨C (by decide),C (by decide)⟩,C (by decide)⟩,fun _ => ?_,fun _=>by unfold O.cc8 O.cc;decide,?_⟩)
 ·rw [bcs_blk];exact okP_G (ar_okP (ar_ok bcs_ar))
 ·rw [bcs_h1,bcs_h2,bcs_blk,bcs_ar,bcs_len];rfl
end Go.Av

namespace Go.Av
open Go.Proofs
set_option maxRecDepth 100000
def fi4:Fi:=⟨85,[.tmp 6]⟩
def kp4:List (Nat × List Nat):=[(0,[0,4,5]),(1,[0,4,5,17]),(2,[6]),(3,[0,4,5,7,8]),(4,[0,4,5,7,8,9]),(5,[0,4,5,7,8,9,33]),(6,[6]),(7,[0,4,5,7,8,10]),(8,[0,4,5,7,8,10,47]),(9,[6]),(10,[6])]
def qLaN_at (f:Bool) (ax ay bx by_:Int) (Q:AV->Heap->Prop):Prop:=Wp M1 (.run fi4 (atC (cd Try.f4) []) [(0,.vec f 5 []),(1,.agg [.int .i64 ax,.int .i64 ay]),(2,.agg [.int .i64 bx,.int .i64 by_])] []) Q
def qLaC_at (f:Bool) (c:Bx) (bs:List Bx) (ax ay bx by_:Int) (Q:AV->Heap->Prop):Prop:=Wp M1 (.run fi4 (atC (cd Try.f4) []) [(0,.vec f 5 ((c::bs).map Bx.a)),(1,.agg [.int .i64 ax,.int .i64 ay]),(2,.agg [.int .i64 bx,.int .i64 by_])] []) Q
theorem call4 {args:List AV} {d:AV} (h:wc M1 fi4 Try.f4 args d):Ev M1 (.pure 4 args) d []:=pcl _ _ (by kernel_rfl) h
noncomputable abbrev zNqS5 (ax:Int) (ay:Int):=ag [vi ax,vi ay]
noncomputable abbrev zNqS6 (bx:Int) (by_:Int):=ag [vi bx,vi by_]
theorem qLaN (f:Bool) (ax ay bx by_:Int)  (dq:AV) (H :
  ∃ (l2:List Gp) (n2:Int),
  (Ev M1 (Conf.pure 11 [AV.vec true 5 [],ag [vi ax,vi ay],ag [vi bx,vi by_]]) (tu [AV.vec false 2 (List.map Gp.a l2),vi n2]) []) /\
  ∃ (n3:Int),
  (Ev M1 (Conf.pure 12 [AV.vec f 5 [],ag [vi ax,vi ay],ag [vi bx,vi by_]]) (vi n3) []) /\
  ((¬n3=0)->vb (bif n2==n3 then (↑l2.length:Int)==0 else false)=dq) /\
  (¬(¬n3=0) -> ∃ (n4:Int),
   (Ev M1 (Conf.pure 13 [AV.vec f 5 [],ag [vi ax,vi ay],ag [vi bx,vi by_]]) (vi n4) []) /\
   ((n4<0)->vb (bif n2==16 then (↑l2.length:Int)==0 else false)=dq) /\
   (¬(n4<0) -> ∃ (b1:Bool),
    ((n2=0)->(Ev M1 (Conf.pure 14 [AV.vec f 5 [],ag [vi ax,vi ay],ag [vi bx,vi by_],AV.vec false 2 (List.map Gp.a l2)]) (vb b1) [])) /\
    ∃ (b2:Bool),
    (((n2=0)/\(b1=true))->(Ev M1 (Conf.pure 15 [AV.vec f 5 [],AV.vec false 2 (List.map Gp.a l2)]) (vb b2) [])) /\
    ((((n2=0)/\(b1=true))/\(b2=true))->(O.okG l2)) /\
    (vb (bif bif bif bif n2==0 then b1 else false then b2 else false then O.ZbJ l2==n4 else false then bif !(ax==bx&&(ay==by_&&true)) then true else (↑l2.length:Int)==1 else false))=dq))) :
 qLaN_at f ax ay bx by_ (Zae dq):=by
 unfold qLaN_at
 obtain ⟨l2,n2,k2,n3,k3,H⟩:=H
 refine Zac (G:=Zad kp4 [(1,0,.call (vb true) none),(3,5,.call (tu [AV.vec false 2 (List.map Gp.a l2),vi n2]) none),(4,3,.call (vi n3) none)] [(3,[902005,3004,2003,4002,902000])]) 14 [false] ⟨(atC (cd Try.f4) [1,1,1,0,1,1]),[(0,AV.vec f 5 []),(4,AV.ptr 0 0 0 0),(5,AV.ptr 1 0 0 0),(7,AV.vec false 2 (List.map Gp.a l2)),(8,vi n2),(9,vi n3),(33,vb (n3 != 0))],[⟨[(zNqS5 ax ay)],2,0,false,false⟩,⟨[(zNqS6 bx by_)],2,0,false,false⟩],_,[],_⟩ (by kernel_rfl) (bc rfl (bc rfl (bc rfl (bc rfl (bc rfl b0))))) q0 (ce (@ev8 ) (ce k2 (ce k3 c0))) ?_
 rcases xq H with ⟨d5,H⟩|⟨d5,H⟩
 ·have w6:(List.map Gp.a l2).length=l2.length:=List.length_map ..
  exact Zah (G:=Zad kp4 [] []) 1000 [true] (vb (bif n2==n3 then (↑(List.map Gp.a l2).length:Int)==0 else false)) (by kernel_rfl) (bc (Zal (i_ne.2 d5)) b0) q0 c0 (by (try rw [w6]);all_goals exact H)
 ·obtain ⟨n4,k7,H⟩:=H
  refine Zac (G:=Zad kp4 [(7,3,.call (vi n4) none)] []) 7 [false] ⟨(atC (cd Try.f4) [1,1,1,1,1,0,1]),[(0,AV.vec f 5 []),(4,AV.ptr 0 0 0 0),(5,AV.ptr 1 0 0 0),(7,AV.vec false 2 (List.map Gp.a l2)),(8,vi n2),(10,vi n4),(47,vb (decide (n4<0)))],[⟨[(zNqS5 ax ay)],2,0,false,false⟩,⟨[(zNqS6 bx by_)],2,0,false,false⟩],_,[],_⟩ (by kernel_rfl) (bc (Zak (fun h=>d5 (i_ne.1 h))) (bc rfl (bc rfl b0))) q0 (ce k7 c0) ?_
  rcases xq H with ⟨d9,H⟩|⟨d9,H⟩
  ·have w10:(List.map Gp.a l2).length=l2.length:=List.length_map ..
   exact Zah (G:=Zad kp4 [] []) 1000 [true] (vb (bif n2==16 then (↑(List.map Gp.a l2).length:Int)==0 else false)) (by kernel_rfl) (bc (Zal (Zab.2 d9)) b0) q0 c0 (by (try rw [w10]);all_goals exact H)
  ·obtain ⟨b1,k12,b2,k14,k16,H⟩:=H
   have w17:(List.map Gp.a l2).length=l2.length:=List.length_map ..
   exact Zah (G:=Zad kp4 [(10,7,.call (vb b1) none),(10,12,.call (vb b2) none),(10,16,.call (vi (O.ZbJ l2)) none)] []) 1000 [false] (asm:=[(decide (n4<0))==false,!((n2==0)==true&&true)||true,!((n2==0)==true&&true)||true,!((bif bif bif n2==0 then b1 else false then b2 else false then O.ZbJ l2==n4 else false)==true&&true)||true,!((bif bif bif n2==0 then b1 else false then b2 else false then O.ZbJ l2==n4 else false)==true&&true)||true]) (calls:=[⟨(n2==0)==true&&true&&true,false,14,[AV.vec f 5 [],(zNqS5 ax ay),(zNqS6 bx by_),AV.vec false 2 (List.map Gp.a l2)],[],vb b1,[]⟩,⟨(bif n2==0 then b1 else false)==true&&true&&true,false,15,[AV.vec f 5 [],AV.vec false 2 (List.map Gp.a l2)],[],vb b2,[]⟩,⟨(bif bif n2==0 then b1 else false then b2 else false)==true&&true&&true,false,16,[AV.vec false 2 (List.map Gp.a l2)],[],vi (O.ZbJ l2),[]⟩]) (vb (bif bif bif bif n2==0 then b1 else false then b2 else false then O.ZbJ l2==n4 else false then bif !(ax==bx&&(ay==by_&&true)) then true else (↑(List.map Gp.a l2).length:Int)==1 else false)) (by kernel_rfl) (bc (Zak (fun h=>d9 (Zab.1 h))) (bc (Bool.or_true _) (bc (Bool.or_true _) (bc (Bool.or_true _) (bc (Bool.or_true _) b0))))) q0 (cc (fun hc=>((k12 ((i_at (i_at (i_bt i_eq))).1 hc)):Ev M1 (Conf.pure 14 [AV.vec f 5 [],(zNqS5 ax ay),(zNqS6 bx by_),AV.vec false 2 (List.map Gp.a l2)]) (vb b1) [])) (cc (fun hc=>((k14 ((i_at (i_at (i_bt (ZaM i_eq (Zay _))))).1 hc)):Ev M1 (Conf.pure 15 [AV.vec f 5 [],AV.vec false 2 (List.map Gp.a l2)]) (vb b2) [])) (cc (fun hc=>((@ev16 false l2 (k16 ((i_at (i_at (i_bt (ZaM (ZaM i_eq (Zay _)) (Zay _))))).1 hc))):Ev M1 (Conf.pure 16 [AV.vec false 2 (List.map Gp.a l2)]) (vi (O.ZbJ l2)) [])) c0))) (by (try rw [w17]);all_goals exact H)
noncomputable abbrev zNqS7 (c:Bx):=ag [vi c.x0,vi c.y0,vi c.x1,vi c.y1,vi c.top]
noncomputable abbrev zNqS8 (ax:Int) (ay:Int):=ag [vi ax,vi ay]
noncomputable abbrev zNqS9 (bx:Int) (by_:Int):=ag [vi bx,vi by_]
theorem qLaC (f:Bool) (c:Bx) (bs:List Bx) (ax ay bx by_:Int)  (dq:AV) (H :
  (((↑(bs.length+1):Int)>9)->vb true=dq) /\
  (¬((↑(bs.length+1):Int)>9) -> ∃ (l2:List Gp) (n2:Int),
   (Ev M1 (Conf.pure 11 [AV.vec false 5 (ag [vi c.x0,vi c.y0,vi c.x1,vi c.y1,vi c.top]::List.map Bx.a bs),ag [vi ax,vi ay],ag [vi bx,vi by_]]) (tu [AV.vec false 2 (List.map Gp.a l2),vi n2]) []) /\
   ((0+(bs.length+1))*40<=1099511627776) /\
   ∃ (n3:Int),
   (Ev M1 (Conf.pure 12 [AV.vec f 5 (ag [vi c.x0,vi c.y0,vi c.x1,vi c.y1,vi c.top]::List.map Bx.a bs),ag [vi ax,vi ay],ag [vi bx,vi by_]]) (vi n3) []) /\
   ((¬n3=0)->vb (bif n2==n3 then (↑l2.length:Int)==0 else false)=dq) /\
   (¬(¬n3=0) -> ∃ (n4:Int),
    (Ev M1 (Conf.pure 13 [AV.vec f 5 (ag [vi c.x0,vi c.y0,vi c.x1,vi c.y1,vi c.top]::List.map Bx.a bs),ag [vi ax,vi ay],ag [vi bx,vi by_]]) (vi n4) []) /\
    ((n4<0)->vb (bif n2==16 then (↑l2.length:Int)==0 else false)=dq) /\
    (¬(n4<0) -> ∃ (b1:Bool),
     ((n2=0)->(Ev M1 (Conf.pure 14 [AV.vec f 5 (ag [vi c.x0,vi c.y0,vi c.x1,vi c.y1,vi c.top]::List.map Bx.a bs),ag [vi ax,vi ay],ag [vi bx,vi by_],AV.vec false 2 (List.map Gp.a l2)]) (vb b1) [])) /\
     ∃ (b2:Bool),
     (((n2=0)/\(b1=true))->(Ev M1 (Conf.pure 15 [AV.vec f 5 (ag [vi c.x0,vi c.y0,vi c.x1,vi c.y1,vi c.top]::List.map Bx.a bs),AV.vec false 2 (List.map Gp.a l2)]) (vb b2) [])) /\
     ((((n2=0)/\(b1=true))/\(b2=true))->(O.okG l2)) /\
     (vb (bif bif bif bif n2==0 then b1 else false then b2 else false then O.ZbJ l2==n4 else false then bif !(ax==bx&&(ay==by_&&true)) then true else (↑l2.length:Int)==1 else false))=dq)))) :
 qLaC_at f c bs ax ay bx by_ (Zae dq):=by
 unfold qLaC_at
 have w1:(List.map Bx.a bs).length=bs.length:=List.length_map ..
 have i2:(decide ((↑((List.map Bx.a bs).length+1):Int)>9))=true ↔ ((↑(bs.length+1):Int)>9):=(by (try rw [w1]);all_goals exact Zab)
 refine Zac (G:=Zad kp4 [(1,0,.call (vb true) none)] []) 5 [] ⟨(atC (cd Try.f4) [1,0,1]),[(0,AV.vec f 5 ((zNqS7 c)::List.map Bx.a bs)),(4,AV.ptr 0 0 0 0),(5,AV.ptr 1 0 0 0),(17,vb (decide ((↑((List.map Bx.a bs).length+1):Int)>9)))],[⟨[(zNqS8 ax ay)],2,0,false,false⟩,⟨[(zNqS9 bx by_)],2,0,false,false⟩],_,[],_⟩ (by kernel_rfl) b0 q0 (ce (@ev8 ) c0) ?_
 rcases xq H with ⟨d3,H⟩|⟨d3,H⟩
 ·exact Zah (G:=Zad kp4 [(2,0,.call (vb true) none)] []) 1000 [true] (vb true) (by kernel_rfl) (bc (Zal (i2.2 d3)) b0) q0 (ce (@ev8 ) c0) H
 ·obtain ⟨l2,n2,k5,H⟩:=H
  have i6:(decide ((0+((List.map Bx.a bs).length+1))*40<=1099511627776))=true ↔ ((0+(bs.length+1))*40<=1099511627776):=(by (try rw [w1]);all_goals exact Zab)
  obtain ⟨k7,n3,k8,H⟩:=H
  refine Zac (G:=Zad kp4 [(3,5,.call (tu [AV.vec false 2 (List.map Gp.a l2),vi n2]) none),(4,3,.call (vi n3) none)] [(3,[5,3004,2003,4002,902000])]) 9 [false] ⟨(atC (cd Try.f4) [1,1,1,0,1,1]),[(0,AV.vec f 5 ((zNqS7 c)::List.map Bx.a bs)),(4,AV.ptr 0 0 0 0),(5,AV.ptr 1 0 0 0),(7,AV.vec false 2 (List.map Gp.a l2)),(8,vi n2),(9,vi n3),(33,vb (n3 != 0))],[⟨[(zNqS8 ax ay)],2,0,false,false⟩,⟨[(zNqS9 bx by_)],2,0,false,false⟩,⟨(zNqS7 c)::List.map Bx.a bs,5,0,true,true⟩],_,[],_⟩ (by kernel_rfl) (bc (Zak (fun h=>d3 (i2.1 h))) (bc (i6.2 k7) (bc rfl (bc rfl (bc rfl (bc rfl (bc rfl b0))))))) q0 (ce k5 (ce k8 c0)) ?_
  rcases xq H with ⟨d10,H⟩|⟨d10,H⟩
  ·have w11:(List.map Gp.a l2).length=l2.length:=List.length_map ..
   exact Zah (G:=Zad kp4 [] []) 1000 [true] (vb (bif n2==n3 then (↑(List.map Gp.a l2).length:Int)==0 else false)) (by kernel_rfl) (bc (Zal (i_ne.2 d10)) b0) q0 c0 (by (try rw [w11]);all_goals exact H)
  ·obtain ⟨n4,k12,H⟩:=H
   refine Zac (G:=Zad kp4 [(7,3,.call (vi n4) none)] []) 7 [false] ⟨(atC (cd Try.f4) [1,1,1,1,1,0,1]),[(0,AV.vec f 5 ((zNqS7 c)::List.map Bx.a bs)),(4,AV.ptr 0 0 0 0),(5,AV.ptr 1 0 0 0),(7,AV.vec false 2 (List.map Gp.a l2)),(8,vi n2),(10,vi n4),(47,vb (decide (n4<0)))],[⟨[(zNqS8 ax ay)],2,0,false,false⟩,⟨[(zNqS9 bx by_)],2,0,false,false⟩,⟨(zNqS7 c)::List.map Bx.a bs,5,0,true,true⟩],_,[],_⟩ (by kernel_rfl) (bc (Zak (fun h=>d10 (i_ne.1 h))) (bc rfl (bc rfl b0))) q0 (ce k12 c0) ?_
   rcases xq H with ⟨d14,H⟩|⟨d14,H⟩
   ·have w15:(List.map Gp.a l2).length=l2.length:=List.length_map ..
    exact Zah (G:=Zad kp4 [] []) 1000 [true] (vb (bif n2==16 then (↑(List.map Gp.a l2).length:Int)==0 else false)) (by kernel_rfl) (bc (Zal (Zab.2 d14)) b0) q0 c0 (by (try rw [w15]);all_goals exact H)
   ·obtain ⟨b1,k17,b2,k19,k21,H⟩:=H
    have w22:(List.map Gp.a l2).length=l2.length:=List.length_map ..
    exact Zah (G:=Zad kp4 [(10,7,.call (vb b1) none),(10,12,.call (vb b2) none),(10,16,.call (vi (O.ZbJ l2)) none)] []) 1000 [false] (asm:=[(decide (n4<0))==false,!((n2==0)==true&&true)||true,!((n2==0)==true&&true)||true,!((bif bif bif n2==0 then b1 else false then b2 else false then O.ZbJ l2==n4 else false)==true&&true)||true,!((bif bif bif n2==0 then b1 else false then b2 else false then O.ZbJ l2==n4 else false)==true&&true)||true]) (calls:=[⟨(n2==0)==true&&true&&true,false,14,[AV.vec f 5 ((zNqS7 c)::List.map Bx.a bs),(zNqS8 ax ay),(zNqS9 bx by_),AV.vec false 2 (List.map Gp.a l2)],[],vb b1,[]⟩,⟨(bif n2==0 then b1 else false)==true&&true&&true,false,15,[AV.vec f 5 ((zNqS7 c)::List.map Bx.a bs),AV.vec false 2 (List.map Gp.a l2)],[],vb b2,[]⟩,⟨(bif bif n2==0 then b1 else false then b2 else false)==true&&true&&true,false,16,[AV.vec false 2 (List.map Gp.a l2)],[],vi (O.ZbJ l2),[]⟩]) (vb (bif bif bif bif n2==0 then b1 else false then b2 else false then O.ZbJ l2==n4 else false then bif !(ax==bx&&(ay==by_&&true)) then true else (↑(List.map Gp.a l2).length:Int)==1 else false)) (by kernel_rfl) (bc (Zak (fun h=>d14 (Zab.1 h))) (bc (Bool.or_true _) (bc (Bool.or_true _) (bc (Bool.or_true _) (bc (Bool.or_true _) b0))))) q0 (cc (fun hc=>((k17 ((i_at (i_at (i_bt i_eq))).1 hc)):Ev M1 (Conf.pure 14 [AV.vec f 5 ((zNqS7 c)::List.map Bx.a bs),(zNqS8 ax ay),(zNqS9 bx by_),AV.vec false 2 (List.map Gp.a l2)]) (vb b1) [])) (cc (fun hc=>((k19 ((i_at (i_at (i_bt (ZaM i_eq (Zay _))))).1 hc)):Ev M1 (Conf.pure 15 [AV.vec f 5 ((zNqS7 c)::List.map Bx.a bs),AV.vec false 2 (List.map Gp.a l2)]) (vb b2) [])) (cc (fun hc=>((@ev16 false l2 (k21 ((i_at (i_at (i_bt (ZaM (ZaM i_eq (Zay _)) (Zay _))))).1 hc))):Ev M1 (Conf.pure 16 [AV.vec false 2 (List.map Gp.a l2)]) (vi (O.ZbJ l2)) [])) c0))) (by (try rw [w22]);all_goals exact H)
end Go.Av

namespace Go.Av
open Go.Proofs
section
variable {f:Bool} {bs:List Bx} {a b:Gp}
open Classical in
theorem la_er (h:¬O.erI bs a b=0):(bif O.arE bs a b==O.erI bs a b then ((O.arP f bs a b).length:Int)==0 else false)=true:=by
 have e:=ar_er bs a b
 rw [if_neg h] at e
 rw [e,arP_no (by rw [e];exact h),beq_self_eq_true];rfl
open Classical in
theorem la_no (h:O.erI bs a b=0) (m:O.mind bs (O.Zbu bs a b)<0):O.arE bs a b=16:=by
 have e:=ar_er bs a b
 rw [if_pos h] at e
 by_cases k:a=b
 ·rw [if_pos k] at e
  have:=mind_eq (ar_ok (f:=false) e)
  have:=plen_nn (O.arP false bs a b);omega
 ·rw [if_neg k] at e
  by_cases j:O.lnk bs (O.ZcP bs a b)
  ·rw [if_pos j] at e
   have:=mind_eq (ar_ok (f:=false) e)
   have:=plen_nn (O.arP false bs a b);omega
  ·rw [if_neg j] at e;exact e
open Classical in
theorem la_yes (h:O.erI bs a b=0) (m:¬O.mind bs (O.Zbu bs a b)<0):O.arE bs a b=0:=by
 have e:=ar_er bs a b
 rw [if_pos h] at e
 by_cases k:a=b
 ·rw [if_pos k] at e;exact e
 ·rw [if_neg k] at e
  by_cases j:O.lnk bs (O.ZcP bs a b)
  ·rw [if_pos j] at e;exact e
  ·have:=mind_no j;omega
theorem ov_true {P:List Gp} (h:O.ArOk bs a b P):O.ovr bs a b P=true:=by
 unfold O.ovr;exact ZeM ⟨h.ne,h.head,h.last,h.mem⟩
theorem op_true {P:List Gp} (h:O.ArOk bs a b P):O.opn bs P=true:=by
 unfold O.opn;exact ZeM h.chn
theorem la_eq {P:List Gp} {ax ay bx by_:Int} (h:O.ArOk bs ⟨ax,ay⟩ ⟨bx,by_⟩ P):(bif bif bif bif (0:Int)==0 then true else false then true else false then O.ZbJ P==O.mind bs (O.Zbu bs ⟨ax,ay⟩ ⟨bx,by_⟩) else false then bif !(ax==bx&&(ay==by_&&true)) then true else (P.length:Int)==1 else false)=true:=by
 rw [mind_eq h,beq_self_eq_true (O.ZbJ P)]
 by_cases k:ax=bx/\ay=by_
 ·rw [h.one (by rw [k.1,k.2])];simp
 ·have:(ax==bx&&(ay==by_&&true))=false:=by
   rw [Bool.and_true];simpa using k
  rw [this];rfl
end
theorem laN_ev (f:Bool) (ax ay bx by_:Int):Ev M1 (.pure 4 [.vec f 5 (([]:List Bx).map Bx.a),.agg [.int .i64 ax,.int .i64 ay],.agg [.int .i64 bx,.int .i64 by_]]) (.bool true) []:=by
 refine call4 (qLaN _ _ _ _ _ _ ⟨_,_,ev11 true ([]:List Bx) ax ay bx by_ (by show 0<=100;omega),_,ev12 f ([]:List Bx) ax ay bx by_ (by show 0<=100;omega),fun k=>congrArg AV.bool (la_er k),fun k => ?_⟩)
 have k:=Classical.not_not.1 k
 have E:=er0 k
 have okS:O.okSp ([]:List Bx) ax ay bx by_:=⟨E.ok,E.ca,E.cb,E.fa⟩
 refine ⟨_,ev13 f ([]:List Bx) ax ay bx by_ okS,fun m=>congrArg AV.bool ?_,fun m => ?_⟩
 ·have e:=la_no k m
  rw [e,arP_no (by rw [e];decide)];rfl
 ·have e:=la_yes k m
  have A:=ar_ok (f:=true) e
  have P:=ar_okP A
  have l1:=A.len
  refine ⟨_,fun _=>ev14 f false ([]:List Bx) ax ay bx by_ _ ⟨E.ok.1,P.1⟩,_,fun _=>ev15 f false ([]:List Bx) _ ⟨E.ok,P⟩,fun _=>okP_G P,congrArg AV.bool ?_⟩
  rw [e,ov_true A,op_true A]
  exact la_eq A
section
variable {f g:Bool} {ax ay bx by_:Int} {ks:List Int}
end
theorem laC_ev (f:Bool) (c:Bx) (bs:List Bx) (ax ay bx by_:Int):Ev M1 (.pure 4 [.vec f 5 ((c::bs).map Bx.a),.agg [.int .i64 ax,.int .i64 ay],.agg [.int .i64 bx,.int .i64 by_]]) (.bool true) []:=by
 refine call4 (qLaC _ _ _ _ _ _ _ _ ⟨fun _=>rfl,fun k0=>⟨_,_,ev11 false (c::bs) ax ay bx by_ (by show bs.length+1<=100;omega),by omega,_,ev12 f (c::bs) ax ay bx by_ (by show bs.length+1<=100;omega),fun k=>congrArg AV.bool (la_er k),fun k => ?_⟩⟩)
 have k:=Classical.not_not.1 k
 have E:=er0 k
 have okS:O.okSp (c::bs) ax ay bx by_:=⟨E.ok,E.ca,E.cb,E.fa⟩
 refine ⟨_,ev13 f (c::bs) ax ay bx by_ okS,fun m=>congrArg AV.bool ?_,fun m => ?_⟩
 ·have e:=la_no k m
  rw [e,arP_no (by rw [e];decide)];rfl
 ·have e:=la_yes k m
  have A:=ar_ok (f:=false) e
  have P:=ar_okP A
  have l1:=A.len
  refine ⟨_,fun _=>ev14 f false (c::bs) ax ay bx by_ _ ⟨E.ok.1,P.1⟩,_,fun _=>ev15 f false (c::bs) _ ⟨E.ok,P⟩,fun _=>okP_G P,congrArg AV.bool ?_⟩
  rw [e,ov_true A,op_true A]
  exact la_eq A
section
variable {f g:Bool} {c:Bx} {bs:List Bx} {ax ay bx by_:Int} {ks:List Int}
end
theorem la_ev (f:Bool) (bs:List Bx) (ax ay bx by_:Int):Ev M1 (.pure 4 [.vec f 5 (bs.map Bx.a),.agg [.int .i64 ax,.int .i64 ay],.agg [.int .i64 bx,.int .i64 by_]]) (.bool true) []:=by
 cases bs with
 | nil=>exact laN_ev f ax ay bx by_
 | cons c bs=>exact laC_ev f c bs ax ay bx by_
end Go.Av
