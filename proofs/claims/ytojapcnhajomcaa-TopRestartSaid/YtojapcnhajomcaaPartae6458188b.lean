/- PART 5 of the texts of a claim, joined by a program: what each part shows stands at its head. -/
import Derived.Test.YtojapcnhajomcaaPart50b65f172c
import Derived.RangeFuncIn

namespace Go.Av
open Go.Proofs
namespace N
def hq (fm:Bool) (l:List Mo) (S A j:Int) (s:Cs):Option Nat->Heap
 | none=>[Cr fm l S A j s .vnil]
 | some w=>[Cr fm l S A j s (.row 1 w),Rw s.P w]
noncomputable def stF (l:List Mo) (ix p qx qy qz:Int):Option Nat->Option Nat
 | none=>if pcB l ix p qx qy qz=true then some 0 else none
 | some w=>some (stW l ix p qx qy qz w)
noncomputable def advF (l:List Mo) (s:Cs) (X:List Int) (k:Int) (f:Option Nat):Option Nat:=if k+1=X.length then stF l s.ix (s.p+X.getD k.toNat default) s.q.x s.q.y s.q.z f else f
noncomputable def Zep (l:List Mo) (S A j:Int) (s:Cs) (f:Option Nat):Option Nat:=
 if s.br=true\/s.ix=l.length then f else
 match s.X with
 | some X=>advF l s X s.k f
 | none=>if s.hd=true then f else if ¬planE l S A j s=0\/((plan l S A j s).length:Int)=0 then f else advF l s (plan l S A j s) 0 f
end N
section
variable {l:List Mo} {B S A j:Int} {fm:Bool}
theorem hq_row {s:Cs} {P:List Mo} {w:Nat} (e:s.P=P):N.hq fm l S A j s (some w)=[N.Cr fm l S A j s (.row 1 w),N.Rw P w]:=by subst e;rfl
theorem stF_y {ix p qx qy qz:Int} (h:N.pcB l ix p qx qy qz=true):N.stF l ix p qx qy qz none=some 0:=by unfold N.stF;simp only;rw [if_pos h]
theorem stF_n {ix p qx qy qz:Int} (h:¬N.pcB l ix p qx qy qz=true):N.stF l ix p qx qy qz none=none:=by unfold N.stF;simp only;rw [if_neg h]
theorem hqs_y {s:Cs} {L:Heap} {ix p qx qy qz:Int} (h:N.pcB l ix p qx qy qz=true) (e:s.P=N.stP l ix p qx qy qz []) (hL:L=[N.Cr fm l S A j s (.row 1 0),N.Rw [N.pcM l ix p qx qy qz] 0]):L=N.hq fm l S A j s (N.stF l ix p qx qy qz none):=by
 rw [stF_y h,hL]
 exact (hq_row (e.trans (stP_y h))).symm
theorem hqs_n {s:Cs} {L:Heap} {ix p qx qy qz:Int} (h:¬N.pcB l ix p qx qy qz=true) (hL:L=[N.Cr fm l S A j s .vnil]):L=N.hq fm l S A j s (N.stF l ix p qx qy qz none):=by
 rw [stF_n h,hL];rfl
theorem stF_P {ix p qx qy qz:Int} {f:Option Nat} {P:List Mo} (h:f=none->P=[]) (h2:N.stF l ix p qx qy qz f=none):N.stP l ix p qx qy qz P=[]:=by
 cases f with
 | none =>
  by_cases hc:N.pcB l ix p qx qy qz=true
  ·rw [stF_y hc] at h2;cases h2
  ·rw [stP_n hc];exact h rfl
 | some w=>cases h2
theorem Zcg {s:Cs} {X:List Int} {k:Int} {f:Option Nat} (h:k+1=X.length):N.advF l s X k f=N.stF l s.ix (s.p+X.getD k.toNat default) s.q.x s.q.y s.q.z f:=by unfold N.advF;rw [if_pos h]
theorem Zdl {s:Cs} {X:List Int} {k:Int} {f:Option Nat} (h:¬k+1=X.length):N.advF l s X k f=f:=by unfold N.advF;rw [if_neg h]
theorem advF_P {s:Cs} {X:List Int} {k:Int} {f:Option Nat} (h:f=none->s.P=[]) (h2:N.advF l s X k f=none):(N.adv l s X k).P=[]:=by
 by_cases he:k+1=X.length
 ·rw [Zcg he] at h2
  rw [Zb6 he]
  exact stF_P h h2
 ·rw [Zdl he] at h2
  rw [ZcO he]
  exact h h2
theorem ZcY {s:Cs} {f:Option Nat} (h:s.br=true\/s.ix=l.length):N.Zep l S A j s f=f:=by unfold N.Zep;rw [if_pos h]
theorem Zfh {s:Cs} {X:List Int} {f:Option Nat} (h:¬(s.br=true\/s.ix=l.length)) (hX:s.X=some X):N.Zep l S A j s f=N.advF l s X s.k f:=by unfold N.Zep;rw [if_neg h,hX]
theorem Zfi {s:Cs} {f:Option Nat} (h:¬(s.br=true\/s.ix=l.length)) (hX:s.X=none) (hh:s.hd=true):N.Zep l S A j s f=f:=by unfold N.Zep;rw [if_neg h,hX];simp only;rw [if_pos hh]
theorem Zfg (hl:N.okL l) (hg:N.good l S A j) {s:Cs} {f:Option Nat} (hs:Iv l B s) (h:¬(s.br=true\/s.ix=l.length)) (hX:s.X=none) (hh:¬s.hd=true):N.Zep l S A j s f=N.advF l s (N.plan l S A j s) 0 f:=by
 have h1:=hs.ixr
 have hlt:s.ix<l.length:=by have:¬s.ix=l.length:=fun y=>h (.inr y);omega
 obtain ⟨_,p2,p3,_⟩:=ZfH hl hg hs hlt
 unfold N.Zep
 rw [if_neg h,hX]
 simp only
 rw [if_neg hh,if_neg (by rintro (y | y);exact y p2;omega)]
theorem tickF_P (hl:N.okL l) (hg:N.good l S A j) {s:Cs} {f:Option Nat} (hs:Iv l B s) (h:f=none->s.P=[]) (h2:N.Zep l S A j s f=none):(N.Zbt l S A j s).1.P=[]:=by
 by_cases h1:s.br=true\/s.ix=l.length
 ·rw [Zdn h1];rw [ZcY h1] at h2;exact h h2
 ·cases hX:s.X with
  | some X=>rw [Zd2 h1 hX];rw [Zfh h1 hX] at h2;exact advF_P h h2
  | none =>
   by_cases hh:s.hd=true
   ·rw [ZeY h1 hX hh];rw [Zfi h1 hX hh] at h2;exact h h2
   ·rw [Zd1 hl hg hs h1 hX hh];rw [Zfg hl hg hs h1 hX hh] at h2;exact advF_P h h2
theorem RM_hq {s:Cs} {f:Option Nat} (h:f=none->s.P=[]):RM fm l S A j s (N.hq fm l S A j s f):=by
 cases f with
 | none=>exact .nil (h rfl)
 | some w=>exact .row w
theorem tick_ex (hl:N.okL l) (hg:N.good l S A j) (hB:B<=1000000000) {s:Cs} (hs:Iv l B s) {f:Option Nat} (hf:f=none->s.P=[]):Ev M1 (.own 10 [.ptr 0 0 0 0] (N.hq fm l S A j s f)) (.bool (N.Zbt l S A j s).2) (N.hq fm l S A j (N.Zbt l S A j s).1 (N.Zep l S A j s f)):=by
 obtain ⟨ix,p,X,k,bk,hd,br,P,q⟩:=s
 have hlt:∀ h:¬(br=true\/ix=l.length),ix<l.length:=fun h=>by
  have:=hs.ixr
  have:¬ix=l.length:=fun y=>h (.inr y)
  simp only at *
  omega
 cases X with
 | none =>
  obtain ⟨hk0,hb0,_⟩:=hs.rest rfl
  simp only at hk0 hb0
  subst hk0;subst hb0
  have hplan:∀ (h:¬(br=true\/ix=l.length)),_:=fun h=>ZfH hl hg hs (hlt h)
  have hsq:∀ (h:¬(br=true\/ix=l.length)),_:=fun h=>adv_sp (X:=N.plan l S A j ⟨ix,p,none,0,false,hd,br,P,q⟩) (k:=0) hl hs hB (hlt h) ⟨Int.le_refl _,by have:=(hplan h).2.2.1;omega⟩ (hplan h).2.2.2.1 (by
   have:=(hplan h).2.2.2.2.1
   rw [Int.toNat_zero,List.drop_zero,this]
   unfold N.lf
   simp only;omega)
  cases f with
  | none =>
   have hP:=hf rfl
   simp only at hP
   subst hP
   refine Zet (Zc7 (tcA fm l S A j ix p hd br q.x q.y q.z _ ⟨fun h => ?_,fun h=>⟨fun h2 => ?_,fun h2 => ?_⟩⟩))
   ·rw [Zdn h,ZcY h];exact ⟨rfl,rfl⟩
   ·rw [ZeY h rfl h2,Zfi h rfl h2];exact ⟨rfl,rfl⟩
   ·obtain ⟨⟨g1,g2,g3⟩,g4,g5,_⟩:=iv_G hl hs (hlt h)
    obtain ⟨p1,p2,p3,p4,p5,_,_⟩:=hplan h
    obtain ⟨⟨s1,s2⟩,s3⟩:=hsq h
    rw [Zd1 hl hg hs h rfl h2,Zfg hl hg hs h rfl h2]
    refine ⟨g1,p1,by unfold N.okSt;simp only at g3;omega,g4,g5,fun z => ?_,fun _=>⟨p3,s3,fun h3=>⟨fun hc=>⟨s1,?_⟩,fun hc=>⟨s1,?_⟩⟩,fun h3 => ?_⟩⟩
    ·rcases z with z | z
     ·exact absurd p2 z
     ·have:=p3;unfold N.plan at this;simp only at this;omega
    ·rw [Zb6 (by rw [Int.zero_add];exact h3),Zcg (by rw [Int.zero_add];exact h3)]
     exact ⟨rfl,hqs_y hc rfl rfl⟩
    ·rw [Zb6 (by rw [Int.zero_add];exact h3),Zcg (by rw [Int.zero_add];exact h3)]
     exact ⟨rfl,hqs_n hc rfl⟩
    ·rw [ZcO (by rw [Int.zero_add];exact h3),Zdl (by rw [Int.zero_add];exact h3)]
     exact ⟨rfl,rfl⟩
  | some w =>
   refine Zet (Zc7 (tcB fm l S A j ix p hd br q.x q.y q.z P w _ ⟨fun h => ?_,fun h=>⟨fun h2 => ?_,fun h2 => ?_⟩⟩))
   ·rw [Zdn h,ZcY h];exact ⟨rfl,rfl⟩
   ·rw [ZeY h rfl h2,Zfi h rfl h2];exact ⟨rfl,rfl⟩
   ·obtain ⟨⟨g1,g2,g3⟩,g4,g5,_⟩:=iv_G hl hs (hlt h)
    obtain ⟨p1,p2,p3,p4,p5,_,_⟩:=hplan h
    obtain ⟨s1,s3⟩:=hsq h
    rw [Zd1 hl hg hs h rfl h2,Zfg hl hg hs h rfl h2]
    refine ⟨g1,p1,by unfold N.okSt;simp only at g3;omega,g4,g5,fun z => ?_,fun _=>⟨p3,s3,fun h3=>⟨s1,?_⟩,fun h3 => ?_⟩⟩
    ·rcases z with z | z
     ·exact absurd p2 z
     ·have:=p3;unfold N.plan at this;simp only at this;omega
    ·rw [Zb6 (by rw [Int.zero_add];exact h3),Zcg (by rw [Int.zero_add];exact h3)]
     exact ⟨rfl,rfl⟩
    ·rw [ZcO (by rw [Int.zero_add];exact h3),Zdl (by rw [Int.zero_add];exact h3)]
     exact ⟨rfl,rfl⟩
 | some X =>
  obtain ⟨hk,hX,hsum⟩:=hs.plan X rfl
  simp only at hk hX hsum
  have hsq:∀ (h:¬(br=true\/ix=l.length)),_:=fun h=>adv_sp (X:=X) (k:=k) hl hs hB (hlt h) ⟨hk.1,hk.2.1⟩ hX hsum
  cases f with
  | none =>
   have hP:=hf rfl
   simp only at hP
   subst hP
   refine Zet (Zc7 (tcC fm l S A j ix p k bk hd br q.x q.y q.z X _ ⟨fun h => ?_,fun h=>⟨fun z=>absurd z (by omega),fun _ => ?_⟩⟩))
   ·rw [Zdn h,ZcY h];exact ⟨rfl,rfl⟩
   ·obtain ⟨⟨s1,s2⟩,s3⟩:=hsq h
    rw [Zd2 h rfl,Zfh h rfl]
    refine ⟨hk.1,by omega,s3,by omega,fun h3=>⟨fun hc=>⟨s1,?_⟩,fun hc=>⟨s1,?_⟩⟩,fun h3 => ?_⟩
    ·rw [Zb6 h3,Zcg h3]
     exact ⟨rfl,hqs_y hc rfl rfl⟩
    ·rw [Zb6 h3,Zcg h3]
     exact ⟨rfl,hqs_n hc rfl⟩
    ·rw [ZcO h3,Zdl h3]
     exact ⟨rfl,rfl⟩
  | some w =>
   refine Zet (Zc7 (tcD fm l S A j ix p k bk hd br q.x q.y q.z X P w _ ⟨fun h => ?_,fun h=>⟨fun z=>absurd z (by omega),fun _ => ?_⟩⟩))
   ·rw [Zdn h,ZcY h];exact ⟨rfl,rfl⟩
   ·obtain ⟨s1,s3⟩:=hsq h
    rw [Zd2 h rfl,Zfh h rfl]
    refine ⟨hk.1,by omega,s3,by omega,fun h3=>⟨s1,?_⟩,fun h3 => ?_⟩
    ·rw [Zb6 h3,Zcg h3]
     exact ⟨rfl,rfl⟩
    ·rw [ZcO h3,Zdl h3]
     exact ⟨rfl,rfl⟩
end
end Go.Av

namespace Go.Av
open Go.Proofs
namespace N
end N
inductive RX (fm:Bool) (l:List Mo) (S A j:Int) (s:Cs):Heap->Prop
 | nil:s.P=[]->RX fm l S A j s [N.Cr fm l S A j s .vnil]
 | row (w:Nat):RX fm l S A j s [N.Cr fm l S A j s (.row 1 w),N.Rw s.P w]
 | nilx (x:Row):s.P=[]->RX fm l S A j s [N.Cr fm l S A j s .vnil,x]
 | rowx (x:Row) (w:Nat):RX fm l S A j s [N.Cr fm l S A j s (.row 2 w),x,N.Rw s.P w]
 | roww (x:Row) (w:Nat):RX fm l S A j s [N.Cr fm l S A j s (.row 1 w),N.Rw s.P w,x]
section
variable {l:List Mo} {B S A j:Int} {fm:Bool}
theorem RX_rowx {s:Cs} {P:List Mo} {L:Heap} (x:Row) (w:Nat) (e:s.P=P) (h:L=[N.Cr fm l S A j s (.row 2 w),x,N.Rw P w]):RX fm l S A j s L:=by subst e;rw [h];exact .rowx x w
theorem RX_roww {s:Cs} {P:List Mo} {L:Heap} (x:Row) (w:Nat) (e:s.P=P) (h:L=[N.Cr fm l S A j s (.row 1 w),N.Rw P w,x]):RX fm l S A j s L:=by subst e;rw [h];exact .roww x w
theorem RX_nilx {s:Cs} {L:Heap} (x:Row) (e:s.P=[]) (h:L=[N.Cr fm l S A j s .vnil,x]):RX fm l S A j s L:=by rw [h];exact .nilx x e
section
variable {s:Cs} {X:List Int} (h:¬s.br=true) (hX:s.X=some X) (hb:¬s.bk=true)
include h hX hb
end
end
end Go.Av

namespace Go.Av
open Go.Proofs
namespace N
def okDn (l:List Mo) (ix p:Int) (P:List Mo):Prop:=okC l ix p/\Zdy P
noncomputable def bkN (l:List Mo) (s:Cs):Cs:=if s.br=true then s else { s with X:=none,k:=0,bk:=false,hd:=false,br:=true,P:=stP l s.ix s.p s.q.x s.q.y s.q.z s.P,q:=po l s.ix s.p }
end N
theorem evo19_a (fm:Bool) (l:List Mo) (S A j ix p:Int) (hd br:Bool) (qx qy qz:Int) (h:N.okC l ix p):Ev M1 (.own 19 [.ptr 0 0 0 0] [⟨[.agg [.vec fm 9 (l.map Mo.a),.int .i64 S,.int .i64 A,.int .i64 j,.int .i64 ix,.int .i64 p,.vnil,.int .i64 0,.bool false,.bool hd,.bool br,.vnil,.int .i64 qx,.int .i64 qy,.int .i64 qz]],15,0,false,false⟩]) (.vec false 9 (([]:List Mo).map Mo.a)) [⟨[.agg [.vec fm 9 (l.map Mo.a),.int .i64 S,.int .i64 A,.int .i64 j,.int .i64 ix,.int .i64 p,.vnil,.int .i64 0,.bool false,.bool hd,.bool br,.vnil,.int .i64 qx,.int .i64 qy,.int .i64 qz]],15,0,false,false⟩]:=
 Zex rfl (dnA fm l S A j ix p hd br qx qy qz _ _ rfl ⟨h,fun z=>(nomatch z.2),fun _=>⟨rfl,rfl⟩⟩)
theorem evo19_b (fm:Bool) (l:List Mo) (S A j ix p:Int) (hd br:Bool) (qx qy qz:Int) (P:List Mo) (w:Nat) (h:N.okDn l ix p P):Ev M1 (.own 19 [.ptr 0 0 0 0] [⟨[.agg [.vec fm 9 (l.map Mo.a),.int .i64 S,.int .i64 A,.int .i64 j,.int .i64 ix,.int .i64 p,.vnil,.int .i64 0,.bool false,.bool hd,.bool br,.row 1 w,.int .i64 qx,.int .i64 qy,.int .i64 qz]],15,0,false,false⟩,⟨P.map Mo.a,9,w,false,true⟩]) (.vec false 9 (P.map Mo.a)) [⟨[.agg [.vec fm 9 (l.map Mo.a),.int .i64 S,.int .i64 A,.int .i64 j,.int .i64 ix,.int .i64 p,.vnil,.int .i64 0,.bool false,.bool hd,.bool br,.row 1 w,.int .i64 qx,.int .i64 qy,.int .i64 qz]],15,0,false,false⟩,⟨P.map Mo.a,9,w,true,true⟩]:=
 Zex rfl (dnB fm l S A j ix p hd br qx qy qz P w _ _ rfl ⟨h.2,h.1,fun z=>(nomatch z.2),fun _=>⟨rfl,rfl⟩⟩)
theorem evo19_c (fm:Bool) (l:List Mo) (S A j ix p:Int) (hd br:Bool) (qx qy qz:Int) (P:List Mo) (w:Nat) (h:N.okDn l ix p P):Ev M1 (.own 19 [.ptr 0 0 0 0] [⟨[.agg [.vec fm 9 (l.map Mo.a),.int .i64 S,.int .i64 A,.int .i64 j,.int .i64 ix,.int .i64 p,.vnil,.int .i64 0,.bool false,.bool hd,.bool br,.row 1 w,.int .i64 qx,.int .i64 qy,.int .i64 qz]],15,0,false,false⟩,⟨P.map Mo.a,9,w,true,true⟩]) (.vec false 9 (P.map Mo.a)) [⟨[.agg [.vec fm 9 (l.map Mo.a),.int .i64 S,.int .i64 A,.int .i64 j,.int .i64 ix,.int .i64 p,.vnil,.int .i64 0,.bool false,.bool hd,.bool br,.row 1 w,.int .i64 qx,.int .i64 qy,.int .i64 qz]],15,0,false,false⟩,⟨P.map Mo.a,9,w,true,true⟩]:=
 Zex rfl (dnT fm l S A j ix p hd br qx qy qz P w _ _ rfl ⟨h.2,h.1,fun z=>(nomatch z.2),fun _=>⟨rfl,rfl⟩⟩)
section
variable {l:List Mo} {B S A j:Int} {fm:Bool}
theorem iv_C (hl:N.okL l) {s:Cs} (hs:Iv l B s):N.okC l s.ix s.p:=⟨hl,hs.ixr,fun h=>by obtain ⟨h1,h2,h3⟩:=hs.mot h;exact ⟨h1,h2,by omega⟩⟩
theorem bk_br {s:Cs} (h:s.br=true):N.bkN l s=s:=by unfold N.bkN;rw [if_pos h]
theorem Zgc {s:Cs} (h:¬s.br=true):N.bkN l s = { s with X:=none,k:=0,bk:=false,hd:=false,br:=true,P:=N.stP l s.ix s.p s.q.x s.q.y s.q.z s.P,q:=N.po l s.ix s.p }:=by unfold N.bkN;rw [if_neg h]
theorem break_wp (hl:N.okL l) (hB:B<=1000000000) {s:Cs} (hs:Iv l B s) {L:Heap} (hL:RM fm l S A j s L):Wp M1 (.own 22 [.ptr 0 0 0 0] L) (fun v L2=>v = .tup []/\RX fm l S A j (N.bkN l s) L2):=by
 have hC:=iv_C hl hs
 have hD:=iv_D hs
 have hfew:=hs.few
 have hP:(s.P.length:Int)<=1000000000:=by split at hfew <;> omega
 obtain ⟨ix,p,X,k,bk,hd,br,P,q⟩:=s
 simp only at hC hP
 cases X with
 | none =>
  obtain ⟨hk0,hb0,_⟩:=hs.rest rfl
  simp only at hk0 hb0
  subst hk0;subst hb0
  cases hL with
  | nil hP0 =>
   simp only at hP0
   subst hP0
   refine Zef (bk_A fm l S A j ix p hd br q.x q.y q.z _ ⟨fun h => ?_,fun h=>⟨hC,fun hc => ?_,fun hc => ?_⟩⟩)
   ·rw [bk_br h];exact ⟨rfl,.nil rfl⟩
   ·rw [Zgc h];exact beEb _ _ _ _ _ _ _ _ _ _ _ _ _ _ _ _ ⟨hC,rfl,RX_rowx _ 0 (stP_y hc) rfl⟩
   ·rw [Zgc h];exact beNb _ _ _ _ _ _ _ _ _ _ _ _ _ _ ⟨hC,rfl,RX_nilx _ (stP_n hc) rfl⟩
  | row w =>
   refine Zef (bk_B fm l S A j ix p hd br q.x q.y q.z P w _ ⟨fun h => ?_,fun h=>⟨hC,fun hc=>⟨by omega,?_⟩,fun hc => ?_⟩⟩)
   ·rw [bk_br h];exact ⟨rfl,.row w⟩
   ·rw [Zgc h];exact beWb _ _ _ _ _ _ _ _ _ _ _ _ _ _ _ _ ⟨hC,rfl,RX_roww _ (w+1) (stP_y hc) rfl⟩
   ·rw [Zgc h];exact beWb _ _ _ _ _ _ _ _ _ _ _ _ _ _ _ _ ⟨hC,rfl,RX_roww _ w (stP_n hc) rfl⟩
 | some X =>
  cases hL with
  | nil hP0 =>
   simp only at hP0
   subst hP0
   refine Zef (bk_C fm l S A j ix p k bk hd br q.x q.y q.z X _ ⟨fun h => ?_,fun h=>⟨hC,fun hc => ?_,fun hc => ?_⟩⟩)
   ·rw [bk_br h];exact ⟨rfl,.nil rfl⟩
   ·rw [Zgc h];exact beEd _ _ _ _ _ _ _ _ _ _ _ _ _ _ _ _ _ _ _ ⟨hC,rfl,RX_rowx _ 0 (stP_y hc) rfl⟩
   ·rw [Zgc h];exact beNd _ _ _ _ _ _ _ _ _ _ _ _ _ _ _ _ _ ⟨hC,rfl,RX_nilx _ (stP_n hc) rfl⟩
  | row w =>
   refine Zef (bk_D fm l S A j ix p k bk hd br q.x q.y q.z X P w _ ⟨fun h => ?_,fun h=>⟨hC,fun hc=>⟨by omega,?_⟩,fun hc => ?_⟩⟩)
   ·rw [bk_br h];exact ⟨rfl,.row w⟩
   ·rw [Zgc h];exact beWd _ _ _ _ _ _ _ _ _ _ _ _ _ _ _ _ _ _ _ ⟨hC,rfl,RX_roww _ (w+1) (stP_y hc) rfl⟩
   ·rw [Zgc h];exact beWd _ _ _ _ _ _ _ _ _ _ _ _ _ _ _ _ _ _ _ ⟨hC,rfl,RX_roww _ w (stP_n hc) rfl⟩
end
end Go.Av

namespace Go.Av
open Go.Proofs
set_option maxRecDepth 100000
def fi74:Fi:=⟨21,[.tmp 2]⟩
def kp74:List (Nat × List Nat):=[(0,[1]),(1,[2])]
def frA_at (x y z:Int) (Q:AV->Heap->Prop):Prop:=Wp M1 (.run fi74 (atC (cd Try.f74) []) [(0,.agg [.int .i64 x,.int .i64 y,.int .i64 z])] []) Q
theorem call74 {args:List AV} {d:AV} (h:wc M1 fi74 Try.f74 args d):Ev M1 (.pure 74 args) d []:=pcl _ _ (by kernel_rfl) h
theorem frA (x y z:Int)  (dq:AV) (H :
  vb (bif decide ((if z>if y>x then y else x then z else if y>x then y else x)>10000000) then true else decide ((if z<if y<x then y else x then z else if y<x then y else x) < -10000000))=dq) :
 frA_at x y z (Zaj dq):=by
 unfold frA_at
 exact Zap (G:=Zab kp74 [] []) 1000 [] (asm:=[true,true,true,!(decide ((if z>if y>x then y else x then z else if y>x then y else x)>10000000)==false&&true)||true,!(decide ((if z>if y>x then y else x then z else if y>x then y else x)>10000000)==false&&true)||true,!(decide ((if z>if y>x then y else x then z else if y>x then y else x)>10000000)==false&&true)||true]) (vb (bif decide ((if z>if y>x then y else x then z else if y>x then y else x)>10000000) then true else decide ((if z<if y<x then y else x then z else if y<x then y else x) < -10000000))) (by kernel_rfl) (bc rfl (bc rfl (bc rfl (bc (Bool.or_true _) (bc (Bool.or_true _) (bc (Bool.or_true _) b0)))))) q0 c0 H
end Go.Av

namespace Go.Av
open Go.Proofs
namespace N
def okFar (x y z:Int):Prop:=(-10000000<=x/\x<=10000000)/\(-10000000<=y/\y<=10000000) /\ -10000000<=z/\z<=10000000
end N
theorem ev74 (x y z:Int) (h:N.okFar x y z):Ev M1 (.pure 74 [.agg [.int .i64 x,.int .i64 y,.int .i64 z]]) (.bool false) []:=by
 obtain ⟨h1,h2,h3⟩:=h
 refine call74 (frA x y z _ ?_)
 have e1:decide ((if z>if y>x then y else x then z else if y>x then y else x)>10000000)=false:=by
  rw [decide_eq_false_iff_not]
  split <;> split <;> omega
 have e2:decide ((if z<if y<x then y else x then z else if y<x then y else x) < -10000000)=false:=by
  rw [decide_eq_false_iff_not]
  split <;> split <;> omega
 rw [e1,e2];rfl
end Go.Av

namespace Go.Av
open Go.Proofs
set_option maxRecDepth 100000
def fi40:Fi:=⟨79,[.tmp 4]⟩
def kp40:List (Nat × List Nat):=[(0,[0,3]),(1,[0,3,15]),(2,[4]),(3,[0,3,16,17,18]),(4,[0,3,16,17,18,19]),(5,[0,3,5,6,16,17,18]),(6,[0,3,16,17,18,40]),(7,[4]),(8,[0,3,16,17,18]),(9,[0,3,42,43,44]),(10,[0,3,42,43,44,45]),(11,[0,3,8,42,43,44]),(12,[0,3,42,43,44,55]),(13,[4]),(14,[0,3,42,43,44]),(15,[0,3,59]),(16,[4]),(17,[3,60,61,62]),(18,[3,60,61,62,63]),(19,[3,10,60,61,62]),(20,[3,12,60,61,62]),(21,[3,12,60,61,62,76]),(22,[4]),(23,[3,60,61,62]),(24,[4])]
def ckA_at (f:Bool) (l:List Mo) (S A j:Int) (Q:AV->Heap->Prop):Prop:=Wp M1 (.run fi40 (atC (cd Try.f40) []) [(0,.vec f 9 (l.map Mo.a)),(1,.agg [.int .i64 S,.int .i64 A,.int .i64 j])] []) Q
def ckB_at (f:Bool) (l:List Mo) (S A j:Int) (n i:Int) (Q:AV->Heap->Prop):Prop:=Wp M1 (.run fi40 (atC (cd Try.f40) [1,1,0,1,0,0]) [(0,.vec f 9 (l.map Mo.a)),(3,.ptr 0 0 0 0),(16,.vec f 9 (l.map Mo.a)),(17,.int .i64 n),(18,.int .i64 i)] [⟨[.agg [.int .i64 S,.int .i64 A,.int .i64 j]],3,0,false,false⟩]) Q
def ckC_at (f:Bool) (l:List Mo) (S A j:Int) (n i:Int) (Q:AV->Heap->Prop):Prop:=Wp M1 (.run fi40 (atC (cd Try.f40) [1,1,1,0,1,0,0]) [(0,.vec f 9 (l.map Mo.a)),(3,.ptr 0 0 0 0),(42,.vec f 9 (l.map Mo.a)),(43,.int .i64 n),(44,.int .i64 i)] [⟨[.agg [.int .i64 S,.int .i64 A,.int .i64 j]],3,0,false,false⟩]) Q
def ckD_at (f:Bool) (l:List Mo) (S A j:Int) (n i:Int) (Q:AV->Heap->Prop):Prop:=Wp M1 (.run fi40 (atC (cd Try.f40) [1,1,1,1,1,0,1,0,0]) [(3,.ptr 0 0 0 0),(60,.vec f 9 (l.map Mo.a)),(61,.int .i64 n),(62,.int .i64 i)] [⟨[.agg [.int .i64 S,.int .i64 A,.int .i64 j]],3,0,false,false⟩]) Q
theorem call40 {args:List AV} {d:AV} (h:wc M1 fi40 Try.f40 args d):Ev M1 (.pure 40 args) d []:=pcl _ _ (by kernel_rfl) h
theorem ckA (f:Bool) (l:List Mo) (S A j:Int)  (dq:AV) (H :
  ((¬N.vlE S A j=0)->vi 1=dq) /\
  (¬(¬N.vlE S A j=0)->ckB_at f l S A j ((↑l.length:Int)) 0 (Zaj dq))) :
 ckA_at f l S A j (Zaj dq):=by
 unfold ckA_at
 refine Zac (G:=Zab kp40 [(1,1,.call (vi (N.vlE S A j)) none)] []) 5 [] ⟨(atC (cd Try.f40) [1,0,1]),[(0,AV.vec f 9 (List.map Mo.a l)),(3,AV.ptr 0 0 0 0),(15,vb (N.vlE S A j != 0))],[⟨[ag [vi S,vi A,vi j]],3,0,false,false⟩],_,[],_⟩ (by kernel_rfl) (bc rfl b0) q0 (ce (@ev73 S A j) c0) ?_
 rcases xq H with ⟨d2,H⟩|⟨d2,H⟩
 ·exact Zap (G:=Zab kp40 [] []) 1000 [true] (vi 1) (by kernel_rfl) (bc (Zam (i_ne.2 d2)) b0) q0 c0 H
 ·have w3:(List.map Mo.a l).length=l.length:=List.length_map ..
  exact Zac (G:=Zab kp40 [] []) 1000 [false] ⟨(atC (cd Try.f40) [1,1,0,1,0,0]),[(0,AV.vec f 9 (List.map Mo.a l)),(3,AV.ptr 0 0 0 0),(16,AV.vec f 9 (List.map Mo.a l)),(17,vi (↑(List.map Mo.a l).length:Int)),(18,vi 0)],[⟨[ag [vi S,vi A,vi j]],3,0,false,false⟩],_,[],_⟩ (by kernel_rfl) (bc (Zal (fun h=>d2 (i_ne.1 h))) b0) q0 c0 (by (try rw [w3]);all_goals exact H)
noncomputable abbrev zCxP1 (l:List Mo) (i:Int):=ag [vi (l.getD i.toNat default).x,vi (l.getD i.toNat default).y,vi (l.getD i.toNat default).z,vi (l.getD i.toNat default).u,vi (l.getD i.toNat default).v,vi (l.getD i.toNat default).w,vi (l.getD i.toNat default).r,vi (l.getD i.toNat default).t,vi (l.getD i.toNat default).b]
noncomputable abbrev zCxP2 (l:List Mo) (i:Int):=ag [vi (l.getD (i-1).toNat default).x,vi (l.getD (i-1).toNat default).y,vi (l.getD (i-1).toNat default).z,vi (l.getD (i-1).toNat default).u,vi (l.getD (i-1).toNat default).v,vi (l.getD (i-1).toNat default).w,vi (l.getD (i-1).toNat default).r,vi (l.getD (i-1).toNat default).t,vi (l.getD (i-1).toNat default).b]
noncomputable abbrev zCxP3 (S:Int) (A:Int) (j:Int):=ag [vi S,vi A,vi j]
theorem ckB (f:Bool) (l:List Mo) (S A j:Int) (n i:Int)  (dq:AV) (H :
  ((i<n)->(0<=i) /\
   (i.toNat<l.length) /\
   (-9223372036854775808<=i-1/\i-1<=9223372036854775807) /\
   (((i>0)/\(¬((l.getD i.toNat default).r<0)))->(0<=i-1)) /\
   (((i>0)/\(¬((l.getD i.toNat default).r<0)))->((i-1).toNat<l.length)) /\
   ((((l.getD i.toNat default).r<0)\/((i>0)/\(¬(((l.getD (i-1).toNat default).u=(l.getD i.toNat default).x)/\(((l.getD (i-1).toNat default).v=(l.getD i.toNat default).y)/\((l.getD (i-1).toNat default).w=(l.getD i.toNat default).z))))))->vi 1=dq) /\
   (¬(((l.getD i.toNat default).r<0)\/((i>0)/\(¬(((l.getD (i-1).toNat default).u=(l.getD i.toNat default).x)/\(((l.getD (i-1).toNat default).v=(l.getD i.toNat default).y)/\((l.getD (i-1).toNat default).w=(l.getD i.toNat default).z))))))->(-9223372036854775808<=i+1/\i+1<=9223372036854775807) /\
    ckB_at f l S A j n (i+1) (Zaj dq))) /\
  (¬(i<n)->ckC_at f l S A j ((↑l.length:Int)) 0 (Zaj dq))) :
 ckB_at f l S A j n i (Zaj dq):=by
 unfold ckB_at
 rcases xq H with ⟨d2,H⟩|⟨d2,H⟩
 ·obtain ⟨k4,H⟩:=H
  have w5:(List.map Mo.a l).length=l.length:=List.length_map ..
  have i6:(decide (i.toNat<(List.map Mo.a l).length))=true ↔ (i.toNat<l.length):=(by (try rw [w5]);all_goals exact Zad)
  obtain ⟨k7,k8,H⟩:=H
  have w9:wi (i-1)=i-1:=wI64 k8
  have i10:(!(decide (i>0)==true&&(decide ((l.getD i.toNat default).r<0)==false&&true))||decide (0<=wi (i-1)))=true ↔ (((i>0)/\(¬((l.getD i.toNat default).r<0)))->(0<=i-1)):=(by (try rw [w9]);all_goals exact (Zdf (Zau (i_bt Zad) (i_at (i_bf Zad))) Zad))
  obtain ⟨k11,H⟩:=H
  have i12:(!(decide (i>0)==true&&(decide ((l.getD i.toNat default).r<0)==false&&true))||decide ((wi (i-1)).toNat<(List.map Mo.a l).length))=true ↔ (((i>0)/\(¬((l.getD i.toNat default).r<0)))->((i-1).toNat<l.length)):=(by (try rw [w5]);(try rw [w9]);all_goals exact (Zdf (Zau (i_bt Zad) (i_at (i_bf Zad))) Zad))
  obtain ⟨k13,H⟩:=H
  refine Zac (G:=Zab kp40 [(5,2,.elem ((zCxP1 l i))),(6,12,.elem (zCxP2 l i))] []) 11 [true] ⟨(atC (cd Try.f40) [1,1,0,1,0,0,1,1,0,0,1,1]),[(0,AV.vec f 9 (List.map Mo.a l)),(3,AV.ptr 0 0 0 0),(16,AV.vec f 9 (List.map Mo.a l)),(17,vi n),(18,vi i),(40,vb (bif decide ((l.getD i.toNat default).r<0) then true else bif decide (i>0) then !((l.getD (i-1).toNat default).u==(l.getD i.toNat default).x&&((l.getD (i-1).toNat default).v==(l.getD i.toNat default).y&&((l.getD (i-1).toNat default).w==(l.getD i.toNat default).z&&true))) else false))],[⟨[(zCxP3 S A j)],3,0,false,false⟩,⟨[(zCxP1 l i)],9,0,false,false⟩],[(decide (i<n))==true,decide (0<=i),decide (i.toNat<(List.map Mo.a l).length),true,true,!(decide (i>0)==true&&(decide ((l.getD i.toNat default).r<0)==false&&true))||decide (0<=wi (i-1)),!(decide (i>0)==true&&(decide ((l.getD i.toNat default).r<0)==false&&true))||decide ((wi (i-1)).toNat<(List.map Mo.a l).length),!(decide (i>0)==true&&(decide ((l.getD i.toNat default).r<0)==false&&true))||true],[((List.map Mo.a l).get?Internal i.toNat=some ((zCxP1 l i))),((decide (i>0)==true&&(decide ((l.getD i.toNat default).r<0)==false&&true))=true->(List.map Mo.a l).get?Internal (wi (i-1)).toNat=some (zCxP2 l i))],_⟩ (by kernel_rfl) (bc (Zam (Zad.2 d2)) (bc (Zad.2 k4) (bc (i6.2 k7) (bc rfl (bc rfl (bc (i10.2 k11) (bc (i12.2 k13) (bc (Bool.or_true _) b0)))))))) (qc (Zaz k7) (qc (by (try rw [w9]);all_goals exact (fun h=>Zaz (k13 ((Zau (i_bt Zad) (i_at (i_bf Zad))).1 h)))) q0)) c0 ?_
  rcases xq H with ⟨d16,H⟩|⟨d16,H⟩
  ·exact Zap (G:=Zab kp40 [] []) 1000 [true] (vi 1) (by kernel_rfl) (bc (Zam ((ZaD Zad (Za9 Zad (Zay (Zau i_eq (Zau i_eq (i_at i_eq)))))).2 d16)) b0) q0 c0 H
  ·obtain ⟨k17,H⟩:=H
   have w18:wi (i+1)=i+1:=wI64 k17
   exact Zac (G:=Zab kp40 [] []) 1000 [false] ⟨(atC (cd Try.f40) [1,1,0,1,0,0]),[(0,AV.vec f 9 (List.map Mo.a l)),(3,AV.ptr 0 0 0 0),(16,AV.vec f 9 (List.map Mo.a l)),(17,vi n),(18,vi (wi (i+1)))],[⟨[(zCxP3 S A j)],3,0,false,false⟩,⟨[(zCxP1 l i)],9,0,false,false⟩],_,[],_⟩ (by kernel_rfl) (bc (Zal (fun h=>d16 ((ZaD Zad (Za9 Zad (Zay (Zau i_eq (Zau i_eq (i_at i_eq)))))).1 h))) b0) q0 c0 (by (try rw [w18]);all_goals exact Zan [0] (by kernel_rfl) H)
 ·have w19:(List.map Mo.a l).length=l.length:=List.length_map ..
  exact Zac (G:=Zab kp40 [] []) 1000 [false] ⟨(atC (cd Try.f40) [1,1,1,0,1,0,0]),[(0,AV.vec f 9 (List.map Mo.a l)),(3,AV.ptr 0 0 0 0),(42,AV.vec f 9 (List.map Mo.a l)),(43,vi (↑(List.map Mo.a l).length:Int)),(44,vi 0)],[⟨[(zCxP3 S A j)],3,0,false,false⟩],_,[],_⟩ (by kernel_rfl) (bc (Zal (fun h=>d2 (Zad.1 h))) b0) q0 c0 (by (try rw [w19]);all_goals exact H)
noncomputable abbrev zCxP4 (l:List Mo) (i:Int):=ag [vi (l.getD i.toNat default).x,vi (l.getD i.toNat default).y,vi (l.getD i.toNat default).z,vi (l.getD i.toNat default).u,vi (l.getD i.toNat default).v,vi (l.getD i.toNat default).w,vi (l.getD i.toNat default).r,vi (l.getD i.toNat default).t,vi (l.getD i.toNat default).b]
theorem ckC (f:Bool) (l:List Mo) (S A j:Int) (n i:Int)  (dq:AV) (H :
  ((i<n)->(0<=i) /\
   (i.toNat<l.length) /\
   (N.okFar (l.getD i.toNat default).x (l.getD i.toNat default).y (l.getD i.toNat default).z) /\
   (N.okFar (l.getD i.toNat default).u (l.getD i.toNat default).v (l.getD i.toNat default).w) /\
   (-9223372036854775808<=i+1/\i+1<=9223372036854775807) /\
   ckC_at f l S A j n (i+1) (Zaj dq)) /\
  (¬(i<n)->(((↑l.length:Int)>20000)->vi 3=dq) /\
   (¬((↑l.length:Int)>20000)->ckD_at f l S A j ((↑l.length:Int)) 0 (Zaj dq)))) :
 ckC_at f l S A j n i (Zaj dq):=by
 unfold ckC_at
 rcases xq H with ⟨d2,H⟩|⟨d2,H⟩
 ·obtain ⟨k4,H⟩:=H
  have w5:(List.map Mo.a l).length=l.length:=List.length_map ..
  have i6:(decide (i.toNat<(List.map Mo.a l).length))=true ↔ (i.toNat<l.length):=(by (try rw [w5]);all_goals exact Zad)
  obtain ⟨k7,k8,k9,k10,H⟩:=H
  have w11:wi (i+1)=i+1:=wI64 k10
  exact Zac (G:=Zab kp40 [(11,1,.elem ((zCxP4 l i))),(12,2,.call (vb false) none),(12,6,.call (vb false) none)] []) 1000 [true,false] ⟨(atC (cd Try.f40) [1,1,1,0,1,0,0]),[(0,AV.vec f 9 (List.map Mo.a l)),(3,AV.ptr 0 0 0 0),(42,AV.vec f 9 (List.map Mo.a l)),(43,vi n),(44,vi (wi (i+1)))],[⟨[ag [vi S,vi A,vi j]],3,0,false,false⟩,⟨[(zCxP4 l i)],9,0,false,false⟩],_,[((List.map Mo.a l).get?Internal i.toNat=some ((zCxP4 l i)))],_⟩ (by kernel_rfl) (bc (Zam (Zad.2 d2)) (bc (Zad.2 k4) (bc (i6.2 k7) (bc rfl (bc rfl (bc rfl (bc rfl b0))))))) (qc (Zaz k7) q0) (ce (@ev74 ((l.getD i.toNat default).x) ((l.getD i.toNat default).y) ((l.getD i.toNat default).z) k8) (ce (@ev74 ((l.getD i.toNat default).u) ((l.getD i.toNat default).v) ((l.getD i.toNat default).w) k9) c0)) (by (try rw [w11]);all_goals exact Zan [0] (by kernel_rfl) H)
 ·have w12:(List.map Mo.a l).length=l.length:=List.length_map ..
  have i13:(decide ((↑(List.map Mo.a l).length:Int)>20000))=true ↔ ((↑l.length:Int)>20000):=(by (try rw [w12]);all_goals exact Zad)
  rcases xq H with ⟨d14,H⟩|⟨d14,H⟩
  ·exact Zap (G:=Zab kp40 [] []) 1000 [false,true] (vi 3) (by kernel_rfl) (bc (Zal (fun h=>d2 (Zad.1 h))) (bc (Zam (i13.2 d14)) b0)) q0 c0 H
  ·exact Zac (G:=Zab kp40 [] []) 1000 [false,false] ⟨(atC (cd Try.f40) [1,1,1,1,1,0,1,0,0]),[(3,AV.ptr 0 0 0 0),(60,AV.vec f 9 (List.map Mo.a l)),(61,vi (↑(List.map Mo.a l).length:Int)),(62,vi 0)],[⟨[ag [vi S,vi A,vi j]],3,0,false,false⟩],_,[],_⟩ (by kernel_rfl) (bc (Zal (fun h=>d2 (Zad.1 h))) (bc (Zal (fun h=>d14 (i13.1 h))) b0)) q0 c0 (by (try rw [w12]);all_goals exact H)
noncomputable abbrev zCxP5 (l:List Mo) (i:Int):=ag [vi (l.getD i.toNat default).x,vi (l.getD i.toNat default).y,vi (l.getD i.toNat default).z,vi (l.getD i.toNat default).u,vi (l.getD i.toNat default).v,vi (l.getD i.toNat default).w,vi (l.getD i.toNat default).r,vi (l.getD i.toNat default).t,vi (l.getD i.toNat default).b]
noncomputable abbrev zCxP6 (l:List Mo) (i:Int):=N.len ((l.getD i.toNat default).u-(l.getD i.toNat default).x) ((l.getD i.toNat default).v-(l.getD i.toNat default).y) ((l.getD i.toNat default).w-(l.getD i.toNat default).z)
theorem ckD (f:Bool) (l:List Mo) (S A j:Int) (n i:Int)  (dq:AV) (H :
  ((i<n)->(0<=i) /\
   (i.toNat<l.length) /\
   (N.cl ((l.getD i.toNat default).u-(l.getD i.toNat default).x)/\N.cl ((l.getD i.toNat default).v-(l.getD i.toNat default).y)/\N.cl ((l.getD i.toNat default).w-(l.getD i.toNat default).z)) /\
   (N.okR (l.getD i.toNat default).r) /\
   (N.okSt (N.len ((l.getD i.toNat default).u-(l.getD i.toNat default).x) ((l.getD i.toNat default).v-(l.getD i.toNat default).y) ((l.getD i.toNat default).w-(l.getD i.toNat default).z))) /\
   ((¬N.stE (N.lm (l.getD i.toNat default).r S) A j (N.len ((l.getD i.toNat default).u-(l.getD i.toNat default).x) ((l.getD i.toNat default).v-(l.getD i.toNat default).y) ((l.getD i.toNat default).w-(l.getD i.toNat default).z))=0)->vi (N.stE (N.lm (l.getD i.toNat default).r S) A j (N.len ((l.getD i.toNat default).u-(l.getD i.toNat default).x) ((l.getD i.toNat default).v-(l.getD i.toNat default).y) ((l.getD i.toNat default).w-(l.getD i.toNat default).z)))=dq) /\
   (¬(¬N.stE (N.lm (l.getD i.toNat default).r S) A j (N.len ((l.getD i.toNat default).u-(l.getD i.toNat default).x) ((l.getD i.toNat default).v-(l.getD i.toNat default).y) ((l.getD i.toNat default).w-(l.getD i.toNat default).z))=0)->(-9223372036854775808<=i+1/\i+1<=9223372036854775807) /\
    ckD_at f l S A j n (i+1) (Zaj dq))) /\
  (¬(i<n)->vi 0=dq)) :
 ckD_at f l S A j n i (Zaj dq):=by
 unfold ckD_at
 rcases xq H with ⟨d2,H⟩|⟨d2,H⟩
 ·obtain ⟨k4,H⟩:=H
  have w5:(List.map Mo.a l).length=l.length:=List.length_map ..
  have i6:(decide (i.toNat<(List.map Mo.a l).length))=true ↔ (i.toNat<l.length):=(by (try rw [w5]);all_goals exact Zad)
  obtain ⟨k7,k8,k9,k10,H⟩:=H
  refine Zac (G:=Zab kp40 [(19,1,.elem ((zCxP5 l i))),(20,1,.call (vi (zCxP6 l i)) none),(20,4,.call (ag [vi (N.lm (l.getD i.toNat default).r S),vi A,vi j]) none),(20,5,.call (tu [vf (List.map vi (N.stX (N.lm (l.getD i.toNat default).r S) A j (zCxP6 l i))),vi (N.stE (N.lm (l.getD i.toNat default).r S) A j (zCxP6 l i))]) none)] []) 13 [true] ⟨(atC (cd Try.f40) [1,1,1,1,1,0,1,0,0,1,1,0,0,1,1,1]),[(3,AV.ptr 0 0 0 0),(12,vi (N.stE (N.lm (l.getD i.toNat default).r S) A j (zCxP6 l i))),(60,AV.vec f 9 (List.map Mo.a l)),(61,vi n),(62,vi i),(76,vb (N.stE (N.lm (l.getD i.toNat default).r S) A j (zCxP6 l i) != 0))],[⟨[ag [vi S,vi A,vi j]],3,0,false,false⟩,⟨[(zCxP5 l i)],9,0,false,false⟩],_,[((List.map Mo.a l).get?Internal i.toNat=some ((zCxP5 l i)))],_⟩ (by kernel_rfl) (bc (Zam (Zad.2 d2)) (bc (Zad.2 k4) (bc (i6.2 k7) (bc rfl (bc rfl (bc rfl (bc rfl b0))))))) (qc (Zaz k7) q0) (ce (@ev51 ((l.getD i.toNat default).x) ((l.getD i.toNat default).y) ((l.getD i.toNat default).z) ((l.getD i.toNat default).u) ((l.getD i.toNat default).v) ((l.getD i.toNat default).w) ((l.getD i.toNat default).r) ((l.getD i.toNat default).t) ((l.getD i.toNat default).b) k8) (ce (@ev46 ((l.getD i.toNat default).x) ((l.getD i.toNat default).y) ((l.getD i.toNat default).z) ((l.getD i.toNat default).u) ((l.getD i.toNat default).v) ((l.getD i.toNat default).w) ((l.getD i.toNat default).r) ((l.getD i.toNat default).t) ((l.getD i.toNat default).b) S A j k9) (ce (@ev44 (N.lm (l.getD i.toNat default).r S) A j (zCxP6 l i) k10) c0))) ?_
  rcases xq H with ⟨d12,H⟩|⟨d12,H⟩
  ·exact Zap (G:=Zab kp40 [] []) 1000 [true] (vi (N.stE (N.lm (l.getD i.toNat default).r S) A j (zCxP6 l i))) (by kernel_rfl) (bc (Zam (i_ne.2 d12)) b0) q0 c0 H
  ·obtain ⟨k13,H⟩:=H
   have w14:wi (i+1)=i+1:=wI64 k13
   exact Zac (G:=Zab kp40 [] []) 1000 [false] ⟨(atC (cd Try.f40) [1,1,1,1,1,0,1,0,0]),[(3,AV.ptr 0 0 0 0),(60,AV.vec f 9 (List.map Mo.a l)),(61,vi n),(62,vi (wi (i+1)))],[⟨[ag [vi S,vi A,vi j]],3,0,false,false⟩,⟨[(zCxP5 l i)],9,0,false,false⟩],_,[],_⟩ (by kernel_rfl) (bc (Zal (fun h=>d12 (i_ne.1 h))) b0) q0 c0 (by (try rw [w14]);all_goals exact Zan [0] (by kernel_rfl) H)
 ·exact Zap (G:=Zab kp40 [] []) 1000 [false] (vi 0) (by kernel_rfl) (bc (Zal (fun h=>d2 (Zad.1 h))) b0) q0 c0 H
end Go.Av

namespace Go.Av
open Go.Proofs
namespace N
def okCk (l:List Mo) (S A j:Int):Prop:=(okT l/\l.length<=20000)/\Zbv S A j/\good l S A j /\ ∀ i,i<l.length->0<=(l.getD i default).r
end N
section
variable {l:List Mo} {S A j:Int} (f:Bool) (h:N.okCk l S A j)
include h
theorem ckD_loop:∀ (k i:Nat),i+k=l.length->ckD_at f l S A j l.length i (Zaj (.int .i64 0)):=by
 obtain ⟨⟨⟨hl,hc⟩,hn⟩,hL,hg,hr⟩:=h
 intro k
 induction k with
 | zero =>
  intro i hi
  exact ckD _ _ _ _ _ _ _ _ ⟨fun z=>absurd z (by omega),fun _=>rfl⟩
 | succ k ih =>
  intro i hi
  have hm:=ZbQ (hl.2 i (by omega))
  obtain ⟨g1,g2⟩:=hg i (by omega)
  have g3:N.stE (N.lm (l.getD i default).r S) A j (N.len ((l.getD i default).u-(l.getD i default).x) ((l.getD i default).v-(l.getD i default).y) ((l.getD i default).w-(l.getD i default).z))=0:=g2 (N.ml (l.getD i default)) hm.2.1 hm.2.2
  have g4:N.okSt (N.len ((l.getD i default).u-(l.getD i default).x) ((l.getD i default).v-(l.getD i default).y) ((l.getD i default).w-(l.getD i default).z)):=by
   show N.ml (l.getD i default)<=1000000
   omega
  refine ckD _ _ _ _ _ _ _ _ ⟨fun _ => ?_,fun z=>absurd (by omega) z⟩
  rw [Int.toNat_natCast]
  exact ⟨by omega,by omega,hm.1,g1,g4,fun z=>absurd g3 z,fun _=>⟨by omega,ih (i+1) (by omega)⟩⟩
theorem ckC_loop:∀ (k i:Nat),i+k=l.length->ckC_at f l S A j l.length i (Zaj (.int .i64 0)):=by
 have hD:=ckD_loop f h l.length 0 (by omega)
 obtain ⟨⟨⟨hl,hc⟩,hn⟩,hL,hg,hr⟩:=h
 intro k
 induction k with
 | zero =>
  intro i hi
  exact ckC _ _ _ _ _ _ _ _ ⟨fun z=>absurd z (by omega),fun _=>⟨fun z=>absurd z (by omega),fun _=>hD⟩⟩
 | succ k ih =>
  intro i hi
  have hm:=hl.2 i (by omega)
  unfold N.okM at hm
  refine ckC _ _ _ _ _ _ _ _ ⟨fun _ => ?_,fun z=>absurd (by omega) z⟩
  rw [Int.toNat_natCast]
  exact ⟨by omega,by omega,⟨by omega,by omega,by omega⟩,⟨by omega,by omega,by omega⟩,by omega,ih (i+1) (by omega)⟩
theorem ckB_loop:∀ (k i:Nat),i+k=l.length->ckB_at f l S A j l.length i (Zaj (.int .i64 0)):=by
 have hD:=ckC_loop f h l.length 0 (by omega)
 obtain ⟨⟨⟨hl,hc⟩,hn⟩,hL,hg,hr⟩:=h
 intro k
 induction k with
 | zero =>
  intro i hi
  exact ckB _ _ _ _ _ _ _ _ ⟨fun z=>absurd z (by omega),fun _=>hD⟩
 | succ k ih =>
  intro i hi
  have hri:=hr i (by omega)
  have hcc:(i:Int)>0->((l.getD ((i:Int)-1).toNat default).u=(l.getD i default).x)/\((l.getD ((i:Int)-1).toNat default).v=(l.getD i default).y)/\(l.getD ((i:Int)-1).toNat default).w=(l.getD i default).z:=fun hp=>by
   have:=hc (i-1) (by omega)
   rw [show i-1+1=i by omega] at this
   unfold Mo.dst Mo.src at this
   injection this with e1 e2 e3
   rw [show ((i:Int)-1).toNat=i-1 by omega]
   exact ⟨e1,e2,e3⟩
  have hno:¬(((l.getD i default).r<0)\/((i:Int)>0/\¬(((l.getD ((i:Int)-1).toNat default).u=(l.getD i default).x)/\(((l.getD ((i:Int)-1).toNat default).v=(l.getD i default).y)/\(l.getD ((i:Int)-1).toNat default).w=(l.getD i default).z)))):=by
   rintro (y | y)
   ·omega
   ·exact y.2 (hcc y.1)
  refine ckB _ _ _ _ _ _ _ _ ⟨fun _ => ?_,fun z=>absurd (by omega) z⟩
  rw [Int.toNat_natCast]
  exact ⟨by omega,by omega,by omega,fun z=>by omega,fun z=>by omega,fun z=>absurd z hno,fun _=>⟨by omega,ih (i+1) (by omega)⟩⟩
end
theorem ev40 (f:Bool) (l:List Mo) (S A j:Int) (h:N.okCk l S A j):Ev M1 (.pure 40 [.vec f 9 (l.map Mo.a),.agg [.int .i64 S,.int .i64 A,.int .i64 j]]) (.int .i64 0) []:=
 call40 (ckA f l S A j _ ⟨fun z=>absurd (ZdE.2 h.2.1) z,fun _=>ckB_loop f h l.length 0 (by omega)⟩)
end Go.Av

namespace Go.Av
open Go.Proofs
set_option maxRecDepth 100000
def fi9:Fi:=⟨32,[.tmp 4,.tmp 5]⟩
def kp9:List (Nat × List Nat):=[(0,[0,3]),(1,[0,3,6]),(2,[0,3,6,12]),(3,[4,5]),(4,[0,7]),(5,[0,7,21]),(6,[7]),(7,[7]),(8,[4,5])]
def nwA_at (f:Bool) (l:List Mo) (S A j:Int) (Q:AV->Heap->Prop):Prop:=Wp M1 (.run fi9 (atC (cd Try.f9) []) [(0,.vec f 9 (l.map Mo.a)),(1,.agg [.int .i64 S,.int .i64 A,.int .i64 j])] []) Q
theorem owncall9 {args:List AV} {L:Heap} {Q:AV->Heap->Prop} (h:Wp M1 (.run fi9 [.code (cd Try.f9)] (ZaN 0 args) L) Q):Wp M1 (.own 9 args L) Q:=
 ZfA Try.f9 fi9 (by kernel_rfl) (by kernel_rfl) (by kernel_rfl) (by kernel_rfl) h
noncomputable abbrev zCxQ1 (l:List Mo):=ag [vi (l.getD 0 default).x,vi (l.getD 0 default).y,vi (l.getD 0 default).z,vi (l.getD 0 default).u,vi (l.getD 0 default).v,vi (l.getD 0 default).w,vi (l.getD 0 default).r,vi (l.getD 0 default).t,vi (l.getD 0 default).b]
noncomputable abbrev zCxQ2 (S:Int) (A:Int) (j:Int):=ag [vi S,vi A,vi j]
theorem nwA (f:Bool) (l:List Mo) (S A j:Int)  (Q:AV->Heap->Prop) (H :
  (N.okCk l S A j) /\
  (N.Zdy l) /\
  (((↑l.length:Int)>0)->(0<l.length) /\
   (N.okK l 0) /\
   Q (tu [AV.ptr 1 0 0 0,vi 0]) [{ elems:=[ag [vi S,vi A,vi j]],es:=3,ver:=0,frozen:=false,clean:=false },{ elems:=[ag [AV.vec false 9 (List.map Mo.a l),vi S,vi A,vi j,vi (N.skI l 0),vi 0,AV.vnil,vi 0,vb false,vb false,vb false,AV.vnil,vi (l.getD 0 default).x,vi (l.getD 0 default).y,vi (l.getD 0 default).z]],es:=15,ver:=0,frozen:=false,clean:=false }]) /\
  (¬((↑l.length:Int)>0)->(N.okK l 0) /\
   Q (tu [AV.ptr 1 0 0 0,vi 0]) [{ elems:=[ag [vi S,vi A,vi j]],es:=3,ver:=0,frozen:=false,clean:=false },{ elems:=[ag [AV.vec false 9 (List.map Mo.a l),vi S,vi A,vi j,vi (N.skI l 0),vi 0,AV.vnil,vi 0,vb false,vb false,vb false,AV.vnil,vi 0,vi 0,vi 0]],es:=15,ver:=0,frozen:=false,clean:=false }])) :
 nwA_at f l S A j Q:=by
 unfold nwA_at
 obtain ⟨k1,k2,H⟩:=H
 have w3:(List.map Mo.a l).length=l.length:=List.length_map ..
 have i4:(decide ((↑(List.map Mo.a l).length:Int)>0))=true ↔ ((↑l.length:Int)>0):=(by (try rw [w3]);all_goals exact Zad)
 refine Zac (G:=Zab kp9 [(1,2,.call (vi 0) none),(4,1,.call (AV.vec false 9 (List.map Mo.a l)) none)] []) 14 [false] ⟨(atC (cd Try.f9) [1,1,1,0,1]),[(0,AV.vec f 9 (List.map Mo.a l)),(7,AV.ptr 1 0 0 0),(21,vb (decide ((↑(List.map Mo.a l).length:Int)>0)))],[⟨[(zCxQ2 S A j)],3,0,false,false⟩,⟨[ag [AV.vec false 9 (List.map Mo.a l),vi S,vi A,vi j,vi 0,vi 0,AV.vnil,vi 0,vb false,vb false,vb false,AV.vnil,vi 0,vi 0,vi 0]],15,0,false,false⟩],_,[],_⟩ (by kernel_rfl) (bc rfl (bc rfl (bc rfl b0))) q0 (ce (@ev40 f l S A j k1) (ce (@ev41 f l k2) c0)) ?_
 rcases xq H with ⟨d5,H⟩|⟨d5,H⟩
 ·have i6:(decide (0<(List.map Mo.a l).length))=true ↔ (0<l.length):=(by (try rw [w3]);all_goals exact Zad)
  obtain ⟨k7,k8,H⟩:=H
  exact Zai (G:=Zab kp9 [(6,4,.elem (zCxQ1 l)),(7,1,.call (tu []) (some [⟨[ag [AV.vec false 9 (List.map Mo.a l),vi S,vi A,vi j,vi (N.skI l 0),vi 0,AV.vnil,vi 0,vb false,vb false,vb false,AV.vnil,vi (l.getD 0 default).x,vi (l.getD 0 default).y,vi (l.getD 0 default).z]],15,0,false,false⟩]))] []) 1000 [true] (k:=((atC (cd Try.f9) [1,1,1,1,1,1])).tail) (env':=[(4,AV.ptr 1 0 0 0),(5,vi 0)]) (L':=[⟨[(zCxQ2 S A j)],3,0,false,false⟩,⟨[ag [AV.vec false 9 (List.map Mo.a l),vi S,vi A,vi j,vi (N.skI l 0),vi 0,AV.vnil,vi 0,vb false,vb false,vb false,AV.vnil,vi (l.getD 0 default).x,vi (l.getD 0 default).y,vi (l.getD 0 default).z]],15,0,false,false⟩]) (asm:=[(decide ((↑(List.map Mo.a l).length:Int)>0))==true,true,decide (0<(List.map Mo.a l).length),true]) (eqs:=[((List.map Mo.a l).get?Internal 0=some (zCxQ1 l))]) (calls:=[⟨true,true,42,[AV.ptr 0 0 0 0],[⟨[ag [AV.vec false 9 (List.map Mo.a l),vi S,vi A,vi j,vi 0,vi 0,AV.vnil,vi 0,vb false,vb false,vb false,AV.vnil,vi (l.getD 0 default).x,vi (l.getD 0 default).y,vi (l.getD 0 default).z]],15,0,false,false⟩],tu [],[⟨[ag [AV.vec false 9 (List.map Mo.a l),vi S,vi A,vi j,vi (N.skI l 0),vi 0,AV.vnil,vi 0,vb false,vb false,vb false,AV.vnil,vi (l.getD 0 default).x,vi (l.getD 0 default).y,vi (l.getD 0 default).z]],15,0,false,false⟩]⟩]) (tu [AV.ptr 1 0 0 0,vi 0]) (by kernel_rfl) (by kernel_rfl) (Zaa (Zam (i4.2 d5)) (Zaa rfl (Zaa (i6.2 k7) (Zaa rfl Zae)))) (ZaQ (Zaz k7) Zaf) (Zaq (fun _=>(@evo42_a false l S A j 0 0 0 false false false ((l.getD 0 default).x) ((l.getD 0 default).y) ((l.getD 0 default).z) k8)) Zag) H
 ·obtain ⟨k9,H⟩:=H
  exact Zai (G:=Zab kp9 [(7,1,.call (tu []) (some [⟨[ag [AV.vec false 9 (List.map Mo.a l),vi S,vi A,vi j,vi (N.skI l 0),vi 0,AV.vnil,vi 0,vb false,vb false,vb false,AV.vnil,vi 0,vi 0,vi 0]],15,0,false,false⟩]))] []) 1000 [false] (k:=((atC (cd Try.f9) [1,1,1,1,1,1])).tail) (env':=[(4,AV.ptr 1 0 0 0),(5,vi 0)]) (L':=[⟨[(zCxQ2 S A j)],3,0,false,false⟩,⟨[ag [AV.vec false 9 (List.map Mo.a l),vi S,vi A,vi j,vi (N.skI l 0),vi 0,AV.vnil,vi 0,vb false,vb false,vb false,AV.vnil,vi 0,vi 0,vi 0]],15,0,false,false⟩]) (asm:=[(decide ((↑(List.map Mo.a l).length:Int)>0))==false]) (eqs:=[]) (calls:=[⟨true,true,42,[AV.ptr 0 0 0 0],[⟨[ag [AV.vec false 9 (List.map Mo.a l),vi S,vi A,vi j,vi 0,vi 0,AV.vnil,vi 0,vb false,vb false,vb false,AV.vnil,vi 0,vi 0,vi 0]],15,0,false,false⟩],tu [],[⟨[ag [AV.vec false 9 (List.map Mo.a l),vi S,vi A,vi j,vi (N.skI l 0),vi 0,AV.vnil,vi 0,vb false,vb false,vb false,AV.vnil,vi 0,vi 0,vi 0]],15,0,false,false⟩]⟩]) (tu [AV.ptr 1 0 0 0,vi 0]) (by kernel_rfl) (by kernel_rfl) (Zaa (Zal (fun h=>d5 (i4.1 h))) Zae) Zaf (Zaq (fun _=>(@evo42_a false l S A j 0 0 0 false false false 0 0 0 k9)) Zag) H
end Go.Av

namespace Go.Av
open Go.RowKit
theorem ZfM:∀ (rs:List Nat) (L:Heap) (n:Nat),(∀ r ∈ rs,n<=r)->(ZaT rs L).take n=L.take n
 | [],_,_,_=>rfl
 | r::rs,L,n,h=>by
  have e:ZaT (r::rs) L=ZaT rs (match L[r]? with
   | some row=>L.set r { row with frozen:=true }
   | none=>L):=rfl
  rw [e,ZfM rs _ n fun q hq=>h q (List.mem_cons_of_mem _ hq)]
  have hr:=h r (List.mem_cons_self ..)
  cases L[r]? with
  | none=>rfl
  | some row=>exact List.take_set_of_le hr
def FrzQ (d:AV) (K:Heap):AV->Heap->Prop:=fun v L=>pureA L v=some d/\(∀ b ∈ versA L v,b=true)/\(∀ r ∈ rowsA v,K.length<=r)/\L.take K.length=K
theorem freeze_sound {M:Mach} {f:FuncId} {args:List AV} {L:Heap} {d:AV} {K:Heap} (hKl:K.length=L.length) (hK:∀ row ∈ K,∀ r ∈ ZaC row,r<L.length) (hdc:rowsA d=[]) (ih:OwnQ M f args L (FrzQ d K)):OwnQ M f args L (isR d K):=by
 intro S cargs h1 h2 h3
 subst h2
 have hrows:=ZdN S.L
 have hnd:(List.range S.L.length).Nodup:=List.nodup_range
 have hin:=refs_in h1
 have hcl:∀ row ∈ S.L,∀ r ∈ ZaC row,r ∈ List.range S.L.length:=fun row hr r hrr=>by simpa using hin row hr r hrr
 obtain ⟨hSc,_,hrelc⟩:=Zfn h1 hrows hnd hcl
 have hself:S.L.map (Zak (Zar (List.range S.L.length)))=S.L:=by
  have:S.L.map (Zak (Zar (List.range S.L.length)))=S.L.map id:=List.map_congr_left fun row hr=>by
   rw [ZcG fun r hrr=>ZcI (hin row hr r hrr)];rfl
  rw [this,List.map_id]
 have hrel':RelL ⟨S.base,Za7 S (List.range S.L.length),S.L.map (Zak (Zar (List.range S.L.length))),subβ S.β (List.range S.L.length),S.w⟩ args cargs:=by
  refine ⟨h3.1,fun i c cv hc hcv => ?_⟩
  have hri:=Zgx (h3.2 i c cv hc hcv)
  have:=hrelc c cv (h3.2 i c cv hc hcv) fun r hr=>by simpa using hri r hr
  rwa [Zc2 fun r hr=>ZcI (hri r hr)] at this
 obtain ⟨m1,m2⟩:=ih _ cargs hSc hself hrel'
 refine ⟨m1,Calls.mono m2 fun e w' he => ?_⟩
 cases e with
 | panicked c=>exact he.elim
 | outgrown=>exact he.elim
 | returned cv =>
  obtain ⟨v',L1,β1,⟨hd,hvs,hge,hq⟩,n1,n2,n3⟩:=he
  have fr:=Zcd (S:=⟨S.base,Za7 S (List.range S.L.length),L1,β1,w'⟩) (rowsA v') n1
  have n1':HeapOk ⟨S.base,Za7 S (List.range S.L.length),ZaT (rowsA v') L1,β1,w'⟩:=fr.1
  have n2':Ext ⟨S.base,Za7 S (List.range S.L.length),S.L.map (Zak (Zar (List.range S.L.length))),subβ S.β (List.range S.L.length),S.w⟩ ⟨S.base,Za7 S (List.range S.L.length),ZaT (rowsA v') L1,β1,w'⟩:=n2.trans fr.2
  have hD:DRel ⟨S.base,Za7 S (List.range S.L.length),ZaT (rowsA v') L1,β1,w'⟩ d cv:=pure_rel (S:=⟨S.base,Za7 S (List.range S.L.length),L1,β1,w'⟩) (S':=⟨S.base,Za7 S (List.range S.L.length),ZaT (rowsA v') L1,β1,w'⟩) n1 rfl (fun b off hi hb=>(fr.2.imm b off hi hb).1) v' n3 hd hvs (Zco (S:=⟨S.base,Za7 S (List.range S.L.length),L1,β1,w'⟩) n1 _)
  have hq':(ZaT (rowsA v') L1).take K.length=K:=(ZfM _ _ _ hge).trans hq
  generalize ZaT (rowsA v') L1=L2 at n1' n2' hD hq'
  rw [hKl] at hq'
  have hlen:(List.range S.L.length).length=S.L.length:=List.length_range
  have hle:S.L.length<=L2.length:=by
   have:=congrArg List.length hq'
   rw [List.length_take,hKl] at this
   omega
  have ho:ZaF L2 (List.range (List.range S.L.length).length)=some K:=by
   rw [hlen,<- hq']
   have:=Zdi L2 S.L.length hle
   rw [hq'] at this ⊢
   exact this
  obtain ⟨k1,k2,k3⟩:=ZeG (S1:=⟨S.base,Za7 S (List.range S.L.length),L2,β1,w'⟩) (ns:=[]) (new:=[]) h1 hrows hnd hcl n1' n2' List.nodup_nil (by simp) ho rfl
   (fun row hr r hrr => .inl (by rw [hlen];exact hK row (by simpa using hr) r hrr))
  have hb:∀ r,r<S.L.length->ZaP S.L.length (List.range S.L.length) [] r=r:=by
   intro r hr
   rw [ZeH (by rw [hlen];exact hr)];simp
  have hKK:Za3 S.L (List.range S.L.length) [] K []=K:=by
   unfold Za3
   rw [List.map_nil,List.append_nil]
   have:K.map (Zak (ZaP S.L.length (List.range S.L.length) []))=K.map id:=List.map_congr_left fun row hr=>by
    rw [ZcG fun r hrr=>hb r (hK row hr r hrr)];rfl
   rw [this,List.map_id,put_all _ _ hKl]
  have k3':=k3 d cv (.data _ _ hD) fun r hr=>by rw [hdc] at hr;cases hr
  rw [Zc2 fun r hr=>by rw [hdc] at hr;cases hr] at k3'
  rw [hKK] at k1 k2 k3'
  exact ⟨d,K,_,⟨rfl,rfl⟩,k1,k2,k3'⟩
def frzOk (n:Nat) (K:Heap):Bool:=Nat.beq K.length n&&K.all fun row=>(ZaC row).all fun r=>Nat.blt r n
theorem own_freeze {M:Mach} (hm:(M.P ()).follows .mixedOrders=true) {f:FuncId} {args:List AV} {L:Heap} {d:AV} {K:Heap} (hk:frzOk L.length K=true) (hdc:rowsA d=[]) (h:Wp M (.own f args L) (FrzQ d K)):Ev M (.own f args L) d K:=by
 unfold frzOk at hk
 simp only [Bool.and_eq_true,List.all_eq_true,Nat.blt_eq,Nat.beq_eq] at hk
 exact .sem (freeze_sound hk.1 hk.2 hdc (Zbe hm (c:=.own f args L) h))
end Go.Av

namespace Go.Av
open Go.RowKit
def FrsQ (d:AV) (K:Heap):AV->Heap->Prop:=fun v L => ∃ ns rows,ZaF L ns=some rows/\ns.Nodup/\(∀ r ∈ rowsA v,r ∈ ns)/\(∀ row ∈ rows,∀ r ∈ ZaC row,r ∈ ns)/\renA (Zar ns) v=d/\rows.map (Zak (Zar ns))=K
theorem frs_sound {M:Mach} {f:FuncId} {args:List AV} {d:AV} {K:Heap} (ih:OwnQ M f args [] (FrsQ d K)):OwnQ M f args [] (isR d K):=by
 intro S cargs h1 h2 h3
 have hrows:ZaF S.L []=some []:=rfl
 have hcl:∀ row ∈ ([]:List Row),∀ r ∈ ZaC row,r ∈ ([]:List Nat):=fun row hr=>by cases hr
 obtain ⟨hSc,_,hrelc⟩:=Zfn h1 hrows List.nodup_nil hcl
 have hno:∀ {a v},Rel S a v->rowsA a=[]:=fun {a v} h=>by
  cases hr:rowsA a with
  | nil=>rfl
  | cons r l=>have:=Zgx h r (by rw [hr];exact List.mem_cons_self ..);rw [h2] at this;simp at this
 have hrel':RelL ⟨S.base,Za7 S [],[],subβ S.β [],S.w⟩ args cargs:=by
  refine ⟨h3.1,fun i c cv hc hcv => ?_⟩
  have hri:=hno (h3.2 i c cv hc hcv)
  have:=hrelc c cv (h3.2 i c cv hc hcv) fun r hr=>by rw [hri] at hr;cases hr
  rwa [Zc2 fun r hr=>by rw [hri] at hr;cases hr] at this
 obtain ⟨m1,m2⟩:=ih ⟨S.base,Za7 S [],[],subβ S.β [],S.w⟩ cargs hSc rfl hrel'
 refine ⟨m1,Calls.mono m2 fun e w' he => ?_⟩
 cases e with
 | panicked c=>exact he.elim
 | outgrown=>exact he.elim
 | returned cv =>
  obtain ⟨v',L1,β1,⟨ns,rows,hn,hnd,hv,hr,hd,hK⟩,n1,n2,n3⟩:=he
  obtain ⟨k1,k2,k3⟩:=ZeG (S1:=⟨S.base,Za7 S [],L1,β1,w'⟩) (ns:=ns) (new:=rows) (old:=[]) h1 hrows List.nodup_nil hcl n1 n2 hnd (by simp) rfl hn
   (fun r hr1 q hq=>by simp only [List.nil_append] at hr1;exact .inr (hr r hr1 q hq))
  have hb:∀ r,ZaP S.L.length [] ns r=Zar ns r:=fun r=>by rw [back_ge (by simp),h2];simp
  have hLL:Za3 S.L [] ns [] rows=K:=by
   rw [<- hK]
   unfold Za3
   rw [h2]
   simp only [List.map_nil,ZcS,List.nil_append]
   refine List.map_congr_left fun row _ => ?_
   unfold Zak
   cases row.clean with
   | true=>rfl
   | false=>simp only [cond_false];rw [renL_ext (g:=Zar ns) row.elems fun r _=>by have:=hb r;rw [h2] at this;exact this]
  have k3':=k3 v' cv n3 fun r hr1 => .inr (hv r hr1)
  rw [renA_ext (g:=Zar ns) v' fun r _=>hb r,hd] at k3'
  rw [hLL] at k1 k2 k3'
  exact ⟨d,K,_,⟨rfl,rfl⟩,k1,k2,k3'⟩
theorem own_frs {M:Mach} (hm:(M.P ()).follows .mixedOrders=true) {f:FuncId} {args:List AV} {d:AV} {K:Heap} (h:Wp M (.own f args []) (FrsQ d K)):Ev M (.own f args []) d K:=
 .sem (frs_sound (Zbe hm (c:=.own f args []) h))
theorem frs_end {v:AV} {L:Heap} {d:AV} {K:Heap} (ns:List Nat) (h:(match ZaF L ns with
  | some rows=>ZfC ns&&((rowsA v).all ns.contains&&rows.all fun row=>(ZaC row).all ns.contains)
  | none=>false)=true) (hd:renA (Zar ns) v=d) (hK:(match ZaF L ns with
  | some rows=>rows.map (Zak (Zar ns))
  | none=>[])=K):FrsQ d K v L:=by
 split at h
 ·rename_i rows hr
  simp only [Bool.and_eq_true,List.all_eq_true,List.contains_iff_mem] at h
  rw [hr] at hK
  exact ⟨ns,rows,hr,(Zbl ns).1 h.1,h.2.1,h.2.2,hd,hK⟩
 ·cases h
end Go.Av

namespace Go.Av
open Go.Proofs
namespace N
def q0 (l:List Mo):Ps:=if (l.length:Int)>0 then (l.getD 0 default).src else ⟨0,0,0⟩
def q0x (l:List Mo):Int:=(q0 l).x
def q0y (l:List Mo):Int:=(q0 l).y
def q0z (l:List Mo):Int:=(q0 l).z
noncomputable def newS (l:List Mo):Cs:=⟨skI l 0,0,none,0,false,false,false,[],q0 l⟩
end N
theorem hm1:(M1.P ()).follows .mixedOrders=true:=by kernel_rfl
theorem evo9 (f:Bool) (l:List Mo) (S A j:Int) (h:N.okCk l S A j):Ev M1 (.own 9 [.vec f 9 (l.map Mo.a),.agg [.int .i64 S,.int .i64 A,.int .i64 j]] []) (.tup [.ptr 0 0 0 0,.int .i64 0]) [⟨[.agg [.vec false 9 (l.map Mo.a),.int .i64 S,.int .i64 A,.int .i64 j,.int .i64 (N.skI l 0),.int .i64 0,.vnil,.int .i64 0,.bool false,.bool false,.bool false,.vnil,.int .i64 (N.q0x l),.int .i64 (N.q0y l),.int .i64 (N.q0z l)]],15,0,false,false⟩]:=by
 have hl:=h.1.1.1
 have hlen:=h.1.2
 refine own_frs hm1 (owncall9 (nwA f l S A j _ ⟨h,by unfold N.Zdy;omega,fun hp=>⟨by omega,⟨hl,by omega,by omega⟩,?_⟩,fun hp=>⟨⟨hl,by omega,by omega⟩,?_⟩⟩))
 ·refine frs_end [1] rfl rfl ?_
  unfold N.q0x N.q0y N.q0z N.q0
  rw [if_pos hp];rfl
 ·refine frs_end [1] rfl rfl ?_
  unfold N.q0x N.q0y N.q0z N.q0
  rw [if_neg hp];rfl
theorem po_sk {l:List Mo} (hc:N.chain l) (h:0<l.length) {i:Nat} (hi:i<=l.length):N.po l ((N.sk l i:Nat):Int) 0=N.pos l i:=by
 obtain ⟨⟨k1,k2⟩,k3,k4⟩:=ZdF (L:=l) (i:=i) hi
 rw [<- sk_pos hc hi]
 unfold N.pos
 by_cases hq:N.sk l i<l.length
 ·rw [if_pos hq,po_mid (by omega) (by omega),Int.toNat_natCast,at3_zero (k3 hq)]
 ·rw [if_neg hq]
  unfold N.po
  rw [if_neg (by omega),if_pos (by omega),show (((N.sk l i:Nat):Int)-1).toNat=l.length-1 by omega]
theorem new_ok {l:List Mo} {B:Int} (ht:N.okT l) (hB:N.D l 0 0<=B):Iv l B (N.newS l)/\N.D l (N.newS l).ix (N.newS l).p=N.D l 0 0:=by
 obtain ⟨hl,hc⟩:=ht
 obtain ⟨⟨k1,k2⟩,k3,k4⟩:=ZdF (L:=l) (i:=0) (by omega)
 have e0:N.skI l 0=((N.sk l 0:Nat):Int):=rfl
 have hD:N.D l ((N.sk l 0:Nat):Int) 0=N.D l 0 0:=by
  unfold N.D N.sk
  rw [Int.toNat_natCast,skF_sum _ _ (by omega)];rfl
 have hq:N.q0 l=N.po l ((N.sk l 0:Nat):Int) 0/\N.q0 l=N.pos l (N.sk l 0):=by
  by_cases h:0<l.length
  ·have e1:N.q0 l=N.pos l 0:=by unfold N.q0 N.pos;rw [if_pos (by omega),if_pos h]
   rw [po_sk hc h (by omega),sk_pos hc (by omega)]
   exact ⟨e1,e1⟩
  ·have:l=[]:=List.eq_nil_of_length_eq_zero (by omega)
   subst this
   exact ⟨rfl,rfl⟩
 unfold N.newS
 rw [e0]
 refine ⟨⟨?_,?_,fun _=>⟨rfl,rfl⟩,(fun X hX=>nomatch hX),fun _=>⟨rfl,rfl,hq.1⟩,(fun X hX=>nomatch hX),(fun X hX=>nomatch hX),fun _ => .inl ⟨?_,?_⟩,?_⟩,hD⟩
 ·simp only;omega
 ·simp only
  intro hlt
  rw [Int.toNat_natCast]
  have:=ZeL (l.getD (N.sk l 0) default)
  have:=k3 (by omega)
  exact ⟨this,by omega,by omega⟩
 ·simp only
  rw [Int.toNat_natCast,k4];rfl
 ·simp only
  rw [Int.toNat_natCast];exact hq.2
 ·simp only
  rw [hD,if_pos trivial]
  simp
  exact hB
end Go.Av

namespace Go.Av
open Go.Proofs
set_option maxRecDepth 100000
def fi17:Fi:=⟨26,[.tmp 4]⟩
def kp17:List (Nat × List Nat):=[(0,[0,1]),(1,[0,1,10]),(2,[4]),(3,[0,1,5]),(4,[0,1,5,14]),(5,[0,1,5]),(6,[0,1,5,25]),(7,[4]),(8,[4])]
def fi20:Fi:=⟨23,[.tmp 2]⟩
def kp20:List (Nat × List Nat):=[(0,[0]),(1,[0,3]),(2,[3,6,7,8]),(3,[3,6,7,8,9]),(4,[3,5,6,7,8]),(5,[3,5,6,7,8,16]),(6,[3,6,7,8]),(7,[3,6,7,8]),(8,[2])]
def fi21:Fi:=⟨16,[.cell 4 42]⟩
def kp21:List (Nat × List Nat):=[(0,[1,2,4]),(1,[1,2,4,7]),(2,[4]),(3,[4])]
def fi24:Fi:=⟨13,[.cell 4 42]⟩
def kp24:List (Nat × List Nat):=[(0,[0,3,4]),(1,[0,3,4,7]),(2,[4]),(3,[4])]
def lnA_at (f:Bool) (l:List Mo) (Q:AV->Heap->Prop):Prop:=Wp M1 (.run fi20 (atC (cd Try.f20) []) [(0,.vec f 9 (l.map Mo.a))] []) Q
def lnN_at (f:Bool) (l:List Mo) (n i:Int) (Q:AV->Heap->Prop):Prop:=Wp M1 (.run fi20 (atC (cd Try.f20) [1,1,0,1,0,0]) [(3,.vnil),(6,.vec f 9 (l.map Mo.a)),(7,.int .i64 n),(8,.int .i64 i)] []) Q
def ZgG (f:Bool) (l:List Mo) (n i:Int) (o:List Mo) (w:Nat) (Q:AV->Heap->Prop):Prop:=Wp M1 (.run fi20 (atC (cd Try.f20) [1,1,0,1,0,0]) [(3,.row 0 w),(6,.vec f 9 (l.map Mo.a)),(7,.int .i64 n),(8,.int .i64 i)] [⟨o.map Mo.a,9,w,false,true⟩]) Q
def smP_at (f g:Bool) (l m:List Mo) (Q:AV->Heap->Prop):Prop:=Wp M1 (.run fi17 (atC (cd Try.f17) []) [(0,.vec f 9 (l.map Mo.a)),(1,.vec g 9 (m.map Mo.a))] []) Q
def smQ_at (f g:Bool) (l m:List Mo) (i:Int) (Q:AV->Heap->Prop):Prop:=Wp M1 (.run fi17 (atC (cd Try.f17) [1,1,0,1,0,0]) [(0,.vec f 9 (l.map Mo.a)),(1,.vec g 9 (m.map Mo.a)),(5,.int .i64 i)] []) Q
def enA_at (x y z:Int) (f:Bool) (l:List Mo) (Q:AV->Heap->Prop):Prop:=Wp M1 (.run fi21 (atC (cd Try.f21) []) [(0,.agg [.int .i64 x,.int .i64 y,.int .i64 z]),(1,.vec f 9 (l.map Mo.a))] []) Q
def s5A_at (x y z:Int) (f:Bool) (l:List Mo) (Q:AV->Heap->Prop):Prop:=Wp M1 (.run fi24 (atC (cd Try.f24) []) [(0,.vec f 9 (l.map Mo.a)),(1,.agg [.int .i64 x,.int .i64 y,.int .i64 z])] []) Q
theorem call17 {args:List AV} {d:AV} (h:wc M1 fi17 Try.f17 args d):Ev M1 (.pure 17 args) d []:=pcl _ _ (by kernel_rfl) h
theorem call20 {args:List AV} {d:AV} (h:wc M1 fi20 Try.f20 args d):Ev M1 (.pure 20 args) d []:=pcl _ _ (by kernel_rfl) h
theorem call21 {args:List AV} {d:AV} (h:wc M1 fi21 Try.f21 args d):Ev M1 (.pure 21 args) d []:=pcl _ _ (by kernel_rfl) h
theorem call24 {args:List AV} {d:AV} (h:wc M1 fi24 Try.f24 args d):Ev M1 (.pure 24 args) d []:=pcl _ _ (by kernel_rfl) h
theorem lnA (f:Bool) (l:List Mo)  (dq:AV) (H :
  lnN_at f l ((↑l.length:Int)) 0 (Zaj dq)) :
 lnA_at f l (Zaj dq):=by
 unfold lnA_at
 have w1:(List.map Mo.a l).length=l.length:=List.length_map ..
 exact Zac (G:=Zab kp20 [] []) 1000 [] ⟨(atC (cd Try.f20) [1,1,0,1,0,0]),[(3,AV.vnil),(6,AV.vec f 9 (List.map Mo.a l)),(7,vi (↑(List.map Mo.a l).length:Int)),(8,vi 0)],[],_,[],_⟩ (by kernel_rfl) b0 q0 c0 (by (try rw [w1]);all_goals exact H)
noncomputable abbrev zCxR4 (l:List Mo) (i:Int):=ag [vi (l.getD i.toNat default).x,vi (l.getD i.toNat default).y,vi (l.getD i.toNat default).z,vi (l.getD i.toNat default).u,vi (l.getD i.toNat default).v,vi (l.getD i.toNat default).w,vi (l.getD i.toNat default).r,vi (l.getD i.toNat default).t,vi (l.getD i.toNat default).b]
theorem lnN (f:Bool) (l:List Mo) (n i:Int)  (dq:AV) (H :
  ((i<n)->(0<=i) /\
   (i.toNat<l.length) /\
   ((¬(((l.getD i.toNat default).x=(l.getD i.toNat default).u)/\(((l.getD i.toNat default).y=(l.getD i.toNat default).v)/\((l.getD i.toNat default).z=(l.getD i.toNat default).w))))->(-9223372036854775808<=i+1/\i+1<=9223372036854775807) /\
    ZgG f l n (i+1) ([l.getD i.toNat default]) 0 (Zaj dq)) /\
   (¬(¬(((l.getD i.toNat default).x=(l.getD i.toNat default).u)/\(((l.getD i.toNat default).y=(l.getD i.toNat default).v)/\((l.getD i.toNat default).z=(l.getD i.toNat default).w))))->(-9223372036854775808<=i+1/\i+1<=9223372036854775807) /\
    lnN_at f l n (i+1) (Zaj dq))) /\
  (¬(i<n)->Weak (AV.vnil) dq)) :
 lnN_at f l n i (Zaj dq):=by
 unfold lnN_at
 rcases xq H with ⟨d2,H⟩|⟨d2,H⟩
 ·obtain ⟨k4,H⟩:=H
  have w5:(List.map Mo.a l).length=l.length:=List.length_map ..
  have i6:(decide (i.toNat<(List.map Mo.a l).length))=true ↔ (i.toNat<l.length):=(by (try rw [w5]);all_goals exact Zad)
  obtain ⟨k7,H⟩:=H
  refine Zac (G:=Zab kp20 [(4,1,.elem (zCxR4 l i))] []) 11 [true] ⟨(atC (cd Try.f20) [1,1,0,1,0,0,1,1,0,0,1,1]),[(3,AV.vnil),(5,AV.ptr 0 0 0 0),(6,AV.vec f 9 (List.map Mo.a l)),(7,vi n),(8,vi i),(16,vb !((l.getD i.toNat default).x==(l.getD i.toNat default).u&&((l.getD i.toNat default).y==(l.getD i.toNat default).v&&((l.getD i.toNat default).z==(l.getD i.toNat default).w&&true))))],[⟨[ag [vi (l.getD i.toNat default).x,vi (l.getD i.toNat default).y,vi (l.getD i.toNat default).z,vi (l.getD i.toNat default).u,vi (l.getD i.toNat default).v,vi (l.getD i.toNat default).w,vi (l.getD i.toNat default).r,vi (l.getD i.toNat default).t,vi (l.getD i.toNat default).b]],9,0,false,false⟩],_,[((List.map Mo.a l).get?Internal i.toNat=some (zCxR4 l i))],_⟩ (by kernel_rfl) (bc (Zam (Zad.2 d2)) (bc (Zad.2 k4) (bc (i6.2 k7) (bc rfl (bc rfl (bc rfl b0)))))) (qc (Zaz k7) q0) c0 ?_
  rcases xq H with ⟨d9,H⟩|⟨d9,H⟩
  ·obtain ⟨k10,H⟩:=H
   have w11:wi (i+1)=i+1:=wI64 k10
   have w12:[ag [vi (l.getD i.toNat default).x,vi (l.getD i.toNat default).y,vi (l.getD i.toNat default).z,vi (l.getD i.toNat default).u,vi (l.getD i.toNat default).v,vi (l.getD i.toNat default).w,vi (l.getD i.toNat default).r,vi (l.getD i.toNat default).t,vi (l.getD i.toNat default).b]]=List.map Mo.a [l.getD i.toNat default]:=rfl
   exact Zac (G:=Zab kp20 [] []) 1000 [true] ⟨(atC (cd Try.f20) [1,1,0,1,0,0]),[(3,AV.row 1 0),(6,AV.vec f 9 (List.map Mo.a l)),(7,vi n),(8,vi (wi (i+1)))],[⟨[ag [vi (l.getD i.toNat default).x,vi (l.getD i.toNat default).y,vi (l.getD i.toNat default).z,vi (l.getD i.toNat default).u,vi (l.getD i.toNat default).v,vi (l.getD i.toNat default).w,vi (l.getD i.toNat default).r,vi (l.getD i.toNat default).t,vi (l.getD i.toNat default).b]],9,0,false,false⟩,⟨[ag [vi (l.getD i.toNat default).x,vi (l.getD i.toNat default).y,vi (l.getD i.toNat default).z,vi (l.getD i.toNat default).u,vi (l.getD i.toNat default).v,vi (l.getD i.toNat default).w,vi (l.getD i.toNat default).r,vi (l.getD i.toNat default).t,vi (l.getD i.toNat default).b]],9,0,false,true⟩],_,[],_⟩ (by kernel_rfl) (bc (Zam ((Zay (Zau i_eq (Zau i_eq (i_at i_eq)))).2 d9)) (bc rfl (bc rfl b0))) q0 c0 (by (try rw [w11]);(try rw [w12]);all_goals exact Zan [1] (by kernel_rfl) H)
  ·obtain ⟨k13,H⟩:=H
   have w14:wi (i+1)=i+1:=wI64 k13
   exact Zac (G:=Zab kp20 [] []) 1000 [false] ⟨(atC (cd Try.f20) [1,1,0,1,0,0]),[(3,AV.vnil),(6,AV.vec f 9 (List.map Mo.a l)),(7,vi n),(8,vi (wi (i+1)))],[⟨[ag [vi (l.getD i.toNat default).x,vi (l.getD i.toNat default).y,vi (l.getD i.toNat default).z,vi (l.getD i.toNat default).u,vi (l.getD i.toNat default).v,vi (l.getD i.toNat default).w,vi (l.getD i.toNat default).r,vi (l.getD i.toNat default).t,vi (l.getD i.toNat default).b]],9,0,false,false⟩],_,[],_⟩ (by kernel_rfl) (bc (Zal (fun h=>d9 ((Zay (Zau i_eq (Zau i_eq (i_at i_eq)))).1 h))) b0) q0 c0 (by (try rw [w14]);all_goals exact Zan [] (by kernel_rfl) H)
 ·exact ZaX (G:=Zab kp20 [] []) 1000 [false] (AV.vnil) (by kernel_rfl) (bc (Zal (fun h=>d2 (Zad.1 h))) b0) q0 c0 H
noncomputable abbrev zCxR5 (l:List Mo) (i:Int):=ag [vi (l.getD i.toNat default).x,vi (l.getD i.toNat default).y,vi (l.getD i.toNat default).z,vi (l.getD i.toNat default).u,vi (l.getD i.toNat default).v,vi (l.getD i.toNat default).w,vi (l.getD i.toNat default).r,vi (l.getD i.toNat default).t,vi (l.getD i.toNat default).b]
theorem lnR (f:Bool) (l:List Mo) (n i:Int) (o:List Mo) (w:Nat)  (dq:AV) (H :
  ((i<n)->(0<=i) /\
   (i.toNat<l.length) /\
   ((¬(((l.getD i.toNat default).x=(l.getD i.toNat default).u)/\(((l.getD i.toNat default).y=(l.getD i.toNat default).v)/\((l.getD i.toNat default).z=(l.getD i.toNat default).w))))->((o.length+1)*72<=1099511627776) /\
    (-9223372036854775808<=i+1/\i+1<=9223372036854775807) /\
    ZgG f l n (i+1) (o++[l.getD i.toNat default]) (w+1) (Zaj dq)) /\
   (¬(¬(((l.getD i.toNat default).x=(l.getD i.toNat default).u)/\(((l.getD i.toNat default).y=(l.getD i.toNat default).v)/\((l.getD i.toNat default).z=(l.getD i.toNat default).w))))->(-9223372036854775808<=i+1/\i+1<=9223372036854775807) /\
    ZgG f l n (i+1) o w (Zaj dq))) /\
  (¬(i<n)->Weak (AV.vec false 9 (List.map Mo.a o)) dq)) :
 ZgG f l n i o w (Zaj dq):=by
 unfold ZgG
 rcases xq H with ⟨d2,H⟩|⟨d2,H⟩
 ·obtain ⟨k4,H⟩:=H
  have w5:(List.map Mo.a l).length=l.length:=List.length_map ..
  have i6:(decide (i.toNat<(List.map Mo.a l).length))=true ↔ (i.toNat<l.length):=(by (try rw [w5]);all_goals exact Zad)
  obtain ⟨k7,H⟩:=H
  refine Zac (G:=Zab kp20 [(4,1,.elem (zCxR5 l i))] []) 11 [true] ⟨(atC (cd Try.f20) [1,1,0,1,0,0,1,1,0,0,1,1]),[(3,AV.row 0 w),(5,AV.ptr 1 0 0 0),(6,AV.vec f 9 (List.map Mo.a l)),(7,vi n),(8,vi i),(16,vb !((l.getD i.toNat default).x==(l.getD i.toNat default).u&&((l.getD i.toNat default).y==(l.getD i.toNat default).v&&((l.getD i.toNat default).z==(l.getD i.toNat default).w&&true))))],[⟨List.map Mo.a o,9,w,false,true⟩,⟨[ag [vi (l.getD i.toNat default).x,vi (l.getD i.toNat default).y,vi (l.getD i.toNat default).z,vi (l.getD i.toNat default).u,vi (l.getD i.toNat default).v,vi (l.getD i.toNat default).w,vi (l.getD i.toNat default).r,vi (l.getD i.toNat default).t,vi (l.getD i.toNat default).b]],9,0,false,false⟩],_,[((List.map Mo.a l).get?Internal i.toNat=some (zCxR5 l i))],_⟩ (by kernel_rfl) (bc (Zam (Zad.2 d2)) (bc (Zad.2 k4) (bc (i6.2 k7) (bc rfl (bc rfl (bc rfl b0)))))) (qc (Zaz k7) q0) c0 ?_
  rcases xq H with ⟨d9,H⟩|⟨d9,H⟩
  ·have w10:(List.map Mo.a o).length=o.length:=List.length_map ..
   have i11:(decide (((List.map Mo.a o).length+1)*72<=1099511627776))=true ↔ ((o.length+1)*72<=1099511627776):=(by (try rw [w10]);all_goals exact Zad)
   obtain ⟨k12,H⟩:=H
   have w13:List.map Mo.a o++[ag [vi (l.getD i.toNat default).x,vi (l.getD i.toNat default).y,vi (l.getD i.toNat default).z,vi (l.getD i.toNat default).u,vi (l.getD i.toNat default).v,vi (l.getD i.toNat default).w,vi (l.getD i.toNat default).r,vi (l.getD i.toNat default).t,vi (l.getD i.toNat default).b]]=List.map Mo.a (o++[l.getD i.toNat default]):=(Zdd rfl rfl)
   obtain ⟨k14,H⟩:=H
   have w15:wi (i+1)=i+1:=wI64 k14
   exact Zac (G:=Zab kp20 [] []) 1000 [true] ⟨(atC (cd Try.f20) [1,1,0,1,0,0]),[(3,AV.row 0 (w+1)),(6,AV.vec f 9 (List.map Mo.a l)),(7,vi n),(8,vi (wi (i+1)))],[⟨List.map Mo.a o++[ag [vi (l.getD i.toNat default).x,vi (l.getD i.toNat default).y,vi (l.getD i.toNat default).z,vi (l.getD i.toNat default).u,vi (l.getD i.toNat default).v,vi (l.getD i.toNat default).w,vi (l.getD i.toNat default).r,vi (l.getD i.toNat default).t,vi (l.getD i.toNat default).b]],9,w+1,false,true⟩,⟨[ag [vi (l.getD i.toNat default).x,vi (l.getD i.toNat default).y,vi (l.getD i.toNat default).z,vi (l.getD i.toNat default).u,vi (l.getD i.toNat default).v,vi (l.getD i.toNat default).w,vi (l.getD i.toNat default).r,vi (l.getD i.toNat default).t,vi (l.getD i.toNat default).b]],9,0,false,false⟩],[(!((l.getD i.toNat default).x==(l.getD i.toNat default).u&&((l.getD i.toNat default).y==(l.getD i.toNat default).v&&((l.getD i.toNat default).z==(l.getD i.toNat default).w&&true))))==true,true,w==w,decide (((List.map Mo.a o).length+1)*72<=1099511627776)],[],_⟩ (by kernel_rfl) (bc (Zam ((Zay (Zau i_eq (Zau i_eq (i_at i_eq)))).2 d9)) (bc rfl (bc (beq_self_eq_true _) (bc (i11.2 k12) b0)))) q0 c0 (by (try rw [w13]);(try rw [w15]);all_goals exact Zan [0] (by kernel_rfl) H)
  ·obtain ⟨k16,H⟩:=H
   have w17:wi (i+1)=i+1:=wI64 k16
   exact Zac (G:=Zab kp20 [] []) 1000 [false] ⟨(atC (cd Try.f20) [1,1,0,1,0,0]),[(3,AV.row 0 w),(6,AV.vec f 9 (List.map Mo.a l)),(7,vi n),(8,vi (wi (i+1)))],[⟨List.map Mo.a o,9,w,false,true⟩,⟨[ag [vi (l.getD i.toNat default).x,vi (l.getD i.toNat default).y,vi (l.getD i.toNat default).z,vi (l.getD i.toNat default).u,vi (l.getD i.toNat default).v,vi (l.getD i.toNat default).w,vi (l.getD i.toNat default).r,vi (l.getD i.toNat default).t,vi (l.getD i.toNat default).b]],9,0,false,false⟩],_,[],_⟩ (by kernel_rfl) (bc (Zal (fun h=>d9 ((Zay (Zau i_eq (Zau i_eq (i_at i_eq)))).1 h))) b0) q0 c0 (by (try rw [w17]);all_goals exact Zan [0] (by kernel_rfl) H)
 ·exact Zai (G:=Zab kp20 [] []) 1000 [false] (k:=((atC (cd Try.f20) [1,1,1,1])).tail) (env':=[(2,AV.row 0 w)]) (L':=[⟨List.map Mo.a o,9,w,false,true⟩]) (asm:=[(decide (i<n))==false]) (eqs:=[]) (calls:=[]) (AV.row 0 w) (by kernel_rfl) (by kernel_rfl) (Zaa (Zal (fun h=>d2 (Zad.1 h))) Zae) Zaf Zag (Zes (d:=(AV.vec false 9 (List.map Mo.a o))) (bs:=[w==w]) (by kernel_rfl) (by kernel_rfl) (Zaa (beq_self_eq_true _) Zae) (by kernel_rfl) H)
theorem smP (f g:Bool) (l m:List Mo)  (dq:AV) (H :
  ((¬(↑l.length:Int)=(↑m.length:Int))->vb false=dq) /\
  (¬(¬(↑l.length:Int)=(↑m.length:Int))->smQ_at f g l m 0 (Zaj dq))) :
 smP_at f g l m (Zaj dq):=by
 unfold smP_at
 have w1:(List.map Mo.a l).length=l.length:=List.length_map ..
 have w2:(List.map Mo.a m).length=m.length:=List.length_map ..
 have i3:((↑(List.map Mo.a l).length:Int) != (↑(List.map Mo.a m).length:Int))=true ↔ (¬(↑l.length:Int)=(↑m.length:Int)):=(by (try rw [w1]);(try rw [w2]);all_goals exact i_ne)
 rcases xq H with ⟨d4,H⟩|⟨d4,H⟩
 ·exact Zap (G:=Zab kp17 [] []) 1000 [true] (vb false) (by kernel_rfl) (bc (Zam (i3.2 d4)) b0) q0 c0 H
 ·exact Zac (G:=Zab kp17 [] []) 1000 [false] ⟨(atC (cd Try.f17) [1,1,0,1,0,0]),[(0,AV.vec f 9 (List.map Mo.a l)),(1,AV.vec g 9 (List.map Mo.a m)),(5,vi 0)],[],_,[],_⟩ (by kernel_rfl) (bc (Zal (fun h=>d4 (i3.1 h))) b0) q0 c0 H
noncomputable abbrev zCxR6 (l:List Mo) (i:Int):=ag [vi (l.getD i.toNat default).x,vi (l.getD i.toNat default).y,vi (l.getD i.toNat default).z,vi (l.getD i.toNat default).u,vi (l.getD i.toNat default).v,vi (l.getD i.toNat default).w,vi (l.getD i.toNat default).r,vi (l.getD i.toNat default).t,vi (l.getD i.toNat default).b]
noncomputable abbrev zCxR7 (m:List Mo) (i:Int):=ag [vi (m.getD i.toNat default).x,vi (m.getD i.toNat default).y,vi (m.getD i.toNat default).z,vi (m.getD i.toNat default).u,vi (m.getD i.toNat default).v,vi (m.getD i.toNat default).w,vi (m.getD i.toNat default).r,vi (m.getD i.toNat default).t,vi (m.getD i.toNat default).b]
theorem smQ (f g:Bool) (l m:List Mo) (i:Int)  (dq:AV) (H :
  ((i<(↑l.length:Int))->(0<=i) /\
   (i.toNat<l.length) /\
   (i.toNat<m.length) /\
   ((¬((((l.getD i.toNat default).x=(m.getD i.toNat default).x)/\(((l.getD i.toNat default).y=(m.getD i.toNat default).y)/\((l.getD i.toNat default).z=(m.getD i.toNat default).z)))/\((((l.getD i.toNat default).u=(m.getD i.toNat default).u)/\(((l.getD i.toNat default).v=(m.getD i.toNat default).v)/\((l.getD i.toNat default).w=(m.getD i.toNat default).w)))/\(((l.getD i.toNat default).r=(m.getD i.toNat default).r)/\(((l.getD i.toNat default).t=(m.getD i.toNat default).t)/\((l.getD i.toNat default).b=(m.getD i.toNat default).b))))))->vb false=dq) /\
   (¬(¬((((l.getD i.toNat default).x=(m.getD i.toNat default).x)/\(((l.getD i.toNat default).y=(m.getD i.toNat default).y)/\((l.getD i.toNat default).z=(m.getD i.toNat default).z)))/\((((l.getD i.toNat default).u=(m.getD i.toNat default).u)/\(((l.getD i.toNat default).v=(m.getD i.toNat default).v)/\((l.getD i.toNat default).w=(m.getD i.toNat default).w)))/\(((l.getD i.toNat default).r=(m.getD i.toNat default).r)/\(((l.getD i.toNat default).t=(m.getD i.toNat default).t)/\((l.getD i.toNat default).b=(m.getD i.toNat default).b))))))->(-9223372036854775808<=i+1/\i+1<=9223372036854775807) /\
    smQ_at f g l m (i+1) (Zaj dq))) /\
  (¬(i<(↑l.length:Int))->vb true=dq)) :
 smQ_at f g l m i (Zaj dq):=by
 unfold smQ_at
 have w1:(List.map Mo.a l).length=l.length:=List.length_map ..
 have i2:(decide (i<(↑(List.map Mo.a l).length:Int)))=true ↔ (i<(↑l.length:Int)):=(by (try rw [w1]);all_goals exact Zad)
 rcases xq H with ⟨d3,H⟩|⟨d3,H⟩
 ·obtain ⟨k5,H⟩:=H
  have i6:(decide (i.toNat<(List.map Mo.a l).length))=true ↔ (i.toNat<l.length):=(by (try rw [w1]);all_goals exact Zad)
  obtain ⟨k7,H⟩:=H
  have w9:(List.map Mo.a m).length=m.length:=List.length_map ..
  have i10:(decide (i.toNat<(List.map Mo.a m).length))=true ↔ (i.toNat<m.length):=(by (try rw [w9]);all_goals exact Zad)
  obtain ⟨k11,H⟩:=H
  refine Zac (G:=Zab kp17 [(6,3,.elem (zCxR6 l i)),(6,7,.elem (zCxR7 m i))] []) 9 [true] ⟨(atC (cd Try.f17) [1,1,0,1,0,0,1,0,0,1]),[(0,AV.vec f 9 (List.map Mo.a l)),(1,AV.vec g 9 (List.map Mo.a m)),(5,vi i),(25,vb !((l.getD i.toNat default).x==(m.getD i.toNat default).x&&((l.getD i.toNat default).y==(m.getD i.toNat default).y&&((l.getD i.toNat default).z==(m.getD i.toNat default).z&&true))&&((l.getD i.toNat default).u==(m.getD i.toNat default).u&&((l.getD i.toNat default).v==(m.getD i.toNat default).v&&((l.getD i.toNat default).w==(m.getD i.toNat default).w&&true))&&((l.getD i.toNat default).r==(m.getD i.toNat default).r&&((l.getD i.toNat default).t==(m.getD i.toNat default).t&&((l.getD i.toNat default).b==(m.getD i.toNat default).b&&true))))))],[],_,[((List.map Mo.a l).get?Internal i.toNat=some (zCxR6 l i)),((List.map Mo.a m).get?Internal i.toNat=some (zCxR7 m i))],_⟩ (by kernel_rfl) (bc (Zam (i2.2 d3)) (bc (Zad.2 k5) (bc (i6.2 k7) (bc (Zad.2 k5) (bc (i10.2 k11) b0))))) (qc (Zaz k7) (qc (Zaz k11) q0)) c0 ?_
  rcases xq H with ⟨d13,H⟩|⟨d13,H⟩
  ·exact Zap (G:=Zab kp17 [] []) 1000 [true] (vb false) (by kernel_rfl) (bc (Zam ((Zay (Zau (Zau i_eq (Zau i_eq (i_at i_eq))) (Zau (Zau i_eq (Zau i_eq (i_at i_eq))) (Zau i_eq (Zau i_eq (i_at i_eq)))))).2 d13)) b0) q0 c0 H
  ·obtain ⟨k14,H⟩:=H
   have w15:wi (i+1)=i+1:=wI64 k14
   exact Zac (G:=Zab kp17 [] []) 1000 [false] ⟨(atC (cd Try.f17) [1,1,0,1,0,0]),[(0,AV.vec f 9 (List.map Mo.a l)),(1,AV.vec g 9 (List.map Mo.a m)),(5,vi (wi (i+1)))],[],_,[],_⟩ (by kernel_rfl) (bc (Zal (fun h=>d13 ((Zay (Zau (Zau i_eq (Zau i_eq (i_at i_eq))) (Zau (Zau i_eq (Zau i_eq (i_at i_eq))) (Zau i_eq (Zau i_eq (i_at i_eq)))))).1 h))) b0) q0 c0 (by (try rw [w15]);all_goals exact H)
 ·exact Zap (G:=Zab kp17 [] []) 1000 [false] (vb true) (by kernel_rfl) (bc (Zal (fun h=>d3 (i2.1 h))) b0) q0 c0 H
noncomputable abbrev zCxR8 (l:List Mo):=ag [vi (l.getD ((↑l.length:Int)-1).toNat default).x,vi (l.getD ((↑l.length:Int)-1).toNat default).y,vi (l.getD ((↑l.length:Int)-1).toNat default).z,vi (l.getD ((↑l.length:Int)-1).toNat default).u,vi (l.getD ((↑l.length:Int)-1).toNat default).v,vi (l.getD ((↑l.length:Int)-1).toNat default).w,vi (l.getD ((↑l.length:Int)-1).toNat default).r,vi (l.getD ((↑l.length:Int)-1).toNat default).t,vi (l.getD ((↑l.length:Int)-1).toNat default).b]
theorem enA (x y z:Int) (f:Bool) (l:List Mo)  (dq:AV) (H :
  (((↑l.length:Int)=0)->ag [vi x,vi y,vi z]=dq) /\
  (¬((↑l.length:Int)=0)->(-9223372036854775808<=(↑l.length:Int)-1/\(↑l.length:Int)-1<=9223372036854775807) /\
   (0<=(↑l.length:Int)-1) /\
   (((↑l.length:Int)-1).toNat<l.length) /\
   ag [vi (l.getD ((↑l.length:Int)-1).toNat default).u,vi (l.getD ((↑l.length:Int)-1).toNat default).v,vi (l.getD ((↑l.length:Int)-1).toNat default).w]=dq)) :
 enA_at x y z f l (Zaj dq):=by
 unfold enA_at
 have w1:(List.map Mo.a l).length=l.length:=List.length_map ..
 have i2:((↑(List.map Mo.a l).length:Int)==0)=true ↔ ((↑l.length:Int)=0):=(by (try rw [w1]);all_goals exact i_eq)
 rcases xq H with ⟨d3,H⟩|⟨d3,H⟩
 ·exact Zap (G:=Zab kp21 [] []) 1000 [true] (ag [vi x,vi y,vi z]) (by kernel_rfl) (bc (Zam (i2.2 d3)) (bc rfl (bc rfl b0))) q0 c0 H
 ·obtain ⟨k4,H⟩:=H
  have w5:wi ((↑l.length:Int)-1)=(↑l.length:Int)-1:=wI64 k4
  have i6:(decide (0<=wi ((↑(List.map Mo.a l).length:Int)-1)))=true ↔ (0<=(↑l.length:Int)-1):=(by (try rw [w1]);(try rw [w5]);all_goals exact Zad)
  obtain ⟨k7,H⟩:=H
  have i8:(decide ((wi ((↑(List.map Mo.a l).length:Int)-1)).toNat<(List.map Mo.a l).length))=true ↔ (((↑l.length:Int)-1).toNat<l.length):=(by (try rw [w1]);(try rw [w5]);all_goals exact Zad)
  obtain ⟨k9,H⟩:=H
  exact Zap (G:=Zab kp21 [(3,6,.elem (zCxR8 l))] []) 1000 [false] (eqs:=[((List.map Mo.a l).get?Internal (wi ((↑(List.map Mo.a l).length:Int)-1)).toNat=some (zCxR8 l))]) (ag [vi (l.getD ((↑l.length:Int)-1).toNat default).u,vi (l.getD ((↑l.length:Int)-1).toNat default).v,vi (l.getD ((↑l.length:Int)-1).toNat default).w]) (by kernel_rfl) (bc (Zal (fun h=>d3 (i2.1 h))) (bc (i6.2 k7) (bc (i8.2 k9) (bc rfl b0)))) (qc (by (try rw [w1]);(try rw [w5]);all_goals exact (Zaz k9)) q0) c0 H
noncomputable abbrev zCxR9 (l:List Mo):=ag [vi (l.getD 0 default).x,vi (l.getD 0 default).y,vi (l.getD 0 default).z,vi (l.getD 0 default).u,vi (l.getD 0 default).v,vi (l.getD 0 default).w,vi (l.getD 0 default).r,vi (l.getD 0 default).t,vi (l.getD 0 default).b]
theorem s5A (x y z:Int) (f:Bool) (l:List Mo)  (dq:AV) (H :
  (((↑l.length:Int)=0)->ag [vi x,vi y,vi z]=dq) /\
  (¬((↑l.length:Int)=0)->(0<l.length) /\
   ag [vi (l.getD 0 default).x,vi (l.getD 0 default).y,vi (l.getD 0 default).z]=dq)) :
 s5A_at x y z f l (Zaj dq):=by
 unfold s5A_at
 have w1:(List.map Mo.a l).length=l.length:=List.length_map ..
 have i2:((↑(List.map Mo.a l).length:Int)==0)=true ↔ ((↑l.length:Int)=0):=(by (try rw [w1]);all_goals exact i_eq)
 rcases xq H with ⟨d3,H⟩|⟨d3,H⟩
 ·exact Zap (G:=Zab kp24 [] []) 1000 [true] (ag [vi x,vi y,vi z]) (by kernel_rfl) (bc (Zam (i2.2 d3)) (bc rfl (bc rfl b0))) q0 c0 H
 ·have i4:(decide (0<(List.map Mo.a l).length))=true ↔ (0<l.length):=(by (try rw [w1]);all_goals exact Zad)
  obtain ⟨k5,H⟩:=H
  exact Zap (G:=Zab kp24 [(3,3,.elem (zCxR9 l))] []) 1000 [false] (eqs:=[((List.map Mo.a l).get?Internal 0=some (zCxR9 l))]) (ag [vi (l.getD 0 default).x,vi (l.getD 0 default).y,vi (l.getD 0 default).z]) (by kernel_rfl) (bc (Zal (fun h=>d3 (i2.1 h))) (bc rfl (bc (i4.2 k5) (bc rfl b0)))) (qc (Zaz k5) q0) c0 H
end Go.Av

namespace Go.Av
open Go.Proofs
namespace N
noncomputable def enP (x y z:Int) (l:List Mo):Ps:=if (l.length:Int)=0 then ⟨x,y,z⟩ else (l.getD ((l.length:Int)-1).toNat default).dst
def s5P (x y z:Int) (l:List Mo):Ps:=if (l.length:Int)=0 then ⟨x,y,z⟩ else (l.getD 0 default).src
end N
theorem mo_sd (m:Mo):(m.x=m.u/\m.y=m.v/\m.z=m.w) ↔ m.src=m.dst:=by
 unfold Mo.src Mo.dst
 constructor
 ·rintro ⟨h1,h2,h3⟩;rw [h1,h2,h3]
 ·intro h;injection h with h1 h2 h3;exact ⟨h1,h2,h3⟩
theorem lng_len (l:List Mo):(N.lng l).length<=l.length:=List.length_filter_le ..
theorem ln_loop (f:Bool) {l:List Mo} (hl:N.Zdy l):∀ (k i:Nat) (w:Nat),i+k=l.length->ZgG f l l.length i (N.lng (l.take i)) w (Zaj (.vec false 9 ((N.lng l).map Mo.a))):=by
 unfold N.Zdy at hl
 intro k
 induction k with
 | zero =>
  intro i w hi
  rw [List.take_of_length_le (by omega)]
  exact lnR _ _ _ _ _ _ _ ⟨fun z=>absurd z (by omega),fun _ => .refl _⟩
 | succ k ih =>
  intro i w hi
  have hs:=ZbO (L:=l) (i:=i) (by omega)
  have hlen:=lng_len (l.take i)
  rw [List.length_take] at hlen
  refine lnR _ _ _ _ _ _ _ ⟨fun _=>⟨by omega,by omega,fun hd=>⟨by omega,by omega,?_⟩,fun hd=>⟨by omega,?_⟩⟩,fun z=>absurd (by omega) z⟩
  ·have:=ih (i+1) (w+1) (by omega)
   rw [hs,ZcL,if_neg fun y=>hd ((mo_sd _).2 (by rw [Int.toNat_natCast];exact y))] at this
   rw [Int.toNat_natCast]
   exact this
  ·have:=ih (i+1) w (by omega)
   rw [hs,ZcL,if_pos (by have:=(mo_sd _).1 (Classical.not_not.1 hd);rw [Int.toNat_natCast] at this;exact this)] at this
   exact this
theorem ln_loopN (f:Bool) {l:List Mo} (hl:N.Zdy l):∀ (k i:Nat),i+k=l.length->N.lng (l.take i)=[]->lnN_at f l l.length i (Zaj (.vec false 9 ((N.lng l).map Mo.a))):=by
 intro k
 induction k with
 | zero =>
  intro i hi h0
  rw [List.take_of_length_le (by omega)] at h0
  rw [h0]
  exact lnN _ _ _ _ _ ⟨fun z=>absurd z (by omega),fun _ => .vnil 9⟩
 | succ k ih =>
  intro i hi h0
  have hs:=ZbO (L:=l) (i:=i) (by omega)
  have hl':=hl
  unfold N.Zdy at hl'
  refine lnN _ _ _ _ _ ⟨fun _=>⟨by omega,by omega,fun hd=>⟨by omega,?_⟩,fun hd=>⟨by omega,?_⟩⟩,fun z=>absurd (by omega) z⟩
  ·have:=ln_loop f hl k (i+1) 0 (by omega)
   rw [hs,ZcL,if_neg fun y=>hd ((mo_sd _).2 (by rw [Int.toNat_natCast];exact y)),h0] at this
   rw [Int.toNat_natCast]
   exact this
  ·refine ih (i+1) (by omega) ?_
   rw [hs,ZcL,if_pos (by have:=(mo_sd _).1 (Classical.not_not.1 hd);rw [Int.toNat_natCast] at this;exact this)]
   exact h0
theorem ev20 (f:Bool) (l:List Mo) (h:N.Zdy l):Ev M1 (.pure 20 [.vec f 9 (l.map Mo.a)]) (.vec false 9 ((N.lng l).map Mo.a)) []:=
 call20 (lnA f l _ (ln_loopN f h l.length 0 (by omega) rfl))
theorem ev21 (x y z:Int) (f:Bool) (l:List Mo) (h:N.Zdy l):Ev M1 (.pure 21 [.agg [.int .i64 x,.int .i64 y,.int .i64 z],.vec f 9 (l.map Mo.a)]) (.agg [.int .i64 (N.enP x y z l).x,.int .i64 (N.enP x y z l).y,.int .i64 (N.enP x y z l).z]) []:=by
 unfold N.Zdy at h
 refine call21 (enA x y z f l _ ⟨fun h0 => ?_,fun h0=>⟨by omega,by omega,by omega,?_⟩⟩)
 ·unfold N.enP;rw [if_pos h0]
 ·unfold N.enP;rw [if_neg h0];rfl
theorem ev24 (x y z:Int) (f:Bool) (l:List Mo):Ev M1 (.pure 24 [.vec f 9 (l.map Mo.a),.agg [.int .i64 x,.int .i64 y,.int .i64 z]]) (.agg [.int .i64 (N.s5P x y z l).x,.int .i64 (N.s5P x y z l).y,.int .i64 (N.s5P x y z l).z]) []:=by
 refine call24 (s5A x y z f l _ ⟨fun h0 => ?_,fun h0=>⟨by omega,?_⟩⟩)
 ·unfold N.s5P;rw [if_pos h0]
 ·unfold N.s5P;rw [if_neg h0];rfl
end Go.Av

namespace Go.Av
open Go.Proofs
namespace N
def smM (l m:List Mo):Bool:=decide (l=m)
def okSm (l m:List Mo):Prop:=l.length<=1000000000/\m.length<=1000000000
end N
theorem mo_eq (a b:Mo):((a.x=b.x/\a.y=b.y/\a.z=b.z)/\(a.u=b.u/\a.v=b.v/\a.w=b.w)/\a.r=b.r/\a.t=b.t/\a.b=b.b) ↔ a=b:=by
 obtain ⟨a1,a2,a3,a4,a5,a6,a7,a8,a9⟩:=a
 obtain ⟨b1,b2,b3,b4,b5,b6,b7,b8,b9⟩:=b
 constructor
 ·rintro ⟨⟨h1,h2,h3⟩,⟨h4,h5,h6⟩,h7,h8,h9⟩
  simp only at *
  subst h1;subst h2;subst h3;subst h4;subst h5;subst h6;subst h7;subst h8;subst h9;rfl
 ·intro h;cases h;exact ⟨⟨rfl,rfl,rfl⟩,⟨rfl,rfl,rfl⟩,rfl,rfl,rfl⟩
theorem sm_loop (f g:Bool) {l m:List Mo} (he:l.length=m.length) (hl:l.length<=1000000000):∀ (k i:Nat),i+k=l.length->l.take i=m.take i->smQ_at f g l m i (Zaj (.bool (N.smM l m))):=by
 intro k
 induction k with
 | zero =>
  intro i hi ht
  rw [List.take_of_length_le (by omega),List.take_of_length_le (by omega)] at ht
  exact smQ _ _ _ _ _ _ ⟨fun z=>absurd z (by omega),fun _=>by unfold N.smM;rw [decide_eq_true ht]⟩
 | succ k ih =>
  intro i hi ht
  refine smQ _ _ _ _ _ _ ⟨fun _ => ?_,fun z=>absurd (by omega) z⟩
  rw [Int.toNat_natCast]
  refine ⟨by omega,by omega,by omega,fun hd => ?_,fun hd=>⟨by omega,?_⟩⟩
  ·have hne:¬l=m:=by
    intro e
    subst e
    exact hd ((mo_eq _ _).2 rfl)
   unfold N.smM;rw [decide_eq_false hne]
  ·have e:=(mo_eq _ _).1 (Classical.not_not.1 hd)
   refine ih (i+1) (by omega) ?_
   rw [ZbO (L:=l) (by omega),ZbO (L:=m) (by omega),ht,e]
theorem ev17 (f g:Bool) (l m:List Mo) (h:N.okSm l m):Ev M1 (.pure 17 [.vec f 9 (l.map Mo.a),.vec g 9 (m.map Mo.a)]) (.bool (N.smM l m)) []:=by
 refine call17 (smP f g l m _ ⟨fun hn => ?_,fun hn => ?_⟩)
 ·have hne:¬l=m:=fun e=>hn (by rw [e])
  unfold N.smM;rw [decide_eq_false hne]
 ·exact sm_loop f g (by omega) h.1 l.length 0 (by omega) rfl
end Go.Av

namespace Go.Av
open Go.Proofs
set_option maxRecDepth 100000
def fi29:Fi:=⟨21,[.cell 4 42]⟩
def kp29:List (Nat × List Nat):=[(0,[2,3,4]),(1,[4])]
def fi72:Fi:=⟨15,[.tmp 6]⟩
def kp72:List (Nat × List Nat):=[(0,[0,1,2]),(1,[6])]
def w9A_at (n l h:Int) (Q:AV->Heap->Prop):Prop:=Wp M1 (.run fi72 (atC (cd Try.f72) []) [(0,.int .i64 n),(1,.int .i64 l),(2,.int .i64 h)] []) Q
def p5A_at (ax ay az bx by_ bz:Int) (Q:AV->Heap->Prop):Prop:=Wp M1 (.run fi29 (atC (cd Try.f29) []) [(0,.agg [.int .i64 ax,.int .i64 ay,.int .i64 az]),(1,.agg [.int .i64 bx,.int .i64 by_,.int .i64 bz])] []) Q
theorem call29 {args:List AV} {d:AV} (h:wc M1 fi29 Try.f29 args d):Ev M1 (.pure 29 args) d []:=pcl _ _ (by kernel_rfl) h
theorem call72 {args:List AV} {d:AV} (h:wc M1 fi72 Try.f72 args d):Ev M1 (.pure 72 args) d []:=pcl _ _ (by kernel_rfl) h
theorem w9A (n l h:Int)  (dq:AV) (H :
  vb (bif decide (n>=l) then decide (n<=h) else false)=dq) :
 w9A_at n l h (Zaj dq):=by
 unfold w9A_at
 exact Zap (G:=Zab kp72 [] []) 1000 [] (vb (bif decide (n>=l) then decide (n<=h) else false)) (by kernel_rfl) b0 q0 c0 H
theorem p5A (ax ay az bx by_ bz:Int)  (dq:AV) (H :
  (-9223372036854775808<=ax+bx/\ax+bx<=9223372036854775807) /\
  (-9223372036854775808<=ay+by_/\ay+by_<=9223372036854775807) /\
  (-9223372036854775808<=az+bz/\az+bz<=9223372036854775807) /\
  ag [vi (ax+bx),vi (ay+by_),vi (az+bz)]=dq) :
 p5A_at ax ay az bx by_ bz (Zaj dq):=by
 unfold p5A_at
 obtain ⟨k1,H⟩:=H
 have w2:wi (ax+bx)=ax+bx:=wI64 k1
 obtain ⟨k3,H⟩:=H
 have w4:wi (ay+by_)=ay+by_:=wI64 k3
 obtain ⟨k5,H⟩:=H
 have w6:wi (az+bz)=az+bz:=wI64 k5
 exact Zap (G:=Zab kp29 [] []) 1000 [] (ag [vi (wi (ax+bx)),vi (wi (ay+by_)),vi (wi (az+bz))]) (by kernel_rfl) (bc rfl (bc rfl (bc rfl (bc rfl (bc rfl (bc rfl (bc rfl b0))))))) q0 c0 (by (try rw [w2]);(try rw [w4]);(try rw [w6]);all_goals exact H)
end Go.Av

namespace Go.Av
open Go.Proofs
namespace N
def okPl (ax ay az bx by_ bz:Int):Prop:=((-100000000<=ax/\ax<=100000000)/\(-100000000<=ay/\ay<=100000000) /\ -100000000<=az/\az<=100000000)/\(-100000000<=bx/\bx<=100000000)/\(-100000000<=by_/\by_<=100000000) /\ -100000000<=bz/\bz<=100000000
end N
theorem ev72 (n l h:Int):Ev M1 (.pure 72 [.int .i64 n,.int .i64 l,.int .i64 h]) (.bool (N.wi n l h)) []:=call72 (w9A n l h _ rfl)
theorem ev29 (ax ay az bx by_ bz:Int) (h:N.okPl ax ay az bx by_ bz):Ev M1 (.pure 29 [.agg [.int .i64 ax,.int .i64 ay,.int .i64 az],.agg [.int .i64 bx,.int .i64 by_,.int .i64 bz]]) (.agg [.int .i64 (ax+bx),.int .i64 (ay+by_),.int .i64 (az+bz)]) []:=by
 obtain ⟨⟨h1,h2,h3⟩,h4,h5,h6⟩:=h
 exact call29 (p5A _ _ _ _ _ _ _ ⟨by omega,by omega,by omega,rfl⟩)
end Go.Av

namespace Go.Av
open Go.Proofs
set_option maxRecDepth 100000
def fi39:Fi:=⟨19,[.tmp 2]⟩
def kp39:List (Nat × List Nat):=[(0,[1]),(1,[18]),(2,[2]),(3,[2])]
def v9A_at (S A j:Int) (Q:AV->Heap->Prop):Prop:=Wp M1 (.run fi39 (atC (cd Try.f39) []) [(0,.agg [.int .i64 S,.int .i64 A,.int .i64 j])] []) Q
theorem call39 {args:List AV} {d:AV} (h:wc M1 fi39 Try.f39 args d):Ev M1 (.pure 39 args) d []:=pcl _ _ (by kernel_rfl) h
noncomputable abbrev zCxT1 (S:Int) (A:Int) (j:Int):=bif bif !N.wi S 1 100000 then true else !N.wi A 1 100000 then true else !N.wi j 2 100000
theorem v9A (S A j:Int)  (dq:AV) (H :
  ((((¬(N.wi S 1 100000=true))\/(¬(N.wi A 1 100000=true)))\/(¬(N.wi j 2 100000=true)))->vi 1=dq) /\
  (¬(((¬(N.wi S 1 100000=true))\/(¬(N.wi A 1 100000=true)))\/(¬(N.wi j 2 100000=true)))->vi 0=dq)) :
 v9A_at S A j (Zaj dq):=by
 unfold v9A_at
 refine Zac (G:=Zab kp39 [(1,2,.call (vb (N.wi S 1 100000)) none),(1,7,.call (vb (N.wi A 1 100000)) none),(1,13,.call (vb (N.wi j 2 100000)) none)] []) 5 [] ⟨(atC (cd Try.f39) [1,0,1]),[(18,vb (zCxT1 S A j))],[⟨[ag [vi S,vi A,vi j]],3,0,false,false⟩],[true,!((!N.wi S 1 100000)==false&&true)||true,!((bif !N.wi S 1 100000 then true else !N.wi A 1 100000)==false&&true)||true],[],[⟨true,false,72,[vi S,vi 1,vi 100000],[],vb (N.wi S 1 100000),[]⟩,⟨(!N.wi S 1 100000)==false&&true&&true,false,72,[vi A,vi 1,vi 100000],[],vb (N.wi A 1 100000),[]⟩,⟨(bif !N.wi S 1 100000 then true else !N.wi A 1 100000)==false&&true&&true,false,72,[vi j,vi 2,vi 100000],[],vb (N.wi j 2 100000),[]⟩]⟩ (by kernel_rfl) (bc rfl (bc (Bool.or_true _) (bc (Bool.or_true _) b0))) q0 (cc (fun _=>(@ev72 S 1 100000)) (cc (fun hc=>((@ev72 A 1 100000):Ev M1 (Conf.pure 72 [vi A,vi 1,vi 100000]) (vb (N.wi A 1 100000)) [])) (cc (fun hc=>((@ev72 j 2 100000):Ev M1 (Conf.pure 72 [vi j,vi 2,vi 100000]) (vb (N.wi j 2 100000)) [])) c0))) ?_
 rcases xq H with ⟨d4,H⟩|⟨d4,H⟩
 ·exact Zap (G:=Zab kp39 [] []) 1000 [true] (asm:=[(zCxT1 S A j)==true]) (vi 1) (by kernel_rfl) (bc (Zam ((ZaD (ZaD (Zay (Zas _)) (Zay (Zas _))) (Zay (Zas _))).2 d4)) b0) q0 c0 H
 ·exact Zap (G:=Zab kp39 [] []) 1000 [false] (asm:=[(zCxT1 S A j)==false]) (vi 0) (by kernel_rfl) (bc (Zal (fun h=>d4 ((ZaD (ZaD (Zay (Zas _)) (Zay (Zas _))) (Zay (Zas _))).1 h))) b0) q0 c0 H
end Go.Av

namespace Go.Av
open Go.Proofs
structure Wy where
 x:Int
 y:Int
 z:Int
 r:Int
 deriving DecidableEq,Inhabited
def Wy.a (w:Wy):AV:=.agg [.int .i16 w.x,.int .i16 w.y,.int .i16 w.z,.int .i16 w.r]
theorem ev39 (S A j:Int):Ev M1 (.pure 39 [.agg [.int .i64 S,.int .i64 A,.int .i64 j]]) (.int .i64 (N.vlE S A j)) []:=by
 refine call39 (v9A S A j _ ⟨fun h => ?_,fun h => ?_⟩)
 all_goals unfold N.vlE
 ·rw [if_neg]
  rintro ⟨h1,h2,h3⟩
  rcases h with (h | h) | h
  ·exact h h1
  ·exact h h2
  ·exact h h3
 ·rw [if_pos]
  exact ⟨Classical.byContradiction fun y=>h (.inl (.inl y)),Classical.byContradiction fun y=>h (.inl (.inr y)),Classical.byContradiction fun y=>h (.inr y)⟩
end Go.Av

namespace Go.Av
open Go.Proofs
set_option maxRecDepth 100000
def fi7:Fi:=⟨112,[.tmp 2,.cell 3 31,.tmp 4]⟩
def kp7:List (Nat × List Nat):=[(0,[1,3]),(1,[1,3,5]),(2,[1,3,5,6]),(3,[1,3,5,6,59]),(4,[2,3,4]),(5,[1,3,5,6,7]),(6,[3,5,6,7,62,63,64]),(7,[3,5,6,7,62,63,64,65]),(8,[3,5,6,7,8,9,62,63,64]),(9,[3,5,6,7,8,9,10,62,63,64]),(10,[3,5,6,7,11,62,63,64]),(11,[3,5,6,7,11,62,63,64,98]),(12,[3,5,6,7,11,62,63,64]),(13,[3,5,6,7,11,62,63,64]),(14,[3,5,6,7,62,63,64]),(15,[3,5,6,7,62,63,64]),(16,[2,3,4])]
def moA_at (fx fy fz:Int) (fw:Bool) (W:List Wy) (S A j:Int) (Q:AV->Heap->Prop):Prop:=Wp M1 (.run fi7 (atC (cd Try.f7) []) [(0,.agg [.int .i16 fx,.int .i16 fy,.int .i16 fz,.vec fw 4 (W.map Wy.a),.int .i64 S,.int .i64 A,.int .i64 j])] []) Q
def moN_at (fw:Bool) (W:List Wy) (S A j ax ay az n i:Int) (Q:AV->Heap->Prop):Prop:=Wp M1 (.run fi7 (atC (cd Try.f7) [1,1,1,1,1,0,1,0,0]) [(3,.ptr 0 0 0 0),(5,.ptr 1 0 0 0),(6,.ptr 2 0 0 0),(7,.vnil),(62,.vec fw 4 (W.map Wy.a)),(63,.int .i64 n),(64,.int .i64 i)] [⟨[.agg [.int .i64 0,.int .i64 0,.int .i64 0]],3,0,false,false⟩,⟨[.agg [.int .i64 ax,.int .i64 ay,.int .i64 az]],3,0,false,false⟩,⟨[.agg [.int .i64 S,.int .i64 A,.int .i64 j]],3,0,false,false⟩]) Q
def ZfE (fw:Bool) (W:List Wy) (S A j ax ay az n i:Int) (o:List Mo) (w:Nat) (Q:AV->Heap->Prop):Prop:=Wp M1 (.run fi7 (atC (cd Try.f7) [1,1,1,1,1,0,1,0,0]) [(3,.ptr 0 0 0 0),(5,.ptr 1 0 0 0),(6,.ptr 2 0 0 0),(7,.row 3 w),(62,.vec fw 4 (W.map Wy.a)),(63,.int .i64 n),(64,.int .i64 i)] [⟨[.agg [.int .i64 0,.int .i64 0,.int .i64 0]],3,0,false,false⟩,⟨[.agg [.int .i64 ax,.int .i64 ay,.int .i64 az]],3,0,false,false⟩,⟨[.agg [.int .i64 S,.int .i64 A,.int .i64 j]],3,0,false,false⟩,⟨o.map Mo.a,9,w,false,true⟩]) Q
theorem call7 {args:List AV} {d:AV} (h:wc M1 fi7 Try.f7 args d):Ev M1 (.pure 7 args) d []:=pcl _ _ (by kernel_rfl) h
noncomputable abbrev zCxU1 (S:Int) (A:Int) (j:Int):=ag [vi S,vi A,vi j]
theorem moA (fx fy fz:Int) (fw:Bool) (W:List Wy) (S A j:Int)  (dq:AV) (H :
  (-9223372036854775808<=fx/\fx<=9223372036854775807) /\
  (-9223372036854775808<=fy/\fy<=9223372036854775807) /\
  (-9223372036854775808<=fz/\fz<=9223372036854775807) /\
  (((((((↑W.length:Int)>6)\/(¬N.vlE S A j=0))\/(S<20))\/(A<20))\/(j<40))->Weak (tu [AV.vnil,ag [vi S,vi A,vi j],vb false]) dq) /\
  (¬((((((↑W.length:Int)>6)\/(¬N.vlE S A j=0))\/(S<20))\/(A<20))\/(j<40))->moN_at fw W S A j fx fy fz ((↑W.length:Int)) 0 (Zaj dq))) :
 moA_at fx fy fz fw W S A j (Zaj dq):=by
 unfold moA_at
 obtain ⟨k1,H⟩:=H
 have w2:wi fx=fx:=wI64 k1
 obtain ⟨k3,H⟩:=H
 have w4:wi fy=fy:=wI64 k3
 obtain ⟨k5,H⟩:=H
 have w6:wi fz=fz:=wI64 k5
 have w7:(List.map Wy.a W).length=W.length:=List.length_map ..
 have i8:(decide ((↑(List.map Wy.a W).length:Int)>6)==false&&true&&true)=true ↔ (¬((↑W.length:Int)>6)):=(by (try rw [w7]);all_goals exact (i_at (i_at (i_bf Zad))))
 have i9:(bif bif bif bif decide ((↑(List.map Wy.a W).length:Int)>6) then true else N.vlE S A j != 0 then true else decide (S<20) then true else decide (A<20) then true else decide (j<40))=true ↔ ((((((↑W.length:Int)>6)\/(¬N.vlE S A j=0))\/(S<20))\/(A<20))\/(j<40)):=(by (try rw [w7]);all_goals exact (ZaD (ZaD (ZaD (ZaD Zad i_ne) Zad) Zad) Zad))
 refine Zac (G:=Zab kp7 [(3,7,.call (vi (N.vlE S A j)) none)] []) 9 [] ⟨(atC (cd Try.f7) [1,1,1,0,1]),[(1,AV.ptr 0 0 0 0),(3,AV.ptr 1 0 0 0),(5,AV.ptr 2 0 0 0),(6,AV.ptr 3 0 0 0),(59,vb (bif bif bif bif decide ((↑(List.map Wy.a W).length:Int)>6) then true else N.vlE S A j != 0 then true else decide (S<20) then true else decide (A<20) then true else decide (j<40)))],[⟨[ag [AV.int IntKind.i16 fx,AV.int IntKind.i16 fy,AV.int IntKind.i16 fz,AV.vec fw 4 (List.map Wy.a W),vi S,vi A,vi j]],7,0,false,false⟩,⟨[ag [vi 0,vi 0,vi 0]],3,0,false,false⟩,⟨[ag [vi (wi fx),vi (wi fy),vi (wi fz)]],3,0,false,false⟩,⟨[(zCxU1 S A j)],3,0,false,false⟩],[true,true,true,true,true,true,true,true,true,true,true,true,true,true,true,!(decide ((↑(List.map Wy.a W).length:Int)>6)==false&&true)||true,!((bif decide ((↑(List.map Wy.a W).length:Int)>6) then true else N.vlE S A j != 0)==false&&true)||true,!((bif bif decide ((↑(List.map Wy.a W).length:Int)>6) then true else N.vlE S A j != 0 then true else decide (S<20))==false&&true)||true,!((bif bif bif decide ((↑(List.map Wy.a W).length:Int)>6) then true else N.vlE S A j != 0 then true else decide (S<20) then true else decide (A<20))==false&&true)||true],[],[⟨decide ((↑(List.map Wy.a W).length:Int)>6)==false&&true&&true,false,39,[(zCxU1 S A j)],[],vi (N.vlE S A j),[]⟩]⟩ (by kernel_rfl) (bc rfl (bc rfl (bc rfl (bc rfl (bc rfl (bc rfl (bc rfl (bc rfl (bc rfl (bc rfl (bc rfl (bc rfl (bc rfl (bc rfl (bc rfl (bc (Bool.or_true _) (bc (Bool.or_true _) (bc (Bool.or_true _) (bc (Bool.or_true _) b0))))))))))))))))))) q0 (cc (fun hc=>((@ev39 S A j):Ev M1 (Conf.pure 39 [(zCxU1 S A j)]) (vi (N.vlE S A j)) [])) c0) ?_
 rcases xq H with ⟨d10,H⟩|⟨d10,H⟩
 ·exact ZaX (G:=Zab kp7 [] []) 1000 [true] (tu [AV.vnil,(zCxU1 S A j),vb false]) (by kernel_rfl) (bc (Zam (i9.2 d10)) (bc rfl (bc rfl b0))) q0 c0 H
 ·exact Zac (G:=Zab kp7 [] []) 1000 [false] ⟨(atC (cd Try.f7) [1,1,1,1,1,0,1,0,0]),[(3,AV.ptr 1 0 0 0),(5,AV.ptr 2 0 0 0),(6,AV.ptr 3 0 0 0),(7,AV.vnil),(62,AV.vec fw 4 (List.map Wy.a W)),(63,vi (↑(List.map Wy.a W).length:Int)),(64,vi 0)],[⟨[ag [AV.int IntKind.i16 fx,AV.int IntKind.i16 fy,AV.int IntKind.i16 fz,AV.vec fw 4 (List.map Wy.a W),vi S,vi A,vi j]],7,0,false,false⟩,⟨[ag [vi 0,vi 0,vi 0]],3,0,false,false⟩,⟨[ag [vi (wi fx),vi (wi fy),vi (wi fz)]],3,0,false,false⟩,⟨[(zCxU1 S A j)],3,0,false,false⟩],_,[],_⟩ (by kernel_rfl) (bc (Zal (fun h=>d10 (i9.1 h))) (bc rfl b0)) q0 c0 (by (try rw [w2]);(try rw [w4]);(try rw [w6]);(try rw [w7]);all_goals exact Zan [1,2,3] (by kernel_rfl) H)
noncomputable abbrev zCxU2 (W:List Wy) (i:Int):=ag [AV.int IntKind.i16 (W.getD i.toNat default).x,AV.int IntKind.i16 (W.getD i.toNat default).y,AV.int IntKind.i16 (W.getD i.toNat default).z,AV.int IntKind.i16 (W.getD i.toNat default).r]
noncomputable abbrev zCxU3 (ax:Int) (W:List Wy) (i:Int) (ay:Int) (az:Int):=ag [vi (ax+(W.getD i.toNat default).x.tmod 600),vi (ay+(W.getD i.toNat default).y.tmod 600),vi (az+(W.getD i.toNat default).z.tmod 600)]
noncomputable abbrev zCxU4 (S:Int) (A:Int) (j:Int):=ag [vi S,vi A,vi j]
noncomputable abbrev zCxU5:=ag [vi 0,vi 0,vi 0]
theorem moN (fw:Bool) (W:List Wy) (S A j ax ay az n i:Int)  (dq:AV) (H :
  ((i<n)->(0<=i) /\
   (i.toNat<W.length) /\
   (-9223372036854775808<=(W.getD i.toNat default).x.tmod 600/\(W.getD i.toNat default).x.tmod 600<=9223372036854775807) /\
   (-9223372036854775808<=(W.getD i.toNat default).y.tmod 600/\(W.getD i.toNat default).y.tmod 600<=9223372036854775807) /\
   (-9223372036854775808<=(W.getD i.toNat default).z.tmod 600/\(W.getD i.toNat default).z.tmod 600<=9223372036854775807) /\
   (N.okPl ax ay az ((W.getD i.toNat default).x.tmod 600) ((W.getD i.toNat default).y.tmod 600) ((W.getD i.toNat default).z.tmod 600)) /\
   (-9223372036854775808<=(W.getD i.toNat default).r/\(W.getD i.toNat default).r<=9223372036854775807) /\
   (-9223372036854775808<=(1000*if (W.getD i.toNat default).r>0 then (W.getD i.toNat default).r else 0)/\(1000*if (W.getD i.toNat default).r>0 then (W.getD i.toNat default).r else 0)<=9223372036854775807) /\
   (-9223372036854775808<=i.tdiv 2/\i.tdiv 2<=9223372036854775807) /\
   (-9223372036854775808<=1+i.tdiv 2/\1+i.tdiv 2<=9223372036854775807) /\
   (((1000*if (W.getD i.toNat default).r>0 then (W.getD i.toNat default).r else 0)>0)->(-9223372036854775808<=i+1/\i+1<=9223372036854775807) /\
    ZfE fw W S A j (ax+(W.getD i.toNat default).x.tmod 600) (ay+(W.getD i.toNat default).y.tmod 600) (az+(W.getD i.toNat default).z.tmod 600) n (i+1) ([{ x:=ax,y:=ay,z:=az,u:=ax+(W.getD i.toNat default).x.tmod 600,v:=ay+(W.getD i.toNat default).y.tmod 600,w:=az+(W.getD i.toNat default).z.tmod 600,r:=if (1000*if (W.getD i.toNat default).r>0 then (W.getD i.toNat default).r else 0)>20000 then 1000*if (W.getD i.toNat default).r>0 then (W.getD i.toNat default).r else 0 else 20000,t:=1+i.tdiv 2,b:=i }]) 0 (Zaj dq)) /\
   (¬((1000*if (W.getD i.toNat default).r>0 then (W.getD i.toNat default).r else 0)>0)->(-9223372036854775808<=i+1/\i+1<=9223372036854775807) /\
    ZfE fw W S A j (ax+(W.getD i.toNat default).x.tmod 600) (ay+(W.getD i.toNat default).y.tmod 600) (az+(W.getD i.toNat default).z.tmod 600) n (i+1) ([{ x:=ax,y:=ay,z:=az,u:=ax+(W.getD i.toNat default).x.tmod 600,v:=ay+(W.getD i.toNat default).y.tmod 600,w:=az+(W.getD i.toNat default).z.tmod 600,r:=1000*if (W.getD i.toNat default).r>0 then (W.getD i.toNat default).r else 0,t:=1+i.tdiv 2,b:=i }]) 0 (Zaj dq))) /\
  (¬(i<n)->Weak (tu [AV.vnil,ag [vi S,vi A,vi j],vb true]) dq)) :
 moN_at fw W S A j ax ay az n i (Zaj dq):=by
 unfold moN_at
 rcases xq H with ⟨d2,H⟩|⟨d2,H⟩
 ·obtain ⟨k4,H⟩:=H
  have w5:(List.map Wy.a W).length=W.length:=List.length_map ..
  have i6:(decide (i.toNat<(List.map Wy.a W).length))=true ↔ (i.toNat<W.length):=(by (try rw [w5]);all_goals exact Zad)
  obtain ⟨k7,k8,H⟩:=H
  have w9:wi ((W.getD i.toNat default).x.tmod 600)=(W.getD i.toNat default).x.tmod 600:=wI64 k8
  obtain ⟨k10,H⟩:=H
  have w11:wi ((W.getD i.toNat default).y.tmod 600)=(W.getD i.toNat default).y.tmod 600:=wI64 k10
  obtain ⟨k12,H⟩:=H
  have w13:wi ((W.getD i.toNat default).z.tmod 600)=(W.getD i.toNat default).z.tmod 600:=wI64 k12
  obtain ⟨k14,k15,H⟩:=H
  have w16:wi (W.getD i.toNat default).r=(W.getD i.toNat default).r:=wI64 k15
  obtain ⟨k17,H⟩:=H
  have w18:wi (1000*if (W.getD i.toNat default).r>0 then (W.getD i.toNat default).r else 0)=1000*if (W.getD i.toNat default).r>0 then (W.getD i.toNat default).r else 0:=wI64 k17
  obtain ⟨k19,H⟩:=H
  have w20:wi (i.tdiv 2)=i.tdiv 2:=wI64 k19
  obtain ⟨k21,H⟩:=H
  have w22:wi (1+i.tdiv 2)=1+i.tdiv 2:=wI64 k21
  have i23:(decide (wi (1000*if wi (W.getD i.toNat default).r>0 then wi (W.getD i.toNat default).r else 0)>0))=true ↔ ((1000*if (W.getD i.toNat default).r>0 then (W.getD i.toNat default).r else 0)>0):=(by (try rw [w16]);(try rw [w18]);all_goals exact Zad)
  refine Zac (G:=Zab kp7 [(8,2,.elem ((zCxU2 W i))),(10,3,.call ((zCxU3 ax W i ay az)) none)] []) 16 [true] ⟨(atC (cd Try.f7) [1,1,1,1,1,0,1,0,0,1,1,0,0,1,1,1,0,1]),[(3,AV.ptr 0 0 0 0),(5,AV.ptr 1 0 0 0),(6,AV.ptr 2 0 0 0),(7,AV.vnil),(11,AV.ptr 5 0 0 0),(62,AV.vec fw 4 (List.map Wy.a W)),(63,vi n),(64,vi i),(98,vb (decide (wi (1000*if wi (W.getD i.toNat default).r>0 then wi (W.getD i.toNat default).r else 0)>0)))],[⟨[zCxU5],3,0,false,false⟩,⟨[ag [vi ax,vi ay,vi az]],3,0,false,false⟩,⟨[(zCxU4 S A j)],3,0,false,false⟩,⟨[(zCxU2 W i)],4,0,false,false⟩,⟨[ag [vi (wi ((W.getD i.toNat default).x.tmod 600)),vi (wi ((W.getD i.toNat default).y.tmod 600)),vi (wi ((W.getD i.toNat default).z.tmod 600))]],3,0,false,false⟩,⟨[ag [vi ax,vi ay,vi az,vi (ax+(W.getD i.toNat default).x.tmod 600),vi (ay+(W.getD i.toNat default).y.tmod 600),vi (az+(W.getD i.toNat default).z.tmod 600),vi (wi (1000*if wi (W.getD i.toNat default).r>0 then wi (W.getD i.toNat default).r else 0)),vi (wi (1+wi (i.tdiv 2))),vi i]],9,0,false,false⟩],_,[((List.map Wy.a W).get?Internal i.toNat=some ((zCxU2 W i)))],[pc 29 [ag [vi ax,vi ay,vi az],ag [vi (wi ((W.getD i.toNat default).x.tmod 600)),vi (wi ((W.getD i.toNat default).y.tmod 600)),vi (wi ((W.getD i.toNat default).z.tmod 600))]] ((zCxU3 ax W i ay az))]⟩ (by kernel_rfl) (bc (Zam (Zad.2 d2)) (bc (Zad.2 k4) (bc (i6.2 k7) (bc rfl (bc rfl (bc rfl (bc rfl (bc rfl (bc rfl (bc rfl (bc rfl (bc rfl (bc rfl (bc rfl (bc rfl (bc rfl (bc rfl (bc rfl (bc rfl (bc rfl (bc rfl (bc rfl (bc rfl (bc rfl (bc rfl (bc rfl b0)))))))))))))))))))))))))) (qc (Zaz k7) q0) (ce (by (try rw [w9]);(try rw [w11]);(try rw [w13]);all_goals exact (@ev29 ax ay az ((W.getD i.toNat default).x.tmod 600) ((W.getD i.toNat default).y.tmod 600) ((W.getD i.toNat default).z.tmod 600) k14)) c0) ?_
  rcases xq H with ⟨d24,H⟩|⟨d24,H⟩
  ·obtain ⟨k25,H⟩:=H
   have w26:wi (i+1)=i+1:=wI64 k25
   have w27:[ag [vi ax,vi ay,vi az,vi (ax+(W.getD i.toNat default).x.tmod 600),vi (ay+(W.getD i.toNat default).y.tmod 600),vi (az+(W.getD i.toNat default).z.tmod 600),vi (if (1000*if (W.getD i.toNat default).r>0 then (W.getD i.toNat default).r else 0)>20000 then 1000*if (W.getD i.toNat default).r>0 then (W.getD i.toNat default).r else 0 else 20000),vi (1+i.tdiv 2),vi i]]=List.map Mo.a [{ x:=ax,y:=ay,z:=az,u:=ax+(W.getD i.toNat default).x.tmod 600,v:=ay+(W.getD i.toNat default).y.tmod 600,w:=az+(W.getD i.toNat default).z.tmod 600,r:=if (1000*if (W.getD i.toNat default).r>0 then (W.getD i.toNat default).r else 0)>20000 then 1000*if (W.getD i.toNat default).r>0 then (W.getD i.toNat default).r else 0 else 20000,t:=1+i.tdiv 2,b:=i }]:=rfl
   exact Zac (G:=Zab kp7 [] []) 1000 [true] ⟨(atC (cd Try.f7) [1,1,1,1,1,0,1,0,0]),[(3,AV.ptr 0 0 0 0),(5,AV.ptr 1 0 0 0),(6,AV.ptr 2 0 0 0),(7,AV.row 6 0),(62,AV.vec fw 4 (List.map Wy.a W)),(63,vi n),(64,vi (wi (i+1)))],[⟨[zCxU5],3,0,false,false⟩,⟨[(zCxU3 ax W i ay az)],3,0,false,false⟩,⟨[(zCxU4 S A j)],3,0,false,false⟩,⟨[(zCxU2 W i)],4,0,false,false⟩,⟨[ag [vi (wi ((W.getD i.toNat default).x.tmod 600)),vi (wi ((W.getD i.toNat default).y.tmod 600)),vi (wi ((W.getD i.toNat default).z.tmod 600))]],3,0,false,false⟩,⟨[ag [vi ax,vi ay,vi az,vi (ax+(W.getD i.toNat default).x.tmod 600),vi (ay+(W.getD i.toNat default).y.tmod 600),vi (az+(W.getD i.toNat default).z.tmod 600),vi (if wi (1000*if wi (W.getD i.toNat default).r>0 then wi (W.getD i.toNat default).r else 0)>20000 then wi (1000*if wi (W.getD i.toNat default).r>0 then wi (W.getD i.toNat default).r else 0) else 20000),vi (wi (1+wi (i.tdiv 2))),vi i]],9,0,false,false⟩,⟨[ag [vi ax,vi ay,vi az,vi (ax+(W.getD i.toNat default).x.tmod 600),vi (ay+(W.getD i.toNat default).y.tmod 600),vi (az+(W.getD i.toNat default).z.tmod 600),vi (if wi (1000*if wi (W.getD i.toNat default).r>0 then wi (W.getD i.toNat default).r else 0)>20000 then wi (1000*if wi (W.getD i.toNat default).r>0 then wi (W.getD i.toNat default).r else 0) else 20000),vi (wi (1+wi (i.tdiv 2))),vi i]],9,0,false,true⟩],_,[],_⟩ (by kernel_rfl) (bc (Zam (i23.2 d24)) (bc rfl (bc rfl (bc rfl (bc rfl (bc rfl (bc rfl b0))))))) q0 c0 (by (try rw [w9]);(try rw [w11]);(try rw [w13]);(try rw [w16]);(try rw [w18]);(try rw [w20]);(try rw [w22]);(try rw [w26]);(try rw [w27]);all_goals exact Zan [0,1,2,6] (by kernel_rfl) H)
  ·obtain ⟨k28,H⟩:=H
   have w29:wi (i+1)=i+1:=wI64 k28
   have w30:[ag [vi ax,vi ay,vi az,vi (ax+(W.getD i.toNat default).x.tmod 600),vi (ay+(W.getD i.toNat default).y.tmod 600),vi (az+(W.getD i.toNat default).z.tmod 600),vi (1000*if (W.getD i.toNat default).r>0 then (W.getD i.toNat default).r else 0),vi (1+i.tdiv 2),vi i]]=List.map Mo.a [{ x:=ax,y:=ay,z:=az,u:=ax+(W.getD i.toNat default).x.tmod 600,v:=ay+(W.getD i.toNat default).y.tmod 600,w:=az+(W.getD i.toNat default).z.tmod 600,r:=1000*if (W.getD i.toNat default).r>0 then (W.getD i.toNat default).r else 0,t:=1+i.tdiv 2,b:=i }]:=rfl
   exact Zac (G:=Zab kp7 [] []) 1000 [false] ⟨(atC (cd Try.f7) [1,1,1,1,1,0,1,0,0]),[(3,AV.ptr 0 0 0 0),(5,AV.ptr 1 0 0 0),(6,AV.ptr 2 0 0 0),(7,AV.row 6 0),(62,AV.vec fw 4 (List.map Wy.a W)),(63,vi n),(64,vi (wi (i+1)))],[⟨[zCxU5],3,0,false,false⟩,⟨[(zCxU3 ax W i ay az)],3,0,false,false⟩,⟨[(zCxU4 S A j)],3,0,false,false⟩,⟨[(zCxU2 W i)],4,0,false,false⟩,⟨[ag [vi (wi ((W.getD i.toNat default).x.tmod 600)),vi (wi ((W.getD i.toNat default).y.tmod 600)),vi (wi ((W.getD i.toNat default).z.tmod 600))]],3,0,false,false⟩,⟨[ag [vi ax,vi ay,vi az,vi (ax+(W.getD i.toNat default).x.tmod 600),vi (ay+(W.getD i.toNat default).y.tmod 600),vi (az+(W.getD i.toNat default).z.tmod 600),vi (wi (1000*if wi (W.getD i.toNat default).r>0 then wi (W.getD i.toNat default).r else 0)),vi (wi (1+wi (i.tdiv 2))),vi i]],9,0,false,false⟩,⟨[ag [vi ax,vi ay,vi az,vi (ax+(W.getD i.toNat default).x.tmod 600),vi (ay+(W.getD i.toNat default).y.tmod 600),vi (az+(W.getD i.toNat default).z.tmod 600),vi (wi (1000*if wi (W.getD i.toNat default).r>0 then wi (W.getD i.toNat default).r else 0)),vi (wi (1+wi (i.tdiv 2))),vi i]],9,0,false,true⟩],_,[],_⟩ (by kernel_rfl) (bc (Zal (fun h=>d24 (i23.1 h))) (bc rfl (bc rfl (bc rfl (bc rfl b0))))) q0 c0 (by (try rw [w9]);(try rw [w11]);(try rw [w13]);(try rw [w16]);(try rw [w18]);(try rw [w20]);(try rw [w22]);(try rw [w29]);(try rw [w30]);all_goals exact Zan [0,1,2,6] (by kernel_rfl) H)
 ·exact ZaX (G:=Zab kp7 [] []) 1000 [false] (tu [AV.vnil,(zCxU4 S A j),vb true]) (by kernel_rfl) (bc (Zal (fun h=>d2 (Zad.1 h))) (bc rfl (bc rfl b0))) q0 c0 H
noncomputable abbrev zCxU6 (W:List Wy) (i:Int):=ag [AV.int IntKind.i16 (W.getD i.toNat default).x,AV.int IntKind.i16 (W.getD i.toNat default).y,AV.int IntKind.i16 (W.getD i.toNat default).z,AV.int IntKind.i16 (W.getD i.toNat default).r]
noncomputable abbrev zCxU7 (ax:Int) (W:List Wy) (i:Int) (ay:Int) (az:Int):=ag [vi (ax+(W.getD i.toNat default).x.tmod 600),vi (ay+(W.getD i.toNat default).y.tmod 600),vi (az+(W.getD i.toNat default).z.tmod 600)]
noncomputable abbrev zCxU8 (S:Int) (A:Int) (j:Int):=ag [vi S,vi A,vi j]
noncomputable abbrev zCxU9:=ag [vi 0,vi 0,vi 0]
theorem moR (fw:Bool) (W:List Wy) (S A j ax ay az n i:Int) (o:List Mo) (w:Nat)  (dq:AV) (H :
  ((i<n)->(0<=i) /\
   (i.toNat<W.length) /\
   (-9223372036854775808<=(W.getD i.toNat default).x.tmod 600/\(W.getD i.toNat default).x.tmod 600<=9223372036854775807) /\
   (-9223372036854775808<=(W.getD i.toNat default).y.tmod 600/\(W.getD i.toNat default).y.tmod 600<=9223372036854775807) /\
   (-9223372036854775808<=(W.getD i.toNat default).z.tmod 600/\(W.getD i.toNat default).z.tmod 600<=9223372036854775807) /\
   (N.okPl ax ay az ((W.getD i.toNat default).x.tmod 600) ((W.getD i.toNat default).y.tmod 600) ((W.getD i.toNat default).z.tmod 600)) /\
   (-9223372036854775808<=(W.getD i.toNat default).r/\(W.getD i.toNat default).r<=9223372036854775807) /\
   (-9223372036854775808<=(1000*if (W.getD i.toNat default).r>0 then (W.getD i.toNat default).r else 0)/\(1000*if (W.getD i.toNat default).r>0 then (W.getD i.toNat default).r else 0)<=9223372036854775807) /\
   (-9223372036854775808<=i.tdiv 2/\i.tdiv 2<=9223372036854775807) /\
   (-9223372036854775808<=1+i.tdiv 2/\1+i.tdiv 2<=9223372036854775807) /\
   (((1000*if (W.getD i.toNat default).r>0 then (W.getD i.toNat default).r else 0)>0)->((o.length+1)*72<=1099511627776) /\
    (-9223372036854775808<=i+1/\i+1<=9223372036854775807) /\
    ZfE fw W S A j (ax+(W.getD i.toNat default).x.tmod 600) (ay+(W.getD i.toNat default).y.tmod 600) (az+(W.getD i.toNat default).z.tmod 600) n (i+1) (o++[{ x:=ax,y:=ay,z:=az,u:=ax+(W.getD i.toNat default).x.tmod 600,v:=ay+(W.getD i.toNat default).y.tmod 600,w:=az+(W.getD i.toNat default).z.tmod 600,r:=if (1000*if (W.getD i.toNat default).r>0 then (W.getD i.toNat default).r else 0)>20000 then 1000*if (W.getD i.toNat default).r>0 then (W.getD i.toNat default).r else 0 else 20000,t:=1+i.tdiv 2,b:=i }]) (w+1) (Zaj dq)) /\
   (¬((1000*if (W.getD i.toNat default).r>0 then (W.getD i.toNat default).r else 0)>0)->((o.length+1)*72<=1099511627776) /\
    (-9223372036854775808<=i+1/\i+1<=9223372036854775807) /\
    ZfE fw W S A j (ax+(W.getD i.toNat default).x.tmod 600) (ay+(W.getD i.toNat default).y.tmod 600) (az+(W.getD i.toNat default).z.tmod 600) n (i+1) (o++[{ x:=ax,y:=ay,z:=az,u:=ax+(W.getD i.toNat default).x.tmod 600,v:=ay+(W.getD i.toNat default).y.tmod 600,w:=az+(W.getD i.toNat default).z.tmod 600,r:=1000*if (W.getD i.toNat default).r>0 then (W.getD i.toNat default).r else 0,t:=1+i.tdiv 2,b:=i }]) (w+1) (Zaj dq))) /\
  (¬(i<n)->Weak (tu [AV.vec false 9 (List.map Mo.a o),ag [vi S,vi A,vi j],vb true]) dq)) :
 ZfE fw W S A j ax ay az n i o w (Zaj dq):=by
 unfold ZfE
 rcases xq H with ⟨d2,H⟩|⟨d2,H⟩
 ·obtain ⟨k4,H⟩:=H
  have w5:(List.map Wy.a W).length=W.length:=List.length_map ..
  have i6:(decide (i.toNat<(List.map Wy.a W).length))=true ↔ (i.toNat<W.length):=(by (try rw [w5]);all_goals exact Zad)
  obtain ⟨k7,k8,H⟩:=H
  have w9:wi ((W.getD i.toNat default).x.tmod 600)=(W.getD i.toNat default).x.tmod 600:=wI64 k8
  obtain ⟨k10,H⟩:=H
  have w11:wi ((W.getD i.toNat default).y.tmod 600)=(W.getD i.toNat default).y.tmod 600:=wI64 k10
  obtain ⟨k12,H⟩:=H
  have w13:wi ((W.getD i.toNat default).z.tmod 600)=(W.getD i.toNat default).z.tmod 600:=wI64 k12
  obtain ⟨k14,k15,H⟩:=H
  have w16:wi (W.getD i.toNat default).r=(W.getD i.toNat default).r:=wI64 k15
  obtain ⟨k17,H⟩:=H
  have w18:wi (1000*if (W.getD i.toNat default).r>0 then (W.getD i.toNat default).r else 0)=1000*if (W.getD i.toNat default).r>0 then (W.getD i.toNat default).r else 0:=wI64 k17
  obtain ⟨k19,H⟩:=H
  have w20:wi (i.tdiv 2)=i.tdiv 2:=wI64 k19
  obtain ⟨k21,H⟩:=H
  have w22:wi (1+i.tdiv 2)=1+i.tdiv 2:=wI64 k21
  have i23:(decide (wi (1000*if wi (W.getD i.toNat default).r>0 then wi (W.getD i.toNat default).r else 0)>0))=true ↔ ((1000*if (W.getD i.toNat default).r>0 then (W.getD i.toNat default).r else 0)>0):=(by (try rw [w16]);(try rw [w18]);all_goals exact Zad)
  refine Zac (G:=Zab kp7 [(8,2,.elem ((zCxU6 W i))),(10,3,.call ((zCxU7 ax W i ay az)) none)] []) 16 [true] ⟨(atC (cd Try.f7) [1,1,1,1,1,0,1,0,0,1,1,0,0,1,1,1,0,1]),[(3,AV.ptr 0 0 0 0),(5,AV.ptr 1 0 0 0),(6,AV.ptr 2 0 0 0),(7,AV.row 3 w),(11,AV.ptr 6 0 0 0),(62,AV.vec fw 4 (List.map Wy.a W)),(63,vi n),(64,vi i),(98,vb (decide (wi (1000*if wi (W.getD i.toNat default).r>0 then wi (W.getD i.toNat default).r else 0)>0)))],[⟨[zCxU9],3,0,false,false⟩,⟨[ag [vi ax,vi ay,vi az]],3,0,false,false⟩,⟨[(zCxU8 S A j)],3,0,false,false⟩,⟨List.map Mo.a o,9,w,false,true⟩,⟨[(zCxU6 W i)],4,0,false,false⟩,⟨[ag [vi (wi ((W.getD i.toNat default).x.tmod 600)),vi (wi ((W.getD i.toNat default).y.tmod 600)),vi (wi ((W.getD i.toNat default).z.tmod 600))]],3,0,false,false⟩,⟨[ag [vi ax,vi ay,vi az,vi (ax+(W.getD i.toNat default).x.tmod 600),vi (ay+(W.getD i.toNat default).y.tmod 600),vi (az+(W.getD i.toNat default).z.tmod 600),vi (wi (1000*if wi (W.getD i.toNat default).r>0 then wi (W.getD i.toNat default).r else 0)),vi (wi (1+wi (i.tdiv 2))),vi i]],9,0,false,false⟩],_,[((List.map Wy.a W).get?Internal i.toNat=some ((zCxU6 W i)))],[pc 29 [ag [vi ax,vi ay,vi az],ag [vi (wi ((W.getD i.toNat default).x.tmod 600)),vi (wi ((W.getD i.toNat default).y.tmod 600)),vi (wi ((W.getD i.toNat default).z.tmod 600))]] ((zCxU7 ax W i ay az))]⟩ (by kernel_rfl) (bc (Zam (Zad.2 d2)) (bc (Zad.2 k4) (bc (i6.2 k7) (bc rfl (bc rfl (bc rfl (bc rfl (bc rfl (bc rfl (bc rfl (bc rfl (bc rfl (bc rfl (bc rfl (bc rfl (bc rfl (bc rfl (bc rfl (bc rfl (bc rfl (bc rfl (bc rfl (bc rfl (bc rfl (bc rfl (bc rfl b0)))))))))))))))))))))))))) (qc (Zaz k7) q0) (ce (by (try rw [w9]);(try rw [w11]);(try rw [w13]);all_goals exact (@ev29 ax ay az ((W.getD i.toNat default).x.tmod 600) ((W.getD i.toNat default).y.tmod 600) ((W.getD i.toNat default).z.tmod 600) k14)) c0) ?_
  rcases xq H with ⟨d24,H⟩|⟨d24,H⟩
  ·have w25:(List.map Mo.a o).length=o.length:=List.length_map ..
   have i26:(decide (((List.map Mo.a o).length+1)*72<=1099511627776))=true ↔ ((o.length+1)*72<=1099511627776):=(by (try rw [w16]);(try rw [w18]);(try rw [w20]);(try rw [w22]);(try rw [w25]);all_goals exact Zad)
   obtain ⟨k27,H⟩:=H
   have w28:List.map Mo.a o++[ag [vi ax,vi ay,vi az,vi (ax+(W.getD i.toNat default).x.tmod 600),vi (ay+(W.getD i.toNat default).y.tmod 600),vi (az+(W.getD i.toNat default).z.tmod 600),vi (if (1000*if (W.getD i.toNat default).r>0 then (W.getD i.toNat default).r else 0)>20000 then 1000*if (W.getD i.toNat default).r>0 then (W.getD i.toNat default).r else 0 else 20000),vi (1+i.tdiv 2),vi i]]=List.map Mo.a (o++[{ x:=ax,y:=ay,z:=az,u:=ax+(W.getD i.toNat default).x.tmod 600,v:=ay+(W.getD i.toNat default).y.tmod 600,w:=az+(W.getD i.toNat default).z.tmod 600,r:=if (1000*if (W.getD i.toNat default).r>0 then (W.getD i.toNat default).r else 0)>20000 then 1000*if (W.getD i.toNat default).r>0 then (W.getD i.toNat default).r else 0 else 20000,t:=1+i.tdiv 2,b:=i }]):=(Zdd rfl rfl)
   obtain ⟨k29,H⟩:=H
   have w30:wi (i+1)=i+1:=wI64 k29
   exact Zac (G:=Zab kp7 [] []) 1000 [true] ⟨(atC (cd Try.f7) [1,1,1,1,1,0,1,0,0]),[(3,AV.ptr 0 0 0 0),(5,AV.ptr 1 0 0 0),(6,AV.ptr 2 0 0 0),(7,AV.row 3 (w+1)),(62,AV.vec fw 4 (List.map Wy.a W)),(63,vi n),(64,vi (wi (i+1)))],[⟨[zCxU9],3,0,false,false⟩,⟨[(zCxU7 ax W i ay az)],3,0,false,false⟩,⟨[(zCxU8 S A j)],3,0,false,false⟩,⟨List.map Mo.a o++[ag [vi ax,vi ay,vi az,vi (ax+(W.getD i.toNat default).x.tmod 600),vi (ay+(W.getD i.toNat default).y.tmod 600),vi (az+(W.getD i.toNat default).z.tmod 600),vi (if wi (1000*if wi (W.getD i.toNat default).r>0 then wi (W.getD i.toNat default).r else 0)>20000 then wi (1000*if wi (W.getD i.toNat default).r>0 then wi (W.getD i.toNat default).r else 0) else 20000),vi (wi (1+wi (i.tdiv 2))),vi i]],9,w+1,false,true⟩,⟨[(zCxU6 W i)],4,0,false,false⟩,⟨[ag [vi (wi ((W.getD i.toNat default).x.tmod 600)),vi (wi ((W.getD i.toNat default).y.tmod 600)),vi (wi ((W.getD i.toNat default).z.tmod 600))]],3,0,false,false⟩,⟨[ag [vi ax,vi ay,vi az,vi (ax+(W.getD i.toNat default).x.tmod 600),vi (ay+(W.getD i.toNat default).y.tmod 600),vi (az+(W.getD i.toNat default).z.tmod 600),vi (if wi (1000*if wi (W.getD i.toNat default).r>0 then wi (W.getD i.toNat default).r else 0)>20000 then wi (1000*if wi (W.getD i.toNat default).r>0 then wi (W.getD i.toNat default).r else 0) else 20000),vi (wi (1+wi (i.tdiv 2))),vi i]],9,0,false,false⟩],[(decide (wi (1000*if wi (W.getD i.toNat default).r>0 then wi (W.getD i.toNat default).r else 0)>0))==true,true,true,true,w==w,decide (((List.map Mo.a o).length+1)*72<=1099511627776),true,true],[],_⟩ (by kernel_rfl) (bc (Zam (i23.2 d24)) (bc rfl (bc rfl (bc rfl (bc (beq_self_eq_true _) (bc (i26.2 k27) (bc rfl (bc rfl b0)))))))) q0 c0 (by (try rw [w9]);(try rw [w11]);(try rw [w13]);(try rw [w16]);(try rw [w18]);(try rw [w20]);(try rw [w22]);(try rw [w28]);(try rw [w30]);all_goals exact Zan [0,1,2,3] (by kernel_rfl) H)
  ·have w31:(List.map Mo.a o).length=o.length:=List.length_map ..
   have i32:(decide (((List.map Mo.a o).length+1)*72<=1099511627776))=true ↔ ((o.length+1)*72<=1099511627776):=(by (try rw [w16]);(try rw [w18]);(try rw [w20]);(try rw [w22]);(try rw [w31]);all_goals exact Zad)
   obtain ⟨k33,H⟩:=H
   have w34:List.map Mo.a o++[ag [vi ax,vi ay,vi az,vi (ax+(W.getD i.toNat default).x.tmod 600),vi (ay+(W.getD i.toNat default).y.tmod 600),vi (az+(W.getD i.toNat default).z.tmod 600),vi (1000*if (W.getD i.toNat default).r>0 then (W.getD i.toNat default).r else 0),vi (1+i.tdiv 2),vi i]]=List.map Mo.a (o++[{ x:=ax,y:=ay,z:=az,u:=ax+(W.getD i.toNat default).x.tmod 600,v:=ay+(W.getD i.toNat default).y.tmod 600,w:=az+(W.getD i.toNat default).z.tmod 600,r:=1000*if (W.getD i.toNat default).r>0 then (W.getD i.toNat default).r else 0,t:=1+i.tdiv 2,b:=i }]):=(Zdd rfl rfl)
   obtain ⟨k35,H⟩:=H
   have w36:wi (i+1)=i+1:=wI64 k35
   exact Zac (G:=Zab kp7 [] []) 1000 [false] ⟨(atC (cd Try.f7) [1,1,1,1,1,0,1,0,0]),[(3,AV.ptr 0 0 0 0),(5,AV.ptr 1 0 0 0),(6,AV.ptr 2 0 0 0),(7,AV.row 3 (w+1)),(62,AV.vec fw 4 (List.map Wy.a W)),(63,vi n),(64,vi (wi (i+1)))],[⟨[zCxU9],3,0,false,false⟩,⟨[(zCxU7 ax W i ay az)],3,0,false,false⟩,⟨[(zCxU8 S A j)],3,0,false,false⟩,⟨List.map Mo.a o++[ag [vi ax,vi ay,vi az,vi (ax+(W.getD i.toNat default).x.tmod 600),vi (ay+(W.getD i.toNat default).y.tmod 600),vi (az+(W.getD i.toNat default).z.tmod 600),vi (wi (1000*if wi (W.getD i.toNat default).r>0 then wi (W.getD i.toNat default).r else 0)),vi (wi (1+wi (i.tdiv 2))),vi i]],9,w+1,false,true⟩,⟨[(zCxU6 W i)],4,0,false,false⟩,⟨[ag [vi (wi ((W.getD i.toNat default).x.tmod 600)),vi (wi ((W.getD i.toNat default).y.tmod 600)),vi (wi ((W.getD i.toNat default).z.tmod 600))]],3,0,false,false⟩,⟨[ag [vi ax,vi ay,vi az,vi (ax+(W.getD i.toNat default).x.tmod 600),vi (ay+(W.getD i.toNat default).y.tmod 600),vi (az+(W.getD i.toNat default).z.tmod 600),vi (wi (1000*if wi (W.getD i.toNat default).r>0 then wi (W.getD i.toNat default).r else 0)),vi (wi (1+wi (i.tdiv 2))),vi i]],9,0,false,false⟩],[(decide (wi (1000*if wi (W.getD i.toNat default).r>0 then wi (W.getD i.toNat default).r else 0)>0))==false,true,w==w,decide (((List.map Mo.a o).length+1)*72<=1099511627776),true,true],[],_⟩ (by kernel_rfl) (bc (Zal (fun h=>d24 (i23.1 h))) (bc rfl (bc (beq_self_eq_true _) (bc (i32.2 k33) (bc rfl (bc rfl b0)))))) q0 c0 (by (try rw [w9]);(try rw [w11]);(try rw [w13]);(try rw [w16]);(try rw [w18]);(try rw [w20]);(try rw [w22]);(try rw [w34]);(try rw [w36]);all_goals exact Zan [0,1,2,3] (by kernel_rfl) H)
 ·exact Zai (G:=Zab kp7 [] []) 1000 [false] (k:=((atC (cd Try.f7) [1,1,1,1,1,1,1])).tail) (env':=[(2,AV.row 3 w),(3,AV.ptr 0 0 0 0),(4,vb true)]) (L':=[⟨[(zCxU8 S A j)],3,0,false,false⟩,⟨[ag [vi ax,vi ay,vi az]],3,0,false,false⟩,⟨[(zCxU8 S A j)],3,0,false,false⟩,⟨List.map Mo.a o,9,w,false,true⟩]) (asm:=[(decide (i<n))==false,true,true]) (eqs:=[]) (calls:=[]) (tu [AV.row 3 w,(zCxU8 S A j),vb true]) (by kernel_rfl) (by kernel_rfl) (Zaa (Zal (fun h=>d2 (Zad.1 h))) (Zaa rfl (Zaa rfl Zae))) Zaf Zag (Zes (d:=(tu [AV.vec false 9 (List.map Mo.a o),(zCxU8 S A j),vb true])) (bs:=[w==w]) (by kernel_rfl) (by kernel_rfl) (Zaa (beq_self_eq_true _) Zae) (by kernel_rfl) H)
end Go.Av

namespace Go.Av
open Go.Proofs
set_option maxRecDepth 100000
def fi23:Fi:=⟨23,[.tmp 4]⟩
def kp23:List (Nat × List Nat):=[(0,[1,2]),(1,[1,2,5]),(2,[1,2,5,9]),(3,[1,2,5]),(4,[1,2,5,22]),(5,[4]),(6,[4])]
def coA_at (x y z:Int) (f:Bool) (l:List Mo) (Q:AV->Heap->Prop):Prop:=Wp M1 (.run fi23 (atC (cd Try.f23) []) [(0,.agg [.int .i64 x,.int .i64 y,.int .i64 z]),(1,.vec f 9 (l.map Mo.a))] []) Q
def coL_at (x y z:Int) (f:Bool) (l:List Mo) (i:Int) (Q:AV->Heap->Prop):Prop:=Wp M1 (.run fi23 (atC (cd Try.f23) [1,0,1,0,0]) [(1,.vec f 9 (l.map Mo.a)),(2,.ptr 0 0 0 0),(5,.int .i64 i)] [⟨[.agg [.int .i64 x,.int .i64 y,.int .i64 z]],3,0,false,false⟩]) Q
theorem call23 {args:List AV} {d:AV} (h:wc M1 fi23 Try.f23 args d):Ev M1 (.pure 23 args) d []:=pcl _ _ (by kernel_rfl) h
theorem coA (x y z:Int) (f:Bool) (l:List Mo)  (dq:AV) (H :
  coL_at x y z f l 0 (Zaj dq)) :
 coA_at x y z f l (Zaj dq):=by
 unfold coA_at
 exact Zac (G:=Zab kp23 [] []) 1000 [] ⟨(atC (cd Try.f23) [1,0,1,0,0]),[(1,AV.vec f 9 (List.map Mo.a l)),(2,AV.ptr 0 0 0 0),(5,vi 0)],[⟨[ag [vi x,vi y,vi z]],3,0,false,false⟩],_,[],_⟩ (by kernel_rfl) b0 q0 c0 H
noncomputable abbrev zCxV1 (l:List Mo) (i:Int):=ag [vi (l.getD i.toNat default).x,vi (l.getD i.toNat default).y,vi (l.getD i.toNat default).z,vi (l.getD i.toNat default).u,vi (l.getD i.toNat default).v,vi (l.getD i.toNat default).w,vi (l.getD i.toNat default).r,vi (l.getD i.toNat default).t,vi (l.getD i.toNat default).b]
noncomputable abbrev zCxV2 (x:Int) (y:Int) (z:Int) (i:Int) (l:List Mo):=N.enP x y z (List.drop 0 (List.take i.toNat l))
noncomputable abbrev zCxV3 (x:Int) (y:Int) (z:Int):=ag [vi x,vi y,vi z]
theorem coL (x y z:Int) (f:Bool) (l:List Mo) (i:Int)  (dq:AV) (H :
  ((i<(↑l.length:Int))->(N.Zdy (List.drop 0 (List.take i.toNat l))) /\
   (0<=i) /\
   (i.toNat<l.length) /\
   (0<=i.toNat) /\
   (i.toNat<=l.length) /\
   ((¬(((l.getD i.toNat default).x=(N.enP x y z (List.drop 0 (List.take i.toNat l))).x)/\(((l.getD i.toNat default).y=(N.enP x y z (List.drop 0 (List.take i.toNat l))).y)/\((l.getD i.toNat default).z=(N.enP x y z (List.drop 0 (List.take i.toNat l))).z))))->vb false=dq) /\
   (¬(¬(((l.getD i.toNat default).x=(N.enP x y z (List.drop 0 (List.take i.toNat l))).x)/\(((l.getD i.toNat default).y=(N.enP x y z (List.drop 0 (List.take i.toNat l))).y)/\((l.getD i.toNat default).z=(N.enP x y z (List.drop 0 (List.take i.toNat l))).z))))->(-9223372036854775808<=i+1/\i+1<=9223372036854775807) /\
    coL_at x y z f l (i+1) (Zaj dq))) /\
  (¬(i<(↑l.length:Int))->vb true=dq)) :
 coL_at x y z f l i (Zaj dq):=by
 unfold coL_at
 have w1:(List.map Mo.a l).length=l.length:=List.length_map ..
 have i2:(decide (i<(↑(List.map Mo.a l).length:Int)))=true ↔ (i<(↑l.length:Int)):=(by (try rw [w1]);all_goals exact Zad)
 rcases xq H with ⟨d3,H⟩|⟨d3,H⟩
 ·have w4:List.take i.toNat (List.map Mo.a l)=List.map Mo.a (List.take i.toNat l):=(ZdL rfl)
  have w5:List.drop 0 (List.map Mo.a (List.take i.toNat l))=List.map Mo.a (List.drop 0 (List.take i.toNat l)):=(ZdM rfl)
  obtain ⟨k6,k8,H⟩:=H
  have i9:(decide (i.toNat<(List.map Mo.a l).length))=true ↔ (i.toNat<l.length):=(by (try rw [w1]);all_goals exact Zad)
  obtain ⟨k10,k13,H⟩:=H
  have i14:(decide (i.toNat<=(List.map Mo.a l).length))=true ↔ (i.toNat<=l.length):=(by (try rw [w1]);all_goals exact Zad)
  obtain ⟨k15,H⟩:=H
  refine Zac (G:=Zab kp23 [(4,4,.elem (zCxV1 l i)),(4,9,.call (ag [vi (zCxV2 x y z i l).x,vi (zCxV2 x y z i l).y,vi (zCxV2 x y z i l).z]) none)] []) 9 [true] ⟨(atC (cd Try.f23) [1,0,1,0,0,1,0,0,1]),[(1,AV.vec f 9 (List.map Mo.a l)),(2,AV.ptr 0 0 0 0),(5,vi i),(22,vb !((l.getD i.toNat default).x==(zCxV2 x y z i l).x&&((l.getD i.toNat default).y==(zCxV2 x y z i l).y&&((l.getD i.toNat default).z==(zCxV2 x y z i l).z&&true))))],[⟨[(zCxV3 x y z)],3,0,false,false⟩],_,[((List.map Mo.a l).get?Internal i.toNat=some (zCxV1 l i))],[pc 21 [(zCxV3 x y z),AV.vec (f&&false) 9 (List.drop 0 (List.take i.toNat (List.map Mo.a l)))] (ag [vi (zCxV2 x y z i l).x,vi (zCxV2 x y z i l).y,vi (zCxV2 x y z i l).z])]⟩ (by kernel_rfl) (bc (Zam (i2.2 d3)) (bc (Zad.2 k8) (bc (i9.2 k10) (bc rfl (bc (Zad.2 k8) (bc (Zad.2 k13) (bc (i14.2 k15) b0))))))) (qc (Zaz k10) q0) (ce (by (try rw [w4]);(try rw [w5]);all_goals exact (@ev21 x y z (f&&false) (List.drop 0 (List.take i.toNat l)) k6)) c0) ?_
  rcases xq H with ⟨d17,H⟩|⟨d17,H⟩
  ·exact Zap (G:=Zab kp23 [] []) 1000 [true] (vb false) (by kernel_rfl) (bc (Zam ((Zay (Zau i_eq (Zau i_eq (i_at i_eq)))).2 d17)) b0) q0 c0 H
  ·obtain ⟨k18,H⟩:=H
   have w19:wi (i+1)=i+1:=wI64 k18
   exact Zac (G:=Zab kp23 [] []) 1000 [false] ⟨(atC (cd Try.f23) [1,0,1,0,0]),[(1,AV.vec f 9 (List.map Mo.a l)),(2,AV.ptr 0 0 0 0),(5,vi (wi (i+1)))],[⟨[(zCxV3 x y z)],3,0,false,false⟩],_,[],_⟩ (by kernel_rfl) (bc (Zal (fun h=>d17 ((Zay (Zau i_eq (Zau i_eq (i_at i_eq)))).1 h))) b0) q0 c0 (by (try rw [w19]);all_goals exact H)
 ·exact Zap (G:=Zab kp23 [] []) 1000 [false] (vb true) (by kernel_rfl) (bc (Zal (fun h=>d3 (i2.1 h))) b0) q0 c0 H
end Go.Av

namespace Go.Av
open Go.Proofs
namespace N
def conn (x y z:Int) (l:List Mo):Prop:=∀ i,i<l.length->(l.getD i default).src=enP x y z (l.take i)
noncomputable def coB (x y z:Int) (l:List Mo):Bool:=@decide (conn x y z l) (Classical.propDecidable _)
end N
theorem coB_iff {x y z:Int} {l:List Mo}:N.coB x y z l=true ↔ N.conn x y z l:=by
 unfold N.coB
 exact @decide_eq_true_iff _ (Classical.propDecidable _)
theorem co_loop (f:Bool) {x y z:Int} {l:List Mo} (hl:N.Zdy l):∀ (k i:Nat),i+k=l.length->(∀ n,n<i->(l.getD n default).src=N.enP x y z (l.take n))->coL_at x y z f l i (Zaj (.bool (N.coB x y z l))):=by
 unfold N.Zdy at hl
 intro k
 induction k with
 | zero =>
  intro i hi ht
  refine coL _ _ _ _ _ _ _ ⟨fun z=>absurd z (by omega),fun _ => ?_⟩
  rw [coB_iff.2 fun n hn=>ht n (by omega)]
 | succ k ih =>
  intro i hi ht
  have hps:∀ a b:Ps,(a.x=b.x/\a.y=b.y/\a.z=b.z) ↔ a=b:=by
   rintro ⟨a1,a2,a3⟩ ⟨b1,b2,b3⟩
   simp
  have hlen:(List.take i l).length<=1000000000:=by rw [List.length_take];omega
  refine coL _ _ _ _ _ _ _ ⟨fun _ => ?_,fun z=>absurd (by omega) z⟩
  rw [Int.toNat_natCast,List.drop_zero]
  refine ⟨hlen,by omega,by omega,by omega,by omega,fun hd => ?_,fun hd=>⟨by omega,?_⟩⟩
  ·have hne:¬N.coB x y z l=true:=fun h=>hd ((hps (l.getD i default).src _).2 (coB_iff.1 h i (by omega)))
   rw [Bool.eq_false_iff.2 hne]
  ·refine ih (i+1) (by omega) fun n hn => ?_
   by_cases e:n=i
   ·subst e
    exact (hps (l.getD n default).src _).1 (Classical.not_not.1 hd)
   ·exact ht n (by omega)
theorem ev23 (x y z:Int) (f:Bool) (l:List Mo) (h:N.Zdy l):Ev M1 (.pure 23 [.agg [.int .i64 x,.int .i64 y,.int .i64 z],.vec f 9 (l.map Mo.a)]) (.bool (N.coB x y z l)) []:=
 call23 (coA x y z f l _ (co_loop f h l.length 0 (by omega) fun n hn=>absurd hn (by omega)))
end Go.Av

namespace Go.Av
open Go.Proofs
namespace N
def s16 (x:Int):Prop:=-32768<=x/\x<=32767
def wyR (r:Int):Int:=if (1000*if r>0 then r else 0)>0 then (if (1000*if r>0 then r else 0)>20000 then 1000*if r>0 then r else 0 else 20000) else 1000*if r>0 then r else 0
def atW (p:Ps) (W:List Wy):Nat->Ps
 | 0=>p
 | i+1=>⟨(atW p W i).x+(W.getD i default).x.tmod 600,(atW p W i).y+(W.getD i default).y.tmod 600,(atW p W i).z+(W.getD i default).z.tmod 600⟩
def moW (p:Ps) (W:List Wy) (i:Nat):Mo:=⟨(atW p W i).x,(atW p W i).y,(atW p W i).z,(atW p W (i+1)).x,(atW p W (i+1)).y,(atW p W (i+1)).z,wyR (W.getD i default).r,1+(i:Int).tdiv 2,i⟩
def moL (p:Ps) (W:List Wy) (n:Nat):List Mo:=(List.range n).map (moW p W)
def trB (W:List Wy) (S A j:Int):Bool:=decide ¬(((((W.length:Int)>6\/¬vlE S A j=0)\/S<20)\/A<20)\/j<40)
def trL (x y z:Int) (W:List Wy) (S A j:Int):List Mo:=if trB W S A j=true then moL ⟨x,y,z⟩ W W.length else []
def okTr (x y z:Int) (W:List Wy):Prop:=(s16 x/\s16 y/\s16 z) /\ ∀ w ∈ W,s16 w.r
end N
theorem ZeS (x:Int):-599<=x.tmod 600/\x.tmod 600<=599:=by
 have h1:=Int.tmod_lt_of_pos x (show (0:Int)<600 by decide)
 have h2:=Int.lt_tmod_of_pos x (show (0:Int)<600 by decide)
 omega
theorem atW_bd {p:Ps} {W:List Wy} (h:N.s16 p.x/\N.s16 p.y/\N.s16 p.z):∀ i:Nat,i<=6->(-32768-599*(i:Int)<=(N.atW p W i).x/\(N.atW p W i).x<=32768+599*(i:Int))/\(-32768-599*(i:Int)<=(N.atW p W i).y/\(N.atW p W i).y<=32768+599*(i:Int)) /\ -32768-599*(i:Int)<=(N.atW p W i).z/\(N.atW p W i).z<=32768+599*(i:Int)
 | 0,_=>by
  obtain ⟨h1,h2,h3⟩:=h
  unfold N.s16 at h1 h2 h3
  unfold N.atW
  omega
 | i+1,hi=>by
  have:=atW_bd (W:=W) h i (by omega)
  have h1:=ZeS (W.getD i default).x
  have h2:=ZeS (W.getD i default).y
  have h3:=ZeS (W.getD i default).z
  unfold N.atW
  simp only
  omega
theorem moL_succ (p:Ps) (W:List Wy) (i:Nat):N.moL p W (i+1)=N.moL p W i++[N.moW p W i]:=by
 unfold N.moL
 rw [List.range_succ,List.map_append];rfl
theorem moL_len (p:Ps) (W:List Wy) (i:Nat):(N.moL p W i).length=i:=by unfold N.moL;rw [List.length_map,List.length_range]
theorem ZdJ (p:Ps) (W:List Wy) {n i:Nat} (h:i<n):(N.moL p W n).getD i default=N.moW p W i:=by
 unfold N.moL
 rw [List.getD_eq_getElem?_getD,List.getElem?_map,List.getElem?_range h];rfl
theorem wyR_bd {r:Int} (h:N.s16 r):0<=N.wyR r/\N.wyR r<=32767000/\(N.wyR r=0\/20000<=N.wyR r):=by
 unfold N.s16 at h
 unfold N.wyR
 split <;> split <;> (try split) <;> omega
section
variable (fw:Bool) {W:List Wy} {p:Ps} {S A j:Int}
theorem moR_loop (h:N.s16 p.x/\N.s16 p.y/\N.s16 p.z) (hW:∀ w ∈ W,N.s16 w.r) (hn:W.length<=6):∀ (k i w:Nat),i+k=W.length ->
  ZfE fw W S A j (N.atW p W i).x (N.atW p W i).y (N.atW p W i).z W.length i (N.moL p W i) w (Zaj (.tup [.vec false 9 ((N.moL p W W.length).map Mo.a),.agg [.int .i64 S,.int .i64 A,.int .i64 j],.bool true])):=by
 intro k
 induction k with
 | zero =>
  intro i w hi
  refine moR _ _ _ _ _ _ _ _ _ _ _ _ _ ⟨fun z=>absurd z (by omega),fun _ => ?_⟩
  rw [show i=W.length by omega];exact .refl _
 | succ k ih =>
  intro i w hi
  have hb:=atW_bd (W:=W) h i (by omega)
  have h1:=ZeS (W.getD i default).x
  have h2:=ZeS (W.getD i default).y
  have h3:=ZeS (W.getD i default).z
  have hr:N.s16 (W.getD i default).r:=hW _ (by
   rw [List.getD_eq_getElem?_getD,List.getElem?_eq_getElem (by omega)]
   exact List.getElem_mem _)
  have hr':=hr
  unfold N.s16 at hr'
  have e2:(i:Int).tdiv 2=(i:Int) / 2:=Int.tdiv_eq_ediv_of_nonneg (by omega)
  have hl:=moL_len p W i
  have hstep:=ih (i+1) (w+1) (by omega)
  rw [moL_succ] at hstep
  refine moR _ _ _ _ _ _ _ _ _ _ _ _ _ ⟨fun _ => ?_,fun z=>absurd (by omega) z⟩
  rw [Int.toNat_natCast]
  refine ⟨by omega,by omega,by omega,by omega,by omega,⟨⟨by omega,by omega,by omega⟩,by omega,by omega,by omega⟩,by omega,by split <;> omega,by omega,by omega,fun hc=>⟨by omega,by omega,?_⟩,fun hc=>⟨by omega,by omega,?_⟩⟩
  ·have e:N.wyR (W.getD i default).r=if (1000*if (W.getD i default).r>0 then (W.getD i default).r else 0)>20000 then 1000*if (W.getD i default).r>0 then (W.getD i default).r else 0 else 20000:=by unfold N.wyR;rw [if_pos hc]
   rw [<- e];exact hstep
  ·have e:N.wyR (W.getD i default).r=1000*if (W.getD i default).r>0 then (W.getD i default).r else 0:=by unfold N.wyR;rw [if_neg hc]
   rw [<- e];exact hstep
theorem moN_loop (h:N.s16 p.x/\N.s16 p.y/\N.s16 p.z) (hW:∀ w ∈ W,N.s16 w.r) (hn:W.length<=6) :
  moN_at fw W S A j p.x p.y p.z W.length 0 (Zaj (.tup [.vec false 9 ((N.moL p W W.length).map Mo.a),.agg [.int .i64 S,.int .i64 A,.int .i64 j],.bool true])):=by
 cases hk:W.length with
 | zero =>
  refine moN _ _ _ _ _ _ _ _ _ _ _ ⟨fun z=>absurd z (by omega),fun _ => ?_⟩
  exact .tup _ _ rfl fun i x y hx hy=>by
   match i,hx,hy with
   | 0,hx,hy=>cases hx;cases hy;exact .vnil 9
   | 1,hx,hy=>cases hx;cases hy;exact .refl _
   | 2,hx,hy=>cases hx;cases hy;exact .refl _
 | succ k =>
  have hb:=atW_bd (W:=W) h 0 (by omega)
  unfold N.atW at hb
  have h1:=ZeS (W.getD 0 default).x
  have h2:=ZeS (W.getD 0 default).y
  have h3:=ZeS (W.getD 0 default).z
  have hr:N.s16 (W.getD 0 default).r:=hW _ (by
   rw [List.getD_eq_getElem?_getD,List.getElem?_eq_getElem (by omega)]
   exact List.getElem_mem _)
  have hr':=hr
  unfold N.s16 at hr'
  have hstep:=moR_loop fw (S:=S) (A:=A) (j:=j) h hW hn k 1 0 (by omega)
  rw [moL_succ] at hstep
  rw [hk] at hstep
  refine moN _ _ _ _ _ _ _ _ _ _ _ ⟨fun _ => ?_,fun z=>absurd (by omega) z⟩
  refine ⟨by omega,by rw [Int.toNat_zero];omega,by rw [Int.toNat_zero];omega,by rw [Int.toNat_zero];omega,by rw [Int.toNat_zero];omega,by rw [Int.toNat_zero];exact ⟨⟨by omega,by omega,by omega⟩,by omega,by omega,by omega⟩,by rw [Int.toNat_zero];omega,by rw [Int.toNat_zero];split <;> omega,by decide,by decide,fun hc=>⟨by omega,?_⟩,fun hc=>⟨by omega,?_⟩⟩
  ·have e:N.wyR (W.getD 0 default).r=if (1000*if (W.getD 0 default).r>0 then (W.getD 0 default).r else 0)>20000 then 1000*if (W.getD 0 default).r>0 then (W.getD 0 default).r else 0 else 20000:=by rw [Int.toNat_zero] at hc;unfold N.wyR;rw [if_pos hc]
   rw [Int.toNat_zero,<- e];exact hstep
  ·have e:N.wyR (W.getD 0 default).r=1000*if (W.getD 0 default).r>0 then (W.getD 0 default).r else 0:=by rw [Int.toNat_zero] at hc;unfold N.wyR;rw [if_neg hc]
   rw [Int.toNat_zero,<- e];exact hstep
end
theorem ev7 (fx fy fz:Int) (fw:Bool) (W:List Wy) (S A j:Int) (h:N.okTr fx fy fz W):Ev M1 (.pure 7 [.agg [.int .i16 fx,.int .i16 fy,.int .i16 fz,.vec fw 4 (W.map Wy.a),.int .i64 S,.int .i64 A,.int .i64 j]]) (.tup [.vec false 9 ((N.trL fx fy fz W S A j).map Mo.a),.agg [.int .i64 S,.int .i64 A,.int .i64 j],.bool (N.trB W S A j)]) []:=by
 obtain ⟨hp,hW⟩:=h
 have hp':=hp
 unfold N.s16 at hp'
 refine call7 (moA fx fy fz fw W S A j _ ⟨by omega,by omega,by omega,fun hb => ?_,fun hb => ?_⟩)
 ·have e:N.trB W S A j=false:=decide_eq_false fun y=>y hb
  unfold N.trL
  rw [e,if_neg (by decide)]
  exact .tup _ _ rfl fun i x y hx hy=>by
   match i,hx,hy with
   | 0,hx,hy=>cases hx;cases hy;exact .vnil 9
   | 1,hx,hy=>cases hx;cases hy;exact .refl _
   | 2,hx,hy=>cases hx;cases hy;exact .refl _
 ·have e:N.trB W S A j=true:=decide_eq_true hb
  unfold N.trL
  rw [if_pos e,e]
  exact moN_loop fw (p:=⟨fx,fy,fz⟩) hp hW (by omega)
end Go.Av

namespace Go.Av
open Go.Proofs
theorem pack96 (cs:List AV):Zc6 Try.prog 96 cs = .agg cs:=by
 simp [Zc6,aggT,Try.underlying96]
theorem pack28 (cs:List AV):Zc6 Try.prog 28 cs = .agg cs:=by
 simp [Zc6,aggT,Try.underlying28]
theorem pack5 (x:AV):Zc6 Try.prog 5 [x]=x:=by
 simp [Zc6,aggT,Try.underlying5]
theorem pack51 (x:AV):Zc6 Try.prog 51 [x]=x:=by
 simp [Zc6,aggT,Try.underlying51]
theorem cells96:Try.prog.cellsOf 96=4:=by kernel_rfl
set_option maxRecDepth 100000 in
theorem ctthree_ty {n:Nat} {cs:List AV} (h:Ty Try.prog (n+1+1) 23 cs):∃ x y z:Int,cs=[.int .i16 x,.int .i16 y,.int .i16 z]/\N.s16 x/\N.s16 y/\N.s16 z:=by
 unfold Ty at h
 rw [Try.underlying23] at h
 obtain ⟨a0,b0,rfl,h0,a1,b1,rfl,h1,a2,b2,rfl,h2,rfl⟩:=h
 obtain ⟨x,rfl,p⟩:=ZcQ Try.underlying22 h0
 obtain ⟨y,rfl,q⟩:=ZcQ Try.underlying22 h1
 obtain ⟨z,rfl,r⟩:=ZcQ Try.underlying22 h2
 exact ⟨x,y,z,rfl,p,q,r⟩
set_option maxRecDepth 100000 in
theorem ctfour_ty {n:Nat} {cs:List AV} (h:Ty Try.prog (n+1+1) 96 cs):∃ x y z r:Int,cs=[.int .i16 x,.int .i16 y,.int .i16 z,.int .i16 r]/\N.s16 r:=by
 unfold Ty at h
 rw [Try.underlying96] at h
 obtain ⟨a0,b0,rfl,h0,a1,b1,rfl,h1,a2,b2,rfl,h2,a3,b3,rfl,h3,rfl⟩:=h
 obtain ⟨x,rfl,_⟩:=ZcQ Try.underlying22 h0
 obtain ⟨y,rfl,_⟩:=ZcQ Try.underlying22 h1
 obtain ⟨z,rfl,_⟩:=ZcQ Try.underlying22 h2
 obtain ⟨r,rfl,p⟩:=ZcQ Try.underlying22 h3
 exact ⟨x,y,z,r,rfl,p⟩
set_option maxRecDepth 100000 in
theorem ctways_ty {n:Nat} {cs:List AV} (h:Ty Try.prog (n+1+1+1) 24 cs):∃ W:List Wy,cs=[.vec false 4 (W.map Wy.a)] /\ ∀ w ∈ W,N.s16 w.r:=by
 obtain ⟨o,rfl,_⟩:=ty_list (τ:={ w:Wy // N.s16 w.r }) (enc:=fun w=>w.1.a) Try.underlying24 (fun ys hy=>by
  obtain ⟨x,y,z,r,rfl,p⟩:=ctfour_ty hy
  exact ⟨⟨⟨x,y,z,r⟩,p⟩,by rw [pack96];rfl⟩) h
 rw [cells96]
 refine ⟨o.map (·.1),?_,fun w hw => ?_⟩
 ·rw [List.map_map];rfl
 ·obtain ⟨x,_,rfl⟩:=List.mem_map.1 hw
  exact x.2
set_option maxRecDepth 100000 in
theorem ctlims_ty {n:Nat} {cs:List AV} (h:Ty Try.prog (n+1+1) 26 cs):∃ x y z:Int,cs=[.int .i64 x,.int .i64 y,.int .i64 z]:=by
 have h:=ty_struct Try.underlying26 h
 obtain ⟨a0,b0,rfl,h0,a1,b1,rfl,h1,a2,b2,rfl,h2,rfl⟩:=h
 obtain ⟨x0,rfl,_⟩:=ZcQ Try.underlying2 h0
 obtain ⟨x1,rfl,_⟩:=ZcQ Try.underlying2 h1
 obtain ⟨x2,rfl,_⟩:=ZcQ Try.underlying2 h2
 exact ⟨x0,x1,x2,rfl⟩
set_option maxRecDepth 100000 in
theorem cttrip_ty {n:Nat} {cs:List AV} (h:Ty Try.prog (n+1+1+1+1) 28 cs):∃ (x y z:Int) (W:List Wy) (S A j:Int),cs=[.int .i16 x,.int .i16 y,.int .i16 z,.vec false 4 (W.map Wy.a),.int .i64 S,.int .i64 A,.int .i64 j]/\N.okTr x y z W:=by
 have h:=ty_struct Try.underlying28 h
 obtain ⟨a0,b0,rfl,h0,a1,b1,rfl,h1,a2,b2,rfl,h2,rfl⟩:=h
 obtain ⟨x,y,z,rfl,p,q,r⟩:=ctthree_ty h0
 obtain ⟨W,rfl,hW⟩:=ctways_ty h1
 obtain ⟨S,A,j,rfl⟩:=ctlims_ty h2
 exact ⟨x,y,z,W,S,A,j,rfl,⟨p,q,r⟩,hW⟩
theorem laidOut:laidOutB Try.prog=true:=by kernel_rfl
theorem ownGo:ownKnob Try.prog.godebug=none:=by kernel_rfl
end Go.Av

namespace Go.Av
open Go.Proofs
set_option maxRecDepth 100000
def fi25:Fi:=⟨154,[.tmp 8,.tmp 9]⟩
def kp25:List (Nat × List Nat):=[(0,[0,1,3,6]),(1,[0,1,3,6,27]),(2,[8,9]),(3,[0,1,3,6,10]),(4,[0,1,3,6,10,11]),(5,[0,1,3,6,10,11,29]),(6,[0,1,3,6,10,11]),(7,[0,1,3,6,10,11,43]),(8,[0,1,3,6,10,11]),(9,[0,1,3,6,10,11,66]),(10,[8,9]),(11,[0,1,3,6,10,11,12]),(12,[0,1,3,6,10,11,12,73]),(13,[8,9]),(14,[0,1,3,6,10,11,12,13]),(15,[0,3,6,10,11,12,13,14]),(16,[0,3,6,10,11,12,13,14,85]),(17,[0,3,6,10,11,12,13,14]),(18,[0,3,6,10,11,12,13,14]),(19,[3,6,10,11,12,13,99]),(20,[8,9]),(21,[6,11,12,13,15]),(22,[6,11,12,13,15,16]),(23,[6,11,12,13,16,122,123,124]),(24,[6,11,12,13,16,122,123,124,125]),(25,[6,11,12,13,16,17,18,122,123,124]),(26,[6,11,12,13,16,17,18,19,122,123,124]),(27,[6,11,12,13,16,18,19,122,123,124,137]),(28,[6,11,12,13,16,18,19,122,123,124]),(29,[6,11,12,13,16,18,19,122,123,124,144]),(30,[6,11,12,13,16,18,122,123,124]),(31,[6,11,12,13,16,122,123,124]),(32,[6,11,12,13,16,122,123,124]),(33,[8,9])]
def rtA_at (f:Bool) (l:List Mo) (ix x y z s:Int) (Q:AV->Heap->Prop):Prop:=Wp M1 (.run fi25 (atC (cd Try.f25) []) [(0,.vec f 9 (l.map Mo.a)),(1,.int .i64 ix),(2,.agg [.int .i64 x,.int .i64 y,.int .i64 z]),(3,.int .i64 s)] []) Q
def Zfs (f:Bool) (l:List Mo) (s x y z bx by_ bz:Int) (m:Mo) (R:List Mo) (r i:Int) (Q:AV->Heap->Prop):Prop:=Wp M1 (.run fi25 (atC (cd Try.f25) [1,1,1,1,1,1,1,1,1,0,1,0,0]) [(0,.vec f 9 (l.map Mo.a)),(3,.int .i64 s),(6,.ptr 0 0 0 0),(10,.ptr 1 0 0 0),(11,.ptr 2 0 0 0),(12,.vec false 9 (R.map Mo.a)),(13,.int .i64 r),(14,.int .i64 i)] [⟨[.agg [.int .i64 x,.int .i64 y,.int .i64 z]],3,0,false,false⟩,⟨[.agg [.int .i64 bx,.int .i64 by_,.int .i64 bz]],3,0,false,false⟩,⟨[.agg [.int .i64 m.x,.int .i64 m.y,.int .i64 m.z,.int .i64 m.u,.int .i64 m.v,.int .i64 m.w,.int .i64 m.r,.int .i64 m.t,.int .i64 m.b]],9,0,false,false⟩]) Q
def Zgw (x y z:Int) (m:Mo) (R:List Mo) (r:Int) (G:List Ps) (n i:Int) (Q:AV->Heap->Prop):Prop:=Wp M1 (.run fi25 (atC (cd Try.f25) [1,1,1,1,1,1,1,1,1,1,1,1,1,0,1,0,0]) [(6,.ptr 0 0 0 0),(11,.ptr 1 0 0 0),(12,.vec false 9 (R.map Mo.a)),(13,.int .i64 r),(16,.vnil),(122,.vec true 3 (G.map Ps.v)),(123,.int .i64 n),(124,.int .i64 i)] [⟨[.agg [.int .i64 x,.int .i64 y,.int .i64 z]],3,0,false,false⟩,⟨[.agg [.int .i64 m.x,.int .i64 m.y,.int .i64 m.z,.int .i64 m.u,.int .i64 m.v,.int .i64 m.w,.int .i64 m.r,.int .i64 m.t,.int .i64 m.b]],9,0,false,false⟩]) Q
def Zd5 (x y z:Int) (m:Mo) (R:List Mo) (r:Int) (G:List Ps) (n i:Int) (o:List Mo) (w:Nat) (Q:AV->Heap->Prop):Prop:=Wp M1 (.run fi25 (atC (cd Try.f25) [1,1,1,1,1,1,1,1,1,1,1,1,1,0,1,0,0]) [(6,.ptr 0 0 0 0),(11,.ptr 1 0 0 0),(12,.vec false 9 (R.map Mo.a)),(13,.int .i64 r),(16,.row 2 w),(122,.vec true 3 (G.map Ps.v)),(123,.int .i64 n),(124,.int .i64 i)] [⟨[.agg [.int .i64 x,.int .i64 y,.int .i64 z]],3,0,false,false⟩,⟨[.agg [.int .i64 m.x,.int .i64 m.y,.int .i64 m.z,.int .i64 m.u,.int .i64 m.v,.int .i64 m.w,.int .i64 m.r,.int .i64 m.t,.int .i64 m.b]],9,0,false,false⟩,⟨o.map Mo.a,9,w,false,true⟩]) Q
theorem call25 {args:List AV} {d:AV} (h:wc M1 fi25 Try.f25 args d):Ev M1 (.pure 25 args) d []:=pcl _ _ (by kernel_rfl) h
noncomputable abbrev zCxW1 (l:List Mo):=ag [vi (l.getD ((↑l.length:Int)-1).toNat default).x,vi (l.getD ((↑l.length:Int)-1).toNat default).y,vi (l.getD ((↑l.length:Int)-1).toNat default).z,vi (l.getD ((↑l.length:Int)-1).toNat default).u,vi (l.getD ((↑l.length:Int)-1).toNat default).v,vi (l.getD ((↑l.length:Int)-1).toNat default).w,vi (l.getD ((↑l.length:Int)-1).toNat default).r,vi (l.getD ((↑l.length:Int)-1).toNat default).t,vi (l.getD ((↑l.length:Int)-1).toNat default).b]
noncomputable abbrev zCxW2 (l:List Mo) (ix:Int):=ag [vi (l.getD ix.toNat default).x,vi (l.getD ix.toNat default).y,vi (l.getD ix.toNat default).z,vi (l.getD ix.toNat default).u,vi (l.getD ix.toNat default).v,vi (l.getD ix.toNat default).w,vi (l.getD ix.toNat default).r,vi (l.getD ix.toNat default).t,vi (l.getD ix.toNat default).b]
noncomputable abbrev Zf8 (x:Int) (y:Int) (z:Int):=ag [vi x,vi y,vi z]
noncomputable abbrev zCxW4 (l:List Mo):=ag [vi (l.getD ((↑l.length:Int)-1).toNat default).u,vi (l.getD ((↑l.length:Int)-1).toNat default).v,vi (l.getD ((↑l.length:Int)-1).toNat default).w]
noncomputable abbrev zCxW5 (l:List Mo) (ix:Int):=ag [vi (l.getD ix.toNat default).x,vi (l.getD ix.toNat default).y,vi (l.getD ix.toNat default).z]
noncomputable abbrev zCxW6:=ag [vi 0,vi 0,vi 0,vi 0,vi 0,vi 0,vi 0,vi 0,vi 0]
theorem rtA (f:Bool) (l:List Mo) (ix x y z s:Int)  (dq:AV) (H :
  (((ix<0)\/(ix>(↑l.length:Int)))->Weak (tu [AV.vnil,vi 1]) dq) /\
  (¬((ix<0)\/(ix>(↑l.length:Int)))->((ix<(↑l.length:Int))->(0<=ix) /\
    (ix.toNat<l.length) /\
    ((s<if 1000>if (l.getD ix.toNat default).z>z then (l.getD ix.toNat default).z else z then 1000 else if (l.getD ix.toNat default).z>z then (l.getD ix.toNat default).z else z)->Weak (tu [AV.vnil,vi 1]) dq) /\
    (¬(s<if 1000>if (l.getD ix.toNat default).z>z then (l.getD ix.toNat default).z else z then 1000 else if (l.getD ix.toNat default).z>z then (l.getD ix.toNat default).z else z)->(N.Zdy (List.drop ix.toNat (List.take l.length l))) /\
     (ix.toNat<=l.length) /\
     (((x=(l.getD ix.toNat default).x)/\((y=(l.getD ix.toNat default).y)/\(z=(l.getD ix.toNat default).z)))->Weak (tu [AV.vec false 9 (List.map Mo.a (List.drop ix.toNat (List.take l.length l))),vi 0]) dq) /\
     (¬((x=(l.getD ix.toNat default).x)/\((y=(l.getD ix.toNat default).y)/\(z=(l.getD ix.toNat default).z)))->(-9223372036854775808<=(↑l.length:Int)-1/\(↑l.length:Int)-1<=9223372036854775807) /\
      Zfs f l s x y z ((l.getD ix.toNat default).x) ((l.getD ix.toNat default).y) ((l.getD ix.toNat default).z) (l.getD ix.toNat default) (List.drop ix.toNat (List.take l.length l)) 0 (if (↑l.length:Int)-1<ix then (↑l.length:Int)-1 else ix) (Zaj dq)))) /\
   (¬(ix<(↑l.length:Int))->(((↑l.length:Int)>0)->(-9223372036854775808<=(↑l.length:Int)-1/\(↑l.length:Int)-1<=9223372036854775807) /\
     (0<=(↑l.length:Int)-1) /\
     (((↑l.length:Int)-1).toNat<l.length) /\
     ((s<if 1000>if (l.getD ((↑l.length:Int)-1).toNat default).w>z then (l.getD ((↑l.length:Int)-1).toNat default).w else z then 1000 else if (l.getD ((↑l.length:Int)-1).toNat default).w>z then (l.getD ((↑l.length:Int)-1).toNat default).w else z)->Weak (tu [AV.vnil,vi 1]) dq) /\
     (¬(s<if 1000>if (l.getD ((↑l.length:Int)-1).toNat default).w>z then (l.getD ((↑l.length:Int)-1).toNat default).w else z then 1000 else if (l.getD ((↑l.length:Int)-1).toNat default).w>z then (l.getD ((↑l.length:Int)-1).toNat default).w else z)->(N.Zdy (List.drop ix.toNat (List.take l.length l))) /\
      (0<=ix) /\
      (ix.toNat<=l.length) /\
      (((x=(l.getD ((↑l.length:Int)-1).toNat default).u)/\((y=(l.getD ((↑l.length:Int)-1).toNat default).v)/\(z=(l.getD ((↑l.length:Int)-1).toNat default).w)))->Weak (tu [AV.vec false 9 (List.map Mo.a (List.drop ix.toNat (List.take l.length l))),vi 0]) dq) /\
      (¬((x=(l.getD ((↑l.length:Int)-1).toNat default).u)/\((y=(l.getD ((↑l.length:Int)-1).toNat default).v)/\(z=(l.getD ((↑l.length:Int)-1).toNat default).w)))->Zfs f l s x y z ((l.getD ((↑l.length:Int)-1).toNat default).u) ((l.getD ((↑l.length:Int)-1).toNat default).v) ((l.getD ((↑l.length:Int)-1).toNat default).w) (l.getD ((↑l.length:Int)-1).toNat default) (List.drop ix.toNat (List.take l.length l)) 0 (if (↑l.length:Int)-1<ix then (↑l.length:Int)-1 else ix) (Zaj dq)))) /\
    (¬((↑l.length:Int)>0)->((s<if 1000>if z>z then z else z then 1000 else if z>z then z else z)->Weak (tu [AV.vnil,vi 1]) dq) /\
     (¬(s<if 1000>if z>z then z else z then 1000 else if z>z then z else z)->(N.Zdy (List.drop ix.toNat (List.take l.length l))) /\
      (0<=ix) /\
      (ix.toNat<=l.length) /\
      (((x=x)/\((y=y)/\(z=z)))->Weak (tu [AV.vec false 9 (List.map Mo.a (List.drop ix.toNat (List.take l.length l))),vi 0]) dq) /\
      (¬((x=x)/\((y=y)/\(z=z)))->(-9223372036854775808<=(↑l.length:Int)-1/\(↑l.length:Int)-1<=9223372036854775807) /\
       Wp M1 (.run fi25 (atC (cd Try.f25) [1,1,1,1,1,1,1,1,1,0,1,0,0]) [(0,AV.vec f 9 (List.map Mo.a l)),(3,vi s),(6,AV.ptr 0 0 0 0),(10,AV.ptr 1 0 0 0),(11,AV.ptr 2 0 0 0),(12,AV.vec false 9 (List.map Mo.a (List.drop ix.toNat (List.take l.length l)))),(13,vi 0),(14,vi (if (↑l.length:Int)-1<ix then (↑l.length:Int)-1 else ix))] [{ elems:=[ag [vi x,vi y,vi z]],es:=3,ver:=0,frozen:=false,clean:=false },{ elems:=[ag [vi x,vi y,vi z]],es:=3,ver:=0,frozen:=false,clean:=false },{ elems:=[ag [vi 0,vi 0,vi 0,vi 0,vi 0,vi 0,vi 0,vi 0,vi 0]],es:=9,ver:=0,frozen:=false,clean:=false }]) (Zaj dq))))))) :
 rtA_at f l ix x y z s (Zaj dq):=by
 unfold rtA_at
 have w1:(List.map Mo.a l).length=l.length:=List.length_map ..
 have i2:(bif decide (ix<0) then true else decide (ix>(↑(List.map Mo.a l).length:Int)))=true ↔ ((ix<0)\/(ix>(↑l.length:Int))):=(by (try rw [w1]);all_goals exact (ZaD Zad Zad))
 rcases xq H with ⟨d3,H⟩|⟨d3,H⟩
 ·exact ZaX (G:=Zab kp25 [] []) 1000 [true] (tu [AV.vnil,vi 1]) (by kernel_rfl) (bc (Zam (i2.2 d3)) b0) q0 c0 H
 ·have i4:(decide (ix<(↑(List.map Mo.a l).length:Int)))=true ↔ (ix<(↑l.length:Int)):=(by (try rw [w1]);all_goals exact Zad)
  rcases xq H with ⟨d5,H⟩|⟨d5,H⟩
  ·obtain ⟨k7,H⟩:=H
   have i8:(decide (ix.toNat<(List.map Mo.a l).length))=true ↔ (ix.toNat<l.length):=(by (try rw [w1]);all_goals exact Zad)
   obtain ⟨k9,H⟩:=H
   have i11:(decide (ix.toNat<(List.map Mo.a l).length))=true ↔ (ix.toNat<l.length):=(by (try rw [w1]);all_goals exact Zad)
   refine Zac (G:=Zab kp25 [(6,4,.elem ((zCxW2 l ix))),(6,8,.elem ((zCxW2 l ix)))] [(6,[4010,3009,902008,902007,902004,902002])]) 21 [false,true] ⟨(atC (cd Try.f25) [1,1,1,1,1,0,1]),[(0,AV.vec f 9 (List.map Mo.a l)),(1,vi ix),(3,vi s),(6,AV.ptr 0 0 0 0),(10,AV.ptr 1 0 0 0),(11,AV.ptr 2 0 0 0),(66,vb (decide (s<if 1000>if (l.getD ix.toNat default).z>z then (l.getD ix.toNat default).z else z then 1000 else if (l.getD ix.toNat default).z>z then (l.getD ix.toNat default).z else z)))],[⟨[(Zf8 x y z)],3,0,false,false⟩,⟨[(zCxW5 l ix)],3,0,false,false⟩,⟨[(zCxW2 l ix)],9,0,false,false⟩],_,[((List.map Mo.a l).get?Internal ix.toNat=some ((zCxW2 l ix))),((List.map Mo.a l).get?Internal ix.toNat=some ((zCxW2 l ix)))],_⟩ (by kernel_rfl) (bc (Zal (fun h=>d3 (i2.1 h))) (bc rfl (bc rfl (bc (Zam (i4.2 d5)) (bc (Zad.2 k7) (bc (i8.2 k9) (bc (Zad.2 k7) (bc (i11.2 k9) (bc rfl (bc rfl (bc rfl (bc rfl b0)))))))))))) (qc (Zaz k9) (qc (Zaz k9) q0)) c0 ?_
   rcases xq H with ⟨d13,H⟩|⟨d13,H⟩
   ·exact ZaX (G:=Zab kp25 [] []) 1000 [true] (tu [AV.vnil,vi 1]) (by kernel_rfl) (bc (Zam (Zad.2 d13)) b0) q0 c0 H
   ·have w14:List.take l.length (List.map Mo.a l)=List.map Mo.a (List.take l.length l):=(ZdL rfl)
    have w15:List.drop ix.toNat (List.map Mo.a (List.take l.length l))=List.map Mo.a (List.drop ix.toNat (List.take l.length l)):=(ZdM rfl)
    obtain ⟨k16,H⟩:=H
    have i18:(decide (ix.toNat<=(List.map Mo.a l).length))=true ↔ (ix.toNat<=l.length):=(by (try rw [w1]);all_goals exact Zad)
    obtain ⟨k19,H⟩:=H
    have i20:(decide ((List.map Mo.a l).length<=(List.map Mo.a l).length))=true ↔ (l.length<=l.length):=(by (try rw [w1]);all_goals exact Zad)
    refine Zac (G:=Zab kp25 [(11,3,.call (AV.vec false 9 (List.map Mo.a (List.drop ix.toNat (List.take l.length l)))) none)] []) 7 [false] ⟨(atC (cd Try.f25) [1,1,1,1,1,1,1,0,1]),[(0,AV.vec f 9 (List.map Mo.a l)),(1,vi ix),(3,vi s),(6,AV.ptr 0 0 0 0),(10,AV.ptr 1 0 0 0),(11,AV.ptr 2 0 0 0),(12,AV.vec false 9 (List.map Mo.a (List.drop ix.toNat (List.take l.length l)))),(73,vb (x==(l.getD ix.toNat default).x&&(y==(l.getD ix.toNat default).y&&(z==(l.getD ix.toNat default).z&&true))))],[⟨[(Zf8 x y z)],3,0,false,false⟩,⟨[(zCxW5 l ix)],3,0,false,false⟩,⟨[(zCxW2 l ix)],9,0,false,false⟩],[(decide (s<if 1000>if (l.getD ix.toNat default).z>z then (l.getD ix.toNat default).z else z then 1000 else if (l.getD ix.toNat default).z>z then (l.getD ix.toNat default).z else z))==false,decide (0<=ix),decide (ix.toNat<=(List.map Mo.a l).length),decide ((List.map Mo.a l).length<=(List.map Mo.a l).length),true,true],[],[pc 41 [AV.vec (f&&true) 9 (List.drop ix.toNat (List.take (List.map Mo.a l).length (List.map Mo.a l)))] (AV.vec false 9 (List.map Mo.a (List.drop ix.toNat (List.take l.length l))))]⟩ (by kernel_rfl) (bc (Zal (fun h=>d13 (Zad.1 h))) (bc (Zad.2 k7) (bc (i18.2 k19) (bc (i20.2 (by omega)) (bc rfl (bc rfl b0)))))) q0 (ce (by (try rw [w1]);(try rw [w14]);(try rw [w15]);all_goals exact (@ev41 (f&&true) (List.drop ix.toNat (List.take l.length l)) k16)) c0) ?_
    rcases xq H with ⟨d22,H⟩|⟨d22,H⟩
    ·exact ZaX (G:=Zab kp25 [] []) 1000 [true] (tu [AV.vec false 9 (List.map Mo.a (List.drop ix.toNat (List.take l.length l))),vi 0]) (by kernel_rfl) (bc (Zam ((Zau i_eq (Zau i_eq (i_at i_eq))).2 d22)) b0) q0 c0 H
    ·obtain ⟨k23,H⟩:=H
     have w24:wi ((↑l.length:Int)-1)=(↑l.length:Int)-1:=wI64 k23
     exact Zac (G:=Zab kp25 [] []) 1000 [false] ⟨(atC (cd Try.f25) [1,1,1,1,1,1,1,1,1,0,1,0,0]),[(0,AV.vec f 9 (List.map Mo.a l)),(3,vi s),(6,AV.ptr 0 0 0 0),(10,AV.ptr 1 0 0 0),(11,AV.ptr 2 0 0 0),(12,AV.vec false 9 (List.map Mo.a (List.drop ix.toNat (List.take l.length l)))),(13,vi 0),(14,vi (if wi ((↑(List.map Mo.a l).length:Int)-1)<ix then wi ((↑(List.map Mo.a l).length:Int)-1) else ix))],[⟨[(Zf8 x y z)],3,0,false,false⟩,⟨[(zCxW5 l ix)],3,0,false,false⟩,⟨[(zCxW2 l ix)],9,0,false,false⟩],_,[],_⟩ (by kernel_rfl) (bc (Zal (fun h=>d22 ((Zau i_eq (Zau i_eq (i_at i_eq))).1 h))) b0) q0 c0 (by (try rw [w1]);(try rw [w24]);all_goals exact H)
  ·have i25:(decide ((↑(List.map Mo.a l).length:Int)>0))=true ↔ ((↑l.length:Int)>0):=(by (try rw [w1]);all_goals exact Zad)
   rcases xq H with ⟨d26,H⟩|⟨d26,H⟩
   ·obtain ⟨k29,H⟩:=H
    have w30:wi ((↑l.length:Int)-1)=(↑l.length:Int)-1:=wI64 k29
    have i31:(decide (0<=wi ((↑(List.map Mo.a l).length:Int)-1)))=true ↔ (0<=(↑l.length:Int)-1):=(by (try rw [w1]);(try rw [w30]);all_goals exact Zad)
    obtain ⟨k32,H⟩:=H
    have i33:(decide ((wi ((↑(List.map Mo.a l).length:Int)-1)).toNat<(List.map Mo.a l).length))=true ↔ (((↑l.length:Int)-1).toNat<l.length):=(by (try rw [w1]);(try rw [w30]);all_goals exact Zad)
    obtain ⟨k34,H⟩:=H
    have i35:(decide (0<=wi ((↑(List.map Mo.a l).length:Int)-1)))=true ↔ (0<=(↑l.length:Int)-1):=(by (try rw [w1]);(try rw [w30]);all_goals exact Zad)
    have i36:(decide ((wi ((↑(List.map Mo.a l).length:Int)-1)).toNat<(List.map Mo.a l).length))=true ↔ (((↑l.length:Int)-1).toNat<l.length):=(by (try rw [w1]);(try rw [w30]);all_goals exact Zad)
    refine Zac (G:=Zab kp25 [(8,6,.elem ((zCxW1 l))),(8,12,.elem ((zCxW1 l)))] [(8,[4014,3013,902012,902011,902009,902006,902004,902002])]) 24 [false,false,true] ⟨(atC (cd Try.f25) [1,1,1,1,1,0,1]),[(0,AV.vec f 9 (List.map Mo.a l)),(1,vi ix),(3,vi s),(6,AV.ptr 0 0 0 0),(10,AV.ptr 1 0 0 0),(11,AV.ptr 2 0 0 0),(66,vb (decide (s<if 1000>if (l.getD ((↑l.length:Int)-1).toNat default).w>z then (l.getD ((↑l.length:Int)-1).toNat default).w else z then 1000 else if (l.getD ((↑l.length:Int)-1).toNat default).w>z then (l.getD ((↑l.length:Int)-1).toNat default).w else z)))],[⟨[(Zf8 x y z)],3,0,false,false⟩,⟨[(zCxW4 l)],3,0,false,false⟩,⟨[(zCxW1 l)],9,0,false,false⟩],_,[((List.map Mo.a l).get?Internal (wi ((↑(List.map Mo.a l).length:Int)-1)).toNat=some ((zCxW1 l))),((List.map Mo.a l).get?Internal (wi ((↑(List.map Mo.a l).length:Int)-1)).toNat=some ((zCxW1 l)))],_⟩ (by kernel_rfl) (bc (Zal (fun h=>d3 (i2.1 h))) (bc rfl (bc rfl (bc (Zal (fun h=>d5 (i4.1 h))) (bc (Zam (i25.2 d26)) (bc (i31.2 k32) (bc (i33.2 k34) (bc (i35.2 k32) (bc (i36.2 k34) (bc rfl (bc rfl (bc rfl (bc rfl b0))))))))))))) (qc (by (try rw [w1]);(try rw [w30]);all_goals exact (Zaz k34)) (qc (by (try rw [w1]);(try rw [w30]);all_goals exact (Zaz k34)) q0)) c0 ?_
    rcases xq H with ⟨d38,H⟩|⟨d38,H⟩
    ·exact ZaX (G:=Zab kp25 [] []) 1000 [true] (tu [AV.vnil,vi 1]) (by kernel_rfl) (bc (Zam (Zad.2 d38)) b0) q0 c0 H
    ·have w39:List.take l.length (List.map Mo.a l)=List.map Mo.a (List.take l.length l):=(ZdL rfl)
     have w40:List.drop ix.toNat (List.map Mo.a (List.take l.length l))=List.map Mo.a (List.drop ix.toNat (List.take l.length l)):=(ZdM rfl)
     obtain ⟨k41,k43,H⟩:=H
     have i44:(decide (ix.toNat<=(List.map Mo.a l).length))=true ↔ (ix.toNat<=l.length):=(by (try rw [w1]);all_goals exact Zad)
     obtain ⟨k45,H⟩:=H
     have i46:(decide ((List.map Mo.a l).length<=(List.map Mo.a l).length))=true ↔ (l.length<=l.length):=(by (try rw [w1]);all_goals exact Zad)
     refine Zac (G:=Zab kp25 [(11,3,.call (AV.vec false 9 (List.map Mo.a (List.drop ix.toNat (List.take l.length l)))) none)] []) 7 [false] ⟨(atC (cd Try.f25) [1,1,1,1,1,1,1,0,1]),[(0,AV.vec f 9 (List.map Mo.a l)),(1,vi ix),(3,vi s),(6,AV.ptr 0 0 0 0),(10,AV.ptr 1 0 0 0),(11,AV.ptr 2 0 0 0),(12,AV.vec false 9 (List.map Mo.a (List.drop ix.toNat (List.take l.length l)))),(73,vb (x==(l.getD ((↑l.length:Int)-1).toNat default).u&&(y==(l.getD ((↑l.length:Int)-1).toNat default).v&&(z==(l.getD ((↑l.length:Int)-1).toNat default).w&&true))))],[⟨[(Zf8 x y z)],3,0,false,false⟩,⟨[(zCxW4 l)],3,0,false,false⟩,⟨[(zCxW1 l)],9,0,false,false⟩],[(decide (s<if 1000>if (l.getD ((↑l.length:Int)-1).toNat default).w>z then (l.getD ((↑l.length:Int)-1).toNat default).w else z then 1000 else if (l.getD ((↑l.length:Int)-1).toNat default).w>z then (l.getD ((↑l.length:Int)-1).toNat default).w else z))==false,decide (0<=ix),decide (ix.toNat<=(List.map Mo.a l).length),decide ((List.map Mo.a l).length<=(List.map Mo.a l).length),true,true],[],[pc 41 [AV.vec (f&&true) 9 (List.drop ix.toNat (List.take (List.map Mo.a l).length (List.map Mo.a l)))] (AV.vec false 9 (List.map Mo.a (List.drop ix.toNat (List.take l.length l))))]⟩ (by kernel_rfl) (bc (Zal (fun h=>d38 (Zad.1 h))) (bc (Zad.2 k43) (bc (i44.2 k45) (bc (i46.2 (by omega)) (bc rfl (bc rfl b0)))))) q0 (ce (by (try rw [w1]);(try rw [w39]);(try rw [w40]);all_goals exact (@ev41 (f&&true) (List.drop ix.toNat (List.take l.length l)) k41)) c0) ?_
     rcases xq H with ⟨d48,H⟩|⟨d48,H⟩
     ·exact ZaX (G:=Zab kp25 [] []) 1000 [true] (tu [AV.vec false 9 (List.map Mo.a (List.drop ix.toNat (List.take l.length l))),vi 0]) (by kernel_rfl) (bc (Zam ((Zau i_eq (Zau i_eq (i_at i_eq))).2 d48)) b0) q0 c0 H
     ·exact Zac (G:=Zab kp25 [] []) 1000 [false] ⟨(atC (cd Try.f25) [1,1,1,1,1,1,1,1,1,0,1,0,0]),[(0,AV.vec f 9 (List.map Mo.a l)),(3,vi s),(6,AV.ptr 0 0 0 0),(10,AV.ptr 1 0 0 0),(11,AV.ptr 2 0 0 0),(12,AV.vec false 9 (List.map Mo.a (List.drop ix.toNat (List.take l.length l)))),(13,vi 0),(14,vi (if wi ((↑(List.map Mo.a l).length:Int)-1)<ix then wi ((↑(List.map Mo.a l).length:Int)-1) else ix))],[⟨[(Zf8 x y z)],3,0,false,false⟩,⟨[(zCxW4 l)],3,0,false,false⟩,⟨[(zCxW1 l)],9,0,false,false⟩],_,[],_⟩ (by kernel_rfl) (bc (Zal (fun h=>d48 ((Zau i_eq (Zau i_eq (i_at i_eq))).1 h))) b0) q0 c0 (by (try rw [w1]);(try rw [w30]);all_goals exact H)
   ·rcases xq H with ⟨d50,H⟩|⟨d50,H⟩
    ·exact ZaX (G:=Zab kp25 [] []) 1000 [false,false,false,true] (tu [AV.vnil,vi 1]) (by kernel_rfl) (bc (Zal (fun h=>d3 (i2.1 h))) (bc rfl (bc rfl (bc (Zal (fun h=>d5 (i4.1 h))) (bc (Zal (fun h=>d26 (i25.1 h))) (bc rfl (bc rfl (bc (Zam (Zad.2 d50)) b0)))))))) q0 c0 H
    ·have w51:List.take l.length (List.map Mo.a l)=List.map Mo.a (List.take l.length l):=(ZdL rfl)
     have w52:List.drop ix.toNat (List.map Mo.a (List.take l.length l))=List.map Mo.a (List.drop ix.toNat (List.take l.length l)):=(ZdM rfl)
     obtain ⟨k53,k55,H⟩:=H
     have i56:(decide (ix.toNat<=(List.map Mo.a l).length))=true ↔ (ix.toNat<=l.length):=(by (try rw [w1]);all_goals exact Zad)
     obtain ⟨k57,H⟩:=H
     have i58:(decide ((List.map Mo.a l).length<=(List.map Mo.a l).length))=true ↔ (l.length<=l.length):=(by (try rw [w1]);all_goals exact Zad)
     refine Zac (G:=Zab kp25 [(11,3,.call (AV.vec false 9 (List.map Mo.a (List.drop ix.toNat (List.take l.length l)))) none)] []) 31 [false,false,false,false] ⟨(atC (cd Try.f25) [1,1,1,1,1,1,1,0,1]),[(0,AV.vec f 9 (List.map Mo.a l)),(1,vi ix),(3,vi s),(6,AV.ptr 0 0 0 0),(10,AV.ptr 1 0 0 0),(11,AV.ptr 2 0 0 0),(12,AV.vec false 9 (List.map Mo.a (List.drop ix.toNat (List.take l.length l)))),(73,vb (x==x&&(y==y&&(z==z&&true))))],[⟨[(Zf8 x y z)],3,0,false,false⟩,⟨[(Zf8 x y z)],3,0,false,false⟩,⟨[zCxW6],9,0,false,false⟩],[(bif decide (ix<0) then true else decide (ix>(↑(List.map Mo.a l).length:Int)))==false,true,true,(decide (ix<(↑(List.map Mo.a l).length:Int)))==false,(decide ((↑(List.map Mo.a l).length:Int)>0))==false,true,true,(decide (s<if 1000>if z>z then z else z then 1000 else if z>z then z else z))==false,decide (0<=ix),decide (ix.toNat<=(List.map Mo.a l).length),decide ((List.map Mo.a l).length<=(List.map Mo.a l).length),true,true],[],[pc 41 [AV.vec (f&&true) 9 (List.drop ix.toNat (List.take (List.map Mo.a l).length (List.map Mo.a l)))] (AV.vec false 9 (List.map Mo.a (List.drop ix.toNat (List.take l.length l))))]⟩ (by kernel_rfl) (bc (Zal (fun h=>d3 (i2.1 h))) (bc rfl (bc rfl (bc (Zal (fun h=>d5 (i4.1 h))) (bc (Zal (fun h=>d26 (i25.1 h))) (bc rfl (bc rfl (bc (Zal (fun h=>d50 (Zad.1 h))) (bc (Zad.2 k55) (bc (i56.2 k57) (bc (i58.2 (by omega)) (bc rfl (bc rfl b0))))))))))))) q0 (ce (by (try rw [w1]);(try rw [w51]);(try rw [w52]);all_goals exact (@ev41 (f&&true) (List.drop ix.toNat (List.take l.length l)) k53)) c0) ?_
     rcases xq H with ⟨d60,H⟩|⟨d60,H⟩
     ·exact ZaX (G:=Zab kp25 [] []) 1000 [true] (tu [AV.vec false 9 (List.map Mo.a (List.drop ix.toNat (List.take l.length l))),vi 0]) (by kernel_rfl) (bc (Zam ((Zau i_eq (Zau i_eq (i_at i_eq))).2 d60)) b0) q0 c0 H
     ·obtain ⟨k61,H⟩:=H
      have w62:wi ((↑l.length:Int)-1)=(↑l.length:Int)-1:=wI64 k61
      exact Zac (G:=Zab kp25 [] []) 1000 [false] ⟨(atC (cd Try.f25) [1,1,1,1,1,1,1,1,1,0,1,0,0]),[(0,AV.vec f 9 (List.map Mo.a l)),(3,vi s),(6,AV.ptr 0 0 0 0),(10,AV.ptr 1 0 0 0),(11,AV.ptr 2 0 0 0),(12,AV.vec false 9 (List.map Mo.a (List.drop ix.toNat (List.take l.length l)))),(13,vi 0),(14,vi (if wi ((↑(List.map Mo.a l).length:Int)-1)<ix then wi ((↑(List.map Mo.a l).length:Int)-1) else ix))],[⟨[(Zf8 x y z)],3,0,false,false⟩,⟨[(Zf8 x y z)],3,0,false,false⟩,⟨[zCxW6],9,0,false,false⟩],_,[],_⟩ (by kernel_rfl) (bc (Zal (fun h=>d60 ((Zau i_eq (Zau i_eq (i_at i_eq))).1 h))) b0) q0 c0 (by (try rw [w1]);(try rw [w62]);all_goals exact H)
noncomputable abbrev zCxW7 (l:List Mo) (i:Int):=ag [vi (l.getD i.toNat default).x,vi (l.getD i.toNat default).y,vi (l.getD i.toNat default).z,vi (l.getD i.toNat default).u,vi (l.getD i.toNat default).v,vi (l.getD i.toNat default).w,vi (l.getD i.toNat default).r,vi (l.getD i.toNat default).t,vi (l.getD i.toNat default).b]
noncomputable abbrev zCxW8 (m:Mo):=ag [vi m.x,vi m.y,vi m.z,vi m.u,vi m.v,vi m.w,vi m.r,vi m.t,vi m.b]
theorem rtL (f:Bool) (l:List Mo) (s x y z bx by_ bz:Int) (m:Mo) (R:List Mo) (r i:Int)  (dq:AV) (H :
  (((i>=0)/\(r=0))->(0<=i) /\
   (i.toNat<l.length) /\
   (-9223372036854775808<=i-1/\i-1<=9223372036854775807) /\
   Zfs f l s x y z bx by_ bz m R ((l.getD i.toNat default).r) (i-1) (Zaj dq)) /\
  (¬((i>=0)/\(r=0))->(((bz<1000)/\(r=0))->Weak (tu [AV.vnil,vi 13]) dq) /\
   (¬((bz<1000)/\(r=0))->Wp M1 (.run fi25 (atC (cd Try.f25) [1,1,1,1,1,1,1,1,1,1,1,1,1,0,1,0,0]) [(6,AV.ptr 0 0 0 0),(11,AV.ptr 1 0 0 0),(12,AV.vec false 9 (List.map Mo.a R)),(13,vi r),(16,AV.vnil),(122,AV.vec true 3 [ag [vi x,vi y,vi s],ag [vi bx,vi by_,vi s],ag [vi bx,vi by_,vi (if 1000>bz then 1000 else bz)],ag [vi bx,vi by_,vi bz]]),(123,vi 4),(124,vi 0)] [{ elems:=[ag [vi x,vi y,vi z]],es:=3,ver:=0,frozen:=false,clean:=false },{ elems:=[ag [vi m.x,vi m.y,vi m.z,vi m.u,vi m.v,vi m.w,vi m.r,vi m.t,vi m.b]],es:=9,ver:=0,frozen:=false,clean:=false }]) (Zaj dq)))) :
 Zfs f l s x y z bx by_ bz m R r i (Zaj dq):=by
 unfold Zfs
 rcases xq H with ⟨d2,H⟩|⟨d2,H⟩
 ·obtain ⟨k4,H⟩:=H
  have w5:(List.map Mo.a l).length=l.length:=List.length_map ..
  have i6:(decide (i.toNat<(List.map Mo.a l).length))=true ↔ (i.toNat<l.length):=(by (try rw [w5]);all_goals exact Zad)
  obtain ⟨k7,k8,H⟩:=H
  have w9:wi (i-1)=i-1:=wI64 k8
  exact Zac (G:=Zab kp25 [(18,4,.elem (zCxW7 l i))] []) 1000 [true] ⟨(atC (cd Try.f25) [1,1,1,1,1,1,1,1,1,0,1,0,0]),[(0,AV.vec f 9 (List.map Mo.a l)),(3,vi s),(6,AV.ptr 0 0 0 0),(10,AV.ptr 1 0 0 0),(11,AV.ptr 2 0 0 0),(12,AV.vec false 9 (List.map Mo.a R)),(13,vi (l.getD i.toNat default).r),(14,vi (wi (i-1)))],[⟨[ag [vi x,vi y,vi z]],3,0,false,false⟩,⟨[ag [vi bx,vi by_,vi bz]],3,0,false,false⟩,⟨[(zCxW8 m)],9,0,false,false⟩],_,[((List.map Mo.a l).get?Internal i.toNat=some (zCxW7 l i))],_⟩ (by kernel_rfl) (bc (Zam ((Za9 Zad i_eq).2 d2)) (bc (Zad.2 k4) (bc (i6.2 k7) b0))) (qc (Zaz k7) q0) c0 (by (try rw [w9]);all_goals exact H)
 ·rcases xq H with ⟨d11,H⟩|⟨d11,H⟩
  ·exact ZaX (G:=Zab kp25 [] []) 1000 [false,true] (tu [AV.vnil,vi 13]) (by kernel_rfl) (bc (Zal (fun h=>d2 ((Za9 Zad i_eq).1 h))) (bc rfl (bc (Zam ((Za9 Zad i_eq).2 d11)) b0))) q0 c0 H
  ·exact Zac (G:=Zab kp25 [] []) 1000 [false,false] ⟨(atC (cd Try.f25) [1,1,1,1,1,1,1,1,1,1,1,1,1,0,1,0,0]),[(6,AV.ptr 0 0 0 0),(11,AV.ptr 2 0 0 0),(12,AV.vec false 9 (List.map Mo.a R)),(13,vi r),(16,AV.vnil),(122,AV.vec true 3 [ag [vi x,vi y,vi s],ag [vi bx,vi by_,vi s],ag [vi bx,vi by_,vi (if 1000>bz then 1000 else bz)],ag [vi bx,vi by_,vi bz]]),(123,vi 4),(124,vi 0)],[⟨[ag [vi x,vi y,vi z]],3,0,false,false⟩,⟨[ag [vi bx,vi by_,vi bz]],3,0,false,false⟩,⟨[(zCxW8 m)],9,0,false,false⟩],_,[],_⟩ (by kernel_rfl) (bc (Zal (fun h=>d2 ((Za9 Zad i_eq).1 h))) (bc rfl (bc (Zal (fun h=>d11 ((Za9 Zad i_eq).1 h))) (bc rfl (bc rfl (bc rfl (bc rfl (bc rfl (bc rfl (bc rfl (bc rfl b0))))))))))) q0 c0 (Zan [0,2] (by kernel_rfl) H)
noncomputable abbrev Ze9 (G:List Ps) (i:Int):=ag [vi (G.getD i.toNat default).x,vi (G.getD i.toNat default).y,vi (G.getD i.toNat default).z]
noncomputable abbrev Zgh (m:Mo):=ag [vi m.x,vi m.y,vi m.z,vi m.u,vi m.v,vi m.w,vi m.r,vi m.t,vi m.b]
theorem rtN (x y z:Int) (m:Mo) (R:List Mo) (r:Int) (G:List Ps) (n i:Int)  (dq:AV) (H :
  ((i<n)->(0<=i) /\
   (i.toNat<G.length) /\
   ((i=3)->((¬((x=(G.getD i.toNat default).x)/\((y=(G.getD i.toNat default).y)/\(z=(G.getD i.toNat default).z))))->(-9223372036854775808<=i+1/\i+1<=9223372036854775807) /\
     Zd5 ((G.getD i.toNat default).x) ((G.getD i.toNat default).y) ((G.getD i.toNat default).z) m R r G n (i+1) ([{ x:=x,y:=y,z:=z,u:=(G.getD i.toNat default).x,v:=(G.getD i.toNat default).y,w:=(G.getD i.toNat default).z,r:=r,t:=m.t,b:=m.b }]) 0 (Zaj dq)) /\
    (¬(¬((x=(G.getD i.toNat default).x)/\((y=(G.getD i.toNat default).y)/\(z=(G.getD i.toNat default).z))))->(-9223372036854775808<=i+1/\i+1<=9223372036854775807) /\
     Zgw ((G.getD i.toNat default).x) ((G.getD i.toNat default).y) ((G.getD i.toNat default).z) m R r G n (i+1) (Zaj dq))) /\
   (¬(i=3)->((¬((x=(G.getD i.toNat default).x)/\((y=(G.getD i.toNat default).y)/\(z=(G.getD i.toNat default).z))))->(-9223372036854775808<=i+1/\i+1<=9223372036854775807) /\
     Zd5 ((G.getD i.toNat default).x) ((G.getD i.toNat default).y) ((G.getD i.toNat default).z) m R r G n (i+1) ([{ x:=x,y:=y,z:=z,u:=(G.getD i.toNat default).x,v:=(G.getD i.toNat default).y,w:=(G.getD i.toNat default).z,r:=0,t:=m.t,b:=m.b }]) 0 (Zaj dq)) /\
    (¬(¬((x=(G.getD i.toNat default).x)/\((y=(G.getD i.toNat default).y)/\(z=(G.getD i.toNat default).z))))->(-9223372036854775808<=i+1/\i+1<=9223372036854775807) /\
     Zgw ((G.getD i.toNat default).x) ((G.getD i.toNat default).y) ((G.getD i.toNat default).z) m R r G n (i+1) (Zaj dq)))) /\
  (¬(i<n)->Wp M1 (.run fi25 (atC (cd Try.f25) [1,1,1,1,1,1,1,1,1,1,1,1,1,1,0]) [(6,AV.ptr 0 0 0 0),(11,AV.ptr 1 0 0 0),(12,AV.vec false 9 (List.map Mo.a R)),(13,vi r),(16,AV.vnil),(122,AV.vec true 3 (List.map Ps.v G)),(123,vi n),(124,vi i),(125,vb (decide (i<n)))] [{ elems:=[ag [vi x,vi y,vi z]],es:=3,ver:=0,frozen:=false,clean:=false },{ elems:=[ag [vi m.x,vi m.y,vi m.z,vi m.u,vi m.v,vi m.w,vi m.r,vi m.t,vi m.b]],es:=9,ver:=0,frozen:=false,clean:=false }]) (Zaj dq))) :
 Zgw x y z m R r G n i (Zaj dq):=by
 unfold Zgw
 rcases xq H with ⟨d2,H⟩|⟨d2,H⟩
 ·obtain ⟨k4,H⟩:=H
  have w5:(List.map Ps.v G).length=G.length:=List.length_map ..
  have i6:(decide (i.toNat<(List.map Ps.v G).length))=true ↔ (i.toNat<G.length):=(by (try rw [w5]);all_goals exact Zad)
  obtain ⟨k7,H⟩:=H
  refine Zac (G:=Zab kp25 [(25,2,.elem ((Ze9 G i)))] []) 14 [true] ⟨(atC (cd Try.f25) [1,1,1,1,1,1,1,1,1,1,1,1,1,0,1,0,0,1,1,0,0,1,1,0,1]),[(6,AV.ptr 0 0 0 0),(11,AV.ptr 1 0 0 0),(12,AV.vec false 9 (List.map Mo.a R)),(13,vi r),(16,AV.vnil),(18,AV.ptr 2 0 0 0),(19,AV.ptr 3 0 0 0),(122,AV.vec true 3 (List.map Ps.v G)),(123,vi n),(124,vi i),(137,vb (i==3))],[⟨[ag [vi x,vi y,vi z]],3,0,false,false⟩,⟨[(Zgh m)],9,0,false,false⟩,⟨[(Ze9 G i)],3,0,false,false⟩,⟨[ag [vi x,vi y,vi z,vi (G.getD i.toNat default).x,vi (G.getD i.toNat default).y,vi (G.getD i.toNat default).z,vi 0,vi m.t,vi m.b]],9,0,false,false⟩],_,[((List.map Ps.v G).get?Internal i.toNat=some ((Ze9 G i)))],_⟩ (by kernel_rfl) (bc (Zam (Zad.2 d2)) (bc (Zad.2 k4) (bc (i6.2 k7) (bc rfl (bc rfl (bc rfl (bc rfl (bc rfl (bc rfl b0))))))))) (qc (Zaz k7) q0) c0 ?_
  rcases xq H with ⟨d9,H⟩|⟨d9,H⟩
  ·rcases xq H with ⟨d11,H⟩|⟨d11,H⟩
   ·obtain ⟨k12,H⟩:=H
    have w13:wi (i+1)=i+1:=wI64 k12
    have w14:[ag [vi x,vi y,vi z,vi (G.getD i.toNat default).x,vi (G.getD i.toNat default).y,vi (G.getD i.toNat default).z,vi r,vi m.t,vi m.b]]=List.map Mo.a [{ x:=x,y:=y,z:=z,u:=(G.getD i.toNat default).x,v:=(G.getD i.toNat default).y,w:=(G.getD i.toNat default).z,r:=r,t:=m.t,b:=m.b }]:=rfl
    exact Zac (G:=Zab kp25 [] []) 1000 [true,true] ⟨(atC (cd Try.f25) [1,1,1,1,1,1,1,1,1,1,1,1,1,0,1,0,0]),[(6,AV.ptr 0 0 0 0),(11,AV.ptr 1 0 0 0),(12,AV.vec false 9 (List.map Mo.a R)),(13,vi r),(16,AV.row 4 0),(122,AV.vec true 3 (List.map Ps.v G)),(123,vi n),(124,vi (wi (i+1)))],[⟨[(Ze9 G i)],3,0,false,false⟩,⟨[(Zgh m)],9,0,false,false⟩,⟨[(Ze9 G i)],3,0,false,false⟩,⟨[ag [vi x,vi y,vi z,vi (G.getD i.toNat default).x,vi (G.getD i.toNat default).y,vi (G.getD i.toNat default).z,vi r,vi m.t,vi m.b]],9,0,false,false⟩,⟨[ag [vi x,vi y,vi z,vi (G.getD i.toNat default).x,vi (G.getD i.toNat default).y,vi (G.getD i.toNat default).z,vi r,vi m.t,vi m.b]],9,0,false,true⟩],[(i==3)==true,0==0,true,true,(!(x==(G.getD i.toNat default).x&&(y==(G.getD i.toNat default).y&&(z==(G.getD i.toNat default).z&&true))))==true,true,true,true,true],[],_⟩ (by kernel_rfl) (bc (Zam (i_eq.2 d9)) (bc (beq_self_eq_true _) (bc rfl (bc rfl (bc (Zam ((Zay (Zau i_eq (Zau i_eq (i_at i_eq)))).2 d11)) (bc rfl (bc rfl (bc rfl (bc rfl b0))))))))) q0 c0 (by (try rw [w13]);(try rw [w14]);all_goals exact Zan [0,1,4] (by kernel_rfl) H)
   ·obtain ⟨k15,H⟩:=H
    have w16:wi (i+1)=i+1:=wI64 k15
    exact Zac (G:=Zab kp25 [] []) 1000 [true,false] ⟨(atC (cd Try.f25) [1,1,1,1,1,1,1,1,1,1,1,1,1,0,1,0,0]),[(6,AV.ptr 0 0 0 0),(11,AV.ptr 1 0 0 0),(12,AV.vec false 9 (List.map Mo.a R)),(13,vi r),(16,AV.vnil),(122,AV.vec true 3 (List.map Ps.v G)),(123,vi n),(124,vi (wi (i+1)))],[⟨[(Ze9 G i)],3,0,false,false⟩,⟨[(Zgh m)],9,0,false,false⟩,⟨[(Ze9 G i)],3,0,false,false⟩,⟨[ag [vi x,vi y,vi z,vi (G.getD i.toNat default).x,vi (G.getD i.toNat default).y,vi (G.getD i.toNat default).z,vi r,vi m.t,vi m.b]],9,0,false,false⟩],[(i==3)==true,0==0,true,true,(!(x==(G.getD i.toNat default).x&&(y==(G.getD i.toNat default).y&&(z==(G.getD i.toNat default).z&&true))))==false,true,true],[],_⟩ (by kernel_rfl) (bc (Zam (i_eq.2 d9)) (bc (beq_self_eq_true _) (bc rfl (bc rfl (bc (Zal (fun h=>d11 ((Zay (Zau i_eq (Zau i_eq (i_at i_eq)))).1 h))) (bc rfl (bc rfl b0))))))) q0 c0 (by (try rw [w16]);all_goals exact Zan [0,1] (by kernel_rfl) H)
  ·rcases xq H with ⟨d18,H⟩|⟨d18,H⟩
   ·obtain ⟨k19,H⟩:=H
    have w20:wi (i+1)=i+1:=wI64 k19
    have w21:[ag [vi x,vi y,vi z,vi (G.getD i.toNat default).x,vi (G.getD i.toNat default).y,vi (G.getD i.toNat default).z,vi 0,vi m.t,vi m.b]]=List.map Mo.a [{ x:=x,y:=y,z:=z,u:=(G.getD i.toNat default).x,v:=(G.getD i.toNat default).y,w:=(G.getD i.toNat default).z,r:=0,t:=m.t,b:=m.b }]:=rfl
    exact Zac (G:=Zab kp25 [] []) 1000 [false,true] ⟨(atC (cd Try.f25) [1,1,1,1,1,1,1,1,1,1,1,1,1,0,1,0,0]),[(6,AV.ptr 0 0 0 0),(11,AV.ptr 1 0 0 0),(12,AV.vec false 9 (List.map Mo.a R)),(13,vi r),(16,AV.row 4 0),(122,AV.vec true 3 (List.map Ps.v G)),(123,vi n),(124,vi (wi (i+1)))],[⟨[(Ze9 G i)],3,0,false,false⟩,⟨[(Zgh m)],9,0,false,false⟩,⟨[(Ze9 G i)],3,0,false,false⟩,⟨[ag [vi x,vi y,vi z,vi (G.getD i.toNat default).x,vi (G.getD i.toNat default).y,vi (G.getD i.toNat default).z,vi 0,vi m.t,vi m.b]],9,0,false,false⟩,⟨[ag [vi x,vi y,vi z,vi (G.getD i.toNat default).x,vi (G.getD i.toNat default).y,vi (G.getD i.toNat default).z,vi 0,vi m.t,vi m.b]],9,0,false,true⟩],_,[],_⟩ (by kernel_rfl) (bc (Zal (fun h=>d9 (i_eq.1 h))) (bc rfl (bc rfl (bc (Zam ((Zay (Zau i_eq (Zau i_eq (i_at i_eq)))).2 d18)) (bc rfl (bc rfl (bc rfl (bc rfl b0)))))))) q0 c0 (by (try rw [w20]);(try rw [w21]);all_goals exact Zan [0,1,4] (by kernel_rfl) H)
   ·obtain ⟨k22,H⟩:=H
    have w23:wi (i+1)=i+1:=wI64 k22
    exact Zac (G:=Zab kp25 [] []) 1000 [false,false] ⟨(atC (cd Try.f25) [1,1,1,1,1,1,1,1,1,1,1,1,1,0,1,0,0]),[(6,AV.ptr 0 0 0 0),(11,AV.ptr 1 0 0 0),(12,AV.vec false 9 (List.map Mo.a R)),(13,vi r),(16,AV.vnil),(122,AV.vec true 3 (List.map Ps.v G)),(123,vi n),(124,vi (wi (i+1)))],[⟨[(Ze9 G i)],3,0,false,false⟩,⟨[(Zgh m)],9,0,false,false⟩,⟨[(Ze9 G i)],3,0,false,false⟩,⟨[ag [vi x,vi y,vi z,vi (G.getD i.toNat default).x,vi (G.getD i.toNat default).y,vi (G.getD i.toNat default).z,vi 0,vi m.t,vi m.b]],9,0,false,false⟩],_,[],_⟩ (by kernel_rfl) (bc (Zal (fun h=>d9 (i_eq.1 h))) (bc rfl (bc rfl (bc (Zal (fun h=>d18 ((Zay (Zau i_eq (Zau i_eq (i_at i_eq)))).1 h))) (bc rfl (bc rfl b0)))))) q0 c0 (by (try rw [w23]);all_goals exact Zan [0,1] (by kernel_rfl) H)
 ·exact Zac (G:=Zab kp25 [] []) 6 [false] ⟨(atC (cd Try.f25) [1,1,1,1,1,1,1,1,1,1,1,1,1,1,0]),[(6,AV.ptr 0 0 0 0),(11,AV.ptr 1 0 0 0),(12,AV.vec false 9 (List.map Mo.a R)),(13,vi r),(16,AV.vnil),(122,AV.vec true 3 (List.map Ps.v G)),(123,vi n),(124,vi i),(125,vb (decide (i<n)))],[⟨[ag [vi x,vi y,vi z]],3,0,false,false⟩,⟨[(Zgh m)],9,0,false,false⟩],_,[],_⟩ (by kernel_rfl) (bc (Zal (fun h=>d2 (Zad.1 h))) b0) q0 c0 H
noncomputable abbrev ZcV (G:List Ps) (i:Int):=ag [vi (G.getD i.toNat default).x,vi (G.getD i.toNat default).y,vi (G.getD i.toNat default).z]
noncomputable abbrev Zgg (m:Mo):=ag [vi m.x,vi m.y,vi m.z,vi m.u,vi m.v,vi m.w,vi m.r,vi m.t,vi m.b]
theorem rtR (x y z:Int) (m:Mo) (R:List Mo) (r:Int) (G:List Ps) (n i:Int) (o:List Mo) (w:Nat)  (dq:AV) (H :
  ((i<n)->(0<=i) /\
   (i.toNat<G.length) /\
   ((i=3)->((¬((x=(G.getD i.toNat default).x)/\((y=(G.getD i.toNat default).y)/\(z=(G.getD i.toNat default).z))))->((o.length+1)*72<=1099511627776) /\
     (-9223372036854775808<=i+1/\i+1<=9223372036854775807) /\
     Zd5 ((G.getD i.toNat default).x) ((G.getD i.toNat default).y) ((G.getD i.toNat default).z) m R r G n (i+1) (o++[{ x:=x,y:=y,z:=z,u:=(G.getD i.toNat default).x,v:=(G.getD i.toNat default).y,w:=(G.getD i.toNat default).z,r:=r,t:=m.t,b:=m.b }]) (w+1) (Zaj dq)) /\
    (¬(¬((x=(G.getD i.toNat default).x)/\((y=(G.getD i.toNat default).y)/\(z=(G.getD i.toNat default).z))))->(-9223372036854775808<=i+1/\i+1<=9223372036854775807) /\
     Zd5 ((G.getD i.toNat default).x) ((G.getD i.toNat default).y) ((G.getD i.toNat default).z) m R r G n (i+1) o w (Zaj dq))) /\
   (¬(i=3)->((¬((x=(G.getD i.toNat default).x)/\((y=(G.getD i.toNat default).y)/\(z=(G.getD i.toNat default).z))))->((o.length+1)*72<=1099511627776) /\
     (-9223372036854775808<=i+1/\i+1<=9223372036854775807) /\
     Zd5 ((G.getD i.toNat default).x) ((G.getD i.toNat default).y) ((G.getD i.toNat default).z) m R r G n (i+1) (o++[{ x:=x,y:=y,z:=z,u:=(G.getD i.toNat default).x,v:=(G.getD i.toNat default).y,w:=(G.getD i.toNat default).z,r:=0,t:=m.t,b:=m.b }]) (w+1) (Zaj dq)) /\
    (¬(¬((x=(G.getD i.toNat default).x)/\((y=(G.getD i.toNat default).y)/\(z=(G.getD i.toNat default).z))))->(-9223372036854775808<=i+1/\i+1<=9223372036854775807) /\
     Zd5 ((G.getD i.toNat default).x) ((G.getD i.toNat default).y) ((G.getD i.toNat default).z) m R r G n (i+1) o w (Zaj dq)))) /\
  (¬(i<n)->((o.length+R.length)*72<=1099511627776) /\
   Weak (tu [AV.vec false 9 (List.map Mo.a (o++R)),vi 0]) dq)) :
 Zd5 x y z m R r G n i o w (Zaj dq):=by
 unfold Zd5
 rcases xq H with ⟨d2,H⟩|⟨d2,H⟩
 ·obtain ⟨k4,H⟩:=H
  have w5:(List.map Ps.v G).length=G.length:=List.length_map ..
  have i6:(decide (i.toNat<(List.map Ps.v G).length))=true ↔ (i.toNat<G.length):=(by (try rw [w5]);all_goals exact Zad)
  obtain ⟨k7,H⟩:=H
  refine Zac (G:=Zab kp25 [(25,2,.elem ((ZcV G i)))] []) 14 [true] ⟨(atC (cd Try.f25) [1,1,1,1,1,1,1,1,1,1,1,1,1,0,1,0,0,1,1,0,0,1,1,0,1]),[(6,AV.ptr 0 0 0 0),(11,AV.ptr 1 0 0 0),(12,AV.vec false 9 (List.map Mo.a R)),(13,vi r),(16,AV.row 2 w),(18,AV.ptr 3 0 0 0),(19,AV.ptr 4 0 0 0),(122,AV.vec true 3 (List.map Ps.v G)),(123,vi n),(124,vi i),(137,vb (i==3))],[⟨[ag [vi x,vi y,vi z]],3,0,false,false⟩,⟨[(Zgg m)],9,0,false,false⟩,⟨List.map Mo.a o,9,w,false,true⟩,⟨[(ZcV G i)],3,0,false,false⟩,⟨[ag [vi x,vi y,vi z,vi (G.getD i.toNat default).x,vi (G.getD i.toNat default).y,vi (G.getD i.toNat default).z,vi 0,vi m.t,vi m.b]],9,0,false,false⟩],_,[((List.map Ps.v G).get?Internal i.toNat=some ((ZcV G i)))],_⟩ (by kernel_rfl) (bc (Zam (Zad.2 d2)) (bc (Zad.2 k4) (bc (i6.2 k7) (bc rfl (bc rfl (bc rfl (bc rfl (bc rfl (bc rfl b0))))))))) (qc (Zaz k7) q0) c0 ?_
  rcases xq H with ⟨d9,H⟩|⟨d9,H⟩
  ·rcases xq H with ⟨d11,H⟩|⟨d11,H⟩
   ·have w12:(List.map Mo.a o).length=o.length:=List.length_map ..
    have i13:(decide (((List.map Mo.a o).length+1)*72<=1099511627776))=true ↔ ((o.length+1)*72<=1099511627776):=(by (try rw [w12]);all_goals exact Zad)
    obtain ⟨k14,H⟩:=H
    have w15:List.map Mo.a o++[ag [vi x,vi y,vi z,vi (G.getD i.toNat default).x,vi (G.getD i.toNat default).y,vi (G.getD i.toNat default).z,vi r,vi m.t,vi m.b]]=List.map Mo.a (o++[{ x:=x,y:=y,z:=z,u:=(G.getD i.toNat default).x,v:=(G.getD i.toNat default).y,w:=(G.getD i.toNat default).z,r:=r,t:=m.t,b:=m.b }]):=(Zdd rfl rfl)
    obtain ⟨k16,H⟩:=H
    have w17:wi (i+1)=i+1:=wI64 k16
    exact Zac (G:=Zab kp25 [] []) 1000 [true,true] ⟨(atC (cd Try.f25) [1,1,1,1,1,1,1,1,1,1,1,1,1,0,1,0,0]),[(6,AV.ptr 0 0 0 0),(11,AV.ptr 1 0 0 0),(12,AV.vec false 9 (List.map Mo.a R)),(13,vi r),(16,AV.row 2 (w+1)),(122,AV.vec true 3 (List.map Ps.v G)),(123,vi n),(124,vi (wi (i+1)))],[⟨[(ZcV G i)],3,0,false,false⟩,⟨[(Zgg m)],9,0,false,false⟩,⟨List.map Mo.a o++[ag [vi x,vi y,vi z,vi (G.getD i.toNat default).x,vi (G.getD i.toNat default).y,vi (G.getD i.toNat default).z,vi r,vi m.t,vi m.b]],9,w+1,false,true⟩,⟨[(ZcV G i)],3,0,false,false⟩,⟨[ag [vi x,vi y,vi z,vi (G.getD i.toNat default).x,vi (G.getD i.toNat default).y,vi (G.getD i.toNat default).z,vi r,vi m.t,vi m.b]],9,0,false,false⟩],[(i==3)==true,0==0,true,true,(!(x==(G.getD i.toNat default).x&&(y==(G.getD i.toNat default).y&&(z==(G.getD i.toNat default).z&&true))))==true,true,w==w,decide (((List.map Mo.a o).length+1)*72<=1099511627776),true,true],[],_⟩ (by kernel_rfl) (bc (Zam (i_eq.2 d9)) (bc (beq_self_eq_true _) (bc rfl (bc rfl (bc (Zam ((Zay (Zau i_eq (Zau i_eq (i_at i_eq)))).2 d11)) (bc rfl (bc (beq_self_eq_true _) (bc (i13.2 k14) (bc rfl (bc rfl b0)))))))))) q0 c0 (by (try rw [w15]);(try rw [w17]);all_goals exact Zan [0,1,2] (by kernel_rfl) H)
   ·obtain ⟨k18,H⟩:=H
    have w19:wi (i+1)=i+1:=wI64 k18
    exact Zac (G:=Zab kp25 [] []) 1000 [true,false] ⟨(atC (cd Try.f25) [1,1,1,1,1,1,1,1,1,1,1,1,1,0,1,0,0]),[(6,AV.ptr 0 0 0 0),(11,AV.ptr 1 0 0 0),(12,AV.vec false 9 (List.map Mo.a R)),(13,vi r),(16,AV.row 2 w),(122,AV.vec true 3 (List.map Ps.v G)),(123,vi n),(124,vi (wi (i+1)))],[⟨[(ZcV G i)],3,0,false,false⟩,⟨[(Zgg m)],9,0,false,false⟩,⟨List.map Mo.a o,9,w,false,true⟩,⟨[(ZcV G i)],3,0,false,false⟩,⟨[ag [vi x,vi y,vi z,vi (G.getD i.toNat default).x,vi (G.getD i.toNat default).y,vi (G.getD i.toNat default).z,vi r,vi m.t,vi m.b]],9,0,false,false⟩],[(i==3)==true,0==0,true,true,(!(x==(G.getD i.toNat default).x&&(y==(G.getD i.toNat default).y&&(z==(G.getD i.toNat default).z&&true))))==false,true,true],[],_⟩ (by kernel_rfl) (bc (Zam (i_eq.2 d9)) (bc (beq_self_eq_true _) (bc rfl (bc rfl (bc (Zal (fun h=>d11 ((Zay (Zau i_eq (Zau i_eq (i_at i_eq)))).1 h))) (bc rfl (bc rfl b0))))))) q0 c0 (by (try rw [w19]);all_goals exact Zan [0,1,2] (by kernel_rfl) H)
  ·rcases xq H with ⟨d21,H⟩|⟨d21,H⟩
   ·have w22:(List.map Mo.a o).length=o.length:=List.length_map ..
    have i23:(decide (((List.map Mo.a o).length+1)*72<=1099511627776))=true ↔ ((o.length+1)*72<=1099511627776):=(by (try rw [w22]);all_goals exact Zad)
    obtain ⟨k24,H⟩:=H
    have w25:List.map Mo.a o++[ag [vi x,vi y,vi z,vi (G.getD i.toNat default).x,vi (G.getD i.toNat default).y,vi (G.getD i.toNat default).z,vi 0,vi m.t,vi m.b]]=List.map Mo.a (o++[{ x:=x,y:=y,z:=z,u:=(G.getD i.toNat default).x,v:=(G.getD i.toNat default).y,w:=(G.getD i.toNat default).z,r:=0,t:=m.t,b:=m.b }]):=(Zdd rfl rfl)
    obtain ⟨k26,H⟩:=H
    have w27:wi (i+1)=i+1:=wI64 k26
    exact Zac (G:=Zab kp25 [] []) 1000 [false,true] ⟨(atC (cd Try.f25) [1,1,1,1,1,1,1,1,1,1,1,1,1,0,1,0,0]),[(6,AV.ptr 0 0 0 0),(11,AV.ptr 1 0 0 0),(12,AV.vec false 9 (List.map Mo.a R)),(13,vi r),(16,AV.row 2 (w+1)),(122,AV.vec true 3 (List.map Ps.v G)),(123,vi n),(124,vi (wi (i+1)))],[⟨[(ZcV G i)],3,0,false,false⟩,⟨[(Zgg m)],9,0,false,false⟩,⟨List.map Mo.a o++[ag [vi x,vi y,vi z,vi (G.getD i.toNat default).x,vi (G.getD i.toNat default).y,vi (G.getD i.toNat default).z,vi 0,vi m.t,vi m.b]],9,w+1,false,true⟩,⟨[(ZcV G i)],3,0,false,false⟩,⟨[ag [vi x,vi y,vi z,vi (G.getD i.toNat default).x,vi (G.getD i.toNat default).y,vi (G.getD i.toNat default).z,vi 0,vi m.t,vi m.b]],9,0,false,false⟩],[(i==3)==false,true,true,(!(x==(G.getD i.toNat default).x&&(y==(G.getD i.toNat default).y&&(z==(G.getD i.toNat default).z&&true))))==true,true,w==w,decide (((List.map Mo.a o).length+1)*72<=1099511627776),true,true],[],_⟩ (by kernel_rfl) (bc (Zal (fun h=>d9 (i_eq.1 h))) (bc rfl (bc rfl (bc (Zam ((Zay (Zau i_eq (Zau i_eq (i_at i_eq)))).2 d21)) (bc rfl (bc (beq_self_eq_true _) (bc (i23.2 k24) (bc rfl (bc rfl b0))))))))) q0 c0 (by (try rw [w25]);(try rw [w27]);all_goals exact Zan [0,1,2] (by kernel_rfl) H)
   ·obtain ⟨k28,H⟩:=H
    have w29:wi (i+1)=i+1:=wI64 k28
    exact Zac (G:=Zab kp25 [] []) 1000 [false,false] ⟨(atC (cd Try.f25) [1,1,1,1,1,1,1,1,1,1,1,1,1,0,1,0,0]),[(6,AV.ptr 0 0 0 0),(11,AV.ptr 1 0 0 0),(12,AV.vec false 9 (List.map Mo.a R)),(13,vi r),(16,AV.row 2 w),(122,AV.vec true 3 (List.map Ps.v G)),(123,vi n),(124,vi (wi (i+1)))],[⟨[(ZcV G i)],3,0,false,false⟩,⟨[(Zgg m)],9,0,false,false⟩,⟨List.map Mo.a o,9,w,false,true⟩,⟨[(ZcV G i)],3,0,false,false⟩,⟨[ag [vi x,vi y,vi z,vi (G.getD i.toNat default).x,vi (G.getD i.toNat default).y,vi (G.getD i.toNat default).z,vi 0,vi m.t,vi m.b]],9,0,false,false⟩],_,[],_⟩ (by kernel_rfl) (bc (Zal (fun h=>d9 (i_eq.1 h))) (bc rfl (bc rfl (bc (Zal (fun h=>d21 ((Zay (Zau i_eq (Zau i_eq (i_at i_eq)))).1 h))) (bc rfl (bc rfl b0)))))) q0 c0 (by (try rw [w29]);all_goals exact Zan [0,1,2] (by kernel_rfl) H)
 ·have w30:(List.map Mo.a o).length=o.length:=List.length_map ..
  have w31:(List.map Mo.a R).length=R.length:=List.length_map ..
  have i32:(decide (((List.map Mo.a o).length+(List.map Mo.a R).length)*72<=1099511627776))=true ↔ ((o.length+R.length)*72<=1099511627776):=(by (try rw [w30]);(try rw [w31]);all_goals exact Zad)
  obtain ⟨k33,H⟩:=H
  have w34:List.map Mo.a o++List.map Mo.a R=List.map Mo.a (o++R):=(Zdd rfl rfl)
  exact Zai (G:=Zab kp25 [] []) 1000 [false] (k:=((atC (cd Try.f25) [1,1,1,1,1,1,1,1,1,1,1,1,1,1,1])).tail) (env':=[(8,AV.row 2 (w+1)),(9,vi 0)]) (L':=[⟨[ag [vi x,vi y,vi z]],3,0,false,false⟩,⟨[(Zgg m)],9,0,false,false⟩,⟨List.map Mo.a o++List.map Mo.a R,9,w+1,false,true⟩]) (asm:=[(decide (i<n))==false,w==w,decide (((List.map Mo.a o).length+(List.map Mo.a R).length)*72<=1099511627776)]) (eqs:=[]) (calls:=[]) (tu [AV.row 2 (w+1),vi 0]) (by kernel_rfl) (by kernel_rfl) (Zaa (Zal (fun h=>d2 (Zad.1 h))) (Zaa (beq_self_eq_true _) (Zaa (i32.2 k33) Zae))) Zaf Zag (Zes (d:=(tu [AV.vec false 9 (List.map Mo.a o++List.map Mo.a R),vi 0])) (bs:=[w+1==w+1]) (by kernel_rfl) (by kernel_rfl) (Zaa (beq_self_eq_true _) Zae) (by kernel_rfl) (by (try rw [w34]);all_goals exact H))
end Go.Av

namespace Go.Av
open Go.Proofs
namespace N
def rtD (l:List Mo):Nat->Int
 | 0=>0
 | k+1=>if (l.getD k default).r=0 then rtD l k else (l.getD k default).r
def rsM (l:List Mo) (ix:Int):Mo:=if ix<l.length then l.getD ix.toNat default else l.getD ((l.length:Int)-1).toNat default
def rsB (l:List Mo) (ix x y z:Int):Ps:=if ix<l.length then (l.getD ix.toNat default).src else if (l.length:Int)>0 then (l.getD ((l.length:Int)-1).toNat default).dst else ⟨x,y,z⟩
def rsR (l:List Mo) (ix:Int):Int:=rtD l ((if (l.length:Int)-1<ix then (l.length:Int)-1 else ix)+1).toNat
def legs (m:Mo) (r:Int):Int->Ps->List Ps->List Mo
 | _,_,[]=>[]
 | i,p,q::ps=>⟨p.x,p.y,p.z,q.x,q.y,q.z,if i=3 then r else 0,m.t,m.b⟩::legs m r (i+1) q ps
def rsW (x y s:Int) (b:Ps):List Ps:=[⟨x,y,s⟩,⟨b.x,b.y,s⟩,⟨b.x,b.y,if 1000>b.z then 1000 else b.z⟩,b]
def rsX (z bz:Int):Int:=if 1000>if bz>z then bz else z then 1000 else if bz>z then bz else z
def rsE (l:List Mo) (ix x y z s:Int):Int:=if ix<0\/ix>(l.length:Int) then 1 else if s<rsX z (rsB l ix x y z).z then 1 else if (⟨x,y,z⟩:Ps)=rsB l ix x y z then 0 else if (rsB l ix x y z).z<1000/\rsR l ix=0 then 13 else 0
def rsF (l:List Mo) (ix x y z s:Int):List Mo:=if (⟨x,y,z⟩:Ps)=rsB l ix x y z then [] else lng (legs (rsM l ix) (rsR l ix) 0 ⟨x,y,z⟩ (rsW x y s (rsB l ix x y z)))
def rsL (l:List Mo) (ix x y z s:Int):List Mo:=if rsE l ix x y z s=0 then rsF l ix x y z s++l.drop ix.toNat else []
end N
theorem Zfz (p q:Ps):(p.x=q.x/\(p.y=q.y/\p.z=q.z)) ↔ p=q:=by
 obtain ⟨a,b,c⟩:=p
 obtain ⟨d,e,f⟩:=q
 constructor
 ·rintro ⟨h1,h2,h3⟩;simp only at h1 h2 h3;rw [h1,h2,h3]
 ·intro h;cases h;exact ⟨rfl,rfl,rfl⟩
theorem lng_cons (m:Mo) (l:List Mo):N.lng (m::l)=if m.src=m.dst then N.lng l else m::N.lng l:=by
 unfold N.lng
 by_cases h:m.src=m.dst
 ·rw [if_pos h,List.filter_cons_of_neg (by simp [h])]
 ·rw [if_neg h,List.filter_cons_of_pos (by simp [h])]
theorem legs_step (m:Mo) (r i:Int) (p q:Ps) (ps:List Ps):N.lng (N.legs m r i p (q::ps))=if p=q then N.lng (N.legs m r (i+1) q ps) else ⟨p.x,p.y,p.z,q.x,q.y,q.z,if i=3 then r else 0,m.t,m.b⟩::N.lng (N.legs m r (i+1) q ps):=by
 rw [N.legs,lng_cons];rfl
section
variable {f:Bool} {l:List Mo} {s x y z bx by_ bz:Int} {m:Mo} {R:List Mo} {dq:AV}
theorem rtL_loop:∀ (k:Nat) (i r:Int),i+1=k->i<l.length->(((bz<1000/\(if r=0 then N.rtD l k else r)=0)->Weak (.tup [.vnil,.int .i64 13]) dq)/\(¬(bz<1000/\(if r=0 then N.rtD l k else r)=0)->Zgw x y z m R (if r=0 then N.rtD l k else r) (N.rsW x y s ⟨bx,by_,bz⟩) 4 0 (Zaj dq)))->l.length<=1000000000->Zfs f l s x y z bx by_ bz m R r i (Zaj dq):=by
 intro k
 induction k with
 | zero =>
  intro i r hi hl h hn
  have e:(if r=0 then N.rtD l 0 else r)=r:=by
   split
   ·rename_i h0;rw [h0];rfl
   ·rfl
  rw [e] at h
  exact rtL _ _ _ _ _ _ _ _ _ _ _ _ _ _ ⟨fun y=>absurd y.1 (by omega),fun _=>⟨h.1,h.2⟩⟩
 | succ k ih =>
  intro i r hi hl h hn
  by_cases h0:r=0
  ·refine rtL _ _ _ _ _ _ _ _ _ _ _ _ _ _ ⟨fun _=>⟨by omega,by omega,by omega,ih (i-1) _ (by omega) (by omega) ?_ hn⟩,fun y=>absurd ⟨by omega,h0⟩ y⟩
   rw [if_pos h0] at h
   have e:N.rtD l (k+1)=if (l.getD i.toNat default).r=0 then N.rtD l k else (l.getD i.toNat default).r:=by rw [show i.toNat=k by omega];rfl
   rw [e] at h
   exact h
  ·rw [if_neg h0] at h
   exact rtL _ _ _ _ _ _ _ _ _ _ _ _ _ _ ⟨fun y=>absurd y.2 h0,fun _=>⟨h.1,h.2⟩⟩
theorem rtR_loop {r:Int} {G:List Ps} (hG:G.length=4) (hR:R.length<=1000000):∀ (k:Nat) (i:Int) (p:Ps) (o:List Mo) (w:Nat),0<=i->i+k=4->o.length<=8-k->Weak (.tup [.vec false 9 ((o++(N.lng (N.legs m r i p (G.drop i.toNat))++R)).map Mo.a),.int .i64 0]) dq->Zd5 p.x p.y p.z m R r G 4 i o w (Zaj dq):=by
 intro k
 induction k with
 | zero =>
  intro i p o w h0 hi ho h
  rw [List.drop_eq_nil_of_le (by omega)] at h
  exact rtR _ _ _ _ _ _ _ _ _ _ _ _ ⟨fun y=>absurd y (by omega),fun _=>⟨by omega,h⟩⟩
 | succ k ih =>
  intro i p o w h0 hi ho h
  have hd:G.drop i.toNat=G.getD i.toNat default::G.drop (i+1).toNat:=by
   rw [show (i+1).toNat=i.toNat+1 by omega,List.drop_eq_getElem_cons (by omega),List.getD_eq_getElem?_getD,List.getElem?_eq_getElem (by omega)];rfl
  rw [hd,legs_step] at h
  refine rtR _ _ _ _ _ _ _ _ _ _ _ _ ⟨fun _=>⟨h0,by omega,fun h3=>⟨fun hc=>⟨by omega,by omega,?_⟩,fun hc=>⟨by omega,?_⟩⟩,fun h3=>⟨fun hc=>⟨by omega,by omega,?_⟩,fun hc=>⟨by omega,?_⟩⟩⟩,fun y=>absurd (by omega) y⟩
  ·rw [if_neg (show ¬p=G.getD i.toNat default from fun y=>hc ((Zfz p (G.getD i.toNat default)).2 y)),if_pos h3] at h
   refine ih (i+1) (G.getD i.toNat default) _ (w+1) (by omega) (by omega) (by rw [List.length_append,List.length_singleton];omega) ?_
   rw [List.append_assoc];exact h
  ·have hc:=(Zfz p (G.getD i.toNat default)).1 (Classical.not_not.1 hc)
   rw [if_pos hc] at h
   exact ih (i+1) (G.getD i.toNat default) o w (by omega) (by omega) (by omega) h
  ·rw [if_neg (show ¬p=G.getD i.toNat default from fun y=>hc ((Zfz p (G.getD i.toNat default)).2 y)),if_neg h3] at h
   refine ih (i+1) (G.getD i.toNat default) _ (w+1) (by omega) (by omega) (by rw [List.length_append,List.length_singleton];omega) ?_
   rw [List.append_assoc];exact h
  ·have hc:=(Zfz p (G.getD i.toNat default)).1 (Classical.not_not.1 hc)
   rw [if_pos hc] at h
   exact ih (i+1) (G.getD i.toNat default) o w (by omega) (by omega) (by omega) h
theorem rtN_loop {r:Int} {G:List Ps} (hG:G.length=4) (hR:R.length<=1000000) {p:Ps} (hne:¬p=G.getD 3 default):∀ (k:Nat) (i:Int),0<=i->i+k=4->(1<=i->p=G.getD (i-1).toNat default)->Weak (.tup [.vec false 9 ((N.lng (N.legs m r i p (G.drop i.toNat))++R).map Mo.a),.int .i64 0]) dq->Zgw p.x p.y p.z m R r G 4 i (Zaj dq):=by
 intro k
 induction k with
 | zero =>
  intro i h0 hi hp h
  exact absurd (by rw [hp (by omega)];congr 1;omega) hne
 | succ k ih =>
  intro i h0 hi hp h
  have hd:G.drop i.toNat=G.getD i.toNat default::G.drop (i+1).toNat:=by
   rw [show (i+1).toNat=i.toNat+1 by omega,List.drop_eq_getElem_cons (by omega),List.getD_eq_getElem?_getD,List.getElem?_eq_getElem (by omega)];rfl
  rw [hd,legs_step] at h
  refine rtN _ _ _ _ _ _ _ _ _ _ ⟨fun _=>⟨h0,by omega,fun h3=>⟨fun hc=>⟨by omega,?_⟩,fun hc=>⟨by omega,?_⟩⟩,fun h3=>⟨fun hc=>⟨by omega,?_⟩,fun hc=>⟨by omega,?_⟩⟩⟩,fun y=>absurd (by omega) y⟩
  ·rw [if_neg (show ¬p=G.getD i.toNat default from fun y=>hc ((Zfz p (G.getD i.toNat default)).2 y)),if_pos h3] at h
   exact rtR_loop hG hR k (i+1) (G.getD i.toNat default) _ 0 (by omega) (by omega) (by simp;omega) h
  ·have hc:=(Zfz p (G.getD i.toNat default)).1 (Classical.not_not.1 hc)
   rw [if_pos hc,<- hc] at h
   rw [<- hc]
   exact ih (i+1) (by omega) (by omega) (fun _=>by rw [show (i+1-1).toNat=i.toNat by omega];exact hc) h
  ·rw [if_neg (show ¬p=G.getD i.toNat default from fun y=>hc ((Zfz p (G.getD i.toNat default)).2 y)),if_neg h3] at h
   exact rtR_loop hG hR k (i+1) (G.getD i.toNat default) _ 0 (by omega) (by omega) (by simp;omega) h
  ·have hc:=(Zfz p (G.getD i.toNat default)).1 (Classical.not_not.1 hc)
   rw [if_pos hc,<- hc] at h
   rw [<- hc]
   exact ih (i+1) (by omega) (by omega) (fun _=>by rw [show (i+1-1).toNat=i.toNat by omega];exact hc) h
end
theorem rs_err {l:List Mo} {ix x y z s e:Int} (h:N.rsE l ix x y z s=e) (he:¬e=0):Weak (.tup [.vnil,.int .i64 e]) (.tup [.vec false 9 ((N.rsL l ix x y z s).map Mo.a),.int .i64 (N.rsE l ix x y z s)]):=by
 have hL:N.rsL l ix x y z s=[]:=by unfold N.rsL;rw [if_neg (by rw [h];exact he)]
 rw [hL,h]
 exact ZcW (.vnil 9) (.refl _)
theorem rs_two {f:Bool} {l:List Mo} {ix x y z s:Int} (hl:l.length<=1000000) (h0:¬(ix<0\/ix>(l.length:Int))) (hs:¬s<N.rsX z (N.rsB l ix x y z).z) (hb:¬(⟨x,y,z⟩:Ps)=N.rsB l ix x y z):Zfs f l s x y z (N.rsB l ix x y z).x (N.rsB l ix x y z).y (N.rsB l ix x y z).z (N.rsM l ix) (l.drop ix.toNat) 0 (if (l.length:Int)-1<ix then (l.length:Int)-1 else ix) (Zaj (.tup [.vec false 9 ((N.rsL l ix x y z s).map Mo.a),.int .i64 (N.rsE l ix x y z s)])):=by
 have hn:0<l.length:=by
  refine Nat.pos_of_ne_zero fun y=>hb ?_
  unfold N.rsB
  rw [if_neg (by omega),if_neg (by omega)]
 refine rtL_loop ((if (l.length:Int)-1<ix then (l.length:Int)-1 else ix)+1).toNat _ _ (by split <;> omega) (by split <;> omega) ?_ (by omega)
 rw [if_pos rfl]
 have hE:¬(((N.rsB l ix x y z).z<1000)/\N.rsR l ix=0)->N.rsE l ix x y z s=0:=fun h=>by unfold N.rsE;rw [if_neg h0,if_neg hs,if_neg hb,if_neg h]
 refine ⟨fun h=>rs_err ?_ (by decide),fun h => ?_⟩
 ·unfold N.rsE;rw [if_neg h0,if_neg hs,if_neg hb];exact if_pos h
 ·refine rtN_loop (p:=⟨x,y,z⟩) (by rfl) (by rw [List.length_drop];omega) (by exact hb) 4 0 (by omega) (by omega) (fun y=>absurd y (by decide)) ?_
  have e1:=hE h
  have e2:N.rsL l ix x y z s=N.lng (N.legs (N.rsM l ix) (N.rsR l ix) 0 ⟨x,y,z⟩ (N.rsW x y s (N.rsB l ix x y z)))++l.drop ix.toNat:=by unfold N.rsL;rw [if_pos e1];unfold N.rsF;rw [if_neg hb]
  rw [e1,e2,Int.toNat_zero,List.drop_zero]
  exact .refl _
theorem ev25 (f:Bool) (l:List Mo) (ix x y z s:Int) (h:l.length<=1000000):Ev M1 (.pure 25 [.vec f 9 (l.map Mo.a),.int .i64 ix,.agg [.int .i64 x,.int .i64 y,.int .i64 z],.int .i64 s]) (.tup [.vec false 9 ((N.rsL l ix x y z s).map Mo.a),.int .i64 (N.rsE l ix x y z s)]) []:=by
 refine call25 (rtA f l ix x y z s _ ⟨fun h0=>rs_err (by unfold N.rsE;rw [if_pos h0]) (by decide),fun h0 => ?_⟩)
 have hlm:∀ i,N.Zdy (l.drop i):=fun i=>by unfold N.Zdy;rw [List.length_drop];omega
 rw [List.take_length]
 have hz:∀ b:Ps,N.rsB l ix x y z=b->(s<N.rsX z b.z->Weak (.tup [.vnil,.int .i64 1]) (.tup [.vec false 9 ((N.rsL l ix x y z s).map Mo.a),.int .i64 (N.rsE l ix x y z s)])):=fun b hb h1=>rs_err (by unfold N.rsE;rw [if_neg h0,hb,if_pos h1]) (by decide)
 have hq:∀ b:Ps,N.rsB l ix x y z=b->¬s<N.rsX z b.z->(x=b.x/\(y=b.y/\z=b.z))->Weak (.tup [.vec false 9 ((l.drop ix.toNat).map Mo.a),.int .i64 0]) (.tup [.vec false 9 ((N.rsL l ix x y z s).map Mo.a),.int .i64 (N.rsE l ix x y z s)]):=fun b hb h1 h2=>by
  have h2:(⟨x,y,z⟩:Ps)=b:=(Zfz ⟨x,y,z⟩ b).1 h2
  have e1:N.rsE l ix x y z s=0:=by unfold N.rsE;rw [if_neg h0,hb,if_neg h1,if_pos h2]
  have e2:N.rsL l ix x y z s=l.drop ix.toNat:=by unfold N.rsL;rw [if_pos e1];unfold N.rsF;rw [hb,if_pos h2];rfl
  rw [e1,e2];exact .refl _
 refine ⟨fun h1=>⟨by omega,by omega,?_,fun h2=>⟨hlm _,by omega,?_,fun h3=>⟨by omega,?_⟩⟩⟩,fun h1=>⟨fun h2=>⟨by omega,by omega,by omega,?_,fun h3=>⟨hlm _,by omega,by omega,?_,fun h4 => ?_⟩⟩,fun h2=>⟨?_,fun h3=>⟨hlm _,by omega,by omega,?_,fun h4=>absurd ⟨rfl,rfl,rfl⟩ h4⟩⟩⟩⟩
 ·exact hz (l.getD ix.toNat default).src (by unfold N.rsB;rw [if_pos h1])
 ·exact hq (l.getD ix.toNat default).src (by unfold N.rsB;rw [if_pos h1]) h2
 ·have e1:N.rsB l ix x y z=(l.getD ix.toNat default).src:=by unfold N.rsB;rw [if_pos h1]
  have e2:N.rsM l ix=l.getD ix.toNat default:=by unfold N.rsM;rw [if_pos h1]
  have:=rs_two (f:=f) (x:=x) (y:=y) (z:=z) (s:=s) h h0 (by rw [e1];exact h2) (by rw [e1];exact fun y=>h3 ((Zfz _ (l.getD ix.toNat default).src).2 y))
  rw [e1,e2] at this
  exact this
 ·exact hz (l.getD ((l.length:Int)-1).toNat default).dst (by unfold N.rsB;rw [if_neg h1,if_pos h2])
 ·exact hq (l.getD ((l.length:Int)-1).toNat default).dst (by unfold N.rsB;rw [if_neg h1,if_pos h2]) h3
 ·have e1:N.rsB l ix x y z=(l.getD ((l.length:Int)-1).toNat default).dst:=by unfold N.rsB;rw [if_neg h1,if_pos h2]
  have e2:N.rsM l ix=l.getD ((l.length:Int)-1).toNat default:=by unfold N.rsM;rw [if_neg h1]
  have:=rs_two (f:=f) (x:=x) (y:=y) (z:=z) (s:=s) h h0 (by rw [e1];exact h3) (by rw [e1];exact fun y=>h4 ((Zfz _ (l.getD ((l.length:Int)-1).toNat default).dst).2 y))
  rw [e1,e2] at this
  exact this
 ·exact hz ⟨x,y,z⟩ (by unfold N.rsB;rw [if_neg h1,if_neg h2])
 ·exact hq ⟨x,y,z⟩ (by unfold N.rsB;rw [if_neg h1,if_neg h2]) h3
end Go.Av

namespace Go.Av
open Go.Proofs
namespace N
def big (S A j:Int):Prop:=Zbv S A j/\20<=S/\20<=A/\40<=j
def rtO (r:Int):Prop:=(0<=r/\r<=32767000)/\(r=0\/20000<=r)
def rts (l:List Mo):Prop:=∀ i,i<l.length->rtO (l.getD i default).r
def cd (c:Int) (p:Ps):Prop:=(-c<=p.x/\p.x<=c)/\(-c<=p.y/\p.y<=c) /\ -c<=p.z/\p.z<=c
end N
theorem lm_big {S A j r:Int} (h:N.big S A j) (hr:N.rtO r):N.Zbv (N.lm r S) A j/\20<=N.sim (N.lm r S) A j:=by
 obtain ⟨hl,h1,h2,h3⟩:=h
 obtain ⟨h4,h5⟩:=hr
 have hl':=hl
 unfold N.Zbv at hl'
 have hj:j.tdiv 2=j / 2:=Int.tdiv_eq_ediv_of_nonneg (by omega)
 have hlm:20<=N.lm r S/\N.lm r S<=S:=by
  unfold N.lm
  by_cases hp:r>0
  ·rw [if_pos hp,Int.tdiv_eq_ediv_of_nonneg (by omega)]
   split <;> omega
  ·rw [if_neg hp];omega
 refine ⟨by unfold N.Zbv;omega,?_⟩
 unfold N.sim
 omega
theorem tk_few {S A j r n:Int} (h:N.big S A j) (hr:N.rtO r) (hn:0<=n/\n<=400000):N.tkE (N.lm r S) A j n=0/\0<=N.tkV (N.lm r S) A j n/\N.tkV (N.lm r S) A j n<=(n+19) / 20:=by
 obtain ⟨h1,h2⟩:=lm_big h hr
 have hE:N.tkE (N.lm r S) A j n=0:=by
  unfold N.tkE
  rw [if_neg,if_neg (by omega)]
  rintro (y | y)
  ·exact y (ZdE.2 h1)
  ·omega
 obtain ⟨⟨h3,_⟩,_,h4⟩:=tkV_ok hE
 refine ⟨hE,h3,?_⟩
 by_cases h0:N.tkV (N.lm r S) A j n=0
 ·omega
 ·have:(N.tkV (N.lm r S) A j n-1)*20<=(N.tkV (N.lm r S) A j n-1)*N.sim (N.lm r S) A j:=Int.mul_le_mul_of_nonneg_left h2 (by omega)
  omega
theorem st_few {S A j r n:Int} (h:N.big S A j) (hr:N.rtO r) (hn:0<=n/\n<=400000):N.stE (N.lm r S) A j n=0:=by
 obtain ⟨h1,h2,h3⟩:=tk_few h hr hn
 unfold N.stE
 rw [if_neg fun y=>y h1,if_neg (by omega)]
theorem rts_good {l:List Mo} {S A j:Int} (h:N.big S A j) (hr:N.rts l):N.good l S A j:=fun i hi=>by
 have h1:=hr i hi
 refine ⟨?_,fun n h2 h3=>st_few h h1 ⟨h2,h3⟩⟩
 have:=h1.1
 unfold N.okR
 omega
theorem rts_ck {l:List Mo} {S A j:Int} (h:N.big S A j) (ht:N.okT l) (hn:l.length<=20000) (hr:N.rts l):N.okCk l S A j:=⟨⟨ht,hn⟩,h.1,rts_good h hr,fun i hi=>(hr i hi).1.1⟩
theorem trB_iff {W:List Wy} {S A j:Int}:N.trB W S A j=true ↔ W.length<=6/\N.big S A j:=by
 unfold N.trB N.big
 rw [decide_eq_true_iff]
 constructor
 ·intro h
  have h1:N.vlE S A j=0:=Classical.byContradiction fun y=>h (.inl (.inl (.inl (.inr y))))
  have h2:=ZdE.1 h1
  refine ⟨?_,h2,?_,?_,?_⟩
  ·exact Classical.byContradiction fun y=>h (.inl (.inl (.inl (.inl (by omega)))))
  ·exact Int.not_lt.1 fun y=>h (.inl (.inl (.inr y)))
  ·exact Int.not_lt.1 fun y=>h (.inl (.inr y))
  ·exact Int.not_lt.1 fun y=>h (.inr y)
 ·rintro ⟨h1,h2,h3,h4,h5⟩
  rintro ((((y | y) | y) | y) | y)
  ·omega
  ·exact y (ZdE.2 h2)
  ·omega
  ·omega
  ·omega
structure TrOk (l:List Mo):Prop where
 t:N.okT l
 n:l.length<=6
 r:N.rts l
 b:N.hasB l
 m:∀ i,i<l.length->N.ml (l.getD i default)<=1200
 c:∀ i,i<l.length->N.cd 36400 (l.getD i default).src/\N.cd 36400 (l.getD i default).dst
theorem trL_ok {x y z:Int} {W:List Wy} {S A j:Int} (h:N.okTr x y z W) (hb:N.trB W S A j=true):TrOk (N.trL x y z W S A j):=by
 obtain ⟨hp,hW⟩:=h
 obtain ⟨hn,_⟩:=trB_iff.1 hb
 unfold N.trL
 rw [if_pos hb]
 have hlen:=moL_len ⟨x,y,z⟩ W W.length
 have hc:∀ i,i<=6->_:=fun i=>atW_bd (p:=⟨x,y,z⟩) (W:=W) hp i
 have hcd:∀ i,i<W.length->N.cd 36400 (N.moW ⟨x,y,z⟩ W i).src/\N.cd 36400 (N.moW ⟨x,y,z⟩ W i).dst:=fun i hi=>by
  have h1:=hc i (by omega)
  have h2:=hc (i+1) (by omega)
  unfold N.cd N.moW Mo.src Mo.dst
  simp only
  omega
 have hm:∀ i,i<W.length->N.ml (N.moW ⟨x,y,z⟩ W i)<=1200:=fun i hi=>by
  have h1:=ZeS (W.getD i default).x
  have h2:=ZeS (W.getD i default).y
  have h3:=ZeS (W.getD i default).z
  refine Int.le_trans (ml_bd (B:=599) (by omega) ?_ ?_ ?_) (by omega)
  ·show -599<=((N.atW ⟨x,y,z⟩ W i).x+(W.getD i default).x.tmod 600)-(N.atW ⟨x,y,z⟩ W i).x/\((N.atW ⟨x,y,z⟩ W i).x+(W.getD i default).x.tmod 600)-(N.atW ⟨x,y,z⟩ W i).x<=599
   omega
  ·show -599<=((N.atW ⟨x,y,z⟩ W i).y+(W.getD i default).y.tmod 600)-(N.atW ⟨x,y,z⟩ W i).y/\((N.atW ⟨x,y,z⟩ W i).y+(W.getD i default).y.tmod 600)-(N.atW ⟨x,y,z⟩ W i).y<=599
   omega
  ·show -599<=((N.atW ⟨x,y,z⟩ W i).z+(W.getD i default).z.tmod 600)-(N.atW ⟨x,y,z⟩ W i).z/\((N.atW ⟨x,y,z⟩ W i).z+(W.getD i default).z.tmod 600)-(N.atW ⟨x,y,z⟩ W i).z<=599
   omega
 refine ⟨⟨⟨by omega,fun i hi => ?_⟩,fun i hi => ?_⟩,by omega,fun i hi => ?_,fun i hi => ?_,fun i hi => ?_,fun i hi => ?_⟩
 ·rw [ZdJ _ _ (by omega)]
  obtain ⟨h1,h2⟩:=hcd i (by omega)
  unfold N.cd Mo.src at h1
  unfold N.cd Mo.dst at h2
  simp only at h1 h2
  unfold N.okM
  omega
 ·rw [ZdJ _ _ (by omega),ZdJ _ _ (by omega)];rfl
 ·rw [ZdJ _ _ (by omega)]
  have:=wyR_bd (r:=(W.getD i default).r) (hW _ (by
   rw [List.getD_eq_getElem?_getD,List.getElem?_eq_getElem (by omega)]
   exact List.getElem_mem _))
  exact ⟨⟨this.1,this.2.1⟩,this.2.2⟩
 ·rw [ZdJ _ _ (by omega)];rfl
 ·rw [ZdJ _ _ (by omega)];exact hm i (by omega)
 ·rw [ZdJ _ _ (by omega)];exact hcd i (by omega)
theorem sum_le {l:List Mo} {c:Int}:(∀ i,i<l.length->N.ml (l.getD i default)<=c)->(l.map N.ml).sum<=c*l.length:=by
 induction l with
 | nil=>intro _;simp
 | cons m l ih =>
  intro h
  have h1:=h 0 (by simp)
  have h2:=ih fun i hi=>by have:=h (i+1) (by simp;omega);simpa using this
  rw [List.map_cons,List.sum_cons,List.length_cons]
  have:c*((l.length+1:Nat):Int)=c+c*l.length:=by rw [Int.natCast_add,Int.mul_add];omega
  rw [this]
  have h3:N.ml m<=c:=by simpa using h1
  omega
theorem tr_D {l:List Mo} (h:TrOk l):N.D l 0 0<=7200:=by
 have h1:=sum_le h.m
 have h2:=h.n
 unfold N.D
 rw [Int.toNat_zero,List.drop_zero]
 omega
end Go.Av

namespace Go.Av
open Go.Proofs
namespace N
def ch:Ps->List Mo->Prop
 | _,[]=>True
 | p,m::l=>m.src=p/\ch m.dst l
def en (p:Ps) (l:List Mo):Ps:=l.foldl (fun _ m=>m.dst) p
noncomputable def tb (m:Mo):Int:=(ml m+19) / 20
noncomputable def TB (l:List Mo):Int:=(l.map tb).sum
end N
theorem en_app (p:Ps) (A B:List Mo):N.en p (A++B)=N.en (N.en p A) B:=List.foldl_append
theorem en_snoc (p:Ps) (A:List Mo) (m:Mo):N.en p (A++[m])=m.dst:=by rw [en_app];rfl
theorem ch_app (B:List Mo):∀ (A:List Mo) (p:Ps),N.ch p (A++B) ↔ N.ch p A/\N.ch (N.en p A) B
 | [],p=>⟨fun h=>⟨trivial,h⟩,fun h=>h.2⟩
 | m::A,p=>by
  have:=ch_app B A m.dst
  exact ⟨fun h=>⟨⟨h.1,(this.1 h.2).1⟩,(this.1 h.2).2⟩,fun h=>⟨h.1.1,this.2 ⟨h.1.2,h.2⟩⟩⟩
theorem ch_lng:∀ (A:List Mo) (p:Ps),N.ch p A->N.ch p (N.lng A)/\N.en p (N.lng A)=N.en p A
 | [],_,_=>⟨trivial,rfl⟩
 | m::A,p,h=>by
  obtain ⟨h1,h2⟩:=ch_lng A m.dst h.2
  rw [lng_cons]
  by_cases hc:m.src=m.dst
  ·rw [if_pos hc]
   have e:p=m.dst:=by rw [<- h.1,hc]
   subst e
   exact ⟨h1,h2⟩
  ·rw [if_neg hc]
   exact ⟨⟨h.1,h1⟩,h2⟩
theorem ch_get:∀ (l:List Mo) (p:Ps) (i:Nat),N.ch p l->i<l.length->(l.getD i default).src=N.en p (l.take i)
 | [],_,_,_,h=>by simp at h
 | m::l,p,0,h,_=>h.1
 | m::l,p,i+1,h,hi=>ch_get l m.dst i h.2 (by simpa using hi)
theorem en_enP (x y z:Int) (l:List Mo):N.enP x y z l=N.en ⟨x,y,z⟩ l:=by
 unfold N.enP
 rcases List.eq_nil_or_concat l with e | ⟨X,q,e⟩
 ·subst e;rfl
 ·rw [List.concat_eq_append] at e
  subst e
  have hn:(X++[q]).length=X.length+1:=by rw [List.length_append,List.length_singleton]
  rw [if_neg (by omega),en_snoc,show (((X++[q]).length:Int)-1).toNat=X.length by omega,List.getD_eq_getElem?_getD,List.getElem?_append_right (Nat.le_refl _),Nat.sub_self];rfl
theorem ch_conn {x y z:Int} {l:List Mo} (h:N.ch ⟨x,y,z⟩ l):N.conn x y z l:=fun i hi=>by rw [en_enP];exact ch_get l _ i h hi
theorem ch_chain {p:Ps} {l:List Mo} (h:N.ch p l):N.chain l:=fun i hi=>by
 rw [ch_get l p (i+1) h hi,ZbO (L:=l) (by omega),en_snoc]
theorem chain_ch {l:List Mo} (hc:N.chain l):∀ (k i:Nat),i+k=l.length->N.ch (N.pos l i) (l.drop i)
 | 0,i,h=>by rw [List.drop_eq_nil_of_le (by omega)];trivial
 | k+1,i,h=>by
  have hd:l.drop i=l.getD i default::l.drop (i+1):=by
   rw [List.drop_eq_getElem_cons (by omega),List.getD_eq_getElem?_getD,List.getElem?_eq_getElem (by omega)];rfl
  rw [hd]
  refine ⟨?_,?_⟩
  ·unfold N.pos;rw [if_pos (by omega)]
  ·rw [<- Ze4 hc (by omega)]
   exact chain_ch hc k (i+1) (by omega)
theorem rsB_ch {l:List Mo} (hc:N.chain l) {ix:Int} (x y z:Int) (h:0<=ix/\ix<=l.length):N.ch (N.rsB l ix x y z) (l.drop ix.toNat):=by
 by_cases hn:l.length=0
 ·rw [List.drop_eq_nil_of_le (by omega)];trivial
 ·have e:N.rsB l ix x y z=N.pos l ix.toNat:=by
   unfold N.rsB N.pos
   by_cases h1:ix<l.length
   ·rw [if_pos h1,if_pos (by omega)]
   ·rw [if_neg h1,if_pos (by omega),if_neg (by omega),show ((l.length:Int)-1).toNat=l.length-1 by omega]
  rw [e]
  exact chain_ch hc (l.length-ix.toNat) ix.toNat (by omega)
theorem legs4 (m:Mo) (r x y z s:Int) (b:Ps):N.legs m r 0 ⟨x,y,z⟩ (N.rsW x y s b)=[⟨x,y,z,x,y,s,0,m.t,m.b⟩,⟨x,y,s,b.x,b.y,s,0,m.t,m.b⟩,⟨b.x,b.y,s,b.x,b.y,if 1000>b.z then 1000 else b.z,0,m.t,m.b⟩,⟨b.x,b.y,if 1000>b.z then 1000 else b.z,b.x,b.y,b.z,r,m.t,m.b⟩]:=rfl
theorem Zd6 {l:List Mo} {ix x y z s:Int} (hE:N.rsE l ix x y z s=0):N.rsL l ix x y z s=N.rsF l ix x y z s++l.drop ix.toNat:=by unfold N.rsL;rw [if_pos hE]
theorem rsF_ch (l:List Mo) (ix x y z s:Int):N.ch ⟨x,y,z⟩ (N.rsF l ix x y z s)/\N.en ⟨x,y,z⟩ (N.rsF l ix x y z s)=N.rsB l ix x y z:=by
 unfold N.rsF
 by_cases h:(⟨x,y,z⟩:Ps)=N.rsB l ix x y z
 ·rw [if_pos h];exact ⟨trivial,h⟩
 ·rw [if_neg h,legs4]
  have h1:N.ch ⟨x,y,z⟩ [⟨x,y,z,x,y,s,0,(N.rsM l ix).t,(N.rsM l ix).b⟩,⟨x,y,s,(N.rsB l ix x y z).x,(N.rsB l ix x y z).y,s,0,(N.rsM l ix).t,(N.rsM l ix).b⟩,⟨(N.rsB l ix x y z).x,(N.rsB l ix x y z).y,s,(N.rsB l ix x y z).x,(N.rsB l ix x y z).y,if 1000>(N.rsB l ix x y z).z then 1000 else (N.rsB l ix x y z).z,0,(N.rsM l ix).t,(N.rsM l ix).b⟩,⟨(N.rsB l ix x y z).x,(N.rsB l ix x y z).y,if 1000>(N.rsB l ix x y z).z then 1000 else (N.rsB l ix x y z).z,(N.rsB l ix x y z).x,(N.rsB l ix x y z).y,(N.rsB l ix x y z).z,N.rsR l ix,(N.rsM l ix).t,(N.rsM l ix).b⟩]:=⟨rfl,rfl,rfl,rfl,trivial⟩
  obtain ⟨h2,h3⟩:=ch_lng _ _ h1
  exact ⟨h2,h3.trans rfl⟩
theorem rs_ch {l:List Mo} (hc:N.chain l) {ix x y z s:Int} (h:0<=ix/\ix<=l.length) (hE:N.rsE l ix x y z s=0):N.ch ⟨x,y,z⟩ (N.rsL l ix x y z s):=by
 obtain ⟨h1,h2⟩:=rsF_ch l ix x y z s
 rw [Zd6 hE]
 exact (ch_app _ _ _).2 ⟨h1,by rw [h2];exact rsB_ch hc x y z h⟩
theorem rsF_len (l:List Mo) (ix x y z s:Int):(N.rsF l ix x y z s).length<=4:=by
 unfold N.rsF
 split
 ·simp
 ·exact Nat.le_trans (lng_len _) (by rw [legs4];simp)
theorem ml_le {m:Mo} {B:Int} (hB:0<=B) (h:(m.u-m.x)*(m.u-m.x)+(m.v-m.y)*(m.v-m.y)+(m.w-m.z)*(m.w-m.z)<=B*B):N.ml m<=B:=by
 obtain ⟨a1,a2,a3⟩:=ml_isC m
 apply Classical.byContradiction
 intro hn
 rcases a3 with a3 | a3
 ·omega
 ·have:=Int.mul_le_mul (show B<=N.ml m-1 by omega) (show B<=N.ml m-1 by omega) hB (by omega)
  omega
theorem sq_le {d B:Int} (h:-B<=d/\d<=B):d*d<=B*B:=by
 rcases Int.lt_or_le d 0 with k | k
 ·have:=Int.mul_le_mul (show -d<=B by omega) (show -d<=B by omega) (by omega) (by omega)
  rwa [Int.neg_mul_neg] at this
 ·exact Int.mul_le_mul h.2 h.2 k (by omega)
theorem ml_up {m:Mo} {B:Int} (h1:m.u=m.x) (h2:m.v=m.y) (h3:-B<=m.w-m.z/\m.w-m.z<=B):N.ml m<=B:=by
 refine ml_le (by omega) ?_
 have:=sq_le h3
 rw [h1,h2,Int.sub_self,Int.sub_self]
 omega
theorem tb_nn (m:Mo):0<=N.tb m:=by
 have:=ZeL m
 unfold N.tb;omega
theorem ZcP (m:Mo) (l:List Mo):N.TB (m::l)=N.tb m+N.TB l:=by unfold N.TB;rw [List.map_cons,List.sum_cons]
theorem TB_app (A B:List Mo):N.TB (A++B)=N.TB A+N.TB B:=by unfold N.TB;rw [List.map_append,List.sum_append]
theorem TB_nn:∀ l:List Mo,0<=N.TB l
 | []=>Int.le_refl _
 | m::l=>by rw [ZcP];have:=TB_nn l;have:=tb_nn m;omega
theorem TB_lng:∀ l:List Mo,N.TB (N.lng l)<=N.TB l
 | []=>Int.le_refl _
 | m::l=>by
  have h:=TB_lng l
  have:=tb_nn m
  rw [lng_cons,ZcP]
  split
  ·omega
  ·rw [ZcP];omega
theorem TB_le {l:List Mo} {c:Int} (h:∀ m ∈ l,N.tb m<=c):N.TB l<=c*l.length:=by
 induction l with
 | nil=>exact Int.le_of_eq (by rw [List.length_nil];show (0:Int)=c*0;omega)
 | cons m l ih =>
  have h1:=h m (List.mem_cons_self ..)
  have h2:=ih fun x hx=>h x (List.mem_cons_of_mem _ hx)
  rw [ZcP,List.length_cons,Int.natCast_add,Int.mul_add]
  omega
theorem ZfL {l:List Mo} {i:Nat} (h:i<l.length):l.getD i default ∈ l:=by
 rw [List.getD_eq_getElem?_getD,List.getElem?_eq_getElem h]
 exact List.getElem_mem _
theorem mem_getD {l:List Mo} {m:Mo} (h:m ∈ l):∃ i,i<l.length/\l.getD i default=m:=by
 obtain ⟨i,hi,e⟩:=List.getElem_of_mem h
 exact ⟨i,hi,by rw [List.getD_eq_getElem?_getD,List.getElem?_eq_getElem hi,<- e];rfl⟩
theorem rtD_ok {l:List Mo} (hr:N.rts l):∀ k,k<=l.length->N.rtO (N.rtD l k)
 | 0,_=>⟨⟨Int.le_refl _,show (0:Int)<=32767000 by decide⟩,.inl rfl⟩
 | k+1,h=>by
  unfold N.rtD
  split
  ·exact rtD_ok hr k (by omega)
  ·exact hr k (by omega)
def N.frt (s:Int) (m:Mo):Prop:=((m.x=m.u/\m.y=m.v)\/(m.z=s/\m.w=s))/\¬(m.r=0/\m.w<1000)
section
variable {l:List Mo} {ix x y z s:Int} (ht:TrOk l) (hi:0<=ix/\ix<=l.length) (hs:1000<=s/\s<=65535) (hp:N.cd 36400 ⟨x,y,z⟩) (hE:N.rsE l ix x y z s=0)
include ht hi hs hp hE
theorem rsF_all:(∀ m ∈ N.rsF l ix x y z s,N.frt s m/\N.okM m/\N.rtO m.r)/\N.TB (N.rsF l ix x y z s)<=15400:=by
 unfold N.rsF
 by_cases h:(⟨x,y,z⟩:Ps)=N.rsB l ix x y z
 ·rw [if_pos h];exact ⟨fun m hm=>(nomatch hm),by decide⟩
 ·rw [if_neg h,legs4]
  have hn:0<l.length:=by
   refine Nat.pos_of_ne_zero fun e=>h ?_
   unfold N.rsB
   rw [if_neg (by omega),if_neg (by omega)]
  have hb:N.cd 36400 (N.rsB l ix x y z):=by
   unfold N.rsB
   by_cases h1:ix<l.length
   ·rw [if_pos h1];exact (ht.c _ (by omega)).1
   ·rw [if_neg h1,if_pos (by omega)];exact (ht.c _ (by omega)).2
  have hr:N.rtO (N.rsR l ix):=by
   unfold N.rsR
   exact rtD_ok ht.r _ (by split <;> omega)
  have hz:¬((N.rsB l ix x y z).z<1000/\N.rsR l ix=0):=fun hc=>by
   unfold N.rsE at hE
   rw [if_neg (by omega)] at hE
   split at hE
   ·cases hE
   ·first | (rw [if_neg h,if_pos hc] at hE;cases hE) | exact absurd hE (by decide)
  have h0:N.rtO 0:=⟨⟨Int.le_refl _,by decide⟩,.inl rfl⟩
  generalize N.rsB l ix x y z=b at *
  generalize N.rsR l ix=r at *
  generalize N.rsM l ix=m at *
  obtain ⟨bx,by_,bz⟩:=b
  unfold N.cd at hb hp
  simp only at hb hp hz ⊢
  refine ⟨fun q hq => ?_,Int.le_trans (TB_lng _) ?_⟩
  ·have hq:=(List.mem_filter.1 hq)
   have hne:q.src ≠ q.dst:=of_decide_eq_true hq.2
   have hm:=hq.1
   simp only [List.mem_cons,List.not_mem_nil,or_false] at hm
   rcases hm with rfl | rfl | rfl | rfl
   ·exact ⟨⟨.inl ⟨rfl,rfl⟩,fun e=>by have:=e.2;simp only at this;omega⟩,by unfold N.okM;simp only;omega,h0⟩
   ·exact ⟨⟨.inr ⟨rfl,rfl⟩,fun e=>by have:=e.2;simp only at this;omega⟩,by unfold N.okM;simp only;omega,h0⟩
   ·exact ⟨⟨.inl ⟨rfl,rfl⟩,fun e=>by have:=e.2;simp only at this;split at this <;> omega⟩,by unfold N.okM;simp only;split <;> omega,h0⟩
   ·exact ⟨⟨.inl ⟨rfl,rfl⟩,fun e=>hz ⟨e.2,e.1⟩⟩,by unfold N.okM;simp only;split <;> omega,hr⟩
  ·have a0:=ml_up (m:=⟨x,y,z,x,y,s,0,m.t,m.b⟩) (B:=101935) rfl rfl (by simp only;omega)
   have a1:=ml_le (m:=⟨x,y,s,bx,by_,s,0,m.t,m.b⟩) (B:=103000) (by decide) (by
    have q1:=sq_le (d:=bx-x) (B:=72800) (by omega)
    have q2:=sq_le (d:=by_-y) (B:=72800) (by omega)
    simp only
    rw [Int.sub_self]
    omega)
   have a2:=ml_up (m:=⟨bx,by_,s,bx,by_,if 1000>bz then 1000 else bz,0,m.t,m.b⟩) (B:=64535) rfl rfl (by simp only;split <;> omega)
   have a3:=ml_up (m:=⟨bx,by_,if 1000>bz then 1000 else bz,bx,by_,bz,r,m.t,m.b⟩) (B:=37400) rfl rfl (by simp only;split <;> omega)
   rw [ZcP,ZcP,ZcP,ZcP]
   unfold N.tb
   have:N.TB []=0:=rfl
   omega
theorem rs_ck {S A j:Int} (hb:N.big S A j):(N.okCk (N.rsL l ix x y z s) S A j/\N.rts (N.rsL l ix x y z s))/\N.TB (N.rsL l ix x y z s)<=20000:=by
 obtain ⟨h1,h2⟩:=rsF_all ht hi hs hp hE
 have hch:=rs_ch ht.t.2 hi hE
 have hln:=rsF_len l ix x y z s
 have hall:∀ m ∈ N.rsL l ix x y z s,N.okM m/\N.rtO m.r:=fun m hm=>by
  rw [Zd6 hE] at hm
  rcases List.mem_append.1 hm with hm | hm
  ·exact (h1 m hm).2
  ·obtain ⟨i,hi',e⟩:=mem_getD (List.mem_of_mem_drop hm)
   rw [<- e]
   exact ⟨ht.t.1.2 i hi',ht.r i hi'⟩
 have hlen:(N.rsL l ix x y z s).length<=10:=by
  have:=ht.n
  rw [Zd6 hE,List.length_append,List.length_drop];omega
 have hrts:N.rts (N.rsL l ix x y z s):=fun i hi'=>(hall _ (ZfL hi')).2
 refine ⟨⟨rts_ck hb ⟨⟨by omega,fun i hi'=>(hall _ (ZfL hi')).1⟩,ch_chain hch⟩ (by omega) hrts,hrts⟩,?_⟩
 have h3:N.TB (l.drop ix.toNat)<=61*(l.drop ix.toNat).length:=TB_le fun m hm=>by
  obtain ⟨i,hi',e⟩:=mem_getD (List.mem_of_mem_drop hm)
  have:=ht.m i hi'
  rw [e] at this
  unfold N.tb;omega
 have:=ht.n
 rw [List.length_drop] at h3
 rw [Zd6 hE,TB_app]
 omega
end
end Go.Av

namespace Go.Av
open Go.RowKit
def Zf4 (M:Mach) (it:FuncId) (A:AV) (xs:List (AV × AV)):Prop:=
 ∀ (l:Nat) (J:Nat->St->Prop),(∀ j T,J j T->HeapOk T)->(∀ j T T',J j T->HeapOk T'->Ext T T'->T'.L=T.L->J j T') ->
  (∀ j T v1 v2 (hj:j<xs.length),J j T->Rel T (xs[j]).1 v1->Rel T (xs[j]).2 v2 -> ∃ fid tmps asg bd,(Instr.yield l #[v1,v2]).run (M.P ()) T.w = .ok (.round l fid tmps asg bd) T.w /\
   ∀ c cs,∃ T',J (j+1) T'/\(∀ a v,Rel T a v->Rel T' a v)/\Steps (M.P ()) (lone (Frame.round l fid tmps asg bd .normal) (c::cs) T.w) (lone (c.finish (.bool true)) cs T'.w)) ->
  ∀ T cA,J 0 T->Rel T A cA -> ∀ cs,∃ cv fr T',J xs.length T'/\(∀ a v,Rel T a v->Rel T' a v) /\
   Steps (M.P ()) (lone (Frame.enter (M.P ()) it #[.func (.yield l) #[] #[],cA] .normal) cs T.w) (lone fr cs T'.w)/\fr.leaving (M.P ()) T'.w (.returned cv)
theorem Zce {T T':St} (hT:HeapOk T) (he:Ext T T') {l:Nat} {o:Obj} (ho:T.w.heap[l]? = some o) (hk:ZbA o=true) (hl:T.base<=l):T'.w.heap[l]? = some o:=
 (he.other l hl (Array.getElem?_eq_some_iff.1 ho).1 (other_blk hT ho hk)).trans ho
theorem vrel_mono {S S':St} (he:Ext S S') {env:Vars} {tm:Array Value} (h:VRel S env tm):VRel S' env tm:=fun t=>(h t).mono he
theorem vrel_set {S:St} {env:Vars} {tm:Array Value} (h:VRel S env tm) {p:Nat} (hp:p<tm.size) {x:AV} {v:Value} (hx:Rel S x v):VRel S ((p,x)::env) (tm.setIfInBounds p v):=by
 intro t
 simp only [Vars.get]
 by_cases e:p=t
 ·subst e
  have:(p==p)=true:=by simp
  rw [this]
  simpa [hp] using hx
 ·have:(p==t)=false:=by simpa using e
  rw [this]
  simpa [e] using h t
theorem fold_two {p0 p1:Tmp} {v1 v2:Value} (f:Array Value->Tmp × Value->Array Value) (a:Array Value):(#[p0,p1].zip #[v1,v2]).foldl f a=f (f a (p0,v1)) (p1,v2):=by
 have:(#[p0,p1].zip #[v1,v2]) = #[(p0,v1),(p1,v2)]:=by
  show [p0,p1].toArray.zip [v1,v2].toArray=_
  rw [List.zip_toArray];rfl
 rw [this];rfl
theorem range_sound {M:Mach} {fi:Fi} {g:Operand} {p0 p1:Tmp} {ida:Nat} {opsA:Array Oper} {body:Code} {k:List Item} {env:Vars} {L:Heap} {Q:AV->Heap->Prop} {it:FuncId} {A:AV} {xs:List (AV × AV)} {keepA:List Nat}
  (hg:evV env g = .func (.func it) [] [A]) (hit:∀ args w,(callFunc it args).run (M.P ()) w = .ok (.enter it args) w) (hI:Zf4 M it A xs) (hna:Zc8 opsA=true) (hnb:Zch body=true) (hp0:p0<fi.n) (hp1:p1<fi.n)
  (Ls:Nat->Heap) (h0:Ls 0=L) (eA:Nat->Env)
  (hasg:∀ j (hj:j<xs.length),Zav M.P M.inl (fun _ _ _=>none) fi.n opsA (fun _=>none) (fun _=>2) (List.range opsA.size) ⟨lift ((p1,(xs[j]).2)::(p0,(xs[j]).1)::env),Ls j,[],[],[]⟩=some ⟨eA j,Ls j,[],[],[]⟩)
  (hbody:∀ j,j<xs.length->ZaU M fi [.code body] (Zbq keepA (eA j)) (Ls j) (fun _ L'=>L'=Ls (j+1)))
  (hk:ZaU M fi k env (Ls xs.length) Q):ZaU M fi (.code (.rangeFunc g #[p0,p1] (.region ida opsA false) body)::k) env L Q:=by
 intro S b a cs fn h1 h2 h3 h4 h5 h6 h7 h8
 have hb:b.roundOf=none:=by
  rcases h4 with h | h
  ·exact h
  ·simp [Zcu,Zd3,Zch] at h
 obtain ⟨R,hR⟩:∃ R:Loop,R = { state:=.ready,pending:=none,fn:=b.fn,tmps:=a.tmps,params:=#[p0,p1],assign:=.region ida opsA false,body,defers:=S.w.heap.size }:=⟨_,rfl⟩
 obtain ⟨B,hB⟩:∃ B:Loop,B = { R with state:=.busy }:=⟨_,rfl⟩
 obtain ⟨X,hX⟩:∃ X:Loop,X = { R with state:=.exhausted }:=⟨_,rfl⟩
 obtain ⟨W1,hW1⟩:∃ W1,(S.w.alloc (.deferred (some []))).alloc (.loop R)=W1:=⟨_,rfl⟩
 have hl1:W1.heap[S.w.heap.size+1]? = some (.loop R):=by
  rw [<- hW1];have:=World.alloc_heap_new (S.w.alloc (.deferred (some []))) (.loop R);rwa [World.size_alloc] at this
 have hd1:W1.heap[S.w.heap.size]? = some (.deferred (some [])):=by
  rw [<- hW1];exact (Below.heap_alloc _ _ _ (by simp)).trans (World.alloc_heap_new S.w _)
 have hbelow:Below S.base S.w W1:=by
  rw [<- hW1];exact (((Below.refl _ S.w).alloc h5.base _).alloc (by simp;have:=h5.base;omega) _)
 have hsame:∀ q,q<S.w.heap.size->W1.heap[q]? = S.w.heap[q]?:=fun q hq=>by
  rw [<- hW1];exact (Below.heap_alloc _ _ q (by simp;omega)).trans (Below.heap_alloc _ _ q hq)
 obtain ⟨o1,e1⟩:=Zca h5 hbelow hsame
 obtain ⟨cg,hcg⟩:∃ cg,a.eval g=cg:=⟨_,rfl⟩
 have hrg:=ZeX (a:=a) h7 g
 rw [hg,hcg] at hrg
 obtain ⟨va,vb,rfl,l1,l2,r1,r2⟩:=Zck hrg
 have hva:va=[]:=List.length_eq_zero_iff.1 l1.symm
 subst hva
 obtain ⟨cA,rfl⟩:=List.length_eq_one_iff.1 l2.symm
 have hcA:Rel S A cA:=r2 0 A cA rfl rfl
 let J:Nat->St->Prop:=fun j T=>HeapOk T/\Ext S T/\T.L=Ls j/\T.w.heap[S.w.heap.size+1]? = some (.loop R)/\T.w.heap[S.w.heap.size]? = some (.deferred (some []))
 have hbase:∀ {T:St},Ext S T->T.base<=S.w.heap.size:=fun he=>by rw [he.base];exact h5.base
 have hJ:∀ j T T',J j T->HeapOk T'->Ext T T'->T'.L=T.L->J j T':=fun j T T' ⟨q1,q2,q3,q4,q5⟩ hT' he hL =>
  ⟨hT',q2.trans he,hL.trans q3,Zce q1 he q4 rfl (by have:=hbase q2;omega),Zce q1 he q5 rfl (hbase q2)⟩
 have hround:∀ j T v1 v2 (hj:j<xs.length),J j T->Rel T (xs[j]).1 v1->Rel T (xs[j]).2 v2 -> ∃ fid tmps asg bd,(Instr.yield (S.w.heap.size+1) #[v1,v2]).run (M.P ()) T.w = .ok (.round (S.w.heap.size+1) fid tmps asg bd) T.w /\
   ∀ c cs,∃ T',J (j+1) T'/\(∀ a v,Rel T a v->Rel T' a v)/\Steps (M.P ()) (lone (Frame.round (S.w.heap.size+1) fid tmps asg bd .normal) (c::cs) T.w) (lone (c.finish (.bool true)) cs T'.w):=by
  intro j T v1 v2 hj ⟨q1,q2,q3,q4,q5⟩ hv1 hv2
  obtain ⟨tm,htm⟩:∃ tm:Array Value,tm=(a.tmps.setIfInBounds p0 v1).setIfInBounds p1 v2:=⟨_,rfl⟩
  have hy:(Instr.yield (S.w.heap.size+1) #[v1,v2]).run (M.P ()) T.w = .ok (.round (S.w.heap.size+1) b.fn tm (.region ida opsA false) body) T.w:=by
   have:=run_yield (P:=M.P ()) (args:=#[v1,v2]) q4 (by rw [hR];rfl)
   rw [hR] at this
   simp only [fold_two] at this
   rw [this,htm]
  refine ⟨b.fn,tm,.region ida opsA false,body,hy,fun c cs => ?_⟩
  have hV:VRel T ((p1,(xs[j]).2)::(p0,(xs[j]).1)::env) tm:=by
   rw [htm]
   exact vrel_set (vrel_set (vrel_mono q2 h7) (Nat.lt_of_lt_of_le hp0 h8) hv1) (by rw [Array.size_setIfInBounds];exact Nat.lt_of_lt_of_le hp1 h8) hv2
  let bR:Frame:={ (default:Frame) with fn:=b.fn,kind:=.normal,roundOf:=some (S.w.heap.size+1) }
  have hfr:Frame.round (S.w.heap.size+1) b.fn tm (.region ida opsA false) body .normal=bR.atR { tmps:=tm,defers:=[] } [.code (.region ida opsA false),.beginRound,.code body]:=by
   simp [Frame.round,Frame.atR,bR]
  have hsz:fi.n<=tm.size:=by rw [htm,Array.size_setIfInBounds,Array.size_setIfInBounds];exact h8
  rw [hfr]
  have hA:RegR (M.P ()) ida opsA false (fun a' w' => ∃ T2:St,T2.w=w'/\HeapOk T2/\Ext T T2/\T2.L=Ls j/\VRel T2 (Zbq keepA (eA j)) a'.tmps/\a'.tmps.size=tm.size/\a'.defers=[]) { tmps:=tm,defers:=[] } T.w:=
   Zeb (Zct _ (hasg j hj) (by simp) (by simp) (by simp) q1 q3 (Zcm hV) hsz fun S' a' k1 k2 k3 k4 k5 k6=>⟨S',rfl,k1,k2,k3,ZbH k4 keepA,k5,k6⟩)
  obtain ⟨a2,_,⟨T2,rfl,u1,u2,u3,u4,u5,u6⟩,st1⟩:=hA bR [.beginRound,.code body] (c::cs) (.inr hna)
  have hl2:=Zce q1 u2 q4 rfl (by have:=hbase q2;omega)
  have hd2:=Zce q1 u2 q5 rfl (hbase q2)
  have hbr:=run_beginRound (P:=M.P ()) hl2 (by rw [hR])
  rw [<- hB] at hbr
  obtain ⟨v1',v2'⟩:=Zec (o':=.loop B) u1 hl2 rfl rfl
  have x3:Ext S ⟨T2.base,T2.acc,T2.L,T2.β,T2.w.putObj (S.w.heap.size+1) (.loop B)⟩:=
   put_ext hl2 rfl rfl h5.base (by omega) (q2.trans u2)
  have hl3:(T2.w.putObj (S.w.heap.size+1) (.loop B)).heap[S.w.heap.size+1]? = some (.loop B):=World.putObj_heap_same (Array.getElem?_eq_some_iff.1 hl2).1
  have hd3:(T2.w.putObj (S.w.heap.size+1) (.loop B)).heap[S.w.heap.size]? = some (.deferred (some [])):=(World.putObj_heap_other (by omega)).trans hd2
  obtain ⟨a4,todo4,Ds4,w4,β4,v4,L4,hq4,g1,g2,s4,d4,m4,r4,o4,x4⟩:=hbody j hj ⟨T2.base,T2.acc,T2.L,T2.β,T2.w.putObj (S.w.heap.size+1) (.loop B)⟩ bR a2 (c::cs) fn h1 h2 rfl
   (.inr (by simp [Zcu,Zd3,hnb])) v1' u3 (fun t=>v2' _ _ (u4 t)) (by rw [u5];exact hsz)
  obtain ⟨rfl,rfl⟩:todo4=[]/\Ds4=[]:=by
   rcases g2 with g | g
   ·simp [bR] at g
   ·exact g
  subst hq4
  have hb3:T2.base<=S.w.heap.size:=hbase (q2.trans u2)
  have hl4:=Zce v1' x4 hl3 rfl (by show T2.base<=_;omega)
  have hd4:=Zce v1' x4 hd3 rfl hb3
  have her:=run_endRound (P:=M.P ()) none hl4
  have hrr:({ B with state:=if (none:Option Code).isNone then .ready else .done,pending:=none }:Loop)=R:=by rw [hB,hR];rfl
  rw [hrr] at her
  obtain ⟨y1,y2⟩:=Zec (o':=.loop R) o4 hl4 rfl rfl
  have x5:=put_ext (o':=.loop R) hl4 rfl rfl h5.base (by omega) (x3.trans x4)
  refine ⟨_,⟨y1,x5,rfl,World.putObj_heap_same (Array.getElem?_eq_some_iff.1 hl4).1,(World.putObj_heap_other (by omega)).trans hd4⟩,fun a v h=>y2 _ _ ((v2' _ _ (h.mono u2)).mono x4),?_⟩
  exact Steps.trans st1 (.head (stepR_beginRound rfl hbr) (Steps.trans s4 (.one (stepR_round_end rfl rfl her))))
 have hmono:∀ a v,Rel S a v->Rel ⟨S.base,S.acc,S.L,S.β,W1⟩ a v:=fun a v h=>h.mono e1
 obtain ⟨cv,fr,T,⟨q1,q2,q3,q4,q5⟩,t2,t3,t4⟩:=hI (S.w.heap.size+1) J (fun j T h=>h.1) hJ hround ⟨S.base,S.acc,S.L,S.β,W1⟩ cA ⟨o1,e1,h6.trans h0.symm,hl1,hd1⟩ (hmono _ _ hcA)
  (b.atR { a with defers:=[ZeM S.w.heap.size]++a.defers } (.inRangeFunc (S.w.heap.size+1)::k)::cs)
 have he:=run_enterLoop_outer (P:=M.P ()) (w:=S.w) b.fn a.tmps #[p0,p1] (.region ida opsA false) body
 have hW1':(S.w.alloc (.deferred (some []))).alloc (.loop { state:=.ready,pending:=none,fn:=b.fn,tmps:=a.tmps,params:=#[p0,p1],assign:=.region ida opsA false,body,defers:=S.w.heap.size })=W1:=by rw [<- hW1,hR]
 rw [hW1',<- hb] at he
 have henter:=stepR_rangeFunc (P:=M.P ()) (b:=b) (a:=a) (k:=k) (cs:=cs) (w:=S.w) (g:=g) (d:={ target:=.fn (.func it) #[cA],args:=#[.func (.yield (S.w.heap.size+1)) #[] #[]] }) (w₁':=W1) (w₂:=W1) (f:=it) (args:=#[.func (.yield (S.w.heap.size+1)) #[] #[]] ++ #[cA]) he
  (by simp only [resolve,hcg];simp [go_sem]) (by simp [invoke,go_sem,hit])
 have hend:=run_endLoop (P:=M.P ()) q4 (by rw [hR];simp)
 rw [<- hX,(show R.pending=none by rw [hR])] at hend
 obtain ⟨z1,z2⟩:=Zec (o':=.loop X) q1 q4 rfl rfl
 have x6:=put_ext (o':=.loop X) q4 rfl rfl h5.base (by omega) q2
 have hd6:(T.w.putObj (S.w.heap.size+1) (.loop X)).heap[S.w.heap.size]? = some (.deferred (some [])):=(World.putObj_heap_other (by omega)).trans q5
 have hb6:=hbase q2
 obtain ⟨a7,todo7,Ds7,w7,β7,v7,L7,hq7,g1,g2,s7,d7,m7,r7,o7,x7⟩:=hk ⟨T.base,T.acc,T.L,T.β,T.w.putObj (S.w.heap.size+1) (.loop X)⟩ b { a with defers:=[ZeM S.w.heap.size]++a.defers } cs fn h1 h2 h3 (.inl hb) z1 q3
  (fun t=>z2 _ _ ((h7 t).mono q2)) h8
 have hd7:=Zce z1 x7 hd6 rfl hb6
 have hsz7:S.w.heap.size<(T.w.putObj (S.w.heap.size+1) (.loop X)).heap.size:=(Array.getElem?_eq_some_iff.1 hd6).1
 have hb7:T.base=S.base:=q2.base
 have ha7:T.acc=S.acc:=q2.acc
 refine ⟨a7,todo7,Ds7++[S.w.heap.size],w7,β7,v7,L7,hq7,g1,.inl hb,?_,by rw [d7];simp,⟨?_,fun D hD => ?_⟩,?_,?_,?_⟩
 ·refine .head henter (Steps.trans t3 (.head ?_ (.head (stepR_endRangeFunc hend) s7)))
  rw [<- finish_atR_inRangeFunc (S.w.heap.size+1) cv]
  exact step_leave_returned t4
 ·rw [List.nodup_append]
  refine ⟨m7.1,by simp,fun x hx y hy => ?_⟩
  simp only [List.mem_singleton] at hy
  have:=(m7.2 x hx).1
  simp only at this
  omega
 ·rcases List.mem_append.1 hD with h | h
  ·obtain ⟨n1,n2⟩:=m7.2 D h
   simp only at n1
   exact ⟨by omega,n2⟩
  ·simp only [List.mem_singleton] at h;subst h
   exact ⟨Nat.le_refl _,hd7⟩
 ·intro w'' hn
  obtain ⟨cv',n1,n2⟩:=r7 w'' hn
  simp only [hb7,ha7] at n2
  exact ⟨cv',n1,n2⟩
 ·simpa only [hb7,ha7] using o7
 ·have:=x6.trans x7
  simpa only [hb7,ha7] using this
def bkX (X:List Int):List (AV × AV):=(List.range X.length).map fun j=>(.int .i64 ((X.length-1-j:Nat):Int),.int .i64 (X.getD (X.length-1-j) 0))
inductive Rounds (M:Mach) (fi:Fi) (p0 p1:Tmp) (opsA:Array Oper) (body:Code) (env:Vars) (keepA:List Nat):List (AV × AV)->Heap->Heap->Prop
 | nil (L:Heap):Rounds M fi p0 p1 opsA body env keepA [] L L
 | cons {x:AV × AV} {xs:List (AV × AV)} {L L1 L2:Heap} (e:Env):Zav M.P M.inl (fun _ _ _=>none) fi.n opsA (fun _=>none) (fun _=>2) (List.range opsA.size) ⟨lift ((p1,x.2)::(p0,x.1)::env),L,[],[],[]⟩=some ⟨e,L,[],[],[]⟩ ->
   ZaU M fi [.code body] (Zbq keepA e) L (fun _ L'=>L'=L1)->Rounds M fi p0 p1 opsA body env keepA xs L1 L2->Rounds M fi p0 p1 opsA body env keepA (x::xs) L L2
theorem Rounds.to {M:Mach} {fi:Fi} {p0 p1:Tmp} {opsA:Array Oper} {body:Code} {env:Vars} {keepA:List Nat} {xs:List (AV × AV)} {L L2:Heap} (h:Rounds M fi p0 p1 opsA body env keepA xs L L2) :
  ∃ (Ls:Nat->Heap) (eA:Nat->Env),Ls 0=L/\Ls xs.length=L2 /\
   (∀ j (hj:j<xs.length),Zav M.P M.inl (fun _ _ _=>none) fi.n opsA (fun _=>none) (fun _=>2) (List.range opsA.size) ⟨lift ((p1,(xs[j]).2)::(p0,(xs[j]).1)::env),Ls j,[],[],[]⟩=some ⟨eA j,Ls j,[],[],[]⟩) /\
   (∀ j,j<xs.length->ZaU M fi [.code body] (Zbq keepA (eA j)) (Ls j) (fun _ L'=>L'=Ls (j+1))):=by
 induction h with
 | nil L=>exact ⟨fun _=>L,fun _=>[],rfl,rfl,fun j hj=>absurd hj (Nat.not_lt_zero _),fun j hj=>absurd hj (Nat.not_lt_zero _)⟩
 | @cons x xs L L1 L2 e h1 h2 _ ih =>
  obtain ⟨Ls,eA,g1,g2,g3,g4⟩:=ih
  refine ⟨fun j=>match j with | 0=>L | j+1=>Ls j,fun j=>match j with | 0=>e | j+1=>eA j,rfl,g2,fun j hj => ?_,fun j hj => ?_⟩
  ·cases j with
   | zero=>exact h1
   | succ j=>exact g3 j (by simpa using hj)
  ·cases j with
   | zero=>subst g1;exact h2
   | succ j=>exact g4 j (by simpa using hj)
theorem range_rounds {M:Mach} {fi:Fi} {g:Operand} {p0 p1:Tmp} {ida:Nat} {opsA:Array Oper} {body:Code} {k:List Item} {env:Vars} {L L2:Heap} {Q:AV->Heap->Prop} {it:FuncId} {A:AV} {xs:List (AV × AV)} {keepA:List Nat}
  (hg:evV env g = .func (.func it) [] [A]) (hit:∀ args w,(callFunc it args).run (M.P ()) w = .ok (.enter it args) w) (hI:Zf4 M it A xs) (hna:Zc8 opsA=true) (hnb:Zch body=true) (hp0:p0<fi.n) (hp1:p1<fi.n)
  (hr:Rounds M fi p0 p1 opsA body env keepA xs L L2) (hk:ZaU M fi k env L2 Q):ZaU M fi (.code (.rangeFunc g #[p0,p1] (.region ida opsA false) body)::k) env L Q:=by
 obtain ⟨Ls,eA,g1,g2,g3,g4⟩:=hr.to
 subst g2
 exact range_sound hg hit hI hna hnb hp0 hp1 Ls g1 eA g3 g4 hk
end Go.Av

namespace Go.Av
open Go.RowKit
theorem Zfj {M:Mach} {n:Nat} {ops:Array Oper} {ans:Nat->Option Ans} {hot:Nat->Nat} {call:Zax} {Q:Exit->Act->World->Prop} {rest:List Nat}:∀ (l:List Nat) {s sf:RS} {S:St} {a:Act},Zav M.P M.inl call n ops ans hot l s=some sf ->
  (∀ b ∈ sf.asm,b=true)->(∀ q ∈ sf.eqs,q)->(∀ c ∈ sf.calls,c.cond=true->ZbL M c) ->
  HeapOk S->S.L=s.L->TRel S s.env a.tmps->n<=a.tmps.size ->
  (∀ S' a',HeapOk S'->Ext S S'->S'.L=sf.L->TRel S' sf.env a'.tmps->a'.tmps.size=a.tmps.size->a'.defers=a.defers->wpOps (M.P ()) ops Q rest a' S'.w) ->
  wpOps (M.P ()) ops Q (l++rest) a S.w
 | [],s,sf,S,a,h,_,_,_,hS,hL,hT,_,hK=>by
  simp only [Zav,Option.some.injEq] at h;subst h
  exact hK S a hS (Ext.refl S) hL hT rfl rfl
 | i::l,s,sf,S,a,h,hA,hQ,hC,hS,hL,hT,hn,hK=>by
  rw [List.cons_append,wpOps_cons]
  simp only [Zav] at h
  cases ho:ops[i]? with
  | none =>
   rw [ho] at h
   unfold wpOp
   simp only [ho]
   exact Zfj l h hA hQ hC hS hL hT hn hK
  | some o =>
   rw [ho] at h
   simp only at h
   cases h1:Zbk M.P M.inl call n ops (ans i) (hot i) o s with
   | none=>rw [h1] at h;simp at h
   | some s1 =>
    rw [h1] at h
    simp only at h
    obtain ⟨env,L,x,y,z,rfl,_⟩:=ZaW _ h
    refine Zcl hS hL hT hn ho h1 (fun b hb=>hA b (by simp [hb])) (fun b hb=>hQ b (by simp [hb])) (fun b hb=>hC b (by simp [hb])) fun S' a' k1 k2 k3 k4 k5 k6 => ?_
    exact Zfj l h hA hQ hC k1 k3 k4 (by rw [k5];exact hn) fun S'' a'' m1 m2 m3 m4 m5 m6=>hK S'' a'' m1 (k2.trans m2) m3 m4 (m5.trans k5) (m6.trans k6)
end Go.Av

namespace Go.Av
open Go.RowKit
def forget2 (keep:List Nat) (env:Env):Vars:=keep.map fun t=>(t,bif Zao env (env.get t).1 then (env.get t).2 else .any)
theorem forget2_rel {S:St} {env:Env} {tm:Array Value} (h:TRel S env tm) (keep:List Nat):VRel S (forget2 keep env) tm:=by
 intro t
 induction keep with
 | nil=>exact .any _
 | cons k keep ih =>
  simp only [forget2,List.map_cons,Vars.get]
  cases hk:k==t with
  | false=>exact ih
  | true =>
   have hk:k=t:=by simpa using hk
   subst hk
   simp only [cond_true]
   cases hc:Zao env (env.get k).1 with
   | true=>exact h.yes k hc
   | false=>exact .any _
def runW (M:Mach) (n:Nat) (ops:Array Oper) (ans:Nat->Option Ans) (l keep:List Nat) (env:Vars) (L:Heap):Option (Vars × Heap × List Bool × List Prop):=
 match Zav M.P M.inl (fun _ _ _=>none) n ops ans (fun _=>2) l ⟨lift env,L,[],[],[]⟩ with
 | some s=>match s.calls with
  | []=>some (forget2 keep s.env,s.L,s.asm,s.eqs)
  | _=>none
 | none=>none
def ZdU (ops:Array Oper) (i:Nat) (env:Vars):Option (Nat × FuncId × List AV):=
 match ops[i]? with
 | some o=>match Za1 ops (lift env) o,o.dst,o.op with
  | some (some c),some d,.call k=>match k.callee with
   | .value f=>match evV env f with
    | .func (.func g) first captured=>bif Zao (lift env) c then some (d,g,first++k.args.toList.map (evV env)++captured) else none
    | _=>none
   | _=>none
  | _,_,_=>none
 | none=>none
theorem call_then2 {M:Mach} {ops:Array Oper} {i d:Nat} {g:FuncId} {args:List AV} {env:Vars} {S:St} {a:Act} {Q:Exit->Act->World->Prop} {rest:List Nat} {Qc:AV->Heap->Prop} (hc:ZdU ops i env=some (d,g,args)) (hS:HeapOk S) (hV:VRel S env a.tmps) (hd:d<a.tmps.size)
  (hO:OwnQ M g args S.L Qc) (hK:∀ v L2 β' w' a',Qc v L2->HeapOk ⟨S.base,S.acc,L2,β',w'⟩->Ext S ⟨S.base,S.acc,L2,β',w'⟩->VRel ⟨S.base,S.acc,L2,β',w'⟩ ((d,v)::env) a'.tmps->a'.tmps.size=a.tmps.size->a'.defers=a.defers->wpOps (M.P ()) ops Q rest a' w') :
  wpOps (M.P ()) ops Q (i::rest) a S.w:=by
 unfold ZdU at hc
 split at hc
 ·rename_i o ho
  split at hc
  ·rename_i ch d' c hg hdst hop
   split at hc
   ·rename_i f hcal
    split at hc
    ·rename_i g' first captured hf
     cases hcv:Zao (lift env) ch with
     | false=>rw [hcv] at hc;simp at hc
     | true =>
     rw [hcv] at hc
     simp only [cond_true,Option.some.injEq,Prod.mk.injEq] at hc
     obtain ⟨rfl,rfl,rfl⟩:=hc
     have hr:=ZeX (a:=a) hV f
     rw [hf] at hr
     obtain ⟨va,vb,e1,l1,l2,r1,r2⟩:=Zck hr
     have hrel:RelL S (first++c.args.toList.map (evV env)++captured) (va++c.args.toList.map a.eval++vb):=
      RelL.append (RelL.append ⟨l1,r1⟩ (RelL.map fun x=>ZeX (a:=a) hV x)) ⟨l2,r2⟩
     obtain ⟨m1,m2⟩:=hO S _ hS rfl hrel
     have hrun:(execOp a.eval o).run (M.P ()) S.w=(callFunc g' ⟨va++c.args.toList.map a.eval++vb⟩).run (M.P ()) S.w:=by
      have e2:(⟨va⟩:Array Value)++c.args.map a.eval++⟨vb⟩=⟨va++c.args.toList.map a.eval++vb⟩:=by
       apply Array.ext';simp
      simp only [execOp,hop,resolve,hcal,e1,Deferred.ofValue,Sem.run_bind,Sem.run_pure,Result.andThen_ok,invoke,e2]
     rw [wpOps_cons]
     unfold wpOp
     have hw:Region.wanted o (yielded ops a.tmps)=true:=by
      rw [(ZdT (Zcm hV) hg).2,hcv]
     simp only [ho,hw,if_true]
     left
     unfold Oper.wp
     rw [hrun,m1,Oper.upon_enter]
     refine Calls.mono m2 fun e w' he => ?_
     cases e with
     | returned cv =>
      obtain ⟨v,L2,β',q1,q2,q3,q4⟩:=he
      refine hK v L2 β' w' _ q1 q2 q3 ?_ (ZcC _ _ _) (by rw [hdst];rfl)
      rw [hdst]
      exact vrel_set (fun t=>(hV t).mono q3) hd q4
     | panicked c=>exact he.elim
     | outgrown=>exact he.elim
    ·simp at hc
   ·simp at hc
  ·simp at hc
 ·simp at hc
def ZeV (M:Mach) (n:Nat) (ops:Array Oper) (l:List Nat) (env:Vars) (L:Heap) (K:Vars->Heap->Prop):Prop:=
 ∀ (S:St) (a:Act) (Q:Exit->Act->World->Prop),HeapOk S->S.L=L->VRel S env a.tmps->n<=a.tmps.size ->
  (∀ (S':St) a' env',HeapOk S'->Ext S S'->VRel S' env' a'.tmps->K env' S'.L->a'.tmps.size=a.tmps.size->a'.defers=a.defers->Q .normal a' S'.w)->wpOps (M.P ()) ops Q l a S.w
theorem ZeV.nil {M:Mach} {n:Nat} {ops:Array Oper} {env:Vars} {L:Heap} {K:Vars->Heap->Prop} (h:K env L):ZeV M n ops [] env L K:=fun S a _ hS hL hV _ hK=>hK S a env hS (Ext.refl S) hV (by rw [hL];exact h) rfl rfl
theorem ZeV.run {M:Mach} {n:Nat} {ops:Array Oper} {env env1:Vars} {L L1:Heap} {K:Vars->Heap->Prop} {ans:Nat->Option Ans} {asm:List Bool} {eqs:List Prop} {rest:List Nat} (l keep:List Nat) (h:runW M n ops ans l keep env L=some (env1,L1,asm,eqs)) (hA:allB asm) (hQ:allP eqs) (hk:ZeV M n ops rest env1 L1 K):ZeV M n ops (l++rest) env L K:=by
 intro S a Q hS hL hV hn hK
 unfold runW at h
 split at h
 ·rename_i s hs
  split at h
  ·rename_i hc
   simp only [Option.some.injEq,Prod.mk.injEq] at h
   obtain ⟨rfl,rfl,rfl,rfl⟩:=h
   refine Zfj l hs ((Zb5 _).1 hA) ((allP_iff _).1 hQ) (by rw [hc];simp) hS hL (Zcm hV) hn fun S' a' k1 k2 k3 k4 k5 k6 => ?_
   exact hk S' a' Q k1 k3 (forget2_rel k4 keep) (by rw [k5];exact hn) fun S'' a'' env' m1 m2 m3 m4 m5 m6=>hK S'' a'' env' m1 (k2.trans m2) m3 m4 (m5.trans k5) (m6.trans k6)
  ·simp at h
 ·simp at h
theorem ZeV.last {M:Mach} {n:Nat} {ops:Array Oper} {env env1:Vars} {L L1:Heap} {K:Vars->Heap->Prop} {ans:Nat->Option Ans} {asm:List Bool} {eqs:List Prop} (l keep:List Nat) (h:runW M n ops ans l keep env L=some (env1,L1,asm,eqs)) (hA:allB asm) (hQ:allP eqs) (hk:K env1 L1):ZeV M n ops l env L K:=by
 have:=ZeV.run (K:=K) (rest:=[]) l keep h hA hQ (.nil hk)
 rwa [List.append_nil] at this
theorem ZeV.call {M:Mach} (hm:(M.P ()).follows .mixedOrders=true) {n:Nat} {ops:Array Oper} {env:Vars} {L:Heap} {K:Vars->Heap->Prop} {i d:Nat} {g:FuncId} {args:List AV} {rest:List Nat} {Qc:AV->Heap->Prop} (hc:ZdU ops i env=some (d,g,args)) (hd:d<n) (hO:Wp M (.own g args L) Qc) (hk:∀ v L2,Qc v L2->ZeV M n ops rest ((d,v)::env) L2 K):ZeV M n ops (i::rest) env L K:=by
 intro S a Q hS hL hV hn hK
 refine call_then2 (M:=M) hc hS hV (Nat.lt_of_lt_of_le hd hn) (Qc:=Qc) (by rw [hL];exact Zbe hm (c:=.own g args L) hO) fun v L2 β' w' a2 m1 m2 m3 m4 m5 m6 => ?_
 exact hk v L2 m1 _ a2 Q m2 rfl m4 (by rw [m5];exact hn) fun S'' a'' env' p1 p2 p3 p4 p5 p6=>hK S'' a'' env' p1 (m3.trans p2) p3 p4 (p5.trans m5) (p6.trans m6)
theorem wp_text {M:Mach} (hm:(M.P ()).follows .mixedOrders=true) {fi:Fi} {id:Nat} {ops:Array Oper} {k:List Item} {env:Vars} {L:Heap} {Q:AV->Heap->Prop} (l:List Nat) (hl:List.range ops.size=l) (h:ZeV M fi.n ops l env L fun env' L'=>Wp M (.run fi k env' L') Q):Wp M (.run fi (.code (.region id ops false)::k) env L) Q:=by
 refine .sem (ZaU.after fun S a h5 h6 h7 h8=>Zeb ?_)
 rw [hl]
 refine h S a _ h5 h6 h7 h8 fun S' a' env' m1 m2 m3 m4 m5 m6 => ?_
 exact ⟨S',env',rfl,m1,m2,Zbe hm (c:=.run fi k env' S'.L) m4,m3,m5,m6⟩
end Go.Av

namespace Go.Av
open Go.Proofs
set_option maxRecDepth 100000
def fi16:Fi:=⟨19,[.tmp 4]⟩
def kp16:List (Nat × List Nat):=[(0,[0,1]),(1,[0,1,5]),(2,[0,1,5,9]),(3,[0,1,5]),(4,[0,1,5,18]),(5,[4]),(6,[4])]
def fiA_at (n:Int) (L:Heap) (Q:AV->Heap->Prop):Prop:=Wp M1 (.run fi16 (atC (cd Try.f16) []) [(0,.ptr 0 0 0 0),(1,.int .i64 n)] L) Q
def ZgN (n i:Int) (L:Heap) (Q:AV->Heap->Prop):Prop:=Wp M1 (.run fi16 (atC (cd Try.f16) [1,0,1,0,0]) [(0,.ptr 0 0 0 0),(1,.int .i64 n),(5,.int .i64 i)] L) Q
def fiC_at (n i:Int) (b:Bool) (L:Heap) (Q:AV->Heap->Prop):Prop:=Wp M1 (.run fi16 (atC (cd Try.f16) [1,0,1,0,0,0,1]) [(0,.ptr 0 0 0 0),(1,.int .i64 n),(5,.int .i64 i),(9,.bool b)] L) Q
def fiD_at (n i:Int) (b:Bool) (L:Heap) (Q:AV->Heap->Prop):Prop:=Wp M1 (.run fi16 (atC (cd Try.f16) [1,0,1,0,0,1,0,0,1]) [(0,.ptr 0 0 0 0),(1,.int .i64 n),(5,.int .i64 i),(18,.bool b)] L) Q
theorem owncall16 {args:List AV} {L:Heap} {Q:AV->Heap->Prop} (h:Wp M1 (.run fi16 [.code (cd Try.f16)] (ZaN 0 args) L) Q):Wp M1 (.own 16 args L) Q:=
 ZfA Try.f16 fi16 (by kernel_rfl) (by kernel_rfl) (by kernel_rfl) (by kernel_rfl) h
theorem fiA (n:Int) (L:Heap)  (Q:AV->Heap->Prop) (H :
  ZgN n 0 L Q) :
 fiA_at n L Q:=by
 unfold fiA_at
 exact Zac (G:=Zab kp16 [] []) 1000 [] ⟨(atC (cd Try.f16) [1,0,1,0,0]),[(0,AV.ptr 0 0 0 0),(1,vi n),(5,vi 0)],L,_,[],_⟩ (by kernel_rfl) b0 q0 c0 H
theorem fiL (n i:Int) (L:Heap)  (Q:AV->Heap->Prop) (H :
  Wp M1 (.run fi16 (atC (cd Try.f16) [1,0,1,0,0,0,0]) [(0,AV.ptr 0 0 0 0),(1,vi n),(5,vi i)] L) Q) :
 ZgN n i L Q:=by
 unfold ZgN
 exact Zac (G:=Zab kp16 [] []) 2 [] ⟨(atC (cd Try.f16) [1,0,1,0,0,0,0]),[(0,AV.ptr 0 0 0 0),(1,vi n),(5,vi i)],L,_,[],_⟩ (by kernel_rfl) b0 q0 c0 H
theorem fiC (n i:Int) (b:Bool) (L:Heap)  (Q:AV->Heap->Prop) (H :
  ((b=true)->Wp M1 (.run fi16 (atC (cd Try.f16) [1,0,1,0,0,1,0,0,0]) [(0,AV.ptr 0 0 0 0),(1,vi n),(5,vi i),(9,vb b)] L) Q) /\
  (¬(b=true)->Q (vb true) L)) :
 fiC_at n i b L Q:=by
 unfold fiC_at
 rcases xq H with ⟨d2,H⟩|⟨d2,H⟩
 ·exact Zac (G:=Zab kp16 [] []) 5 [true] ⟨(atC (cd Try.f16) [1,0,1,0,0,1,0,0,0]),[(0,AV.ptr 0 0 0 0),(1,vi n),(5,vi i),(9,vb b)],L,[(b)==true],[],_⟩ (by kernel_rfl) (bc (Zam ((Zas _).2 d2)) b0) q0 c0 H
 ·exact Zai (G:=Zab kp16 [] []) 1000 [false] (k:=((atC (cd Try.f16) [1,1,1])).tail) (env':=[(4,vb true)]) (L':=L) (asm:=[(b)==false]) (eqs:=[]) (calls:=[]) (vb true) (by kernel_rfl) (by kernel_rfl) (Zaa (Zal (fun h=>d2 ((Zas _).1 h))) Zae) Zaf Zag H
theorem fiD (n i:Int) (b:Bool) (L:Heap)  (Q:AV->Heap->Prop) (H :
  ((b=true)->Q (vb false) L) /\
  (¬(b=true)->(-9223372036854775808<=i+1/\i+1<=9223372036854775807) /\
   ZgN n (i+1) L Q)) :
 fiD_at n i b L Q:=by
 unfold fiD_at
 rcases xq H with ⟨d2,H⟩|⟨d2,H⟩
 ·exact Zai (G:=Zab kp16 [] []) 1000 [true] (k:=((atC (cd Try.f16) [1,0,1,0,0,1,0,0,1,0,1])).tail) (env':=[(4,vb false)]) (L':=L) (asm:=[(b)==true]) (eqs:=[]) (calls:=[]) (vb false) (by kernel_rfl) (by kernel_rfl) (Zaa (Zam ((Zas _).2 d2)) Zae) Zaf Zag H
 ·obtain ⟨k3,H⟩:=H
  have w4:wi (i+1)=i+1:=wI64 k3
  exact Zac (G:=Zab kp16 [] []) 1000 [false] ⟨(atC (cd Try.f16) [1,0,1,0,0]),[(0,AV.ptr 0 0 0 0),(1,vi n),(5,vi (wi (i+1)))],L,[(b)==false],[],_⟩ (by kernel_rfl) (bc (Zal (fun h=>d2 ((Zas _).1 h))) b0) q0 c0 (by (try rw [w4]);all_goals exact H)
end Go.Av

namespace Go.Av
open Go.Proofs
def cNo:Nat->Option Ans:=fun _=>none
theorem cB0:allB []:=trivial
theorem cP0:allP []:=trivial
section
variable {l:List Mo} {B S A j:Int} {fm:Bool}
theorem index_hq {s:Cs} (hs:Iv l B s) (f:Option Nat):Ev M1 (.own 14 [.ptr 0 0 0 0] (N.hq fm l S A j s f)) (.int .i64 s.ix) (N.hq fm l S A j s f):=by
 obtain ⟨ix,p,X,k,bk,hd,br,P,q⟩:=s
 cases X with
 | none =>
  obtain ⟨hk0,hb0,_⟩:=hs.rest rfl
  simp only at hk0 hb0
  subst hk0;subst hb0
  cases f with
  | none=>exact evo14_a fm l S A j ix p hd br q.x q.y q.z
  | some w=>exact evo14_b fm l S A j ix p hd br q.x q.y q.z P w false
 | some X =>
  cases f with
  | none=>exact evo14_c fm l S A j ix p k bk hd br q.x q.y q.z X
  | some w=>exact evo14_d fm l S A j ix p k bk hd br q.x q.y q.z X P w false
end
section
variable {l:List Mo} {S A j:Int}
theorem stF_none {ix p qx qy qz:Int} {f:Option Nat} (h:N.stF l ix p qx qy qz f=none):f=none:=by
 cases f with
 | none=>rfl
 | some w=>cases h
theorem advF_none {s:Cs} {X:List Int} {k:Int} {f:Option Nat} (h:N.advF l s X k f=none):f=none:=by
 unfold N.advF at h
 split at h
 ·exact stF_none h
 ·exact h
theorem tickF_none {s:Cs} {f:Option Nat} (h:N.Zep l S A j s f=none):f=none:=by
 unfold N.Zep at h
 split at h
 ·exact h
 ·split at h
  ·exact advF_none h
  ·split at h
   ·exact h
   ·split at h
    ·exact h
    ·exact advF_none h
end
noncomputable def fiO2:Array Oper:=match atC (cd Try.f16) [1,0,1,0,0,0,0] with
 | .code (.region _ ops _)::_=>ops
 | _ => #[]
noncomputable def fiO4:Array Oper:=match atC (cd Try.f16) [1,0,1,0,0,1,0,0,0] with
 | .code (.region _ ops _)::_=>ops
 | _ => #[]
theorem fiC2:atC (cd Try.f16) [1,0,1,0,0,0,0] = .code (.region 2 fiO2 false)::atC (cd Try.f16) [1,0,1,0,0,0,1]:=by kernel_rfl
theorem fiC4:atC (cd Try.f16) [1,0,1,0,0,1,0,0,0] = .code (.region 4 fiO4 false)::atC (cd Try.f16) [1,0,1,0,0,1,0,0,1]:=by kernel_rfl
theorem fiR2:List.range fiO2.size=[0]++1::[2,3]:=by kernel_rfl
theorem fiR4:List.range fiO4.size=[0,1,2]++([3]++4::[5,6]):=by kernel_rfl
section
variable (n i:Int) (L:Heap)
def fiE:Vars:=[(0,.ptr 0 0 0 0),(1,.int .i64 n),(5,.int .i64 i)]
theorem fiV2:runW M1 fi16.n fiO2 cNo [0] [0,1,5,6] (fiE n i) L=some (fiE n i++[(6,.ptr 0 0 0 0)],L,[],[]):=by kernel_rfl
theorem fiK2:ZdU fiO2 1 (fiE n i++[(6,.ptr 0 0 0 0)])=some (7,14,[.ptr 0 0 0 0]):=by kernel_rfl
theorem fiW2 (x:Int):runW M1 fi16.n fiO2 cNo [2,3] [0,1,5,9] ((7,.int .i64 x)::(fiE n i++[(6,.ptr 0 0 0 0)])) L=some (fiE n i++[(9,.bool (decide (x<n)))],L,[],[]):=by kernel_rfl
theorem fiV4:runW M1 fi16.n fiO4 cNo [0,1,2] [0,1,5,14] (fiE n i) L=some (fiE n i++[(14,.bool (decide (i>20000)))],L,[],[]):=by kernel_rfl
theorem fiU4:runW M1 fi16.n fiO4 cNo [3] [0,1,5,14,15] (fiE n i++[(14,.bool false)]) L=some (fiE n i++[(14,.bool false),(15,.ptr 0 0 0 0)],L,[],[]):=by kernel_rfl
theorem fiK4:ZdU fiO4 4 (fiE n i++[(14,.bool false),(15,.ptr 0 0 0 0)])=some (16,10,[.ptr 0 0 0 0]):=by kernel_rfl
theorem fiW4 (b:Bool):runW M1 fi16.n fiO4 cNo [5,6] [0,1,5,18] ((16,.bool b)::(fiE n i++[(14,.bool false),(15,.ptr 0 0 0 0)])) L=some (fiE n i++[(18,.bool (!b))],L,[],[]):=by kernel_rfl
end
section
variable {l:List Mo} {B S A j:Int} (fm:Bool)
theorem fi_loop (hl:N.okL l) (hg:N.good l S A j) (hB:B<=1000000000) {J:Cs->Prop} {m:Cs->Int} (hJ:∀ s,J s->Iv l B s/\0<=m s/\(s.ix<l.length->(N.Zbt l S A j s).2=true/\J (N.Zbt l S A j s).1/\m (N.Zbt l S A j s).1<m s)) :
  ∀ (k:Nat) (i:Int) (s:Cs) (f:Option Nat),J s->m s<=k->0<=i->i+k<=20000->(f=none->s.P=[]) ->
   ∃ s' f',(J s'/\s'.ix=l.length/\(f'=none->s'.P=[])/\(f'=none->f=none))/\ZgN l.length i (N.hq fm l S A j s f) (isR (.bool true) (N.hq fm l S A j s' f')):=by
 intro k
 have hhead:∀ (i:Int) (s:Cs) (f:Option Nat),J s -> ∀ Q,fiC_at l.length i (decide (s.ix<l.length)) (N.hq fm l S A j s f) Q->ZgN l.length i (N.hq fm l S A j s f) Q:=by
  intro i s f hs Q h
  refine fiL _ _ _ _ ?_
  rw [fiC2]
  refine wp_text hm1 _ fiR2 (.run _ _ (fiV2 _ _ _) cB0 cP0 (.call hm1 (fiK2 _ _) (by decide) (index_hq (hJ s hs).1 f) fun v L2 ⟨e1,e2⟩ => ?_))
  subst e1;subst e2
  exact .last _ _ (fiW2 _ _ _ _) cB0 cP0 h
 induction k with
 | zero =>
  intro i s f hs hm h0 hi hf
  obtain ⟨hI,hm0,hst⟩:=hJ s hs
  have hix:=hI.ixr
  have he:¬s.ix<l.length:=fun y=>by
   obtain ⟨_,h2,h3⟩:=hst y
   have:=(hJ _ h2).2.1
   omega
  refine ⟨s,f,⟨hs,by omega,hf,fun h=>h⟩,hhead i s f hs _ (fiC _ _ _ _ _ ⟨fun y=>absurd (of_decide_eq_true y) he,fun _=>⟨rfl,rfl⟩⟩)⟩
 | succ k ih =>
  intro i s f hs hm h0 hi hf
  obtain ⟨hI,hm0,hst⟩:=hJ s hs
  have hix:=hI.ixr
  by_cases he:s.ix<l.length
  ·obtain ⟨t1,t2,t3⟩:=hst he
   obtain ⟨s',f',h1,h2⟩:=ih (i+1) _ (N.Zep l S A j s f) t2 (by omega) (by omega) (by omega) (tickF_P hl hg hI hf)
   refine ⟨s',f',⟨h1.1,h1.2.1,h1.2.2.1,fun h=>tickF_none (h1.2.2.2 h)⟩,hhead i s f hs _ (fiC _ _ _ _ _ ⟨fun _ => ?_,fun y=>absurd (decide_eq_true he) y⟩)⟩
   refine .less [0,1,5] ?_
   rw [fiC4]
   refine wp_text hm1 _ fiR4 (.run _ _ (fiV4 _ _ _) cB0 cP0 ?_)
   rw [decide_eq_false (show ¬i>20000 by omega)]
   refine .run _ _ (fiU4 _ _ _) cB0 cP0 (.call hm1 (fiK4 _ _) (by decide) (tick_ex hl hg hB hI hf) fun v L2 ⟨e1,e2⟩ => ?_)
   subst e1;subst e2
   refine .last _ _ (fiW4 _ _ _ _) cB0 cP0 ?_
   rw [t1]
   exact fiD _ _ _ _ _ ⟨fun y=>(nomatch y),fun _=>⟨by omega,h2⟩⟩
  ·exact ⟨s,f,⟨hs,by omega,hf,fun h=>h⟩,hhead i s f hs _ (fiC _ _ _ _ _ ⟨fun y=>absurd (of_decide_eq_true y) he,fun _=>⟨rfl,rfl⟩⟩)⟩
theorem finish_ex (hl:N.okL l) (hg:N.good l S A j) (hB:B<=1000000000) {J:Cs->Prop} {m:Cs->Int} (hJ:∀ s,J s->Iv l B s/\0<=m s/\(s.ix<l.length->(N.Zbt l S A j s).2=true/\J (N.Zbt l S A j s).1/\m (N.Zbt l S A j s).1<m s)) {s:Cs} {f:Option Nat} (hs:J s) (hm:m s<=20000) (hf:f=none->s.P=[]) :
  ∃ s' f',(J s'/\s'.ix=l.length/\(f'=none->s'.P=[])/\(f'=none->f=none))/\Ev M1 (.own 16 [.ptr 0 0 0 0,.int .i64 l.length] (N.hq fm l S A j s f)) (.bool true) (N.hq fm l S A j s' f'):=by
 have h0:=(hJ s hs).2.1
 obtain ⟨s',f',h1,h2⟩:=fi_loop fm hl hg hB hJ (m s).toNat 0 s f hs (by omega) (by omega) (by omega) hf
 exact ⟨s',f',h1,owncall16 (fiA _ _ _ h2)⟩
end
end Go.Av

namespace Go.Av
open Go.Proofs
namespace N
def PC (l:List Mo) (s:Cs):Prop:=ch (q0 l) s.P/\en (q0 l) s.P=s.q
def J2 (l:List Mo) (s:Cs):Prop:=s.P=lng (l.take s.ix.toNat)/\(s.X=none->s.p=0) /\ ∀ X,s.X=some X->s.p+(X.drop s.k.toNat).sum=ml (l.getD s.ix.toNat default)/\s.q=(l.getD s.ix.toNat default).src
noncomputable def m2 (l:List Mo) (s:Cs):Int:=match s.X with
 | none=>TB (l.drop s.ix.toNat)
 | some X=>X.length-s.k+TB (l.drop (s.ix.toNat+1))
end N
section
variable {l:List Mo} {B S A j:Int}
theorem stP_pc {ix p:Int} {P:List Mo} {q:Ps} (h:ix<l.length) (hp:N.ch (N.q0 l) P/\N.en (N.q0 l) P=q):N.ch (N.q0 l) (N.stP l ix p q.x q.y q.z P)/\N.en (N.q0 l) (N.stP l ix p q.x q.y q.z P)=N.po l ix p:=by
 by_cases hc:N.pcB l ix p q.x q.y q.z=true
 ·rw [stP_y hc]
  have e:N.pcM l ix p q.x q.y q.z=(l.getD ix.toNat default).cut q (N.po l ix p):=by unfold N.pcM;rw [if_neg (by omega)]
  rw [e]
  exact ⟨(ch_app _ _ _).2 ⟨hp.1,by rw [hp.2];rfl,trivial⟩,by rw [en_snoc];rfl⟩
 ·rw [stP_n hc]
  have e:q=N.po l ix p:=Classical.byContradiction fun y=>hc ((pcB_iff (l:=l) (ix:=ix) (p:=p) (qx:=q.x) (qy:=q.y) (qz:=q.z) (by omega)).2 y)
  exact ⟨hp.1,by rw [hp.2];exact e⟩
theorem new_pc:N.PC l (N.newS l):=⟨trivial,rfl⟩
theorem adv_pc {s:Cs} {X:List Int} {k:Int} (h:s.ix<l.length) (hp:N.PC l s):N.PC l (N.adv l s X k):=by
 by_cases he:k+1=X.length
 ·rw [Zb6 he];exact stP_pc (ix:=s.ix) (p:=s.p+X.getD k.toNat default) (P:=s.P) (q:=s.q) h hp
 ·rw [ZcO he];exact hp
theorem tick_pc {s:Cs} (hs:Iv l B s) (hp:N.PC l s):N.PC l (N.Zbt l S A j s).1:=by
 have hi:=hs.ixr
 unfold N.Zbt
 by_cases h:s.br=true\/s.ix=l.length
 ·rw [if_pos h];exact hp
 ·have hlt:s.ix<l.length:=by have:¬s.ix=l.length:=fun y=>h (.inr y);omega
  rw [if_neg h]
  cases s.X with
  | some X=>exact adv_pc hlt hp
  | none =>
   simp only
   split
   ·exact hp
   ·split
    ·exact hp
    ·exact adv_pc hlt hp
theorem bk_pc {s:Cs} (hs:Iv l B s) (h:¬s.br=true) (hp:N.PC l s):N.PC l (N.bkN l s)/\(N.bkN l s).q=N.po l s.ix s.p:=by
 rw [Zgc h]
 refine ⟨?_,rfl⟩
 have hi:=hs.ixr
 by_cases h1:s.ix<l.length
 ·exact stP_pc (ix:=s.ix) (p:=s.p) h1 hp
 ·have e:N.pcB l s.ix s.p s.q.x s.q.y s.q.z=false:=by unfold N.pcB;rw [if_pos (by omega)]
  have e2:=(hs.rest (hs.fin (by omega)).2).2.2
  show N.ch (N.q0 l) (N.stP l s.ix s.p s.q.x s.q.y s.q.z s.P)/\N.en (N.q0 l) (N.stP l s.ix s.p s.q.x s.q.y s.q.z s.P)=N.po l s.ix s.p
  rw [stP_n (by rw [e];decide),<- e2]
  exact hp
theorem pt_btw {x u p n:Int} (hn:1<=n) (hp:0<=p/\p<=n) {c:Int} (hx:-c<=x/\x<=c) (hu:-c<=u/\u<=c):-c<=N.pt x u p n/\N.pt x u p n<=c:=by
 unfold N.pt
 have e2:n / (2*n)=0:=Int.ediv_eq_zero_of_lt (by omega) (by omega)
 have e3:((u-x)*(2*n)+n) / (2*n)=u-x:=by rw [Int.add_comm,Int.add_mul_ediv_right _ _ (by omega),e2];omega
 have e4:2*(u-x)*p=2*((u-x)*p):=by rw [Int.mul_assoc]
 have e5:(u-x)*(2*n)=2*((u-x)*n):=by rw [Int.mul_left_comm]
 rcases Int.le_total 0 (u-x) with h | h
 ·have q1:=Int.mul_le_mul_of_nonneg_left hp.2 h
  have q2:=Int.mul_nonneg h hp.1
  have h1:=Int.ediv_le_ediv (show 0<2*n by omega) (show n<=2*(u-x)*p+n by omega)
  have h2:=Int.ediv_le_ediv (show 0<2*n by omega) (show 2*(u-x)*p+n<=(u-x)*(2*n)+n by omega)
  omega
 ·have q1:=Int.mul_le_mul_of_nonneg_left hp.2 (show 0 <= -(u-x) by omega)
  have q2:=Int.mul_nonneg (show 0 <= -(u-x) by omega) hp.1
  rw [Int.neg_mul] at q1 q2
  rw [Int.neg_mul] at q1
  have h1:=Int.ediv_le_ediv (show 0<2*n by omega) (show 2*(u-x)*p+n<=n by omega)
  have h2:=Int.ediv_le_ediv (show 0<2*n by omega) (show (u-x)*(2*n)+n<=2*(u-x)*p+n by omega)
  omega
theorem po_cd (ht:TrOk l) {s:Cs} (hs:Iv l B s):N.cd 36400 (N.po l s.ix s.p):=by
 have hi:=hs.ixr
 unfold N.po
 by_cases h0:(l.length:Int)=0
 ·rw [if_pos h0];unfold N.cd;simp only;omega
 ·rw [if_neg h0]
  by_cases h1:s.ix=l.length
  ·rw [if_pos h1];exact (ht.c _ (by omega)).2
  ·rw [if_neg h1]
   obtain ⟨m1,m2,m3⟩:=hs.mot (by omega)
   have hm:=ZeL (l.getD s.ix.toNat default)
   obtain ⟨c1,c2⟩:=ht.c s.ix.toNat (by omega)
   unfold N.cd Mo.src at c1
   unfold N.cd Mo.dst at c2
   simp only at c1 c2
   unfold N.at3 N.cd
   exact ⟨pt_btw (by omega) ⟨m2,by omega⟩ c1.1 c2.1,pt_btw (by omega) ⟨m2,by omega⟩ c1.2.1 c2.2.1,pt_btw (by omega) ⟨m2,by omega⟩ c1.2.2 c2.2.2⟩
theorem TB_drop (L:List Mo):∀ n,N.TB (L.drop n)<=N.TB L:=fun n=>by
 have:=TB_app (L.take n) (L.drop n)
 rw [List.take_append_drop] at this
 have:=TB_nn (L.take n)
 omega
theorem TB_sk {i:Nat} (h:i<=l.length):N.TB (l.drop (N.sk l i))<=N.TB (l.drop i):=by
 obtain ⟨⟨k1,_⟩,_,_⟩:=ZdF (L:=l) h
 have:=TB_drop (l.drop i) (N.sk l i-i)
 rw [List.drop_drop,show i+(N.sk l i-i)=N.sk l i by omega] at this
 exact this
theorem TB_at {i:Nat} (h:i<l.length):N.TB (l.drop i)=N.tb (l.getD i default)+N.TB (l.drop (i+1)):=by
 rw [List.drop_eq_getElem_cons h,ZcP,List.getD_eq_getElem?_getD,List.getElem?_eq_getElem h];rfl
theorem new_J2:N.J2 l (N.newS l)/\N.m2 l (N.newS l)<=N.TB l:=by
 obtain ⟨_,_,k3⟩:=ZdF (L:=l) (i:=0) (by omega)
 have e0:N.skI l 0=((N.sk l 0:Nat):Int):=rfl
 refine ⟨⟨?_,fun _=>rfl,(fun X hX=>nomatch hX)⟩,?_⟩
 ·show []=N.lng (l.take (N.skI l 0).toNat)
  rw [e0,Int.toNat_natCast,k3];rfl
 ·show N.TB (l.drop (N.skI l 0).toNat)<=N.TB l
  rw [e0,Int.toNat_natCast]
  exact TB_drop l _
theorem adv_J2 {s:Cs} {X:List Int} {k:Int} (hi:0<=s.ix/\s.ix<l.length) (hm:¬N.ml (l.getD s.ix.toNat default)=0) (hk:0<=k/\k<X.length) (hsum:s.p+(X.drop k.toNat).sum=N.ml (l.getD s.ix.toNat default)) (hP:s.P=N.lng (l.take s.ix.toNat)) (hq:s.q=(l.getD s.ix.toNat default).src) :
  N.J2 l (N.adv l s X k)/\N.m2 l (N.adv l s X k)<X.length-k+N.TB (l.drop (s.ix.toNat+1)):=by
 have hd:=ZfW (X:=X) (i:=k.toNat) (by omega)
 by_cases he:k+1=X.length
 ·rw [Zb6 he]
  rw [List.drop_eq_nil_of_le (show X.length<=k.toNat+1 by omega)] at hd
  have hp:s.p+X.getD k.toNat default=N.ml (l.getD s.ix.toNat default):=by
   rw [List.sum_nil] at hd;omega
  have hz:N.lf l s.ix (s.p+X.getD k.toNat default)=0:=by unfold N.lf;omega
  have hpo:N.po l s.ix (s.p+X.getD k.toNat default)=(l.getD s.ix.toNat default).dst:=by rw [po_mid hi.1 hi.2,hp,at3_full hm]
  have hne:¬(l.getD s.ix.toNat default).src=(l.getD s.ix.toNat default).dst:=fun e=>hm (ml_zero.2 e)
  have hpc:N.pcB l s.ix (s.p+X.getD k.toNat default) s.q.x s.q.y s.q.z=true:=(pcB_iff (by omega)).2 (by rw [hpo];show ¬s.q=_;rw [hq];exact hne)
  have hpm:N.pcM l s.ix (s.p+X.getD k.toNat default) s.q.x s.q.y s.q.z=l.getD s.ix.toNat default:=by
   unfold N.pcM
   rw [if_neg (by omega),hpo]
   show (l.getD s.ix.toNat default).cut s.q _=_
   rw [hq,cut_self]
  have eI:N.stI l s.ix (s.p+X.getD k.toNat default)=((N.sk l (s.ix.toNat+1):Nat):Int):=by
   unfold N.stI N.skI
   rw [if_pos hz,show (s.ix+1).toNat=s.ix.toNat+1 by omega]
  have eK:N.stK l s.ix (s.p+X.getD k.toNat default)=0:=by unfold N.stK;rw [if_pos hz]
  obtain ⟨_,_,k3⟩:=ZdF (L:=l) (i:=s.ix.toNat+1) (by omega)
  refine ⟨⟨?_,fun _=>eK,(fun X hX=>nomatch hX)⟩,?_⟩
  ·show N.stP l s.ix (s.p+X.getD k.toNat default) s.q.x s.q.y s.q.z s.P=N.lng (l.take (N.stI l s.ix (s.p+X.getD k.toNat default)).toNat)
   rw [stP_y hpc,hpm,eI,Int.toNat_natCast,k3,ZbO (L:=l) (by omega),ZcL,if_neg hne,hP]
  ·show N.TB (l.drop (N.stI l s.ix (s.p+X.getD k.toNat default)).toNat)<_
   rw [eI,Int.toNat_natCast]
   have:=TB_sk (l:=l) (i:=s.ix.toNat+1) (by omega)
   omega
 ·rw [ZcO he]
  refine ⟨⟨hP,(fun h=>nomatch h),fun Y hY => ?_⟩,?_⟩
  ·simp only [Option.some.injEq] at hY
   subst hY
   refine ⟨?_,hq⟩
   show s.p+X.getD k.toNat default+(X.drop (k+1).toNat).sum=_
   rw [show (k+1).toNat=k.toNat+1 by omega]
   show _=N.ml (l.getD s.ix.toNat default)
   omega
  ·show (X.length:Int)-(k+1)+N.TB (l.drop (s.ix.toNat+1))<_
   omega
theorem tick_J2 (ht:N.okT l) (hb:N.big S A j) (hr:N.rts l) {s:Cs} (hs:Iv l B s) (hbr:s.br=false) (hhd:s.hd=false) (h2:N.J2 l s) (hlt:s.ix<l.length) :
  N.J2 l (N.Zbt l S A j s).1/\N.m2 l (N.Zbt l S A j s).1<N.m2 l s:=by
 have hi:=hs.ixr
 have hg:=rts_good hb hr
 have hoff:¬(s.br=true\/s.ix=l.length):=by rintro (y | y);rw [hbr] at y;cases y;omega
 obtain ⟨m1,m2,m3⟩:=hs.mot hlt
 obtain ⟨j1,j2,j3⟩:=h2
 cases hX:s.X with
 | none =>
  have hp:=j2 hX
  have hq:=(hs.rest hX).2.2
  rw [Zd1 ht.1 hg hs hoff hX (by rw [hhd];decide)]
  obtain ⟨_,q1,q2,q3,q4,q5,_⟩:=ZfH ht.1 hg hs hlt
  have hmm:=ZbQ (ht.1.2 s.ix.toNat (by omega))
  have hlf:N.lf l s.ix s.p=N.ml (l.getD s.ix.toNat default):=by unfold N.lf;omega
  obtain ⟨_,⟨_,k2⟩,_,_⟩:=stX_ok (S:=N.lm (l.getD s.ix.toNat default).r S) (A:=A) (j:=j) (n:=N.lf l s.ix s.p) (by omega) q1
  obtain ⟨_,_,t3⟩:=tk_few hb (hr s.ix.toNat (by omega)) (n:=N.lf l s.ix s.p) (by omega)
  obtain ⟨a1,a2⟩:=adv_J2 (l:=l) (s:=s) (X:=N.plan l S A j s) (k:=0) ⟨hi.1,hlt⟩ m1 ⟨Int.le_refl _,by omega⟩ (by rw [Int.toNat_zero,List.drop_zero,q4];omega) j1 (by rw [hq,hp,po_mid hi.1 hlt,at3_zero m1])
  refine ⟨a1,?_⟩
  have e:N.m2 l s=N.TB (l.drop s.ix.toNat):=by unfold N.m2;rw [hX]
  rw [e,TB_at (by omega)]
  have e2:((N.plan l S A j s).length:Int)<=N.tb (l.getD s.ix.toNat default):=by
   unfold N.plan N.tb
   omega
  show N.m2 l (N.adv l s (N.plan l S A j s) 0)<_
  omega
 | some X =>
  obtain ⟨j4,j5⟩:=j3 X hX
  obtain ⟨p1,p2,p3⟩:=hs.plan X hX
  rw [Zd2 hoff hX]
  obtain ⟨a1,a2⟩:=adv_J2 (l:=l) (s:=s) (X:=X) (k:=s.k) ⟨hi.1,hlt⟩ m1 ⟨p1.1,p1.2.1⟩ j4 j1 j5
  refine ⟨a1,?_⟩
  have e:N.m2 l s=X.length-s.k+N.TB (l.drop (s.ix.toNat+1)):=by unfold N.m2;rw [hX]
  rw [e]
  exact a2
theorem m2_nn {s:Cs} (hs:Iv l B s):0<=N.m2 l s:=by
 unfold N.m2
 split
 ·exact TB_nn _
 ·rename_i X hX
  have:=(hs.plan X hX).1
  have:=TB_nn (l.drop (s.ix.toNat+1))
  omega
end
theorem evo10_c (fm:Bool) (l:List Mo) (S A j ix p:Int) (qx qy qz:Int) (P:List Mo) (w:Nat):Ev M1 (.own 10 [.ptr 0 0 0 0] [⟨[.agg [.vec fm 9 (l.map Mo.a),.int .i64 S,.int .i64 A,.int .i64 j,.int .i64 ix,.int .i64 p,.vnil,.int .i64 0,.bool false,.bool false,.bool true,.row 1 w,.int .i64 qx,.int .i64 qy,.int .i64 qz]],15,0,false,false⟩,⟨P.map Mo.a,9,w,true,true⟩]) (.bool false) [⟨[.agg [.vec fm 9 (l.map Mo.a),.int .i64 S,.int .i64 A,.int .i64 j,.int .i64 ix,.int .i64 p,.vnil,.int .i64 0,.bool false,.bool false,.bool true,.row 1 w,.int .i64 qx,.int .i64 qy,.int .i64 qz]],15,0,false,false⟩,⟨P.map Mo.a,9,w,true,true⟩]:=
 keepcall10 rfl (tcZ fm l S A j ix p qx qy qz P w _ _ rfl ⟨rfl,rfl⟩)
end Go.Av
