/- PART 5 of the texts of a claim, joined by a program: what each part shows stands at its head. -/
import Derived.Test.YtojapcnhajomcaaPart055086a32b
import Derived.RangeFuncIn

namespace Go.Av
structure Cs where
 ix:Int
 p:Int
 X:Option (List Int)
 k:Int
 bk:Bool
 hd:Bool
 br:Bool
 P:List Mo
 q:Ps
namespace N
noncomputable def stpN (l:List Mo) (s:Cs):Cs:={ s with X:=none,k:=0,bk:=false,P:=stP l s.ix s.p s.q.x s.q.y s.q.z s.P,q:=po l s.ix s.p,ix:=stI l s.ix s.p,p:=stK l s.ix s.p }
noncomputable def adv (l:List Mo) (s:Cs) (X:List Int) (k:Int):Cs:=if k+1=X.length then stpN l { s with p:=s.p+X.getD k.toNat default } else { s with X:=some X,k:=k+1,p:=s.p+X.getD k.toNat default }
noncomputable def plan (l:List Mo) (S A j:Int) (s:Cs):List Int:=stX (lm (l.getD s.ix.toNat default).r S) A j (lf l s.ix s.p)
noncomputable def planE (l:List Mo) (S A j:Int) (s:Cs):Int:=stE (lm (l.getD s.ix.toNat default).r S) A j (lf l s.ix s.p)
noncomputable def Zbp (l:List Mo) (S A j:Int) (s:Cs):Cs × Bool:=
 if s.br=true\/s.ix=l.length then (s,false) else
 match s.X with
 | some X=>(adv l s X s.k,true)
 | none=>if s.hd=true then (s,false) else if ¬planE l S A j s=0\/((plan l S A j s).length:Int)=0 then (s,false) else (adv l s (plan l S A j s) 0,true)
noncomputable def D (l:List Mo) (ix p:Int):Int:=((l.drop ix.toNat).map ml).sum-p
def okT (l:List Mo):Prop:=okL l/\chain l
def hasB (l:List Mo):Prop:=∀ i,i<l.length->(l.getD i default).b=i
end N
structure Iv (l:List Mo) (B:Int) (s:Cs):Prop where
 ixr:0<=s.ix/\s.ix<=l.length
 mot:s.ix<l.length->¬N.ml (l.getD s.ix.toNat default)=0/\0<=s.p/\s.p<N.ml (l.getD s.ix.toNat default)
 fin:s.ix=l.length->s.p=0/\s.X=none
 plan:∀ X,s.X=some X->(0<=s.k/\s.k<X.length/\X.length<=1000000)/\(∀ x ∈ X,1<=x)/\s.p+(X.drop s.k.toNat).sum<=N.ml (l.getD s.ix.toNat default)
 rest:s.X=none->s.k=0/\s.bk=false/\s.q=N.po l s.ix s.p
 pb:∀ X,s.X=some X -> ∀ x ∈ X,x<=1000000
 kb:∀ X,s.X=some X->s.bk=false->1<=s.k
 wi:N.hasB l->WI l s.P s.ix.toNat s.q
 few:(s.P.length:Int)+N.D l s.ix s.p+(if s.X=none then 0 else 1)<=B
section
variable {l:List Mo} {B:Int}
theorem skF_sum:∀ (k i:Nat),i+k=l.length->((l.drop (N.skF l k i)).map N.ml).sum=((l.drop i).map N.ml).sum
 | 0,i,_=>rfl
 | k+1,i,h=>by
  unfold N.skF
  by_cases hc:i<l.length/\N.ml (l.getD i default)=0
  ·rw [if_pos hc,skF_sum k (i+1) (by omega),List.drop_eq_getElem_cons hc.1,List.map_cons,List.sum_cons]
   have:=hc.2
   rw [List.getD_eq_getElem?_getD,List.getElem?_eq_getElem hc.1,Option.getD_some] at this
   omega
  ·rw [if_neg hc]
theorem drop_sum {i:Nat} (h:i<l.length):((l.drop i).map N.ml).sum=N.ml (l.getD i default)+((l.drop (i+1)).map N.ml).sum:=by
 rw [List.drop_eq_getElem_cons h,List.map_cons,List.sum_cons,List.getD_eq_getElem?_getD,List.getElem?_eq_getElem h];rfl
theorem dropX_sum {X:List Int} {i:Nat} (h:i<X.length):(X.drop i).sum=X.getD i default+(X.drop (i+1)).sum:=by
 rw [List.drop_eq_getElem_cons h,List.sum_cons,List.getD_eq_getElem?_getD,List.getElem?_eq_getElem h];rfl
theorem sum_ml_nn:∀ L:List Mo,0<=(L.map N.ml).sum
 | []=>Int.le_refl _
 | m::L=>by rw [List.map_cons,List.sum_cons];have:=Zgw m;have:=sum_ml_nn L;omega
theorem po_mid {ix p:Int} (h0:0<=ix) (h:ix<l.length):N.po l ix p=N.at3 (l.getD ix.toNat default) p:=by
 unfold N.po
 rw [if_neg (by omega),if_neg (by omega)]
theorem stpN_ok (ht:N.okT l) {s:Cs} (h0:0<=s.ix/\s.ix<l.length) (hm:¬N.ml (l.getD s.ix.toNat default)=0) (hp:0<=s.p/\s.p<=N.ml (l.getD s.ix.toNat default)) (hw:N.hasB l->WI l s.P s.ix.toNat s.q) (hB:(s.P.length:Int)+N.D l s.ix s.p+1<=B) :
  Iv l B (N.stpN l s)/\N.D l (N.stpN l s).ix (N.stpN l s).p=N.D l s.ix s.p/\(N.stpN l s).hd=s.hd/\(N.stpN l s).br=s.br:=by
 obtain ⟨hl,hc⟩:=ht
 obtain ⟨i,hi⟩:=Int.eq_ofNat_of_zero_le h0.1
 obtain ⟨ix,p,X,k,bk,hd,br,P,q⟩:=s
 simp only at h0 hm hp hw hB hi
 subst hi
 rw [Int.toNat_natCast] at hm hp hw
 have hlt:i<l.length:=by omega
 have hpo:N.po l (i:Int) p=N.at3 (l.getD i default) p:=by rw [po_mid (by omega) h0.2,Int.toNat_natCast]
 have hw2:(N.hasB l->WI l (N.stP l (i:Int) p q.x q.y q.z P) i (N.po l (i:Int) p))/\((N.stP l (i:Int) p q.x q.y q.z P).length:Int)<=P.length+1:=by
  unfold N.stP
  by_cases hcq:N.pcB l (i:Int) p q.x q.y q.z=true
  ·rw [if_pos hcq]
   refine ⟨?_,by rw [List.length_append,List.length_singleton];omega⟩
   have e:N.pcM l (i:Int) p q.x q.y q.z=(l.getD i default).cut q (N.po l (i:Int) p):=by
    unfold N.pcM
    rw [if_neg (by omega),Int.toNat_natCast]
   rw [e]
   exact fun hb=>wi_piece hb hlt (hw hb)
  ·rw [if_neg hcq]
   have:q=N.po l (i:Int) p:=by
    have:=(pcB_iff (l:=l) (ix:=(i:Int)) (p:=p) (qx:=q.x) (qy:=q.y) (qz:=q.z) (by omega))
    exact Classical.byContradiction fun y=>hcq (this.2 y)
   rw [<- this]
   exact ⟨hw,by omega⟩
 have hDn:N.D l (i:Int) p=N.ml (l.getD i default)+((l.drop (i+1)).map N.ml).sum-p:=by
  unfold N.D
  rw [Int.toNat_natCast,drop_sum hlt]
 by_cases hz:N.lf l (i:Int) p=0
 ·have hz':p=N.ml (l.getD i default):=by unfold N.lf at hz;rw [Int.toNat_natCast] at hz;omega
  have eI:N.stI l (i:Int) p=((N.sk l (i+1):Nat):Int):=by
   unfold N.stI N.skI
   rw [if_pos hz,show ((i:Int)+1).toNat=i+1 by omega]
  have eK:N.stK l (i:Int) p=0:=by unfold N.stK;rw [if_pos hz]
  obtain ⟨⟨k1,k2⟩,k3,k4⟩:=sk_spec (L:=l) (i:=i+1) (by omega)
  have hdst:N.po l (i:Int) p=(l.getD i default).dst:=by rw [hpo,hz',at3_full hm]
  have hwd:=fun hb=>wi_done hc hlt hm (hw2.1 hb) hdst
  have hDs:N.D l ((N.sk l (i+1):Nat):Int) 0=N.D l (i:Int) p:=by
   rw [hDn]
   unfold N.D N.sk
   rw [Int.toNat_natCast,skF_sum _ _ (by omega)];omega
  have hposk:N.po l ((N.sk l (i+1):Nat):Int) 0=(l.getD i default).dst:=by
   have e1:N.pos l (N.sk l (i+1))=(l.getD i default).dst:=by rw [sk_pos hc (by omega),pos_succ hc hlt]
   rw [<- e1]
   unfold N.pos
   by_cases hq:N.sk l (i+1)<l.length
   ·rw [if_pos hq,po_mid (by omega) (by omega),Int.toNat_natCast,at3_zero (k3 hq)]
   ·rw [if_neg hq]
    unfold N.po
    rw [if_neg (by omega),if_pos (by omega),show (((N.sk l (i+1):Nat):Int)-1).toNat=l.length-1 by omega]
  unfold N.stpN
  simp only [eI,eK]
  refine ⟨⟨?_,?_,?_,?_,?_,(fun X hX=>nomatch hX),?_,?_,?_⟩,hDs,trivial,trivial⟩
  ·simp only;omega
  ·simp only
   intro hq
   rw [Int.toNat_natCast]
   have:=k3 (by omega)
   have:=Zgw (l.getD (N.sk l (i+1)) default)
   exact ⟨k3 (by omega),by omega,by omega⟩
  ·simp only;intro _;exact ⟨trivial,trivial⟩
  ·simp only;intro X hX;cases hX
  ·simp only;intro _;exact ⟨trivial,trivial,by rw [hposk,hdst]⟩
  ·simp only;intro X hX;cases hX
  ·simp only;rw [Int.toNat_natCast];exact hwd
  ·simp only
   rw [hDs,if_pos trivial]
   have:=hw2.2
   omega
 ·have eI:N.stI l (i:Int) p=(i:Int):=by unfold N.stI;rw [if_neg hz]
  have eK:N.stK l (i:Int) p=p:=by unfold N.stK;rw [if_neg hz]
  have hz':p<N.ml (l.getD i default):=by unfold N.lf at hz;rw [Int.toNat_natCast] at hz;omega
  unfold N.stpN
  simp only [eI,eK]
  refine ⟨⟨?_,?_,?_,?_,?_,(fun X hX=>nomatch hX),?_,?_,?_⟩,trivial,trivial,trivial⟩
  ·simp only;omega
  ·simp only
   intro _
   rw [Int.toNat_natCast]
   exact ⟨hm,hp.1,hz'⟩
  ·simp only;intro hq;omega
  ·simp only;intro X hX;cases hX
  ·simp only;intro _;exact ⟨trivial,trivial,trivial⟩
  ·simp only;intro X hX;cases hX
  ·simp only;rw [Int.toNat_natCast];exact hw2.1
  ·simp only
   rw [if_pos trivial]
   have:=hw2.2
   omega
theorem adv_ok (ht:N.okT l) {s:Cs} {X:List Int} {k:Int} (hs:Iv l B s) (h0:s.ix<l.length) (hk:0<=k/\k<X.length/\X.length<=1000000) (hX:∀ x ∈ X,1<=x) (hXb:∀ x ∈ X,x<=1000000) (hsum:s.p+(X.drop k.toNat).sum<=N.ml (l.getD s.ix.toNat default)) (_:s.X=none\/s.X=some X) :
  Iv l B (N.adv l s X k)/\N.D l (N.adv l s X k).ix (N.adv l s X k).p<N.D l s.ix s.p/\(N.adv l s X k).hd=s.hd/\(N.adv l s X k).br=s.br:=by
 have hx:1<=X.getD k.toNat default:=by
  refine hX _ ?_
  rw [List.getD_eq_getElem?_getD,List.getElem?_eq_getElem (by omega)]
  exact List.getElem_mem _
 have hd:=dropX_sum (X:=X) (i:=k.toNat) (by omega)
 have hrest:0<=(X.drop (k.toNat+1)).sum:=by
  have:=ZcZ (X.drop (k.toNat+1)) fun x hx=>hX x (List.mem_of_mem_drop hx)
  omega
 obtain ⟨hm,hp1,hp2⟩:=hs.mot h0
 have hfew:=hs.few
 have hD:N.D l s.ix (s.p+X.getD k.toNat default)=N.D l s.ix s.p-X.getD k.toNat default:=by unfold N.D;omega
 unfold N.adv
 by_cases he:k+1=X.length
 ·rw [if_pos he]
  obtain ⟨q1,q2,q3,q4⟩:=stpN_ok (B:=B) ht (s:={ s with p:=s.p+X.getD k.toNat default }) ⟨hs.ixr.1,h0⟩ hm ⟨by simp only;omega,by simp only;omega⟩ hs.wi (by
   simp only
   rw [hD]
   split at hfew <;> omega)
  refine ⟨q1,?_,q3,q4⟩
  rw [q2]
  simp only
  omega
 ·rw [if_neg he]
  have hlast:1<=(X.drop (k.toNat+1)).sum:=by
   have:=ZcZ (X.drop (k.toNat+1)) fun x hx=>hX x (List.mem_of_mem_drop hx)
   rw [List.length_drop] at this
   omega
  refine ⟨⟨hs.ixr,fun _=>⟨hm,by simp only;omega,by simp only;omega⟩,fun h=>absurd h (by simp only;omega),fun Y hY => ?_,fun h=>(nomatch h),fun Y hY => ?_,fun Y hY _=>by simp only;omega,hs.wi,?_⟩,by simp only;omega,rfl,rfl⟩
  ·simp only [Option.some.injEq] at hY
   subst hY
   simp only
   rw [show (k+1).toNat=k.toNat+1 by omega]
   exact ⟨by omega,hX,by omega⟩
  ·simp only [Option.some.injEq] at hY
   subst hY
   exact hXb
  ·simp only
   rw [hD,if_neg (by simp)]
   split at hfew <;> omega
end
end Go.Av

namespace Go.Av
open Go.Proofs
namespace N
def plA:Option (List Int)->AV
 | none => .vnil
 | some X => .vec false 1 (X.map (.int .i64))
def Cr (fm:Bool) (l:List Mo) (S A j:Int) (s:Cs) (pc:AV):Row:=⟨[.agg [.vec fm 9 (l.map Mo.a),.int .i64 S,.int .i64 A,.int .i64 j,.int .i64 s.ix,.int .i64 s.p,plA s.X,.int .i64 s.k,.bool s.bk,.bool s.hd,.bool s.br,pc,.int .i64 s.q.x,.int .i64 s.q.y,.int .i64 s.q.z]],15,0,false,false⟩
def Rw (P:List Mo) (w:Nat):Row:=⟨P.map Mo.a,9,w,false,true⟩
def good (l:List Mo) (S A j:Int):Prop:=∀ i,i<l.length->okR (l.getD i default).r /\ ∀ n:Int,0<=n->n<=400000->stE (lm (l.getD i default).r S) A j n=0
end N
inductive RM (fm:Bool) (l:List Mo) (S A j:Int) (s:Cs):Heap->Prop
 | nil:s.P=[]->RM fm l S A j s [N.Cr fm l S A j s .vnil]
 | row (w:Nat):RM fm l S A j s [N.Cr fm l S A j s (.row 1 w),N.Rw s.P w]
section
variable {l:List Mo} {B S A j:Int} {fm:Bool}
theorem sum_nn:∀ L:List Mo,0<=(L.map N.ml).sum:=sum_ml_nn
theorem le_sum:∀ L:List Int,(∀ x ∈ L,1<=x) -> ∀ x ∈ L,x<=L.sum:=by
 intro L
 induction L with
 | nil=>intro _ x h;cases h
 | cons y L ih =>
  intro hl x hx
  have hy:=hl y (List.mem_cons_self ..)
  have hs:=ZcZ L fun z hz=>hl z (List.mem_cons_of_mem _ hz)
  rw [List.sum_cons]
  rcases List.mem_cons.1 hx with e | e
  ·omega
  ·have:=ih (fun z hz=>hl z (List.mem_cons_of_mem _ hz)) x e
   omega
theorem iv_D {s:Cs} (hs:Iv l B s):0<=N.D l s.ix s.p:=by
 have h1:=hs.ixr
 obtain ⟨i,hi⟩:=Int.eq_ofNat_of_zero_le h1.1
 unfold N.D
 by_cases h:s.ix<l.length
 ·have hm:=hs.mot h
  rw [drop_sum (by omega)]
  have:=sum_nn (l.drop (s.ix.toNat+1))
  omega
 ·have:=hs.fin (by omega)
  have:=sum_nn (l.drop s.ix.toNat)
  omega
theorem iv_G (hl:N.okL l) {s:Cs} (hs:Iv l B s) (h:s.ix<l.length):(N.okG l s.ix s.p/\1<=N.lf l s.ix s.p/\N.lf l s.ix s.p<=400000)/\0<=s.ix/\s.ix.toNat<l.length/\s.p<=400000:=by
 have h1:=hs.ixr
 obtain ⟨m1,m2,m3⟩:=hs.mot h
 have hm:=Zcl (hl.2 s.ix.toNat (by omega))
 unfold N.lf
 exact ⟨⟨⟨hl,⟨h1.1,h⟩,m2,by omega⟩,by omega,by omega⟩,h1.1,by omega,by omega⟩
theorem iv_plan (hl:N.okL l) (hg:N.good l S A j) {s:Cs} (hs:Iv l B s) (h:s.ix<l.length):N.okR (l.getD s.ix.toNat default).r/\N.planE l S A j s=0/\(0<(N.plan l S A j s).length/\(∀ x ∈ N.plan l S A j s,1<=x)/\(N.plan l S A j s).sum=N.lf l s.ix s.p/\(N.plan l S A j s).length<=1000000 /\ ∀ x ∈ N.plan l S A j s,x<=1000000):=by
 obtain ⟨⟨g1,g2,g3⟩,g4,g5,_⟩:=iv_G hl hs h
 obtain ⟨q1,q2⟩:=hg s.ix.toNat g5
 have q3:=q2 _ (show 0<=N.lf l s.ix s.p by omega) g3
 obtain ⟨_,⟨⟨k1,k2⟩,k3⟩,k4,_⟩:=stX_ok (by omega) q3
 refine ⟨q1,q3,?_,k2,k1,by unfold N.plan;omega,fun x hx=>by have:=le_sum _ k2 x hx;omega⟩
 unfold N.plan
 rcases List.eq_nil_or_concat (N.stX (N.lm (l.getD s.ix.toNat default).r S) A j (N.lf l s.ix s.p)) with e | ⟨Y,y,e⟩
 ·rw [e] at k1
  simp at k1
  omega
 ·rw [e];simp
theorem adv_sp (hl:N.okL l) {s:Cs} {X:List Int} {k:Int} (hs:Iv l B s) (hB:B<=1000000000) (h0:s.ix<l.length) (hk:0<=k/\k<X.length) (hX:∀ x ∈ X,1<=x) (hsum:s.p+(X.drop k.toNat).sum<=N.ml (l.getD s.ix.toNat default)) :
  N.okSq l s.ix (s.p+X.getD k.toNat default) s.P /\ -9223372036854775808<=s.p+X.getD k.toNat default/\s.p+X.getD k.toNat default<=9223372036854775807:=by
 have hx:1<=X.getD k.toNat default:=by
  refine hX _ ?_
  rw [List.getD_eq_getElem?_getD,List.getElem?_eq_getElem (by omega)]
  exact List.getElem_mem _
 have hd:=dropX_sum (X:=X) (i:=k.toNat) (by omega)
 have hrest:0<=(X.drop (k.toNat+1)).sum:=by
  have:=ZcZ (X.drop (k.toNat+1)) fun x hx=>hX x (List.mem_of_mem_drop hx)
  omega
 obtain ⟨hm,hp1,hp2⟩:=hs.mot h0
 have h1:=hs.ixr
 have hfew:=hs.few
 have hD:=iv_D hs
 have hmm:=Zcl (hl.2 s.ix.toNat (by omega))
 exact ⟨⟨⟨⟨hl,h1,fun _=>⟨hm,by omega,by omega⟩⟩,h0⟩,by split at hfew <;> omega⟩,by omega,by omega⟩
theorem Zdl {s:Cs} (h:s.br=true\/s.ix=l.length):N.Zbp l S A j s=(s,false):=by unfold N.Zbp;rw [if_pos h]
theorem ZeS {s:Cs} {X:List Int} (h:¬(s.br=true\/s.ix=l.length)) (hX:s.X=some X):N.Zbp l S A j s=(N.adv l s X s.k,true):=by unfold N.Zbp;rw [if_neg h,hX]
theorem ZeT {s:Cs} (h:¬(s.br=true\/s.ix=l.length)) (hX:s.X=none) (hh:s.hd=true):N.Zbp l S A j s=(s,false):=by unfold N.Zbp;rw [if_neg h,hX];simp only;rw [if_pos hh]
theorem ZeR (hl:N.okL l) (hg:N.good l S A j) {s:Cs} (hs:Iv l B s) (h:¬(s.br=true\/s.ix=l.length)) (hX:s.X=none) (hh:¬s.hd=true):N.Zbp l S A j s=(N.adv l s (N.plan l S A j s) 0,true):=by
 have h1:=hs.ixr
 have hlt:s.ix<l.length:=by have:¬s.ix=l.length:=fun y=>h (.inr y);omega
 obtain ⟨_,p2,p3,_⟩:=iv_plan hl hg hs hlt
 unfold N.Zbp
 rw [if_neg h,hX]
 simp only
 rw [if_neg hh,if_neg (by rintro (y | y);exact y p2;omega)]
theorem ZcS {s:Cs} {X:List Int} {k:Int} (h:k+1=X.length):N.adv l s X k=N.stpN l { s with p:=s.p+X.getD k.toNat default }:=by unfold N.adv;rw [if_pos h]
theorem Zec {s:Cs} {X:List Int} {k:Int} (h:¬k+1=X.length):N.adv l s X k = { s with X:=some X,k:=k+1,p:=s.p+X.getD k.toNat default }:=by unfold N.adv;rw [if_neg h]
theorem stP_y {ix p qx qy qz:Int} {P:List Mo} (h:N.pcB l ix p qx qy qz=true):N.stP l ix p qx qy qz P=P++[N.pcM l ix p qx qy qz]:=by unfold N.stP;rw [if_pos h]
theorem stP_n {ix p qx qy qz:Int} {P:List Mo} (h:¬N.pcB l ix p qx qy qz=true):N.stP l ix p qx qy qz P=P:=by unfold N.stP;rw [if_neg h]
theorem tick_ok (ht:N.okT l) (hg:N.good l S A j) {s:Cs} (hs:Iv l B s) (h:¬(s.br=true\/s.ix=l.length)) (hm:s.X=none->¬s.hd=true) :
  (N.Zbp l S A j s).2=true/\Iv l B (N.Zbp l S A j s).1/\N.D l (N.Zbp l S A j s).1.ix (N.Zbp l S A j s).1.p<N.D l s.ix s.p/\(N.Zbp l S A j s).1.hd=s.hd/\(N.Zbp l S A j s).1.br=s.br:=by
 have hlt:s.ix<l.length:=by
  have:=hs.ixr
  have:¬s.ix=l.length:=fun y=>h (.inr y)
  omega
 cases hX:s.X with
 | none =>
  rw [ZeR ht.1 hg hs h hX (hm hX)]
  obtain ⟨_,_,p3,p4,p5,p6,p7⟩:=iv_plan ht.1 hg hs hlt
  exact ⟨rfl,adv_ok ht hs hlt ⟨Int.le_refl _,by omega,p6⟩ p4 p7 (by rw [Int.toNat_zero,List.drop_zero,p5];unfold N.lf;omega) (.inl hX)⟩
 | some X =>
  rw [ZeS h hX]
  obtain ⟨k1,k2,k3⟩:=hs.plan X hX
  exact ⟨rfl,adv_ok ht hs hlt k1 k2 (hs.pb X hX) k3 (.inr hX)⟩
end
end Go.Av

namespace Go.Av
open Go.Proofs
namespace N
def hq (fm:Bool) (l:List Mo) (S A j:Int) (s:Cs):Option Nat->Heap
 | none=>[Cr fm l S A j s .vnil]
 | some w=>[Cr fm l S A j s (.row 1 w),Rw s.P w]
noncomputable def stF (l:List Mo) (ix p qx qy qz:Int):Option Nat->Option Nat
 | none=>if pcB l ix p qx qy qz=true then some 0 else none
 | some w=>some (stW l ix p qx qy qz w)
noncomputable def advF (l:List Mo) (s:Cs) (X:List Int) (k:Int) (f:Option Nat):Option Nat:=if k+1=X.length then stF l s.ix (s.p+X.getD k.toNat default) s.q.x s.q.y s.q.z f else f
noncomputable def Zef (l:List Mo) (S A j:Int) (s:Cs) (f:Option Nat):Option Nat:=
 if s.br=true\/s.ix=l.length then f else
 match s.X with
 | some X=>advF l s X s.k f
 | none=>if s.hd=true then f else if ¬planE l S A j s=0\/((plan l S A j s).length:Int)=0 then f else advF l s (plan l S A j s) 0 f
end N
section
variable {l:List Mo} {B S A j:Int} {fm:Bool}
theorem hq_row {s:Cs} {P:List Mo} {w:Nat} (e:s.P=P):N.hq fm l S A j s (some w)=[N.Cr fm l S A j s (.row 1 w),N.Rw P w]:=by subst e;rfl
theorem stF_y {ix p qx qy qz:Int} (h:N.pcB l ix p qx qy qz=true):N.stF l ix p qx qy qz none=some 0:=by unfold N.stF;simp only;rw [if_pos h]
theorem stF_n {ix p qx qy qz:Int} (h:¬N.pcB l ix p qx qy qz=true):N.stF l ix p qx qy qz none=none:=by unfold N.stF;simp only;rw [if_neg h]
theorem hqs_y {s:Cs} {L:Heap} {ix p qx qy qz:Int} (h:N.pcB l ix p qx qy qz=true) (e:s.P=N.stP l ix p qx qy qz []) (hL:L=[N.Cr fm l S A j s (.row 1 0),N.Rw [N.pcM l ix p qx qy qz] 0]):L=N.hq fm l S A j s (N.stF l ix p qx qy qz none):=by
 rw [stF_y h,hL]
 exact (hq_row (e.trans (stP_y h))).symm
theorem hqs_n {s:Cs} {L:Heap} {ix p qx qy qz:Int} (h:¬N.pcB l ix p qx qy qz=true) (hL:L=[N.Cr fm l S A j s .vnil]):L=N.hq fm l S A j s (N.stF l ix p qx qy qz none):=by
 rw [stF_n h,hL];rfl
theorem stF_P {ix p qx qy qz:Int} {f:Option Nat} {P:List Mo} (h:f=none->P=[]) (h2:N.stF l ix p qx qy qz f=none):N.stP l ix p qx qy qz P=[]:=by
 cases f with
 | none =>
  by_cases hc:N.pcB l ix p qx qy qz=true
  ·rw [stF_y hc] at h2;cases h2
  ·rw [stP_n hc];exact h rfl
 | some w=>cases h2
theorem Zcf {s:Cs} {X:List Int} {k:Int} {f:Option Nat} (h:k+1=X.length):N.advF l s X k f=N.stF l s.ix (s.p+X.getD k.toNat default) s.q.x s.q.y s.q.z f:=by unfold N.advF;rw [if_pos h]
theorem Zdk {s:Cs} {X:List Int} {k:Int} {f:Option Nat} (h:¬k+1=X.length):N.advF l s X k f=f:=by unfold N.advF;rw [if_neg h]
theorem advF_P {s:Cs} {X:List Int} {k:Int} {f:Option Nat} (h:f=none->s.P=[]) (h2:N.advF l s X k f=none):(N.adv l s X k).P=[]:=by
 by_cases he:k+1=X.length
 ·rw [Zcf he] at h2
  rw [ZcS he]
  exact stF_P h h2
 ·rw [Zdk he] at h2
  rw [Zec he]
  exact h h2
theorem ZcY {s:Cs} {f:Option Nat} (h:s.br=true\/s.ix=l.length):N.Zef l S A j s f=f:=by unfold N.Zef;rw [if_pos h]
theorem Zfa {s:Cs} {X:List Int} {f:Option Nat} (h:¬(s.br=true\/s.ix=l.length)) (hX:s.X=some X):N.Zef l S A j s f=N.advF l s X s.k f:=by unfold N.Zef;rw [if_neg h,hX]
theorem Zfb {s:Cs} {f:Option Nat} (h:¬(s.br=true\/s.ix=l.length)) (hX:s.X=none) (hh:s.hd=true):N.Zef l S A j s f=f:=by unfold N.Zef;rw [if_neg h,hX];simp only;rw [if_pos hh]
theorem Ze9 (hl:N.okL l) (hg:N.good l S A j) {s:Cs} {f:Option Nat} (hs:Iv l B s) (h:¬(s.br=true\/s.ix=l.length)) (hX:s.X=none) (hh:¬s.hd=true):N.Zef l S A j s f=N.advF l s (N.plan l S A j s) 0 f:=by
 have h1:=hs.ixr
 have hlt:s.ix<l.length:=by have:¬s.ix=l.length:=fun y=>h (.inr y);omega
 obtain ⟨_,p2,p3,_⟩:=iv_plan hl hg hs hlt
 unfold N.Zef
 rw [if_neg h,hX]
 simp only
 rw [if_neg hh,if_neg (by rintro (y | y);exact y p2;omega)]
theorem tickF_P (hl:N.okL l) (hg:N.good l S A j) {s:Cs} {f:Option Nat} (hs:Iv l B s) (h:f=none->s.P=[]) (h2:N.Zef l S A j s f=none):(N.Zbp l S A j s).1.P=[]:=by
 by_cases h1:s.br=true\/s.ix=l.length
 ·rw [Zdl h1];rw [ZcY h1] at h2;exact h h2
 ·cases hX:s.X with
  | some X=>rw [ZeS h1 hX];rw [Zfa h1 hX] at h2;exact advF_P h h2
  | none =>
   by_cases hh:s.hd=true
   ·rw [ZeT h1 hX hh];rw [Zfb h1 hX hh] at h2;exact h h2
   ·rw [ZeR hl hg hs h1 hX hh];rw [Ze9 hl hg hs h1 hX hh] at h2;exact advF_P h h2
theorem RM_hq {s:Cs} {f:Option Nat} (h:f=none->s.P=[]):RM fm l S A j s (N.hq fm l S A j s f):=by
 cases f with
 | none=>exact .nil (h rfl)
 | some w=>exact .row w
theorem tick_ex (hl:N.okL l) (hg:N.good l S A j) (hB:B<=1000000000) {s:Cs} (hs:Iv l B s) {f:Option Nat} (hf:f=none->s.P=[]):Ev M1 (.own 10 [.ptr 0 0 0 0] (N.hq fm l S A j s f)) (.bool (N.Zbp l S A j s).2) (N.hq fm l S A j (N.Zbp l S A j s).1 (N.Zef l S A j s f)):=by
 obtain ⟨ix,p,X,k,bk,hd,br,P,q⟩:=s
 have hlt:∀ h:¬(br=true\/ix=l.length),ix<l.length:=fun h=>by
  have:=hs.ixr
  have:¬ix=l.length:=fun y=>h (.inr y)
  simp only at *
  omega
 cases X with
 | none =>
  obtain ⟨hk0,hb0,_⟩:=hs.rest rfl
  simp only at hk0 hb0
  subst hk0;subst hb0
  have hplan:∀ (h:¬(br=true\/ix=l.length)),_:=fun h=>iv_plan hl hg hs (hlt h)
  have hsq:∀ (h:¬(br=true\/ix=l.length)),_:=fun h=>adv_sp (X:=N.plan l S A j ⟨ix,p,none,0,false,hd,br,P,q⟩) (k:=0) hl hs hB (hlt h) ⟨Int.le_refl _,by have:=(hplan h).2.2.1;omega⟩ (hplan h).2.2.2.1 (by
   have:=(hplan h).2.2.2.2.1
   rw [Int.toNat_zero,List.drop_zero,this]
   unfold N.lf
   simp only;omega)
  cases f with
  | none =>
   have hP:=hf rfl
   simp only at hP
   subst hP
   refine ZdE (Zcz (tcA fm l S A j ix p hd br q.x q.y q.z _ ⟨fun h => ?_,fun h=>⟨fun h2 => ?_,fun h2 => ?_⟩⟩))
   ·rw [Zdl h,ZcY h];exact ⟨rfl,rfl⟩
   ·rw [ZeT h rfl h2,Zfb h rfl h2];exact ⟨rfl,rfl⟩
   ·obtain ⟨⟨g1,g2,g3⟩,g4,g5,_⟩:=iv_G hl hs (hlt h)
    obtain ⟨p1,p2,p3,p4,p5,_,_⟩:=hplan h
    obtain ⟨⟨s1,s2⟩,s3⟩:=hsq h
    rw [ZeR hl hg hs h rfl h2,Ze9 hl hg hs h rfl h2]
    refine ⟨g1,p1,by unfold N.okSt;simp only at g3;omega,g4,g5,fun z => ?_,fun _=>⟨p3,s3,fun h3=>⟨fun hc=>⟨s1,?_⟩,fun hc=>⟨s1,?_⟩⟩,fun h3 => ?_⟩⟩
    ·rcases z with z | z
     ·exact absurd p2 z
     ·have:=p3;unfold N.plan at this;simp only at this;omega
    ·rw [ZcS (by rw [Int.zero_add];exact h3),Zcf (by rw [Int.zero_add];exact h3)]
     exact ⟨rfl,hqs_y hc rfl rfl⟩
    ·rw [ZcS (by rw [Int.zero_add];exact h3),Zcf (by rw [Int.zero_add];exact h3)]
     exact ⟨rfl,hqs_n hc rfl⟩
    ·rw [Zec (by rw [Int.zero_add];exact h3),Zdk (by rw [Int.zero_add];exact h3)]
     exact ⟨rfl,rfl⟩
  | some w =>
   refine ZdE (Zcz (tcB fm l S A j ix p hd br q.x q.y q.z P w _ ⟨fun h => ?_,fun h=>⟨fun h2 => ?_,fun h2 => ?_⟩⟩))
   ·rw [Zdl h,ZcY h];exact ⟨rfl,rfl⟩
   ·rw [ZeT h rfl h2,Zfb h rfl h2];exact ⟨rfl,rfl⟩
   ·obtain ⟨⟨g1,g2,g3⟩,g4,g5,_⟩:=iv_G hl hs (hlt h)
    obtain ⟨p1,p2,p3,p4,p5,_,_⟩:=hplan h
    obtain ⟨s1,s3⟩:=hsq h
    rw [ZeR hl hg hs h rfl h2,Ze9 hl hg hs h rfl h2]
    refine ⟨g1,p1,by unfold N.okSt;simp only at g3;omega,g4,g5,fun z => ?_,fun _=>⟨p3,s3,fun h3=>⟨s1,?_⟩,fun h3 => ?_⟩⟩
    ·rcases z with z | z
     ·exact absurd p2 z
     ·have:=p3;unfold N.plan at this;simp only at this;omega
    ·rw [ZcS (by rw [Int.zero_add];exact h3),Zcf (by rw [Int.zero_add];exact h3)]
     exact ⟨rfl,rfl⟩
    ·rw [Zec (by rw [Int.zero_add];exact h3),Zdk (by rw [Int.zero_add];exact h3)]
     exact ⟨rfl,rfl⟩
 | some X =>
  obtain ⟨hk,hX,hsum⟩:=hs.plan X rfl
  simp only at hk hX hsum
  have hsq:∀ (h:¬(br=true\/ix=l.length)),_:=fun h=>adv_sp (X:=X) (k:=k) hl hs hB (hlt h) ⟨hk.1,hk.2.1⟩ hX hsum
  cases f with
  | none =>
   have hP:=hf rfl
   simp only at hP
   subst hP
   refine ZdE (Zcz (tcC fm l S A j ix p k bk hd br q.x q.y q.z X _ ⟨fun h => ?_,fun h=>⟨fun z=>absurd z (by omega),fun _ => ?_⟩⟩))
   ·rw [Zdl h,ZcY h];exact ⟨rfl,rfl⟩
   ·obtain ⟨⟨s1,s2⟩,s3⟩:=hsq h
    rw [ZeS h rfl,Zfa h rfl]
    refine ⟨hk.1,by omega,s3,by omega,fun h3=>⟨fun hc=>⟨s1,?_⟩,fun hc=>⟨s1,?_⟩⟩,fun h3 => ?_⟩
    ·rw [ZcS h3,Zcf h3]
     exact ⟨rfl,hqs_y hc rfl rfl⟩
    ·rw [ZcS h3,Zcf h3]
     exact ⟨rfl,hqs_n hc rfl⟩
    ·rw [Zec h3,Zdk h3]
     exact ⟨rfl,rfl⟩
  | some w =>
   refine ZdE (Zcz (tcD fm l S A j ix p k bk hd br q.x q.y q.z X P w _ ⟨fun h => ?_,fun h=>⟨fun z=>absurd z (by omega),fun _ => ?_⟩⟩))
   ·rw [Zdl h,ZcY h];exact ⟨rfl,rfl⟩
   ·obtain ⟨s1,s3⟩:=hsq h
    rw [ZeS h rfl,Zfa h rfl]
    refine ⟨hk.1,by omega,s3,by omega,fun h3=>⟨s1,?_⟩,fun h3 => ?_⟩
    ·rw [ZcS h3,Zcf h3]
     exact ⟨rfl,rfl⟩
    ·rw [Zec h3,Zdk h3]
     exact ⟨rfl,rfl⟩
end
end Go.Av

namespace Go.Av
open Go.Proofs
namespace N
def bef (X:List Int) (k:Int):Int:=if k>1 then X.getD (k-2).toNat default else 0
def lst (X:List Int) (k:Int):Int:=X.getD (k-1).toNat default
noncomputable def hlN (l:List Mo) (S A j:Int) (s:Cs):Cs:=
 if s.br=true then s else
 match s.X with
 | none => { s with hd:=true }
 | some X=>if s.bk=true then { s with hd:=true } else
  if ¬ndE (lm (l.getD s.ix.toNat default).r S) A j (bef X s.k) (lst X s.k)=0\/ndV (lm (l.getD s.ix.toNat default).r S) A j (bef X s.k) (lst X s.k)>lf l s.ix s.p then { s with hd:=true } else
  if ((stL (lm (l.getD s.ix.toNat default).r S) A j (bef X s.k) (lst X s.k)).length:Int)=0 then stpN l { s with hd:=true } else { s with hd:=true,X:=some (stL (lm (l.getD s.ix.toNat default).r S) A j (bef X s.k) (lst X s.k)),k:=0,bk:=true }
end N
inductive RX (fm:Bool) (l:List Mo) (S A j:Int) (s:Cs):Heap->Prop
 | nil:s.P=[]->RX fm l S A j s [N.Cr fm l S A j s .vnil]
 | row (w:Nat):RX fm l S A j s [N.Cr fm l S A j s (.row 1 w),N.Rw s.P w]
 | nilx (x:Row):s.P=[]->RX fm l S A j s [N.Cr fm l S A j s .vnil,x]
 | rowx (x:Row) (w:Nat):RX fm l S A j s [N.Cr fm l S A j s (.row 2 w),x,N.Rw s.P w]
 | roww (x:Row) (w:Nat):RX fm l S A j s [N.Cr fm l S A j s (.row 1 w),N.Rw s.P w,x]
section
variable {l:List Mo} {B S A j:Int} {fm:Bool}
theorem RX_rowx {s:Cs} {P:List Mo} {L:Heap} (x:Row) (w:Nat) (e:s.P=P) (h:L=[N.Cr fm l S A j s (.row 2 w),x,N.Rw P w]):RX fm l S A j s L:=by subst e;rw [h];exact .rowx x w
theorem Zex {s:Cs} {P:List Mo} {L:Heap} (x:Row) (w:Nat) (e:s.P=P) (h:L=[N.Cr fm l S A j s (.row 1 w),N.Rw P w,x]):RX fm l S A j s L:=by subst e;rw [h];exact .roww x w
theorem Zey {s:Cs} {L:Heap} (x:Row) (e:s.P=[]) (h:L=[N.Cr fm l S A j s .vnil,x]):RX fm l S A j s L:=by rw [h];exact .nilx x e
theorem hl_br {s:Cs} (h:s.br=true):N.hlN l S A j s=s:=by unfold N.hlN;rw [if_pos h]
theorem hl_none {s:Cs} (h:¬s.br=true) (hX:s.X=none):N.hlN l S A j s = { s with hd:=true }:=by unfold N.hlN;rw [if_neg h,hX]
theorem hl_bk {s:Cs} {X:List Int} (h:¬s.br=true) (hX:s.X=some X) (hb:s.bk=true):N.hlN l S A j s = { s with hd:=true }:=by unfold N.hlN;rw [if_neg h,hX];simp only;rw [if_pos hb]
section
variable {s:Cs} {X:List Int} (h:¬s.br=true) (hX:s.X=some X) (hb:¬s.bk=true)
include h hX hb
theorem hl_no (hn:¬N.ndE (N.lm (l.getD s.ix.toNat default).r S) A j (N.bef X s.k) (N.lst X s.k)=0\/N.ndV (N.lm (l.getD s.ix.toNat default).r S) A j (N.bef X s.k) (N.lst X s.k)>N.lf l s.ix s.p):N.hlN l S A j s = { s with hd:=true }:=by unfold N.hlN;rw [if_neg h,hX];simp only;rw [if_neg hb,if_pos hn]
theorem ZdH (hn:¬(¬N.ndE (N.lm (l.getD s.ix.toNat default).r S) A j (N.bef X s.k) (N.lst X s.k)=0\/N.ndV (N.lm (l.getD s.ix.toNat default).r S) A j (N.bef X s.k) (N.lst X s.k)>N.lf l s.ix s.p)) (h0:((N.stL (N.lm (l.getD s.ix.toNat default).r S) A j (N.bef X s.k) (N.lst X s.k)).length:Int)=0):N.hlN l S A j s=N.stpN l { s with hd:=true }:=by unfold N.hlN;rw [if_neg h,hX];simp only;rw [if_neg hb,if_neg hn,if_pos h0]
theorem ZfA (hn:¬(¬N.ndE (N.lm (l.getD s.ix.toNat default).r S) A j (N.bef X s.k) (N.lst X s.k)=0\/N.ndV (N.lm (l.getD s.ix.toNat default).r S) A j (N.bef X s.k) (N.lst X s.k)>N.lf l s.ix s.p)) (h0:¬((N.stL (N.lm (l.getD s.ix.toNat default).r S) A j (N.bef X s.k) (N.lst X s.k)).length:Int)=0):N.hlN l S A j s = { s with hd:=true,X:=some (N.stL (N.lm (l.getD s.ix.toNat default).r S) A j (N.bef X s.k) (N.lst X s.k)),k:=0,bk:=true }:=by unfold N.hlN;rw [if_neg h,hX];simp only;rw [if_neg hb,if_neg hn,if_neg h0]
end
theorem mov_of {S A j b v:Int} (h:N.ndE S A j b v=0):N.mov S A j b v=true:=by
 unfold N.ndE at h
 by_cases hm:N.mov S A j b v=true
 ·exact hm
 ·rw [if_neg hm] at h;cases h
theorem hl_ok (ht:N.okT l) {s:Cs} (hs:Iv l B s):Iv l B (N.hlN l S A j s)/\(s.br=false->(N.hlN l S A j s).hd=true)/\(N.hlN l S A j s).br=s.br/\N.D l (N.hlN l S A j s).ix (N.hlN l S A j s).p=N.D l s.ix s.p:=by
 have hset:Iv l B { s with hd:=true }:=⟨hs.ixr,hs.mot,hs.fin,hs.plan,hs.rest,hs.pb,hs.kb,hs.wi,hs.few⟩
 by_cases hbr:s.br=true
 ·rw [hl_br hbr];exact ⟨hs,(fun (h:s.br=false)=>absurd (hbr.symm.trans h) (by decide)),rfl,rfl⟩
 ·cases hX:s.X with
  | none=>rw [hl_none hbr hX];exact ⟨hset,fun _=>rfl,rfl,rfl⟩
  | some X =>
   by_cases hb:s.bk=true
   ·rw [hl_bk hbr hX hb];exact ⟨hset,fun _=>rfl,rfl,rfl⟩
   ·by_cases hn:¬N.ndE (N.lm (l.getD s.ix.toNat default).r S) A j (N.bef X s.k) (N.lst X s.k)=0\/N.ndV (N.lm (l.getD s.ix.toNat default).r S) A j (N.bef X s.k) (N.lst X s.k)>N.lf l s.ix s.p
    ·rw [hl_no hbr hX hb hn];exact ⟨hset,fun _=>rfl,rfl,rfl⟩
    ·have hlt:s.ix<l.length:=by
      have h1:=hs.ixr
      by_cases hq:s.ix=l.length
      ·have:=(hs.fin hq).2;rw [hX] at this;cases this
      ·omega
     obtain ⟨m1,m2,m3⟩:=hs.mot hlt
     have hfew:=hs.few
     rw [hX,if_neg (by simp)] at hfew
     by_cases h0:((N.stL (N.lm (l.getD s.ix.toNat default).r S) A j (N.bef X s.k) (N.lst X s.k)).length:Int)=0
     ·rw [ZdH hbr hX hb hn h0]
      obtain ⟨q1,q2,q3,q4⟩:=stpN_ok (B:=B) ht (s:={ s with hd:=true }) ⟨hs.ixr.1,hlt⟩ m1 ⟨m2,by simp only;omega⟩ hs.wi hfew
      exact ⟨q1,fun _=>q3,q4,q2⟩
     ·rw [ZfA hbr hX hb hn h0]
      have he:N.ndE (N.lm (l.getD s.ix.toNat default).r S) A j (N.bef X s.k) (N.lst X s.k)=0:=Classical.byContradiction fun y=>hn (.inl y)
      have hv:¬N.ndV (N.lm (l.getD s.ix.toNat default).r S) A j (N.bef X s.k) (N.lst X s.k)>N.lf l s.ix s.p:=fun y=>hn (.inr y)
      have hm:=mov_of he
      obtain ⟨⟨k1,_⟩,k2⟩:=mov_iff.1 hm
      have k3:=Zdm k1 k2
      obtain ⟨t1,t2⟩:=stp_sum k1 (ZeI k1) k3
      have t3:=stp_len k1 k3
      have e1:N.stL (N.lm (l.getD s.ix.toNat default).r S) A j (N.bef X s.k) (N.lst X s.k)=N.stp (N.brk (N.lm (l.getD s.ix.toNat default).r S) A j) (N.lm (l.getD s.ix.toNat default).r S) j (N.lst X s.k) (N.lst X s.k-N.bef X s.k):=by unfold N.stL;rw [if_pos hm]
      have e2:N.ndV (N.lm (l.getD s.ix.toNat default).r S) A j (N.bef X s.k) (N.lst X s.k)=N.dst (N.brk (N.lm (l.getD s.ix.toNat default).r S) A j) (N.lm (l.getD s.ix.toNat default).r S) j (N.lst X s.k) (N.lst X s.k-N.bef X s.k):=by unfold N.ndV N.dis;rw [if_pos hm]
      rw [e1] at h0 ⊢
      have hmm:=Zcl (ht.1.2 s.ix.toNat (by have:=hs.ixr;omega))
      have hsm:s.p+(N.stp (N.brk (N.lm (l.getD s.ix.toNat default).r S) A j) (N.lm (l.getD s.ix.toNat default).r S) j (N.lst X s.k) (N.lst X s.k-N.bef X s.k)).sum<=N.ml (l.getD s.ix.toNat default):=by
       rw [t1,<- e2]
       unfold N.lf at hv
       omega
      refine ⟨⟨hs.ixr,hs.mot,fun hq=>absurd hq (by simp only;omega),fun Y hY => ?_,fun h=>(nomatch h),fun Y hY => ?_,fun Y hY hz=>(nomatch hz),hs.wi,?_⟩,fun _=>rfl,rfl,rfl⟩
      ·simp only [Option.some.injEq] at hY
       subst hY
       exact ⟨⟨Int.le_refl _,by simp only;omega,by omega⟩,t2,by simp only;rw [Int.toNat_zero,List.drop_zero];exact hsm⟩
      ·simp only [Option.some.injEq] at hY
       subst hY
       intro x hx
       have:=le_sum _ t2 x hx
       omega
      ·simp only
       rw [if_neg (by simp)]
       exact hfew
theorem hold_wp (ht:N.okT l) (hg:N.good l S A j) (hB:B<=1000000000) {s:Cs} (hs:Iv l B s) {L:Heap} (hL:RM fm l S A j s L):Wp M1 (.own 11 [.ptr 0 0 0 0] L) (fun v L2=>v = .tup []/\RX fm l S A j (N.hlN l S A j s) L2):=by
 obtain ⟨ix,p,X,k,bk,hd,br,P,q⟩:=s
 cases X with
 | none =>
  obtain ⟨hk0,hb0,_⟩:=hs.rest rfl
  simp only at hk0 hb0
  subst hk0;subst hb0
  cases hL with
  | nil hP =>
   simp only at hP
   subst hP
   refine Zd2 (hoA fm l S A j ix p hd br q.x q.y q.z _ ⟨fun h => ?_,fun h => ?_⟩)
   ·rw [hl_br h];exact ⟨rfl,.nil rfl⟩
   ·rw [hl_none h rfl];exact ⟨rfl,.nil rfl⟩
  | row w =>
   refine Zd2 (hoB fm l S A j ix p hd br q.x q.y q.z P w _ ⟨fun h => ?_,fun h => ?_⟩)
   ·rw [hl_br h];exact ⟨rfl,.row w⟩
   ·rw [hl_none h rfl];exact ⟨rfl,.row w⟩
 | some X =>
  obtain ⟨hk,hX,hsum⟩:=hs.plan X rfl
  have hpb:=hs.pb X rfl
  have hkb:=hs.kb X rfl
  have hlt:ix<l.length:=by
   have h1:=hs.ixr
   by_cases hq:ix=l.length
   ·have:=(hs.fin hq).2;cases this
   ·simp only at *;omega
  obtain ⟨⟨g1,g2,g3⟩,g4,g5,_⟩:=iv_G ht.1 hs hlt
  obtain ⟨q1,_⟩:=hg ix.toNat g5
  obtain ⟨m1,m2,m3⟩:=hs.mot hlt
  have hD:=iv_D hs
  have hfew:=hs.few
  have hsp:N.okSq l ix p P:=⟨⟨⟨ht.1,hs.ixr,fun _=>⟨m1,m2,by simp only at m3;omega⟩⟩,hlt⟩,by rw [if_neg (by simp)] at hfew;simp only at *;omega⟩
  simp only at hk hX hsum hpb hkb
  have hel:∀ n:Nat,n<X.length->1<=X.getD n default/\X.getD n default<=1000000:=fun n hn=>by
   have:X.getD n default ∈ X:=by
    rw [List.getD_eq_getElem?_getD,List.getElem?_eq_getElem hn]
    exact List.getElem_mem _
   exact ⟨hX _ this,hpb _ this⟩
  have hov:∀ (h:¬(k=(X.length:Int)\/bk=true)),N.okV (N.bef X k) (N.lst X k):=fun h=>by
   have hb:bk=false:=by cases bk with | false=>rfl | true=>exact absurd (.inr rfl) h
   have:=hkb hb
   have a1:=hel (k-1).toNat (by omega)
   unfold N.bef N.lst
   split
   ·have a2:=hel (k-2).toNat (by omega)
    exact ⟨by omega,by omega⟩
   ·exact ⟨by omega,by omega⟩
  cases hL with
  | nil hP =>
   simp only at hP
   subst hP
   refine Zd2 (hoC fm l S A j ix p k bk hd br q.x q.y q.z X _ ⟨fun h => ?_,fun h=>⟨fun h2 => ?_,fun hkk => ?_⟩⟩)
   ·rw [hl_br h];exact ⟨rfl,.nil rfl⟩
   ·rw [hl_bk (X:=X) h rfl (by rcases h2 with y | y;exact absurd y (by omega);exact y)];exact ⟨rfl,.nil rfl⟩
   ·have hbk:¬bk=true:=fun y=>hkk (.inr y)
    have hk1:=hkb (by cases bk with | false=>rfl | true=>exact absurd rfl hbk)
    have hokv:=hov hkk
    refine ⟨by omega,by omega,by omega,fun h3 => ?_,fun h3 => ?_⟩
    ·have eb:N.bef X k=X.getD (k-2).toNat default:=by unfold N.bef;rw [if_pos h3]
     have el:N.lst X k=X.getD (k-1).toNat default:=rfl
     rw [eb,el] at hokv
     refine ⟨by omega,by omega,by omega,q1,g4,g5,hokv,fun _=>g1,fun hn => ?_,fun hn=>⟨fun z=>absurd (Classical.byContradiction fun y=>hn (.inl y)) z,fun _=>⟨fun h0=>⟨fun hc=>⟨hsp.1,?_⟩,fun hc=>⟨hsp.1,?_⟩⟩,fun h0 => ?_⟩⟩⟩
     ·rw [hl_no h rfl hbk (by rw [eb,el];exact hn)];exact ⟨rfl,Zey _ rfl rfl⟩
     ·rw [ZdH h rfl hbk (by rw [eb,el];exact hn) (by rw [eb,el];exact h0)];exact ⟨rfl,RX_rowx _ 0 (stP_y hc) rfl⟩
     ·rw [ZdH h rfl hbk (by rw [eb,el];exact hn) (by rw [eb,el];exact h0)];exact ⟨rfl,Zey _ (stP_n hc) rfl⟩
     ·rw [ZfA h rfl hbk (by rw [eb,el];exact hn) (by rw [eb,el];exact h0),eb,el];exact ⟨rfl,Zey _ rfl rfl⟩
    ·have eb:N.bef X k=0:=by unfold N.bef;rw [if_neg h3]
     have el:N.lst X k=X.getD (k-1).toNat default:=rfl
     rw [eb,el] at hokv
     refine ⟨ q1,g4,g5,hokv,fun _=>g1,fun hn => ?_,fun hn=>⟨fun z=>absurd (Classical.byContradiction fun y=>hn (.inl y)) z,fun _=>⟨fun h0=>⟨fun hc=>⟨hsp.1,?_⟩,fun hc=>⟨hsp.1,?_⟩⟩,fun h0 => ?_⟩⟩⟩
     ·rw [hl_no h rfl hbk (by rw [eb,el];exact hn)];exact ⟨rfl,Zey _ rfl rfl⟩
     ·rw [ZdH h rfl hbk (by rw [eb,el];exact hn) (by rw [eb,el];exact h0)];exact ⟨rfl,RX_rowx _ 0 (stP_y hc) rfl⟩
     ·rw [ZdH h rfl hbk (by rw [eb,el];exact hn) (by rw [eb,el];exact h0)];exact ⟨rfl,Zey _ (stP_n hc) rfl⟩
     ·rw [ZfA h rfl hbk (by rw [eb,el];exact hn) (by rw [eb,el];exact h0),eb,el];exact ⟨rfl,Zey _ rfl rfl⟩
  | row w =>
   refine Zd2 (hoD fm l S A j ix p k bk hd br q.x q.y q.z X P w _ ⟨fun h => ?_,fun h=>⟨fun h2 => ?_,fun hkk => ?_⟩⟩)
   ·rw [hl_br h];exact ⟨rfl,.row w⟩
   ·rw [hl_bk (X:=X) h rfl (by rcases h2 with y | y;exact absurd y (by omega);exact y)];exact ⟨rfl,.row w⟩
   ·have hbk:¬bk=true:=fun y=>hkk (.inr y)
    have hk1:=hkb (by cases bk with | false=>rfl | true=>exact absurd rfl hbk)
    have hokv:=hov hkk
    refine ⟨by omega,by omega,by omega,fun h3 => ?_,fun h3 => ?_⟩
    ·have eb:N.bef X k=X.getD (k-2).toNat default:=by unfold N.bef;rw [if_pos h3]
     have el:N.lst X k=X.getD (k-1).toNat default:=rfl
     rw [eb,el] at hokv
     refine ⟨by omega,by omega,by omega,q1,g4,g5,hokv,fun _=>g1,fun hn => ?_,fun hn=>⟨fun z=>absurd (Classical.byContradiction fun y=>hn (.inl y)) z,fun _=>⟨fun h0=>⟨hsp,?_⟩,fun h0 => ?_⟩⟩⟩
     ·rw [hl_no h rfl hbk (by rw [eb,el];exact hn)];exact ⟨rfl,Zex _ w rfl rfl⟩
     ·rw [ZdH h rfl hbk (by rw [eb,el];exact hn) (by rw [eb,el];exact h0)];exact ⟨rfl,Zex _ _ rfl rfl⟩
     ·rw [ZfA h rfl hbk (by rw [eb,el];exact hn) (by rw [eb,el];exact h0),eb,el];exact ⟨rfl,Zex _ w rfl rfl⟩
    ·have eb:N.bef X k=0:=by unfold N.bef;rw [if_neg h3]
     have el:N.lst X k=X.getD (k-1).toNat default:=rfl
     rw [eb,el] at hokv
     refine ⟨ q1,g4,g5,hokv,fun _=>g1,fun hn => ?_,fun hn=>⟨fun z=>absurd (Classical.byContradiction fun y=>hn (.inl y)) z,fun _=>⟨fun h0=>⟨hsp,?_⟩,fun h0 => ?_⟩⟩⟩
     ·rw [hl_no h rfl hbk (by rw [eb,el];exact hn)];exact ⟨rfl,Zex _ w rfl rfl⟩
     ·rw [ZdH h rfl hbk (by rw [eb,el];exact hn) (by rw [eb,el];exact h0)];exact ⟨rfl,Zex _ _ rfl rfl⟩
     ·rw [ZfA h rfl hbk (by rw [eb,el];exact hn) (by rw [eb,el];exact h0),eb,el];exact ⟨rfl,Zex _ w rfl rfl⟩
end
end Go.Av

namespace Go.Av
open Go.Proofs
namespace N
def okDn (l:List Mo) (ix p:Int) (P:List Mo):Prop:=okC l ix p/\ZeZ P
end N
theorem evo19_a (fm:Bool) (l:List Mo) (S A j ix p:Int) (hd br:Bool) (qx qy qz:Int) (h:N.okC l ix p):Ev M1 (.own 19 [.ptr 0 0 0 0] [⟨[.agg [.vec fm 9 (l.map Mo.a),.int .i64 S,.int .i64 A,.int .i64 j,.int .i64 ix,.int .i64 p,.vnil,.int .i64 0,.bool false,.bool hd,.bool br,.vnil,.int .i64 qx,.int .i64 qy,.int .i64 qz]],15,0,false,false⟩]) (.vec false 9 (([]:List Mo).map Mo.a)) [⟨[.agg [.vec fm 9 (l.map Mo.a),.int .i64 S,.int .i64 A,.int .i64 j,.int .i64 ix,.int .i64 p,.vnil,.int .i64 0,.bool false,.bool hd,.bool br,.vnil,.int .i64 qx,.int .i64 qy,.int .i64 qz]],15,0,false,false⟩]:=
 ZgC rfl (dnA fm l S A j ix p hd br qx qy qz _ _ rfl ⟨h,fun z=>(nomatch z.2),fun _=>⟨rfl,rfl⟩⟩)
theorem evo19_b (fm:Bool) (l:List Mo) (S A j ix p:Int) (hd br:Bool) (qx qy qz:Int) (P:List Mo) (w:Nat) (h:N.okDn l ix p P):Ev M1 (.own 19 [.ptr 0 0 0 0] [⟨[.agg [.vec fm 9 (l.map Mo.a),.int .i64 S,.int .i64 A,.int .i64 j,.int .i64 ix,.int .i64 p,.vnil,.int .i64 0,.bool false,.bool hd,.bool br,.row 1 w,.int .i64 qx,.int .i64 qy,.int .i64 qz]],15,0,false,false⟩,⟨P.map Mo.a,9,w,false,true⟩]) (.vec false 9 (P.map Mo.a)) [⟨[.agg [.vec fm 9 (l.map Mo.a),.int .i64 S,.int .i64 A,.int .i64 j,.int .i64 ix,.int .i64 p,.vnil,.int .i64 0,.bool false,.bool hd,.bool br,.row 1 w,.int .i64 qx,.int .i64 qy,.int .i64 qz]],15,0,false,false⟩,⟨P.map Mo.a,9,w,true,true⟩]:=
 ZgC rfl (dnB fm l S A j ix p hd br qx qy qz P w _ _ rfl ⟨h.2,h.1,fun z=>(nomatch z.2),fun _=>⟨rfl,rfl⟩⟩)
section
variable {l:List Mo} {B S A j:Int} {fm:Bool}
theorem iv_C (hl:N.okL l) {s:Cs} (hs:Iv l B s):N.okC l s.ix s.p:=⟨hl,hs.ixr,fun h=>by obtain ⟨h1,h2,h3⟩:=hs.mot h;exact ⟨h1,h2,by omega⟩⟩
end
end Go.Av

namespace Go.Av
open Go.Proofs
set_option maxRecDepth 100000
def fi74:Fi:=⟨21,[.tmp 2]⟩
def kp74:List (Nat × List Nat):=[(0,[1]),(1,[2])]
def frA_at (x y z:Int) (Q:AV->Heap->Prop):Prop:=Wp M1 (.run fi74 (atC (cd Try.f74) []) [(0,.agg [.int .i64 x,.int .i64 y,.int .i64 z])] []) Q
theorem call74 {args:List AV} {d:AV} (h:wc M1 fi74 Try.f74 args d):Ev M1 (.pure 74 args) d []:=pcl _ _ (by kernel_rfl) h
theorem frA (x y z:Int)  (dq:AV) (H :
  vb (bif decide ((if z>if y>x then y else x then z else if y>x then y else x)>10000000) then true else decide ((if z<if y<x then y else x then z else if y<x then y else x) < -10000000))=dq) :
 frA_at x y z (Zaj dq):=by
 unfold frA_at
 exact Zao (G:=Zab kp74 [] []) 1000 [] (asm:=[true,true,true,!(decide ((if z>if y>x then y else x then z else if y>x then y else x)>10000000)==false&&true)||true,!(decide ((if z>if y>x then y else x then z else if y>x then y else x)>10000000)==false&&true)||true,!(decide ((if z>if y>x then y else x then z else if y>x then y else x)>10000000)==false&&true)||true]) (vb (bif decide ((if z>if y>x then y else x then z else if y>x then y else x)>10000000) then true else decide ((if z<if y<x then y else x then z else if y<x then y else x) < -10000000))) (by kernel_rfl) (bc rfl (bc rfl (bc rfl (bc (Bool.or_true _) (bc (Bool.or_true _) (bc (Bool.or_true _) b0)))))) q0 c0 H
end Go.Av

namespace Go.Av
open Go.Proofs
namespace N
def okFar (x y z:Int):Prop:=(-10000000<=x/\x<=10000000)/\(-10000000<=y/\y<=10000000) /\ -10000000<=z/\z<=10000000
end N
theorem ev74 (x y z:Int) (h:N.okFar x y z):Ev M1 (.pure 74 [.agg [.int .i64 x,.int .i64 y,.int .i64 z]]) (.bool false) []:=by
 obtain ⟨h1,h2,h3⟩:=h
 refine call74 (frA x y z _ ?_)
 have e1:decide ((if z>if y>x then y else x then z else if y>x then y else x)>10000000)=false:=by
  rw [decide_eq_false_iff_not]
  split <;> split <;> omega
 have e2:decide ((if z<if y<x then y else x then z else if y<x then y else x) < -10000000)=false:=by
  rw [decide_eq_false_iff_not]
  split <;> split <;> omega
 rw [e1,e2];rfl
end Go.Av

namespace Go.Av
open Go.Proofs
set_option maxRecDepth 100000
def fi40:Fi:=⟨79,[.tmp 4]⟩
def kp40:List (Nat × List Nat):=[(0,[0,3]),(1,[0,3,15]),(2,[4]),(3,[0,3,16,17,18]),(4,[0,3,16,17,18,19]),(5,[0,3,5,6,16,17,18]),(6,[0,3,16,17,18,40]),(7,[4]),(8,[0,3,16,17,18]),(9,[0,3,42,43,44]),(10,[0,3,42,43,44,45]),(11,[0,3,8,42,43,44]),(12,[0,3,42,43,44,55]),(13,[4]),(14,[0,3,42,43,44]),(15,[0,3,59]),(16,[4]),(17,[3,60,61,62]),(18,[3,60,61,62,63]),(19,[3,10,60,61,62]),(20,[3,12,60,61,62]),(21,[3,12,60,61,62,76]),(22,[4]),(23,[3,60,61,62]),(24,[4])]
def ckA_at (f:Bool) (l:List Mo) (S A j:Int) (Q:AV->Heap->Prop):Prop:=Wp M1 (.run fi40 (atC (cd Try.f40) []) [(0,.vec f 9 (l.map Mo.a)),(1,.agg [.int .i64 S,.int .i64 A,.int .i64 j])] []) Q
def ckB_at (f:Bool) (l:List Mo) (S A j:Int) (n i:Int) (Q:AV->Heap->Prop):Prop:=Wp M1 (.run fi40 (atC (cd Try.f40) [1,1,0,1,0,0]) [(0,.vec f 9 (l.map Mo.a)),(3,.ptr 0 0 0 0),(16,.vec f 9 (l.map Mo.a)),(17,.int .i64 n),(18,.int .i64 i)] [⟨[.agg [.int .i64 S,.int .i64 A,.int .i64 j]],3,0,false,false⟩]) Q
def ckC_at (f:Bool) (l:List Mo) (S A j:Int) (n i:Int) (Q:AV->Heap->Prop):Prop:=Wp M1 (.run fi40 (atC (cd Try.f40) [1,1,1,0,1,0,0]) [(0,.vec f 9 (l.map Mo.a)),(3,.ptr 0 0 0 0),(42,.vec f 9 (l.map Mo.a)),(43,.int .i64 n),(44,.int .i64 i)] [⟨[.agg [.int .i64 S,.int .i64 A,.int .i64 j]],3,0,false,false⟩]) Q
def ckD_at (f:Bool) (l:List Mo) (S A j:Int) (n i:Int) (Q:AV->Heap->Prop):Prop:=Wp M1 (.run fi40 (atC (cd Try.f40) [1,1,1,1,1,0,1,0,0]) [(3,.ptr 0 0 0 0),(60,.vec f 9 (l.map Mo.a)),(61,.int .i64 n),(62,.int .i64 i)] [⟨[.agg [.int .i64 S,.int .i64 A,.int .i64 j]],3,0,false,false⟩]) Q
theorem call40 {args:List AV} {d:AV} (h:wc M1 fi40 Try.f40 args d):Ev M1 (.pure 40 args) d []:=pcl _ _ (by kernel_rfl) h
theorem ckA (f:Bool) (l:List Mo) (S A j:Int)  (dq:AV) (H :
  ((¬N.vlE S A j=0)->vi 1=dq) /\
  (¬(¬N.vlE S A j=0)->ckB_at f l S A j ((↑l.length:Int)) 0 (Zaj dq))) :
 ckA_at f l S A j (Zaj dq):=by
 unfold ckA_at
 refine Zac (G:=Zab kp40 [(1,1,.call (vi (N.vlE S A j)) none)] []) 5 [] ⟨(atC (cd Try.f40) [1,0,1]),[(0,AV.vec f 9 (List.map Mo.a l)),(3,AV.ptr 0 0 0 0),(15,vb (N.vlE S A j != 0))],[⟨[ag [vi S,vi A,vi j]],3,0,false,false⟩],_,[],_⟩ (by kernel_rfl) (bc rfl b0) q0 (ce (@ev73 S A j) c0) ?_
 rcases xq H with ⟨d2,H⟩|⟨d2,H⟩
 ·exact Zao (G:=Zab kp40 [] []) 1000 [true] (vi 1) (by kernel_rfl) (bc (Zam (i_ne.2 d2)) b0) q0 c0 H
 ·have w3:(List.map Mo.a l).length=l.length:=List.length_map ..
  exact Zac (G:=Zab kp40 [] []) 1000 [false] ⟨(atC (cd Try.f40) [1,1,0,1,0,0]),[(0,AV.vec f 9 (List.map Mo.a l)),(3,AV.ptr 0 0 0 0),(16,AV.vec f 9 (List.map Mo.a l)),(17,vi (↑(List.map Mo.a l).length:Int)),(18,vi 0)],[⟨[ag [vi S,vi A,vi j]],3,0,false,false⟩],_,[],_⟩ (by kernel_rfl) (bc (Zal (fun h=>d2 (i_ne.1 h))) b0) q0 c0 (by (try rw [w3]);all_goals exact H)
noncomputable abbrev zCxP1 (l:List Mo) (i:Int):=ag [vi (l.getD i.toNat default).x,vi (l.getD i.toNat default).y,vi (l.getD i.toNat default).z,vi (l.getD i.toNat default).u,vi (l.getD i.toNat default).v,vi (l.getD i.toNat default).w,vi (l.getD i.toNat default).r,vi (l.getD i.toNat default).t,vi (l.getD i.toNat default).b]
noncomputable abbrev zCxP2 (l:List Mo) (i:Int):=ag [vi (l.getD (i-1).toNat default).x,vi (l.getD (i-1).toNat default).y,vi (l.getD (i-1).toNat default).z,vi (l.getD (i-1).toNat default).u,vi (l.getD (i-1).toNat default).v,vi (l.getD (i-1).toNat default).w,vi (l.getD (i-1).toNat default).r,vi (l.getD (i-1).toNat default).t,vi (l.getD (i-1).toNat default).b]
noncomputable abbrev zCxP3 (S:Int) (A:Int) (j:Int):=ag [vi S,vi A,vi j]
theorem ckB (f:Bool) (l:List Mo) (S A j:Int) (n i:Int)  (dq:AV) (H :
  ((i<n)->(0<=i) /\
   (i.toNat<l.length) /\
   (-9223372036854775808<=i-1/\i-1<=9223372036854775807) /\
   (((i>0)/\(¬((l.getD i.toNat default).r<0)))->(0<=i-1)) /\
   (((i>0)/\(¬((l.getD i.toNat default).r<0)))->((i-1).toNat<l.length)) /\
   ((((l.getD i.toNat default).r<0)\/((i>0)/\(¬(((l.getD (i-1).toNat default).u=(l.getD i.toNat default).x)/\(((l.getD (i-1).toNat default).v=(l.getD i.toNat default).y)/\((l.getD (i-1).toNat default).w=(l.getD i.toNat default).z))))))->vi 1=dq) /\
   (¬(((l.getD i.toNat default).r<0)\/((i>0)/\(¬(((l.getD (i-1).toNat default).u=(l.getD i.toNat default).x)/\(((l.getD (i-1).toNat default).v=(l.getD i.toNat default).y)/\((l.getD (i-1).toNat default).w=(l.getD i.toNat default).z))))))->(-9223372036854775808<=i+1/\i+1<=9223372036854775807) /\
    ckB_at f l S A j n (i+1) (Zaj dq))) /\
  (¬(i<n)->ckC_at f l S A j ((↑l.length:Int)) 0 (Zaj dq))) :
 ckB_at f l S A j n i (Zaj dq):=by
 unfold ckB_at
 rcases xq H with ⟨d2,H⟩|⟨d2,H⟩
 ·obtain ⟨k4,H⟩:=H
  have w5:(List.map Mo.a l).length=l.length:=List.length_map ..
  have i6:(decide (i.toNat<(List.map Mo.a l).length))=true ↔ (i.toNat<l.length):=(by (try rw [w5]);all_goals exact Zae)
  obtain ⟨k7,k8,H⟩:=H
  have w9:wi (i-1)=i-1:=wI64 k8
  have i10:(!(decide (i>0)==true&&(decide ((l.getD i.toNat default).r<0)==false&&true))||decide (0<=wi (i-1)))=true ↔ (((i>0)/\(¬((l.getD i.toNat default).r<0)))->(0<=i-1)):=(by (try rw [w9]);all_goals exact (ZbJ (ZaG (i_bt Zae) (i_at (i_bf Zae))) Zae))
  obtain ⟨k11,H⟩:=H
  have i12:(!(decide (i>0)==true&&(decide ((l.getD i.toNat default).r<0)==false&&true))||decide ((wi (i-1)).toNat<(List.map Mo.a l).length))=true ↔ (((i>0)/\(¬((l.getD i.toNat default).r<0)))->((i-1).toNat<l.length)):=(by (try rw [w5]);(try rw [w9]);all_goals exact (ZbJ (ZaG (i_bt Zae) (i_at (i_bf Zae))) Zae))
  obtain ⟨k13,H⟩:=H
  refine Zac (G:=Zab kp40 [(5,2,.elem ((zCxP1 l i))),(6,12,.elem (zCxP2 l i))] []) 11 [true] ⟨(atC (cd Try.f40) [1,1,0,1,0,0,1,1,0,0,1,1]),[(0,AV.vec f 9 (List.map Mo.a l)),(3,AV.ptr 0 0 0 0),(16,AV.vec f 9 (List.map Mo.a l)),(17,vi n),(18,vi i),(40,vb (bif decide ((l.getD i.toNat default).r<0) then true else bif decide (i>0) then !((l.getD (i-1).toNat default).u==(l.getD i.toNat default).x&&((l.getD (i-1).toNat default).v==(l.getD i.toNat default).y&&((l.getD (i-1).toNat default).w==(l.getD i.toNat default).z&&true))) else false))],[⟨[(zCxP3 S A j)],3,0,false,false⟩,⟨[(zCxP1 l i)],9,0,false,false⟩],[(decide (i<n))==true,decide (0<=i),decide (i.toNat<(List.map Mo.a l).length),true,true,!(decide (i>0)==true&&(decide ((l.getD i.toNat default).r<0)==false&&true))||decide (0<=wi (i-1)),!(decide (i>0)==true&&(decide ((l.getD i.toNat default).r<0)==false&&true))||decide ((wi (i-1)).toNat<(List.map Mo.a l).length),!(decide (i>0)==true&&(decide ((l.getD i.toNat default).r<0)==false&&true))||true],[((List.map Mo.a l).get?Internal i.toNat=some ((zCxP1 l i))),((decide (i>0)==true&&(decide ((l.getD i.toNat default).r<0)==false&&true))=true->(List.map Mo.a l).get?Internal (wi (i-1)).toNat=some (zCxP2 l i))],_⟩ (by kernel_rfl) (bc (Zam (Zae.2 d2)) (bc (Zae.2 k4) (bc (i6.2 k7) (bc rfl (bc rfl (bc (i10.2 k11) (bc (i12.2 k13) (bc (Bool.or_true _) b0)))))))) (qc (Zax k7) (qc (by (try rw [w9]);all_goals exact (fun h=>Zax (k13 ((ZaG (i_bt Zae) (i_at (i_bf Zae))).1 h)))) q0)) c0 ?_
  rcases xq H with ⟨d16,H⟩|⟨d16,H⟩
  ·exact Zao (G:=Zab kp40 [] []) 1000 [true] (vi 1) (by kernel_rfl) (bc (Zam ((ZaK Zae (ZaB Zae (ZaO (ZaG i_eq (ZaG i_eq (i_at i_eq)))))).2 d16)) b0) q0 c0 H
  ·obtain ⟨k17,H⟩:=H
   have w18:wi (i+1)=i+1:=wI64 k17
   exact Zac (G:=Zab kp40 [] []) 1000 [false] ⟨(atC (cd Try.f40) [1,1,0,1,0,0]),[(0,AV.vec f 9 (List.map Mo.a l)),(3,AV.ptr 0 0 0 0),(16,AV.vec f 9 (List.map Mo.a l)),(17,vi n),(18,vi (wi (i+1)))],[⟨[(zCxP3 S A j)],3,0,false,false⟩,⟨[(zCxP1 l i)],9,0,false,false⟩],_,[],_⟩ (by kernel_rfl) (bc (Zal (fun h=>d16 ((ZaK Zae (ZaB Zae (ZaO (ZaG i_eq (ZaG i_eq (i_at i_eq)))))).1 h))) b0) q0 c0 (by (try rw [w18]);all_goals exact Zar [0] (by kernel_rfl) H)
 ·have w19:(List.map Mo.a l).length=l.length:=List.length_map ..
  exact Zac (G:=Zab kp40 [] []) 1000 [false] ⟨(atC (cd Try.f40) [1,1,1,0,1,0,0]),[(0,AV.vec f 9 (List.map Mo.a l)),(3,AV.ptr 0 0 0 0),(42,AV.vec f 9 (List.map Mo.a l)),(43,vi (↑(List.map Mo.a l).length:Int)),(44,vi 0)],[⟨[(zCxP3 S A j)],3,0,false,false⟩],_,[],_⟩ (by kernel_rfl) (bc (Zal (fun h=>d2 (Zae.1 h))) b0) q0 c0 (by (try rw [w19]);all_goals exact H)
noncomputable abbrev zCxP4 (l:List Mo) (i:Int):=ag [vi (l.getD i.toNat default).x,vi (l.getD i.toNat default).y,vi (l.getD i.toNat default).z,vi (l.getD i.toNat default).u,vi (l.getD i.toNat default).v,vi (l.getD i.toNat default).w,vi (l.getD i.toNat default).r,vi (l.getD i.toNat default).t,vi (l.getD i.toNat default).b]
theorem ckC (f:Bool) (l:List Mo) (S A j:Int) (n i:Int)  (dq:AV) (H :
  ((i<n)->(0<=i) /\
   (i.toNat<l.length) /\
   (N.okFar (l.getD i.toNat default).x (l.getD i.toNat default).y (l.getD i.toNat default).z) /\
   (N.okFar (l.getD i.toNat default).u (l.getD i.toNat default).v (l.getD i.toNat default).w) /\
   (-9223372036854775808<=i+1/\i+1<=9223372036854775807) /\
   ckC_at f l S A j n (i+1) (Zaj dq)) /\
  (¬(i<n)->(((↑l.length:Int)>20000)->vi 3=dq) /\
   (¬((↑l.length:Int)>20000)->ckD_at f l S A j ((↑l.length:Int)) 0 (Zaj dq)))) :
 ckC_at f l S A j n i (Zaj dq):=by
 unfold ckC_at
 rcases xq H with ⟨d2,H⟩|⟨d2,H⟩
 ·obtain ⟨k4,H⟩:=H
  have w5:(List.map Mo.a l).length=l.length:=List.length_map ..
  have i6:(decide (i.toNat<(List.map Mo.a l).length))=true ↔ (i.toNat<l.length):=(by (try rw [w5]);all_goals exact Zae)
  obtain ⟨k7,k8,k9,k10,H⟩:=H
  have w11:wi (i+1)=i+1:=wI64 k10
  exact Zac (G:=Zab kp40 [(11,1,.elem ((zCxP4 l i))),(12,2,.call (vb false) none),(12,6,.call (vb false) none)] []) 1000 [true,false] ⟨(atC (cd Try.f40) [1,1,1,0,1,0,0]),[(0,AV.vec f 9 (List.map Mo.a l)),(3,AV.ptr 0 0 0 0),(42,AV.vec f 9 (List.map Mo.a l)),(43,vi n),(44,vi (wi (i+1)))],[⟨[ag [vi S,vi A,vi j]],3,0,false,false⟩,⟨[(zCxP4 l i)],9,0,false,false⟩],_,[((List.map Mo.a l).get?Internal i.toNat=some ((zCxP4 l i)))],_⟩ (by kernel_rfl) (bc (Zam (Zae.2 d2)) (bc (Zae.2 k4) (bc (i6.2 k7) (bc rfl (bc rfl (bc rfl (bc rfl b0))))))) (qc (Zax k7) q0) (ce (@ev74 ((l.getD i.toNat default).x) ((l.getD i.toNat default).y) ((l.getD i.toNat default).z) k8) (ce (@ev74 ((l.getD i.toNat default).u) ((l.getD i.toNat default).v) ((l.getD i.toNat default).w) k9) c0)) (by (try rw [w11]);all_goals exact Zar [0] (by kernel_rfl) H)
 ·have w12:(List.map Mo.a l).length=l.length:=List.length_map ..
  have i13:(decide ((↑(List.map Mo.a l).length:Int)>20000))=true ↔ ((↑l.length:Int)>20000):=(by (try rw [w12]);all_goals exact Zae)
  rcases xq H with ⟨d14,H⟩|⟨d14,H⟩
  ·exact Zao (G:=Zab kp40 [] []) 1000 [false,true] (vi 3) (by kernel_rfl) (bc (Zal (fun h=>d2 (Zae.1 h))) (bc (Zam (i13.2 d14)) b0)) q0 c0 H
  ·exact Zac (G:=Zab kp40 [] []) 1000 [false,false] ⟨(atC (cd Try.f40) [1,1,1,1,1,0,1,0,0]),[(3,AV.ptr 0 0 0 0),(60,AV.vec f 9 (List.map Mo.a l)),(61,vi (↑(List.map Mo.a l).length:Int)),(62,vi 0)],[⟨[ag [vi S,vi A,vi j]],3,0,false,false⟩],_,[],_⟩ (by kernel_rfl) (bc (Zal (fun h=>d2 (Zae.1 h))) (bc (Zal (fun h=>d14 (i13.1 h))) b0)) q0 c0 (by (try rw [w12]);all_goals exact H)
noncomputable abbrev zCxP5 (l:List Mo) (i:Int):=ag [vi (l.getD i.toNat default).x,vi (l.getD i.toNat default).y,vi (l.getD i.toNat default).z,vi (l.getD i.toNat default).u,vi (l.getD i.toNat default).v,vi (l.getD i.toNat default).w,vi (l.getD i.toNat default).r,vi (l.getD i.toNat default).t,vi (l.getD i.toNat default).b]
noncomputable abbrev zCxP6 (l:List Mo) (i:Int):=N.len ((l.getD i.toNat default).u-(l.getD i.toNat default).x) ((l.getD i.toNat default).v-(l.getD i.toNat default).y) ((l.getD i.toNat default).w-(l.getD i.toNat default).z)
theorem ckD (f:Bool) (l:List Mo) (S A j:Int) (n i:Int)  (dq:AV) (H :
  ((i<n)->(0<=i) /\
   (i.toNat<l.length) /\
   (N.cl ((l.getD i.toNat default).u-(l.getD i.toNat default).x)/\N.cl ((l.getD i.toNat default).v-(l.getD i.toNat default).y)/\N.cl ((l.getD i.toNat default).w-(l.getD i.toNat default).z)) /\
   (N.okR (l.getD i.toNat default).r) /\
   (N.okSt (N.len ((l.getD i.toNat default).u-(l.getD i.toNat default).x) ((l.getD i.toNat default).v-(l.getD i.toNat default).y) ((l.getD i.toNat default).w-(l.getD i.toNat default).z))) /\
   ((¬N.stE (N.lm (l.getD i.toNat default).r S) A j (N.len ((l.getD i.toNat default).u-(l.getD i.toNat default).x) ((l.getD i.toNat default).v-(l.getD i.toNat default).y) ((l.getD i.toNat default).w-(l.getD i.toNat default).z))=0)->vi (N.stE (N.lm (l.getD i.toNat default).r S) A j (N.len ((l.getD i.toNat default).u-(l.getD i.toNat default).x) ((l.getD i.toNat default).v-(l.getD i.toNat default).y) ((l.getD i.toNat default).w-(l.getD i.toNat default).z)))=dq) /\
   (¬(¬N.stE (N.lm (l.getD i.toNat default).r S) A j (N.len ((l.getD i.toNat default).u-(l.getD i.toNat default).x) ((l.getD i.toNat default).v-(l.getD i.toNat default).y) ((l.getD i.toNat default).w-(l.getD i.toNat default).z))=0)->(-9223372036854775808<=i+1/\i+1<=9223372036854775807) /\
    ckD_at f l S A j n (i+1) (Zaj dq))) /\
  (¬(i<n)->vi 0=dq)) :
 ckD_at f l S A j n i (Zaj dq):=by
 unfold ckD_at
 rcases xq H with ⟨d2,H⟩|⟨d2,H⟩
 ·obtain ⟨k4,H⟩:=H
  have w5:(List.map Mo.a l).length=l.length:=List.length_map ..
  have i6:(decide (i.toNat<(List.map Mo.a l).length))=true ↔ (i.toNat<l.length):=(by (try rw [w5]);all_goals exact Zae)
  obtain ⟨k7,k8,k9,k10,H⟩:=H
  refine Zac (G:=Zab kp40 [(19,1,.elem ((zCxP5 l i))),(20,1,.call (vi (zCxP6 l i)) none),(20,4,.call (ag [vi (N.lm (l.getD i.toNat default).r S),vi A,vi j]) none),(20,5,.call (tu [vf (List.map vi (N.stX (N.lm (l.getD i.toNat default).r S) A j (zCxP6 l i))),vi (N.stE (N.lm (l.getD i.toNat default).r S) A j (zCxP6 l i))]) none)] []) 13 [true] ⟨(atC (cd Try.f40) [1,1,1,1,1,0,1,0,0,1,1,0,0,1,1,1]),[(3,AV.ptr 0 0 0 0),(12,vi (N.stE (N.lm (l.getD i.toNat default).r S) A j (zCxP6 l i))),(60,AV.vec f 9 (List.map Mo.a l)),(61,vi n),(62,vi i),(76,vb (N.stE (N.lm (l.getD i.toNat default).r S) A j (zCxP6 l i) != 0))],[⟨[ag [vi S,vi A,vi j]],3,0,false,false⟩,⟨[(zCxP5 l i)],9,0,false,false⟩],_,[((List.map Mo.a l).get?Internal i.toNat=some ((zCxP5 l i)))],_⟩ (by kernel_rfl) (bc (Zam (Zae.2 d2)) (bc (Zae.2 k4) (bc (i6.2 k7) (bc rfl (bc rfl (bc rfl (bc rfl b0))))))) (qc (Zax k7) q0) (ce (@ev51 ((l.getD i.toNat default).x) ((l.getD i.toNat default).y) ((l.getD i.toNat default).z) ((l.getD i.toNat default).u) ((l.getD i.toNat default).v) ((l.getD i.toNat default).w) ((l.getD i.toNat default).r) ((l.getD i.toNat default).t) ((l.getD i.toNat default).b) k8) (ce (@ev46 ((l.getD i.toNat default).x) ((l.getD i.toNat default).y) ((l.getD i.toNat default).z) ((l.getD i.toNat default).u) ((l.getD i.toNat default).v) ((l.getD i.toNat default).w) ((l.getD i.toNat default).r) ((l.getD i.toNat default).t) ((l.getD i.toNat default).b) S A j k9) (ce (@ev44 (N.lm (l.getD i.toNat default).r S) A j (zCxP6 l i) k10) c0))) ?_
  rcases xq H with ⟨d12,H⟩|⟨d12,H⟩
  ·exact Zao (G:=Zab kp40 [] []) 1000 [true] (vi (N.stE (N.lm (l.getD i.toNat default).r S) A j (zCxP6 l i))) (by kernel_rfl) (bc (Zam (i_ne.2 d12)) b0) q0 c0 H
  ·obtain ⟨k13,H⟩:=H
   have w14:wi (i+1)=i+1:=wI64 k13
   exact Zac (G:=Zab kp40 [] []) 1000 [false] ⟨(atC (cd Try.f40) [1,1,1,1,1,0,1,0,0]),[(3,AV.ptr 0 0 0 0),(60,AV.vec f 9 (List.map Mo.a l)),(61,vi n),(62,vi (wi (i+1)))],[⟨[ag [vi S,vi A,vi j]],3,0,false,false⟩,⟨[(zCxP5 l i)],9,0,false,false⟩],_,[],_⟩ (by kernel_rfl) (bc (Zal (fun h=>d12 (i_ne.1 h))) b0) q0 c0 (by (try rw [w14]);all_goals exact Zar [0] (by kernel_rfl) H)
 ·exact Zao (G:=Zab kp40 [] []) 1000 [false] (vi 0) (by kernel_rfl) (bc (Zal (fun h=>d2 (Zae.1 h))) b0) q0 c0 H
end Go.Av

namespace Go.Av
open Go.Proofs
namespace N
def okCk (l:List Mo) (S A j:Int):Prop:=(okT l/\l.length<=20000)/\Zbf S A j/\good l S A j /\ ∀ i,i<l.length->0<=(l.getD i default).r
end N
section
variable {l:List Mo} {S A j:Int} (f:Bool) (h:N.okCk l S A j)
include h
theorem ckD_loop:∀ (k i:Nat),i+k=l.length->ckD_at f l S A j l.length i (Zaj (.int .i64 0)):=by
 obtain ⟨⟨⟨hl,hc⟩,hn⟩,hL,hg,hr⟩:=h
 intro k
 induction k with
 | zero =>
  intro i hi
  exact ckD _ _ _ _ _ _ _ _ ⟨fun z=>absurd z (by omega),fun _=>rfl⟩
 | succ k ih =>
  intro i hi
  have hm:=Zcl (hl.2 i (by omega))
  obtain ⟨g1,g2⟩:=hg i (by omega)
  have g3:N.stE (N.lm (l.getD i default).r S) A j (N.len ((l.getD i default).u-(l.getD i default).x) ((l.getD i default).v-(l.getD i default).y) ((l.getD i default).w-(l.getD i default).z))=0:=g2 (N.ml (l.getD i default)) hm.2.1 hm.2.2
  have g4:N.okSt (N.len ((l.getD i default).u-(l.getD i default).x) ((l.getD i default).v-(l.getD i default).y) ((l.getD i default).w-(l.getD i default).z)):=by
   show N.ml (l.getD i default)<=1000000
   omega
  refine ckD _ _ _ _ _ _ _ _ ⟨fun _ => ?_,fun z=>absurd (by omega) z⟩
  rw [Int.toNat_natCast]
  exact ⟨by omega,by omega,hm.1,g1,g4,fun z=>absurd g3 z,fun _=>⟨by omega,ih (i+1) (by omega)⟩⟩
theorem ckC_loop:∀ (k i:Nat),i+k=l.length->ckC_at f l S A j l.length i (Zaj (.int .i64 0)):=by
 have hD:=ckD_loop f h l.length 0 (by omega)
 obtain ⟨⟨⟨hl,hc⟩,hn⟩,hL,hg,hr⟩:=h
 intro k
 induction k with
 | zero =>
  intro i hi
  exact ckC _ _ _ _ _ _ _ _ ⟨fun z=>absurd z (by omega),fun _=>⟨fun z=>absurd z (by omega),fun _=>hD⟩⟩
 | succ k ih =>
  intro i hi
  have hm:=hl.2 i (by omega)
  unfold N.okM at hm
  refine ckC _ _ _ _ _ _ _ _ ⟨fun _ => ?_,fun z=>absurd (by omega) z⟩
  rw [Int.toNat_natCast]
  exact ⟨by omega,by omega,⟨by omega,by omega,by omega⟩,⟨by omega,by omega,by omega⟩,by omega,ih (i+1) (by omega)⟩
theorem ckB_loop:∀ (k i:Nat),i+k=l.length->ckB_at f l S A j l.length i (Zaj (.int .i64 0)):=by
 have hD:=ckC_loop f h l.length 0 (by omega)
 obtain ⟨⟨⟨hl,hc⟩,hn⟩,hL,hg,hr⟩:=h
 intro k
 induction k with
 | zero =>
  intro i hi
  exact ckB _ _ _ _ _ _ _ _ ⟨fun z=>absurd z (by omega),fun _=>hD⟩
 | succ k ih =>
  intro i hi
  have hri:=hr i (by omega)
  have hcc:(i:Int)>0->((l.getD ((i:Int)-1).toNat default).u=(l.getD i default).x)/\((l.getD ((i:Int)-1).toNat default).v=(l.getD i default).y)/\(l.getD ((i:Int)-1).toNat default).w=(l.getD i default).z:=fun hp=>by
   have:=hc (i-1) (by omega)
   rw [show i-1+1=i by omega] at this
   unfold Mo.dst Mo.src at this
   injection this with e1 e2 e3
   rw [show ((i:Int)-1).toNat=i-1 by omega]
   exact ⟨e1,e2,e3⟩
  have hno:¬(((l.getD i default).r<0)\/((i:Int)>0/\¬(((l.getD ((i:Int)-1).toNat default).u=(l.getD i default).x)/\(((l.getD ((i:Int)-1).toNat default).v=(l.getD i default).y)/\(l.getD ((i:Int)-1).toNat default).w=(l.getD i default).z)))):=by
   rintro (y | y)
   ·omega
   ·exact y.2 (hcc y.1)
  refine ckB _ _ _ _ _ _ _ _ ⟨fun _ => ?_,fun z=>absurd (by omega) z⟩
  rw [Int.toNat_natCast]
  exact ⟨by omega,by omega,by omega,fun z=>by omega,fun z=>by omega,fun z=>absurd z hno,fun _=>⟨by omega,ih (i+1) (by omega)⟩⟩
end
theorem ev40 (f:Bool) (l:List Mo) (S A j:Int) (h:N.okCk l S A j):Ev M1 (.pure 40 [.vec f 9 (l.map Mo.a),.agg [.int .i64 S,.int .i64 A,.int .i64 j]]) (.int .i64 0) []:=
 call40 (ckA f l S A j _ ⟨fun z=>absurd (ZcF.2 h.2.1) z,fun _=>ckB_loop f h l.length 0 (by omega)⟩)
end Go.Av

namespace Go.Av
open Go.Proofs
set_option maxRecDepth 100000
def fi9:Fi:=⟨32,[.tmp 4,.tmp 5]⟩
def kp9:List (Nat × List Nat):=[(0,[0,3]),(1,[0,3,6]),(2,[0,3,6,12]),(3,[4,5]),(4,[0,7]),(5,[0,7,21]),(6,[7]),(7,[7]),(8,[4,5])]
def nwA_at (f:Bool) (l:List Mo) (S A j:Int) (Q:AV->Heap->Prop):Prop:=Wp M1 (.run fi9 (atC (cd Try.f9) []) [(0,.vec f 9 (l.map Mo.a)),(1,.agg [.int .i64 S,.int .i64 A,.int .i64 j])] []) Q
theorem owncall9 {args:List AV} {L:Heap} {Q:AV->Heap->Prop} (h:Wp M1 (.run fi9 [.code (cd Try.f9)] (ZaM 0 args) L) Q):Wp M1 (.own 9 args L) Q:=
 Zfr Try.f9 fi9 (by kernel_rfl) (by kernel_rfl) (by kernel_rfl) (by kernel_rfl) h
noncomputable abbrev zCxQ1 (l:List Mo):=ag [vi (l.getD 0 default).x,vi (l.getD 0 default).y,vi (l.getD 0 default).z,vi (l.getD 0 default).u,vi (l.getD 0 default).v,vi (l.getD 0 default).w,vi (l.getD 0 default).r,vi (l.getD 0 default).t,vi (l.getD 0 default).b]
noncomputable abbrev zCxQ2 (S:Int) (A:Int) (j:Int):=ag [vi S,vi A,vi j]
theorem nwA (f:Bool) (l:List Mo) (S A j:Int)  (Q:AV->Heap->Prop) (H :
  (N.okCk l S A j) /\
  (N.ZeZ l) /\
  (((↑l.length:Int)>0)->(0<l.length) /\
   (N.okK l 0) /\
   Q (tu [AV.ptr 1 0 0 0,vi 0]) [{ elems:=[ag [vi S,vi A,vi j]],es:=3,ver:=0,frozen:=false,clean:=false },{ elems:=[ag [AV.vec false 9 (List.map Mo.a l),vi S,vi A,vi j,vi (N.skI l 0),vi 0,AV.vnil,vi 0,vb false,vb false,vb false,AV.vnil,vi (l.getD 0 default).x,vi (l.getD 0 default).y,vi (l.getD 0 default).z]],es:=15,ver:=0,frozen:=false,clean:=false }]) /\
  (¬((↑l.length:Int)>0)->(N.okK l 0) /\
   Q (tu [AV.ptr 1 0 0 0,vi 0]) [{ elems:=[ag [vi S,vi A,vi j]],es:=3,ver:=0,frozen:=false,clean:=false },{ elems:=[ag [AV.vec false 9 (List.map Mo.a l),vi S,vi A,vi j,vi (N.skI l 0),vi 0,AV.vnil,vi 0,vb false,vb false,vb false,AV.vnil,vi 0,vi 0,vi 0]],es:=15,ver:=0,frozen:=false,clean:=false }])) :
 nwA_at f l S A j Q:=by
 unfold nwA_at
 obtain ⟨k1,k2,H⟩:=H
 have w3:(List.map Mo.a l).length=l.length:=List.length_map ..
 have i4:(decide ((↑(List.map Mo.a l).length:Int)>0))=true ↔ ((↑l.length:Int)>0):=(by (try rw [w3]);all_goals exact Zae)
 refine Zac (G:=Zab kp9 [(1,2,.call (vi 0) none),(4,1,.call (AV.vec false 9 (List.map Mo.a l)) none)] []) 14 [false] ⟨(atC (cd Try.f9) [1,1,1,0,1]),[(0,AV.vec f 9 (List.map Mo.a l)),(7,AV.ptr 1 0 0 0),(21,vb (decide ((↑(List.map Mo.a l).length:Int)>0)))],[⟨[(zCxQ2 S A j)],3,0,false,false⟩,⟨[ag [AV.vec false 9 (List.map Mo.a l),vi S,vi A,vi j,vi 0,vi 0,AV.vnil,vi 0,vb false,vb false,vb false,AV.vnil,vi 0,vi 0,vi 0]],15,0,false,false⟩],_,[],_⟩ (by kernel_rfl) (bc rfl (bc rfl (bc rfl b0))) q0 (ce (@ev40 f l S A j k1) (ce (@ev41 f l k2) c0)) ?_
 rcases xq H with ⟨d5,H⟩|⟨d5,H⟩
 ·have i6:(decide (0<(List.map Mo.a l).length))=true ↔ (0<l.length):=(by (try rw [w3]);all_goals exact Zae)
  obtain ⟨k7,k8,H⟩:=H
  exact Zai (G:=Zab kp9 [(6,4,.elem (zCxQ1 l)),(7,1,.call (tu []) (some [⟨[ag [AV.vec false 9 (List.map Mo.a l),vi S,vi A,vi j,vi (N.skI l 0),vi 0,AV.vnil,vi 0,vb false,vb false,vb false,AV.vnil,vi (l.getD 0 default).x,vi (l.getD 0 default).y,vi (l.getD 0 default).z]],15,0,false,false⟩]))] []) 1000 [true] (k:=((atC (cd Try.f9) [1,1,1,1,1,1])).tail) (env':=[(4,AV.ptr 1 0 0 0),(5,vi 0)]) (L':=[⟨[(zCxQ2 S A j)],3,0,false,false⟩,⟨[ag [AV.vec false 9 (List.map Mo.a l),vi S,vi A,vi j,vi (N.skI l 0),vi 0,AV.vnil,vi 0,vb false,vb false,vb false,AV.vnil,vi (l.getD 0 default).x,vi (l.getD 0 default).y,vi (l.getD 0 default).z]],15,0,false,false⟩]) (asm:=[(decide ((↑(List.map Mo.a l).length:Int)>0))==true,true,decide (0<(List.map Mo.a l).length),true]) (eqs:=[((List.map Mo.a l).get?Internal 0=some (zCxQ1 l))]) (calls:=[⟨true,true,42,[AV.ptr 0 0 0 0],[⟨[ag [AV.vec false 9 (List.map Mo.a l),vi S,vi A,vi j,vi 0,vi 0,AV.vnil,vi 0,vb false,vb false,vb false,AV.vnil,vi (l.getD 0 default).x,vi (l.getD 0 default).y,vi (l.getD 0 default).z]],15,0,false,false⟩],tu [],[⟨[ag [AV.vec false 9 (List.map Mo.a l),vi S,vi A,vi j,vi (N.skI l 0),vi 0,AV.vnil,vi 0,vb false,vb false,vb false,AV.vnil,vi (l.getD 0 default).x,vi (l.getD 0 default).y,vi (l.getD 0 default).z]],15,0,false,false⟩]⟩]) (tu [AV.ptr 1 0 0 0,vi 0]) (by kernel_rfl) (by kernel_rfl) (Zaa (Zam (i4.2 d5)) (Zaa rfl (Zaa (i6.2 k7) (Zaa rfl Zad)))) (Zbd (Zax k7) Zaf) (Zaq (fun _=>(@evo42_a false l S A j 0 0 0 false false false ((l.getD 0 default).x) ((l.getD 0 default).y) ((l.getD 0 default).z) k8)) Zag) H
 ·obtain ⟨k9,H⟩:=H
  exact Zai (G:=Zab kp9 [(7,1,.call (tu []) (some [⟨[ag [AV.vec false 9 (List.map Mo.a l),vi S,vi A,vi j,vi (N.skI l 0),vi 0,AV.vnil,vi 0,vb false,vb false,vb false,AV.vnil,vi 0,vi 0,vi 0]],15,0,false,false⟩]))] []) 1000 [false] (k:=((atC (cd Try.f9) [1,1,1,1,1,1])).tail) (env':=[(4,AV.ptr 1 0 0 0),(5,vi 0)]) (L':=[⟨[(zCxQ2 S A j)],3,0,false,false⟩,⟨[ag [AV.vec false 9 (List.map Mo.a l),vi S,vi A,vi j,vi (N.skI l 0),vi 0,AV.vnil,vi 0,vb false,vb false,vb false,AV.vnil,vi 0,vi 0,vi 0]],15,0,false,false⟩]) (asm:=[(decide ((↑(List.map Mo.a l).length:Int)>0))==false]) (eqs:=[]) (calls:=[⟨true,true,42,[AV.ptr 0 0 0 0],[⟨[ag [AV.vec false 9 (List.map Mo.a l),vi S,vi A,vi j,vi 0,vi 0,AV.vnil,vi 0,vb false,vb false,vb false,AV.vnil,vi 0,vi 0,vi 0]],15,0,false,false⟩],tu [],[⟨[ag [AV.vec false 9 (List.map Mo.a l),vi S,vi A,vi j,vi (N.skI l 0),vi 0,AV.vnil,vi 0,vb false,vb false,vb false,AV.vnil,vi 0,vi 0,vi 0]],15,0,false,false⟩]⟩]) (tu [AV.ptr 1 0 0 0,vi 0]) (by kernel_rfl) (by kernel_rfl) (Zaa (Zal (fun h=>d5 (i4.1 h))) Zad) Zaf (Zaq (fun _=>(@evo42_a false l S A j 0 0 0 false false false 0 0 0 k9)) Zag) H
end Go.Av

namespace Go.Av
open Go.RowKit
theorem ZfC:∀ (rs:List Nat) (L:Heap) (n:Nat),(∀ r ∈ rs,n<=r)->(ZaZ rs L).take n=L.take n
 | [],_,_,_=>rfl
 | r::rs,L,n,h=>by
  have e:ZaZ (r::rs) L=ZaZ rs (match L[r]? with
   | some row=>L.set r { row with frozen:=true }
   | none=>L):=rfl
  rw [e,ZfC rs _ n fun q hq=>h q (List.mem_cons_of_mem _ hq)]
  have hr:=h r (List.mem_cons_self ..)
  cases L[r]? with
  | none=>rfl
  | some row=>exact List.take_set_of_le hr
def FrzQ (d:AV) (K:Heap):AV->Heap->Prop:=fun v L=>pureA L v=some d/\(∀ b ∈ versA L v,b=true)/\(∀ r ∈ rowsA v,K.length<=r)/\L.take K.length=K
theorem freeze_sound {M:Mach} {f:FuncId} {args:List AV} {L:Heap} {d:AV} {K:Heap} (hKl:K.length=L.length) (hK:∀ row ∈ K,∀ r ∈ Zaz row,r<L.length) (hdc:rowsA d=[]) (ih:OwnQ M f args L (FrzQ d K)):OwnQ M f args L (isR d K):=by
 intro S cargs h1 h2 h3
 subst h2
 have hrows:=ZdI S.L
 have hnd:(List.range S.L.length).Nodup:=List.nodup_range
 have hin:=refs_in h1
 have hcl:∀ row ∈ S.L,∀ r ∈ Zaz row,r ∈ List.range S.L.length:=fun row hr r hrr=>by simpa using hin row hr r hrr
 obtain ⟨hSc,_,hrelc⟩:=Zfg h1 hrows hnd hcl
 have hself:S.L.map (Zak (Zap (List.range S.L.length)))=S.L:=by
  have:S.L.map (Zak (Zap (List.range S.L.length)))=S.L.map id:=List.map_congr_left fun row hr=>by
   rw [ZcK fun r hrr=>ZcM (hin row hr r hrr)];rfl
  rw [this,List.map_id]
 have hrel':RelL ⟨S.base,Za7 S (List.range S.L.length),S.L.map (Zak (Zap (List.range S.L.length))),subβ S.β (List.range S.L.length),S.w⟩ args cargs:=by
  refine ⟨h3.1,fun i c cv hc hcv => ?_⟩
  have hri:=Zgp (h3.2 i c cv hc hcv)
  have:=hrelc c cv (h3.2 i c cv hc hcv) fun r hr=>by simpa using hri r hr
  rwa [Zc2 fun r hr=>ZcM (hri r hr)] at this
 obtain ⟨m1,m2⟩:=ih _ cargs hSc hself hrel'
 refine ⟨m1,Calls.mono m2 fun e w' he => ?_⟩
 cases e with
 | panicked c=>exact he.elim
 | outgrown=>exact he.elim
 | returned cv =>
  obtain ⟨v',L1,β1,⟨hd,hvs,hge,hq⟩,n1,n2,n3⟩:=he
  have fr:=ZcC (S:=⟨S.base,Za7 S (List.range S.L.length),L1,β1,w'⟩) (rowsA v') n1
  have n1':HeapOk ⟨S.base,Za7 S (List.range S.L.length),ZaZ (rowsA v') L1,β1,w'⟩:=fr.1
  have n2':Ext ⟨S.base,Za7 S (List.range S.L.length),S.L.map (Zak (Zap (List.range S.L.length))),subβ S.β (List.range S.L.length),S.w⟩ ⟨S.base,Za7 S (List.range S.L.length),ZaZ (rowsA v') L1,β1,w'⟩:=n2.trans fr.2
  have hD:DRel ⟨S.base,Za7 S (List.range S.L.length),ZaZ (rowsA v') L1,β1,w'⟩ d cv:=pure_rel (S:=⟨S.base,Za7 S (List.range S.L.length),L1,β1,w'⟩) (S':=⟨S.base,Za7 S (List.range S.L.length),ZaZ (rowsA v') L1,β1,w'⟩) n1 rfl (fun b off hi hb=>(fr.2.imm b off hi hb).1) v' n3 hd hvs (Zdg (S:=⟨S.base,Za7 S (List.range S.L.length),L1,β1,w'⟩) n1 _)
  have hq':(ZaZ (rowsA v') L1).take K.length=K:=(ZfC _ _ _ hge).trans hq
  generalize ZaZ (rowsA v') L1=L2 at n1' n2' hD hq'
  rw [hKl] at hq'
  have hlen:(List.range S.L.length).length=S.L.length:=List.length_range
  have hle:S.L.length<=L2.length:=by
   have:=congrArg List.length hq'
   rw [List.length_take,hKl] at this
   omega
  have ho:ZaD L2 (List.range (List.range S.L.length).length)=some K:=by
   rw [hlen,<- hq']
   have:=Zdf L2 S.L.length hle
   rw [hq'] at this ⊢
   exact this
  obtain ⟨k1,k2,k3⟩:=Zeu (S1:=⟨S.base,Za7 S (List.range S.L.length),L2,β1,w'⟩) (ns:=[]) (new:=[]) h1 hrows hnd hcl n1' n2' List.nodup_nil (by simp) ho rfl
   (fun row hr r hrr => .inl (by rw [hlen];exact hK row (by simpa using hr) r hrr))
  have hb:∀ r,r<S.L.length->ZaQ S.L.length (List.range S.L.length) [] r=r:=by
   intro r hr
   rw [Zev (by rw [hlen];exact hr)];simp
  have hKK:Za3 S.L (List.range S.L.length) [] K []=K:=by
   unfold Za3
   rw [List.map_nil,List.append_nil]
   have:K.map (Zak (ZaQ S.L.length (List.range S.L.length) []))=K.map id:=List.map_congr_left fun row hr=>by
    rw [ZcK fun r hrr=>hb r (hK row hr r hrr)];rfl
   rw [this,List.map_id,put_all _ _ hKl]
  have k3':=k3 d cv (.data _ _ hD) fun r hr=>by rw [hdc] at hr;cases hr
  rw [Zc2 fun r hr=>by rw [hdc] at hr;cases hr] at k3'
  rw [hKK] at k1 k2 k3'
  exact ⟨d,K,_,⟨rfl,rfl⟩,k1,k2,k3'⟩
def frzOk (n:Nat) (K:Heap):Bool:=Nat.beq K.length n&&K.all fun row=>(Zaz row).all fun r=>Nat.blt r n
theorem own_freeze {M:Mach} (hm:(M.P ()).follows .mixedOrders=true) {f:FuncId} {args:List AV} {L:Heap} {d:AV} {K:Heap} (hk:frzOk L.length K=true) (hdc:rowsA d=[]) (h:Wp M (.own f args L) (FrzQ d K)):Ev M (.own f args L) d K:=by
 unfold frzOk at hk
 simp only [Bool.and_eq_true,List.all_eq_true,Nat.blt_eq,Nat.beq_eq] at hk
 exact .sem (freeze_sound hk.1 hk.2 hdc (Zbm hm (c:=.own f args L) h))
end Go.Av

namespace Go.Av
open Go.RowKit
def FrsQ (d:AV) (K:Heap):AV->Heap->Prop:=fun v L => ∃ ns rows,ZaD L ns=some rows/\ns.Nodup/\(∀ r ∈ rowsA v,r ∈ ns)/\(∀ row ∈ rows,∀ r ∈ Zaz row,r ∈ ns)/\renA (Zap ns) v=d/\rows.map (Zak (Zap ns))=K
theorem frs_sound {M:Mach} {f:FuncId} {args:List AV} {d:AV} {K:Heap} (ih:OwnQ M f args [] (FrsQ d K)):OwnQ M f args [] (isR d K):=by
 intro S cargs h1 h2 h3
 have hrows:ZaD S.L []=some []:=rfl
 have hcl:∀ row ∈ ([]:List Row),∀ r ∈ Zaz row,r ∈ ([]:List Nat):=fun row hr=>by cases hr
 obtain ⟨hSc,_,hrelc⟩:=Zfg h1 hrows List.nodup_nil hcl
 have hno:∀ {a v},Rel S a v->rowsA a=[]:=fun {a v} h=>by
  cases hr:rowsA a with
  | nil=>rfl
  | cons r l=>have:=Zgp h r (by rw [hr];exact List.mem_cons_self ..);rw [h2] at this;simp at this
 have hrel':RelL ⟨S.base,Za7 S [],[],subβ S.β [],S.w⟩ args cargs:=by
  refine ⟨h3.1,fun i c cv hc hcv => ?_⟩
  have hri:=hno (h3.2 i c cv hc hcv)
  have:=hrelc c cv (h3.2 i c cv hc hcv) fun r hr=>by rw [hri] at hr;cases hr
  rwa [Zc2 fun r hr=>by rw [hri] at hr;cases hr] at this
 obtain ⟨m1,m2⟩:=ih ⟨S.base,Za7 S [],[],subβ S.β [],S.w⟩ cargs hSc rfl hrel'
 refine ⟨m1,Calls.mono m2 fun e w' he => ?_⟩
 cases e with
 | panicked c=>exact he.elim
 | outgrown=>exact he.elim
 | returned cv =>
  obtain ⟨v',L1,β1,⟨ns,rows,hn,hnd,hv,hr,hd,hK⟩,n1,n2,n3⟩:=he
  obtain ⟨k1,k2,k3⟩:=Zeu (S1:=⟨S.base,Za7 S [],L1,β1,w'⟩) (ns:=ns) (new:=rows) (old:=[]) h1 hrows List.nodup_nil hcl n1 n2 hnd (by simp) rfl hn
   (fun r hr1 q hq=>by simp only [List.nil_append] at hr1;exact .inr (hr r hr1 q hq))
  have hb:∀ r,ZaQ S.L.length [] ns r=Zap ns r:=fun r=>by rw [back_ge (by simp),h2];simp
  have hLL:Za3 S.L [] ns [] rows=K:=by
   rw [<- hK]
   unfold Za3
   rw [h2]
   simp only [List.map_nil,ZcU,List.nil_append]
   refine List.map_congr_left fun row _ => ?_
   unfold Zak
   cases row.clean with
   | true=>rfl
   | false=>simp only [cond_false];rw [renL_ext (g:=Zap ns) row.elems fun r _=>by have:=hb r;rw [h2] at this;exact this]
  have k3':=k3 v' cv n3 fun r hr1 => .inr (hv r hr1)
  rw [renA_ext (g:=Zap ns) v' fun r _=>hb r,hd] at k3'
  rw [hLL] at k1 k2 k3'
  exact ⟨d,K,_,⟨rfl,rfl⟩,k1,k2,k3'⟩
theorem own_frs {M:Mach} (hm:(M.P ()).follows .mixedOrders=true) {f:FuncId} {args:List AV} {d:AV} {K:Heap} (h:Wp M (.own f args []) (FrsQ d K)):Ev M (.own f args []) d K:=
 .sem (frs_sound (Zbm hm (c:=.own f args []) h))
theorem frs_end {v:AV} {L:Heap} {d:AV} {K:Heap} (ns:List Nat) (h:(match ZaD L ns with
  | some rows=>Zft ns&&((rowsA v).all ns.contains&&rows.all fun row=>(Zaz row).all ns.contains)
  | none=>false)=true) (hd:renA (Zap ns) v=d) (hK:(match ZaD L ns with
  | some rows=>rows.map (Zak (Zap ns))
  | none=>[])=K):FrsQ d K v L:=by
 split at h
 ·rename_i rows hr
  simp only [Bool.and_eq_true,List.all_eq_true,List.contains_iff_mem] at h
  rw [hr] at hK
  exact ⟨ns,rows,hr,(Zbl ns).1 h.1,h.2.1,h.2.2,hd,hK⟩
 ·cases h
end Go.Av

namespace Go.Av
open Go.Proofs
namespace N
def q0 (l:List Mo):Ps:=if (l.length:Int)>0 then (l.getD 0 default).src else ⟨0,0,0⟩
def q0x (l:List Mo):Int:=(q0 l).x
def q0y (l:List Mo):Int:=(q0 l).y
def q0z (l:List Mo):Int:=(q0 l).z
noncomputable def newS (l:List Mo):Cs:=⟨skI l 0,0,none,0,false,false,false,[],q0 l⟩
end N
theorem hm1:(M1.P ()).follows .mixedOrders=true:=by kernel_rfl
theorem evo9 (f:Bool) (l:List Mo) (S A j:Int) (h:N.okCk l S A j):Ev M1 (.own 9 [.vec f 9 (l.map Mo.a),.agg [.int .i64 S,.int .i64 A,.int .i64 j]] []) (.tup [.ptr 0 0 0 0,.int .i64 0]) [⟨[.agg [.vec false 9 (l.map Mo.a),.int .i64 S,.int .i64 A,.int .i64 j,.int .i64 (N.skI l 0),.int .i64 0,.vnil,.int .i64 0,.bool false,.bool false,.bool false,.vnil,.int .i64 (N.q0x l),.int .i64 (N.q0y l),.int .i64 (N.q0z l)]],15,0,false,false⟩]:=by
 have hl:=h.1.1.1
 have hlen:=h.1.2
 refine own_frs hm1 (owncall9 (nwA f l S A j _ ⟨h,by unfold N.ZeZ;omega,fun hp=>⟨by omega,⟨hl,by omega,by omega⟩,?_⟩,fun hp=>⟨⟨hl,by omega,by omega⟩,?_⟩⟩))
 ·refine frs_end [1] rfl rfl ?_
  unfold N.q0x N.q0y N.q0z N.q0
  rw [if_pos hp];rfl
 ·refine frs_end [1] rfl rfl ?_
  unfold N.q0x N.q0y N.q0z N.q0
  rw [if_neg hp];rfl
theorem po_sk {l:List Mo} (hc:N.chain l) (h:0<l.length) {i:Nat} (hi:i<=l.length):N.po l ((N.sk l i:Nat):Int) 0=N.pos l i:=by
 obtain ⟨⟨k1,k2⟩,k3,k4⟩:=sk_spec (L:=l) (i:=i) hi
 rw [<- sk_pos hc hi]
 unfold N.pos
 by_cases hq:N.sk l i<l.length
 ·rw [if_pos hq,po_mid (by omega) (by omega),Int.toNat_natCast,at3_zero (k3 hq)]
 ·rw [if_neg hq]
  unfold N.po
  rw [if_neg (by omega),if_pos (by omega),show (((N.sk l i:Nat):Int)-1).toNat=l.length-1 by omega]
theorem new_ok {l:List Mo} {B:Int} (ht:N.okT l) (hB:N.D l 0 0<=B):Iv l B (N.newS l)/\N.D l (N.newS l).ix (N.newS l).p=N.D l 0 0:=by
 obtain ⟨hl,hc⟩:=ht
 obtain ⟨⟨k1,k2⟩,k3,k4⟩:=sk_spec (L:=l) (i:=0) (by omega)
 have e0:N.skI l 0=((N.sk l 0:Nat):Int):=rfl
 have hD:N.D l ((N.sk l 0:Nat):Int) 0=N.D l 0 0:=by
  unfold N.D N.sk
  rw [Int.toNat_natCast,skF_sum _ _ (by omega)];rfl
 have hq:N.q0 l=N.po l ((N.sk l 0:Nat):Int) 0/\N.q0 l=N.pos l (N.sk l 0):=by
  by_cases h:0<l.length
  ·have e1:N.q0 l=N.pos l 0:=by unfold N.q0 N.pos;rw [if_pos (by omega),if_pos h]
   rw [po_sk hc h (by omega),sk_pos hc (by omega)]
   exact ⟨e1,e1⟩
  ·have:l=[]:=List.eq_nil_of_length_eq_zero (by omega)
   subst this
   exact ⟨rfl,rfl⟩
 unfold N.newS
 rw [e0]
 refine ⟨⟨?_,?_,fun _=>⟨rfl,rfl⟩,(fun X hX=>nomatch hX),fun _=>⟨rfl,rfl,hq.1⟩,(fun X hX=>nomatch hX),(fun X hX=>nomatch hX),fun _ => .inl ⟨?_,?_⟩,?_⟩,hD⟩
 ·simp only;omega
 ·simp only
  intro hlt
  rw [Int.toNat_natCast]
  have:=Zgw (l.getD (N.sk l 0) default)
  have:=k3 (by omega)
  exact ⟨this,by omega,by omega⟩
 ·simp only
  rw [Int.toNat_natCast,k4];rfl
 ·simp only
  rw [Int.toNat_natCast];exact hq.2
 ·simp only
  rw [hD,if_pos trivial]
  simp
  exact hB
end Go.Av

namespace Go.Av
open Go.Proofs
set_option maxRecDepth 100000
def fi17:Fi:=⟨26,[.tmp 4]⟩
def kp17:List (Nat × List Nat):=[(0,[0,1]),(1,[0,1,10]),(2,[4]),(3,[0,1,5]),(4,[0,1,5,14]),(5,[0,1,5]),(6,[0,1,5,25]),(7,[4]),(8,[4])]
def fi18:Fi:=⟨74,[.tmp 2]⟩
def kp18:List (Nat × List Nat):=[(0,[0]),(1,[0,3]),(2,[3,7,8,9]),(3,[3,7,8,9,10]),(4,[3,5,7,8,9]),(5,[3,5,6,7,8,9]),(6,[3,5,6,7,8,9,60]),(7,[3,7,8,9]),(8,[3,7,8,9]),(9,[3,7,8,9]),(10,[2])]
def fi20:Fi:=⟨23,[.tmp 2]⟩
def kp20:List (Nat × List Nat):=[(0,[0]),(1,[0,3]),(2,[3,6,7,8]),(3,[3,6,7,8,9]),(4,[3,5,6,7,8]),(5,[3,5,6,7,8,16]),(6,[3,6,7,8]),(7,[3,6,7,8]),(8,[2])]
def fi21:Fi:=⟨16,[.cell 4 42]⟩
def kp21:List (Nat × List Nat):=[(0,[1,2,4]),(1,[1,2,4,7]),(2,[4]),(3,[4])]
def whA_at (f:Bool) (l:List Mo) (Q:AV->Heap->Prop):Prop:=Wp M1 (.run fi18 (atC (cd Try.f18) []) [(0,.vec f 9 (l.map Mo.a))] []) Q
def whN_at (f:Bool) (l:List Mo) (n i:Int) (Q:AV->Heap->Prop):Prop:=Wp M1 (.run fi18 (atC (cd Try.f18) [1,1,0,1,0,0]) [(3,.vnil),(7,.vec f 9 (l.map Mo.a)),(8,.int .i64 n),(9,.int .i64 i)] []) Q
def Zgh (f:Bool) (l:List Mo) (n i:Int) (o:List Mo) (w:Nat) (Q:AV->Heap->Prop):Prop:=Wp M1 (.run fi18 (atC (cd Try.f18) [1,1,0,1,0,0]) [(3,.row 0 w),(7,.vec f 9 (l.map Mo.a)),(8,.int .i64 n),(9,.int .i64 i)] [⟨o.map Mo.a,9,w,false,true⟩]) Q
def lnA_at (f:Bool) (l:List Mo) (Q:AV->Heap->Prop):Prop:=Wp M1 (.run fi20 (atC (cd Try.f20) []) [(0,.vec f 9 (l.map Mo.a))] []) Q
def lnN_at (f:Bool) (l:List Mo) (n i:Int) (Q:AV->Heap->Prop):Prop:=Wp M1 (.run fi20 (atC (cd Try.f20) [1,1,0,1,0,0]) [(3,.vnil),(6,.vec f 9 (l.map Mo.a)),(7,.int .i64 n),(8,.int .i64 i)] []) Q
def Zgy (f:Bool) (l:List Mo) (n i:Int) (o:List Mo) (w:Nat) (Q:AV->Heap->Prop):Prop:=Wp M1 (.run fi20 (atC (cd Try.f20) [1,1,0,1,0,0]) [(3,.row 0 w),(6,.vec f 9 (l.map Mo.a)),(7,.int .i64 n),(8,.int .i64 i)] [⟨o.map Mo.a,9,w,false,true⟩]) Q
def smP_at (f g:Bool) (l m:List Mo) (Q:AV->Heap->Prop):Prop:=Wp M1 (.run fi17 (atC (cd Try.f17) []) [(0,.vec f 9 (l.map Mo.a)),(1,.vec g 9 (m.map Mo.a))] []) Q
def smQ_at (f g:Bool) (l m:List Mo) (i:Int) (Q:AV->Heap->Prop):Prop:=Wp M1 (.run fi17 (atC (cd Try.f17) [1,1,0,1,0,0]) [(0,.vec f 9 (l.map Mo.a)),(1,.vec g 9 (m.map Mo.a)),(5,.int .i64 i)] []) Q
def enA_at (x y z:Int) (f:Bool) (l:List Mo) (Q:AV->Heap->Prop):Prop:=Wp M1 (.run fi21 (atC (cd Try.f21) []) [(0,.agg [.int .i64 x,.int .i64 y,.int .i64 z]),(1,.vec f 9 (l.map Mo.a))] []) Q
theorem call17 {args:List AV} {d:AV} (h:wc M1 fi17 Try.f17 args d):Ev M1 (.pure 17 args) d []:=pcl _ _ (by kernel_rfl) h
theorem call18 {args:List AV} {d:AV} (h:wc M1 fi18 Try.f18 args d):Ev M1 (.pure 18 args) d []:=pcl _ _ (by kernel_rfl) h
theorem call20 {args:List AV} {d:AV} (h:wc M1 fi20 Try.f20 args d):Ev M1 (.pure 20 args) d []:=pcl _ _ (by kernel_rfl) h
theorem call21 {args:List AV} {d:AV} (h:wc M1 fi21 Try.f21 args d):Ev M1 (.pure 21 args) d []:=pcl _ _ (by kernel_rfl) h
theorem whA (f:Bool) (l:List Mo)  (dq:AV) (H :
  whN_at f l ((↑l.length:Int)) 0 (Zaj dq)) :
 whA_at f l (Zaj dq):=by
 unfold whA_at
 have w1:(List.map Mo.a l).length=l.length:=List.length_map ..
 exact Zac (G:=Zab kp18 [] []) 1000 [] ⟨(atC (cd Try.f18) [1,1,0,1,0,0]),[(3,AV.vnil),(7,AV.vec f 9 (List.map Mo.a l)),(8,vi (↑(List.map Mo.a l).length:Int)),(9,vi 0)],[],_,[],_⟩ (by kernel_rfl) b0 q0 c0 (by (try rw [w1]);all_goals exact H)
noncomputable abbrev zCxR1 (l:List Mo) (i:Int):=ag [vi (l.getD i.toNat default).x,vi (l.getD i.toNat default).y,vi (l.getD i.toNat default).z,vi (l.getD i.toNat default).u,vi (l.getD i.toNat default).v,vi (l.getD i.toNat default).w,vi (l.getD i.toNat default).r,vi (l.getD i.toNat default).t,vi (l.getD i.toNat default).b]
theorem whN (f:Bool) (l:List Mo) (n i:Int)  (dq:AV) (H :
  ((i<n)->(0<=i) /\
   (i.toNat<l.length) /\
   (-9223372036854775808<=i+1/\i+1<=9223372036854775807) /\
   Zgh f l n (i+1) ([l.getD i.toNat default]) 0 (Zaj dq)) /\
  (¬(i<n)->Weak (AV.vnil) dq)) :
 whN_at f l n i (Zaj dq):=by
 unfold whN_at
 rcases xq H with ⟨d2,H⟩|⟨d2,H⟩
 ·obtain ⟨k4,H⟩:=H
  have w5:(List.map Mo.a l).length=l.length:=List.length_map ..
  have i6:(decide (i.toNat<(List.map Mo.a l).length))=true ↔ (i.toNat<l.length):=(by (try rw [w5]);all_goals exact Zae)
  obtain ⟨k7,k8,H⟩:=H
  have w9:wi (i+1)=i+1:=wI64 k8
  have w10:[ag [vi (l.getD i.toNat default).x,vi (l.getD i.toNat default).y,vi (l.getD i.toNat default).z,vi (l.getD i.toNat default).u,vi (l.getD i.toNat default).v,vi (l.getD i.toNat default).w,vi (l.getD i.toNat default).r,vi (l.getD i.toNat default).t,vi (l.getD i.toNat default).b]]=List.map Mo.a [l.getD i.toNat default]:=rfl
  exact Zac (G:=Zab kp18 [(4,1,.elem (zCxR1 l i))] []) 1000 [true,false] ⟨(atC (cd Try.f18) [1,1,0,1,0,0]),[(3,AV.row 1 0),(7,AV.vec f 9 (List.map Mo.a l)),(8,vi n),(9,vi (wi (i+1)))],[⟨[ag [vi (l.getD i.toNat default).x,vi (l.getD i.toNat default).y,vi (l.getD i.toNat default).z,vi (l.getD i.toNat default).u,vi (l.getD i.toNat default).v,vi (l.getD i.toNat default).w,vi (l.getD i.toNat default).r,vi (l.getD i.toNat default).t,vi (l.getD i.toNat default).b]],9,0,false,false⟩,⟨[ag [vi (l.getD i.toNat default).x,vi (l.getD i.toNat default).y,vi (l.getD i.toNat default).z,vi (l.getD i.toNat default).u,vi (l.getD i.toNat default).v,vi (l.getD i.toNat default).w,vi (l.getD i.toNat default).r,vi (l.getD i.toNat default).t,vi (l.getD i.toNat default).b]],9,0,false,true⟩],_,[((List.map Mo.a l).get?Internal i.toNat=some (zCxR1 l i))],_⟩ (by kernel_rfl) (bc (Zam (Zae.2 d2)) (bc (Zae.2 k4) (bc (i6.2 k7) (bc rfl (bc rfl (bc rfl (bc rfl (bc rfl (bc rfl (bc rfl (bc rfl b0))))))))))) (qc (Zax k7) q0) c0 (by (try rw [w9]);(try rw [w10]);all_goals exact Zar [1] (by kernel_rfl) H)
 ·exact Zbb (G:=Zab kp18 [] []) 1000 [false] (AV.vnil) (by kernel_rfl) (bc (Zal (fun h=>d2 (Zae.1 h))) b0) q0 c0 H
noncomputable abbrev Zf0 (o:List Mo):=ag [vi (o.getD ((↑o.length:Int)-1).toNat default).x,vi (o.getD ((↑o.length:Int)-1).toNat default).y,vi (o.getD ((↑o.length:Int)-1).toNat default).z,vi (o.getD ((↑o.length:Int)-1).toNat default).u,vi (o.getD ((↑o.length:Int)-1).toNat default).v,vi (o.getD ((↑o.length:Int)-1).toNat default).w,vi (o.getD ((↑o.length:Int)-1).toNat default).r,vi (o.getD ((↑o.length:Int)-1).toNat default).t,vi (o.getD ((↑o.length:Int)-1).toNat default).b]
noncomputable abbrev zCxR3 (l:List Mo) (i:Int):=ag [vi (l.getD i.toNat default).x,vi (l.getD i.toNat default).y,vi (l.getD i.toNat default).z,vi (l.getD i.toNat default).u,vi (l.getD i.toNat default).v,vi (l.getD i.toNat default).w,vi (l.getD i.toNat default).r,vi (l.getD i.toNat default).t,vi (l.getD i.toNat default).b]
theorem whR (f:Bool) (l:List Mo) (n i:Int) (o:List Mo) (w:Nat)  (dq:AV) (H :
  ((i<n)->(0<=i) /\
   (i.toNat<l.length) /\
   (-9223372036854775808<=(↑o.length:Int)-1/\(↑o.length:Int)-1<=9223372036854775807) /\
   (((↑o.length:Int)>0)->(0<=(↑o.length:Int)-1)) /\
   (((↑o.length:Int)>0)->(((↑o.length:Int)-1).toNat<o.length)) /\
   ((((↑o.length:Int)>0)/\((o.getD ((↑o.length:Int)-1).toNat default).b=(l.getD i.toNat default).b))->(0<=(↑o.length:Int)-1)) /\
   ((((↑o.length:Int)>0)/\((o.getD ((↑o.length:Int)-1).toNat default).b=(l.getD i.toNat default).b))->(((↑o.length:Int)-1).toNat<o.length)) /\
   (((((↑o.length:Int)>0)/\((o.getD ((↑o.length:Int)-1).toNat default).b=(l.getD i.toNat default).b))/\(((o.getD ((↑o.length:Int)-1).toNat default).u=(l.getD i.toNat default).x)/\(((o.getD ((↑o.length:Int)-1).toNat default).v=(l.getD i.toNat default).y)/\((o.getD ((↑o.length:Int)-1).toNat default).w=(l.getD i.toNat default).z))))->(0<=(↑o.length:Int)-1)) /\
   (((((↑o.length:Int)>0)/\((o.getD ((↑o.length:Int)-1).toNat default).b=(l.getD i.toNat default).b))/\(((o.getD ((↑o.length:Int)-1).toNat default).u=(l.getD i.toNat default).x)/\(((o.getD ((↑o.length:Int)-1).toNat default).v=(l.getD i.toNat default).y)/\((o.getD ((↑o.length:Int)-1).toNat default).w=(l.getD i.toNat default).z))))->(((↑o.length:Int)-1).toNat<o.length)) /\
   ((((((↑o.length:Int)>0)/\((o.getD ((↑o.length:Int)-1).toNat default).b=(l.getD i.toNat default).b))/\(((o.getD ((↑o.length:Int)-1).toNat default).u=(l.getD i.toNat default).x)/\(((o.getD ((↑o.length:Int)-1).toNat default).v=(l.getD i.toNat default).y)/\((o.getD ((↑o.length:Int)-1).toNat default).w=(l.getD i.toNat default).z))))/\((o.getD ((↑o.length:Int)-1).toNat default).r=(l.getD i.toNat default).r))->(0<=(↑o.length:Int)-1)) /\
   ((((((↑o.length:Int)>0)/\((o.getD ((↑o.length:Int)-1).toNat default).b=(l.getD i.toNat default).b))/\(((o.getD ((↑o.length:Int)-1).toNat default).u=(l.getD i.toNat default).x)/\(((o.getD ((↑o.length:Int)-1).toNat default).v=(l.getD i.toNat default).y)/\((o.getD ((↑o.length:Int)-1).toNat default).w=(l.getD i.toNat default).z))))/\((o.getD ((↑o.length:Int)-1).toNat default).r=(l.getD i.toNat default).r))->(((↑o.length:Int)-1).toNat<o.length)) /\
   (((((((↑o.length:Int)>0)/\((o.getD ((↑o.length:Int)-1).toNat default).b=(l.getD i.toNat default).b))/\(((o.getD ((↑o.length:Int)-1).toNat default).u=(l.getD i.toNat default).x)/\(((o.getD ((↑o.length:Int)-1).toNat default).v=(l.getD i.toNat default).y)/\((o.getD ((↑o.length:Int)-1).toNat default).w=(l.getD i.toNat default).z))))/\((o.getD ((↑o.length:Int)-1).toNat default).r=(l.getD i.toNat default).r))/\((o.getD ((↑o.length:Int)-1).toNat default).t=(l.getD i.toNat default).t))->(0<=(↑o.length:Int)-1) /\
    (((↑o.length:Int)-1).toNat<o.length) /\
    (-9223372036854775808<=i+1/\i+1<=9223372036854775807) /\
    Zgh f l n (i+1) (o.set ((↑o.length:Int)-1).toNat { x:=(o.getD ((↑o.length:Int)-1).toNat default).x,y:=(o.getD ((↑o.length:Int)-1).toNat default).y,z:=(o.getD ((↑o.length:Int)-1).toNat default).z,u:=(l.getD i.toNat default).u,v:=(l.getD i.toNat default).v,w:=(l.getD i.toNat default).w,r:=(o.getD ((↑o.length:Int)-1).toNat default).r,t:=(o.getD ((↑o.length:Int)-1).toNat default).t,b:=(o.getD ((↑o.length:Int)-1).toNat default).b }) w (Zaj dq)) /\
   (¬((((((↑o.length:Int)>0)/\((o.getD ((↑o.length:Int)-1).toNat default).b=(l.getD i.toNat default).b))/\(((o.getD ((↑o.length:Int)-1).toNat default).u=(l.getD i.toNat default).x)/\(((o.getD ((↑o.length:Int)-1).toNat default).v=(l.getD i.toNat default).y)/\((o.getD ((↑o.length:Int)-1).toNat default).w=(l.getD i.toNat default).z))))/\((o.getD ((↑o.length:Int)-1).toNat default).r=(l.getD i.toNat default).r))/\((o.getD ((↑o.length:Int)-1).toNat default).t=(l.getD i.toNat default).t))->((o.length+1)*72<=1099511627776) /\
    (-9223372036854775808<=i+1/\i+1<=9223372036854775807) /\
    Zgh f l n (i+1) (o++[l.getD i.toNat default]) (w+1) (Zaj dq))) /\
  (¬(i<n)->Weak (AV.vec false 9 (List.map Mo.a o)) dq)) :
 Zgh f l n i o w (Zaj dq):=by
 unfold Zgh
 rcases xq H with ⟨d2,H⟩|⟨d2,H⟩
 ·obtain ⟨k4,H⟩:=H
  have w5:(List.map Mo.a l).length=l.length:=List.length_map ..
  have i6:(decide (i.toNat<(List.map Mo.a l).length))=true ↔ (i.toNat<l.length):=(by (try rw [w5]);all_goals exact Zae)
  obtain ⟨k7,H⟩:=H
  have w8:(List.map Mo.a o).length=o.length:=List.length_map ..
  obtain ⟨k9,H⟩:=H
  have w10:wi ((↑o.length:Int)-1)=(↑o.length:Int)-1:=wI64 k9
  have i11:(!(decide ((↑(List.map Mo.a o).length:Int)>0)==true&&true)||w==w)=true ↔ (((↑o.length:Int)>0)->(w=w)):=(by (try rw [w8]);all_goals exact (ZbJ (i_at (i_bt Zae)) i_eq))
  have i12:(!(decide ((↑(List.map Mo.a o).length:Int)>0)==true&&true)||decide (0<=wi ((↑(List.map Mo.a o).length:Int)-1)))=true ↔ (((↑o.length:Int)>0)->(0<=(↑o.length:Int)-1)):=(by (try rw [w8]);(try rw [w10]);all_goals exact (ZbJ (i_at (i_bt Zae)) Zae))
  obtain ⟨k13,H⟩:=H
  have i14:(!(decide ((↑(List.map Mo.a o).length:Int)>0)==true&&true)||decide ((wi ((↑(List.map Mo.a o).length:Int)-1)).toNat<(List.map Mo.a o).length))=true ↔ (((↑o.length:Int)>0)->(((↑o.length:Int)-1).toNat<o.length)):=(by (try rw [w8]);(try rw [w10]);all_goals exact (ZbJ (i_at (i_bt Zae)) Zae))
  obtain ⟨k15,H⟩:=H
  have i16:(!(decide ((↑(List.map Mo.a o).length:Int)>0)==true&&true)||w==w)=true ↔ (((↑o.length:Int)>0)->(w=w)):=(by (try rw [w8]);all_goals exact (ZbJ (i_at (i_bt Zae)) i_eq))
  have i17:(!((bif decide ((↑(List.map Mo.a o).length:Int)>0) then (o.getD ((↑o.length:Int)-1).toNat default).b==(l.getD i.toNat default).b else false)==true&&true)||w==w)=true ↔ ((((↑o.length:Int)>0)/\((o.getD ((↑o.length:Int)-1).toNat default).b=(l.getD i.toNat default).b))->(w=w)):=(by (try rw [w8]);all_goals exact (ZbJ (i_at (i_bt (ZaB Zae i_eq))) i_eq))
  have i18:(!((bif decide ((↑(List.map Mo.a o).length:Int)>0) then (o.getD ((↑o.length:Int)-1).toNat default).b==(l.getD i.toNat default).b else false)==true&&true)||decide (0<=wi ((↑(List.map Mo.a o).length:Int)-1)))=true ↔ ((((↑o.length:Int)>0)/\((o.getD ((↑o.length:Int)-1).toNat default).b=(l.getD i.toNat default).b))->(0<=(↑o.length:Int)-1)):=(by (try rw [w8]);(try rw [w10]);all_goals exact (ZbJ (i_at (i_bt (ZaB Zae i_eq))) Zae))
  obtain ⟨k19,H⟩:=H
  have i20:(!((bif decide ((↑(List.map Mo.a o).length:Int)>0) then (o.getD ((↑o.length:Int)-1).toNat default).b==(l.getD i.toNat default).b else false)==true&&true)||decide ((wi ((↑(List.map Mo.a o).length:Int)-1)).toNat<(List.map Mo.a o).length))=true ↔ ((((↑o.length:Int)>0)/\((o.getD ((↑o.length:Int)-1).toNat default).b=(l.getD i.toNat default).b))->(((↑o.length:Int)-1).toNat<o.length)):=(by (try rw [w8]);(try rw [w10]);all_goals exact (ZbJ (i_at (i_bt (ZaB Zae i_eq))) Zae))
  obtain ⟨k21,H⟩:=H
  have i22:(!((bif decide ((↑(List.map Mo.a o).length:Int)>0) then (o.getD ((↑o.length:Int)-1).toNat default).b==(l.getD i.toNat default).b else false)==true&&true)||w==w)=true ↔ ((((↑o.length:Int)>0)/\((o.getD ((↑o.length:Int)-1).toNat default).b=(l.getD i.toNat default).b))->(w=w)):=(by (try rw [w8]);all_goals exact (ZbJ (i_at (i_bt (ZaB Zae i_eq))) i_eq))
  have i23:(!((bif bif decide ((↑(List.map Mo.a o).length:Int)>0) then (o.getD ((↑o.length:Int)-1).toNat default).b==(l.getD i.toNat default).b else false then (o.getD ((↑o.length:Int)-1).toNat default).u==(l.getD i.toNat default).x&&((o.getD ((↑o.length:Int)-1).toNat default).v==(l.getD i.toNat default).y&&((o.getD ((↑o.length:Int)-1).toNat default).w==(l.getD i.toNat default).z&&true)) else false)==true&&true)||w==w)=true ↔ (((((↑o.length:Int)>0)/\((o.getD ((↑o.length:Int)-1).toNat default).b=(l.getD i.toNat default).b))/\(((o.getD ((↑o.length:Int)-1).toNat default).u=(l.getD i.toNat default).x)/\(((o.getD ((↑o.length:Int)-1).toNat default).v=(l.getD i.toNat default).y)/\((o.getD ((↑o.length:Int)-1).toNat default).w=(l.getD i.toNat default).z))))->(w=w)):=(by (try rw [w8]);all_goals exact (ZbJ (i_at (i_bt (ZaB (ZaB Zae i_eq) (ZaG i_eq (ZaG i_eq (i_at i_eq)))))) i_eq))
  have i24:(!((bif bif decide ((↑(List.map Mo.a o).length:Int)>0) then (o.getD ((↑o.length:Int)-1).toNat default).b==(l.getD i.toNat default).b else false then (o.getD ((↑o.length:Int)-1).toNat default).u==(l.getD i.toNat default).x&&((o.getD ((↑o.length:Int)-1).toNat default).v==(l.getD i.toNat default).y&&((o.getD ((↑o.length:Int)-1).toNat default).w==(l.getD i.toNat default).z&&true)) else false)==true&&true)||decide (0<=wi ((↑(List.map Mo.a o).length:Int)-1)))=true ↔ (((((↑o.length:Int)>0)/\((o.getD ((↑o.length:Int)-1).toNat default).b=(l.getD i.toNat default).b))/\(((o.getD ((↑o.length:Int)-1).toNat default).u=(l.getD i.toNat default).x)/\(((o.getD ((↑o.length:Int)-1).toNat default).v=(l.getD i.toNat default).y)/\((o.getD ((↑o.length:Int)-1).toNat default).w=(l.getD i.toNat default).z))))->(0<=(↑o.length:Int)-1)):=(by (try rw [w8]);(try rw [w10]);all_goals exact (ZbJ (i_at (i_bt (ZaB (ZaB Zae i_eq) (ZaG i_eq (ZaG i_eq (i_at i_eq)))))) Zae))
  obtain ⟨k25,H⟩:=H
  have i26:(!((bif bif decide ((↑(List.map Mo.a o).length:Int)>0) then (o.getD ((↑o.length:Int)-1).toNat default).b==(l.getD i.toNat default).b else false then (o.getD ((↑o.length:Int)-1).toNat default).u==(l.getD i.toNat default).x&&((o.getD ((↑o.length:Int)-1).toNat default).v==(l.getD i.toNat default).y&&((o.getD ((↑o.length:Int)-1).toNat default).w==(l.getD i.toNat default).z&&true)) else false)==true&&true)||decide ((wi ((↑(List.map Mo.a o).length:Int)-1)).toNat<(List.map Mo.a o).length))=true ↔ (((((↑o.length:Int)>0)/\((o.getD ((↑o.length:Int)-1).toNat default).b=(l.getD i.toNat default).b))/\(((o.getD ((↑o.length:Int)-1).toNat default).u=(l.getD i.toNat default).x)/\(((o.getD ((↑o.length:Int)-1).toNat default).v=(l.getD i.toNat default).y)/\((o.getD ((↑o.length:Int)-1).toNat default).w=(l.getD i.toNat default).z))))->(((↑o.length:Int)-1).toNat<o.length)):=(by (try rw [w8]);(try rw [w10]);all_goals exact (ZbJ (i_at (i_bt (ZaB (ZaB Zae i_eq) (ZaG i_eq (ZaG i_eq (i_at i_eq)))))) Zae))
  obtain ⟨k27,H⟩:=H
  have i28:(!((bif bif decide ((↑(List.map Mo.a o).length:Int)>0) then (o.getD ((↑o.length:Int)-1).toNat default).b==(l.getD i.toNat default).b else false then (o.getD ((↑o.length:Int)-1).toNat default).u==(l.getD i.toNat default).x&&((o.getD ((↑o.length:Int)-1).toNat default).v==(l.getD i.toNat default).y&&((o.getD ((↑o.length:Int)-1).toNat default).w==(l.getD i.toNat default).z&&true)) else false)==true&&true)||w==w)=true ↔ (((((↑o.length:Int)>0)/\((o.getD ((↑o.length:Int)-1).toNat default).b=(l.getD i.toNat default).b))/\(((o.getD ((↑o.length:Int)-1).toNat default).u=(l.getD i.toNat default).x)/\(((o.getD ((↑o.length:Int)-1).toNat default).v=(l.getD i.toNat default).y)/\((o.getD ((↑o.length:Int)-1).toNat default).w=(l.getD i.toNat default).z))))->(w=w)):=(by (try rw [w8]);all_goals exact (ZbJ (i_at (i_bt (ZaB (ZaB Zae i_eq) (ZaG i_eq (ZaG i_eq (i_at i_eq)))))) i_eq))
  have i29:(!((bif bif bif decide ((↑(List.map Mo.a o).length:Int)>0) then (o.getD ((↑o.length:Int)-1).toNat default).b==(l.getD i.toNat default).b else false then (o.getD ((↑o.length:Int)-1).toNat default).u==(l.getD i.toNat default).x&&((o.getD ((↑o.length:Int)-1).toNat default).v==(l.getD i.toNat default).y&&((o.getD ((↑o.length:Int)-1).toNat default).w==(l.getD i.toNat default).z&&true)) else false then (o.getD ((↑o.length:Int)-1).toNat default).r==(l.getD i.toNat default).r else false)==true&&true)||w==w)=true ↔ ((((((↑o.length:Int)>0)/\((o.getD ((↑o.length:Int)-1).toNat default).b=(l.getD i.toNat default).b))/\(((o.getD ((↑o.length:Int)-1).toNat default).u=(l.getD i.toNat default).x)/\(((o.getD ((↑o.length:Int)-1).toNat default).v=(l.getD i.toNat default).y)/\((o.getD ((↑o.length:Int)-1).toNat default).w=(l.getD i.toNat default).z))))/\((o.getD ((↑o.length:Int)-1).toNat default).r=(l.getD i.toNat default).r))->(w=w)):=(by (try rw [w8]);all_goals exact (ZbJ (i_at (i_bt (ZaB (ZaB (ZaB Zae i_eq) (ZaG i_eq (ZaG i_eq (i_at i_eq)))) i_eq))) i_eq))
  have i30:(!((bif bif bif decide ((↑(List.map Mo.a o).length:Int)>0) then (o.getD ((↑o.length:Int)-1).toNat default).b==(l.getD i.toNat default).b else false then (o.getD ((↑o.length:Int)-1).toNat default).u==(l.getD i.toNat default).x&&((o.getD ((↑o.length:Int)-1).toNat default).v==(l.getD i.toNat default).y&&((o.getD ((↑o.length:Int)-1).toNat default).w==(l.getD i.toNat default).z&&true)) else false then (o.getD ((↑o.length:Int)-1).toNat default).r==(l.getD i.toNat default).r else false)==true&&true)||decide (0<=wi ((↑(List.map Mo.a o).length:Int)-1)))=true ↔ ((((((↑o.length:Int)>0)/\((o.getD ((↑o.length:Int)-1).toNat default).b=(l.getD i.toNat default).b))/\(((o.getD ((↑o.length:Int)-1).toNat default).u=(l.getD i.toNat default).x)/\(((o.getD ((↑o.length:Int)-1).toNat default).v=(l.getD i.toNat default).y)/\((o.getD ((↑o.length:Int)-1).toNat default).w=(l.getD i.toNat default).z))))/\((o.getD ((↑o.length:Int)-1).toNat default).r=(l.getD i.toNat default).r))->(0<=(↑o.length:Int)-1)):=(by (try rw [w8]);(try rw [w10]);all_goals exact (ZbJ (i_at (i_bt (ZaB (ZaB (ZaB Zae i_eq) (ZaG i_eq (ZaG i_eq (i_at i_eq)))) i_eq))) Zae))
  obtain ⟨k31,H⟩:=H
  have i32:(!((bif bif bif decide ((↑(List.map Mo.a o).length:Int)>0) then (o.getD ((↑o.length:Int)-1).toNat default).b==(l.getD i.toNat default).b else false then (o.getD ((↑o.length:Int)-1).toNat default).u==(l.getD i.toNat default).x&&((o.getD ((↑o.length:Int)-1).toNat default).v==(l.getD i.toNat default).y&&((o.getD ((↑o.length:Int)-1).toNat default).w==(l.getD i.toNat default).z&&true)) else false then (o.getD ((↑o.length:Int)-1).toNat default).r==(l.getD i.toNat default).r else false)==true&&true)||decide ((wi ((↑(List.map Mo.a o).length:Int)-1)).toNat<(List.map Mo.a o).length))=true ↔ ((((((↑o.length:Int)>0)/\((o.getD ((↑o.length:Int)-1).toNat default).b=(l.getD i.toNat default).b))/\(((o.getD ((↑o.length:Int)-1).toNat default).u=(l.getD i.toNat default).x)/\(((o.getD ((↑o.length:Int)-1).toNat default).v=(l.getD i.toNat default).y)/\((o.getD ((↑o.length:Int)-1).toNat default).w=(l.getD i.toNat default).z))))/\((o.getD ((↑o.length:Int)-1).toNat default).r=(l.getD i.toNat default).r))->(((↑o.length:Int)-1).toNat<o.length)):=(by (try rw [w8]);(try rw [w10]);all_goals exact (ZbJ (i_at (i_bt (ZaB (ZaB (ZaB Zae i_eq) (ZaG i_eq (ZaG i_eq (i_at i_eq)))) i_eq))) Zae))
  obtain ⟨k33,H⟩:=H
  have i34:(!((bif bif bif decide ((↑(List.map Mo.a o).length:Int)>0) then (o.getD ((↑o.length:Int)-1).toNat default).b==(l.getD i.toNat default).b else false then (o.getD ((↑o.length:Int)-1).toNat default).u==(l.getD i.toNat default).x&&((o.getD ((↑o.length:Int)-1).toNat default).v==(l.getD i.toNat default).y&&((o.getD ((↑o.length:Int)-1).toNat default).w==(l.getD i.toNat default).z&&true)) else false then (o.getD ((↑o.length:Int)-1).toNat default).r==(l.getD i.toNat default).r else false)==true&&true)||w==w)=true ↔ ((((((↑o.length:Int)>0)/\((o.getD ((↑o.length:Int)-1).toNat default).b=(l.getD i.toNat default).b))/\(((o.getD ((↑o.length:Int)-1).toNat default).u=(l.getD i.toNat default).x)/\(((o.getD ((↑o.length:Int)-1).toNat default).v=(l.getD i.toNat default).y)/\((o.getD ((↑o.length:Int)-1).toNat default).w=(l.getD i.toNat default).z))))/\((o.getD ((↑o.length:Int)-1).toNat default).r=(l.getD i.toNat default).r))->(w=w)):=(by (try rw [w8]);all_goals exact (ZbJ (i_at (i_bt (ZaB (ZaB (ZaB Zae i_eq) (ZaG i_eq (ZaG i_eq (i_at i_eq)))) i_eq))) i_eq))
  have i39:(bif bif bif bif decide ((↑(List.map Mo.a o).length:Int)>0) then (o.getD ((↑o.length:Int)-1).toNat default).b==(l.getD i.toNat default).b else false then (o.getD ((↑o.length:Int)-1).toNat default).u==(l.getD i.toNat default).x&&((o.getD ((↑o.length:Int)-1).toNat default).v==(l.getD i.toNat default).y&&((o.getD ((↑o.length:Int)-1).toNat default).w==(l.getD i.toNat default).z&&true)) else false then (o.getD ((↑o.length:Int)-1).toNat default).r==(l.getD i.toNat default).r else false then (o.getD ((↑o.length:Int)-1).toNat default).t==(l.getD i.toNat default).t else false)=true ↔ ((((((↑o.length:Int)>0)/\((o.getD ((↑o.length:Int)-1).toNat default).b=(l.getD i.toNat default).b))/\(((o.getD ((↑o.length:Int)-1).toNat default).u=(l.getD i.toNat default).x)/\(((o.getD ((↑o.length:Int)-1).toNat default).v=(l.getD i.toNat default).y)/\((o.getD ((↑o.length:Int)-1).toNat default).w=(l.getD i.toNat default).z))))/\((o.getD ((↑o.length:Int)-1).toNat default).r=(l.getD i.toNat default).r))/\((o.getD ((↑o.length:Int)-1).toNat default).t=(l.getD i.toNat default).t)):=(by (try rw [w8]);all_goals exact (ZaB (ZaB (ZaB (ZaB Zae i_eq) (ZaG i_eq (ZaG i_eq (i_at i_eq)))) i_eq) i_eq))
  refine Zac (G:=Zab kp18 [(4,1,.elem (zCxR3 l i)),(6,8,.elem (Zf0 o)),(6,19,.elem (Zf0 o)),(6,30,.elem (Zf0 o)),(6,41,.elem (Zf0 o))] []) 14 [true] ⟨(atC (cd Try.f18) [1,1,0,1,0,0,1,1,0,0,1,0,1,1]),[(3,AV.row 0 w),(5,AV.ptr 1 0 0 0),(6,vi (↑(List.map Mo.a o).length:Int)),(7,AV.vec f 9 (List.map Mo.a l)),(8,vi n),(9,vi i),(60,vb (bif bif bif bif decide ((↑(List.map Mo.a o).length:Int)>0) then (o.getD ((↑o.length:Int)-1).toNat default).b==(l.getD i.toNat default).b else false then (o.getD ((↑o.length:Int)-1).toNat default).u==(l.getD i.toNat default).x&&((o.getD ((↑o.length:Int)-1).toNat default).v==(l.getD i.toNat default).y&&((o.getD ((↑o.length:Int)-1).toNat default).w==(l.getD i.toNat default).z&&true)) else false then (o.getD ((↑o.length:Int)-1).toNat default).r==(l.getD i.toNat default).r else false then (o.getD ((↑o.length:Int)-1).toNat default).t==(l.getD i.toNat default).t else false))],[⟨List.map Mo.a o,9,w,false,true⟩,⟨[ag [vi (l.getD i.toNat default).x,vi (l.getD i.toNat default).y,vi (l.getD i.toNat default).z,vi (l.getD i.toNat default).u,vi (l.getD i.toNat default).v,vi (l.getD i.toNat default).w,vi (l.getD i.toNat default).r,vi (l.getD i.toNat default).t,vi (l.getD i.toNat default).b]],9,0,false,false⟩],[(decide (i<n))==true,decide (0<=i),decide (i.toNat<(List.map Mo.a l).length),true,w==w,!(decide ((↑(List.map Mo.a o).length:Int)>0)==true&&true)||w==w,!(decide ((↑(List.map Mo.a o).length:Int)>0)==true&&true)||decide (0<=wi ((↑(List.map Mo.a o).length:Int)-1)),!(decide ((↑(List.map Mo.a o).length:Int)>0)==true&&true)||decide ((wi ((↑(List.map Mo.a o).length:Int)-1)).toNat<(List.map Mo.a o).length),!(decide ((↑(List.map Mo.a o).length:Int)>0)==true&&true)||w==w,!(decide ((↑(List.map Mo.a o).length:Int)>0)==true&&true)||true,!((bif decide ((↑(List.map Mo.a o).length:Int)>0) then (o.getD ((↑o.length:Int)-1).toNat default).b==(l.getD i.toNat default).b else false)==true&&true)||w==w,!((bif decide ((↑(List.map Mo.a o).length:Int)>0) then (o.getD ((↑o.length:Int)-1).toNat default).b==(l.getD i.toNat default).b else false)==true&&true)||decide (0<=wi ((↑(List.map Mo.a o).length:Int)-1)),!((bif decide ((↑(List.map Mo.a o).length:Int)>0) then (o.getD ((↑o.length:Int)-1).toNat default).b==(l.getD i.toNat default).b else false)==true&&true)||decide ((wi ((↑(List.map Mo.a o).length:Int)-1)).toNat<(List.map Mo.a o).length),!((bif decide ((↑(List.map Mo.a o).length:Int)>0) then (o.getD ((↑o.length:Int)-1).toNat default).b==(l.getD i.toNat default).b else false)==true&&true)||w==w,!((bif decide ((↑(List.map Mo.a o).length:Int)>0) then (o.getD ((↑o.length:Int)-1).toNat default).b==(l.getD i.toNat default).b else false)==true&&true)||true,!((bif bif decide ((↑(List.map Mo.a o).length:Int)>0) then (o.getD ((↑o.length:Int)-1).toNat default).b==(l.getD i.toNat default).b else false then (o.getD ((↑o.length:Int)-1).toNat default).u==(l.getD i.toNat default).x&&((o.getD ((↑o.length:Int)-1).toNat default).v==(l.getD i.toNat default).y&&((o.getD ((↑o.length:Int)-1).toNat default).w==(l.getD i.toNat default).z&&true)) else false)==true&&true)||w==w,!((bif bif decide ((↑(List.map Mo.a o).length:Int)>0) then (o.getD ((↑o.length:Int)-1).toNat default).b==(l.getD i.toNat default).b else false then (o.getD ((↑o.length:Int)-1).toNat default).u==(l.getD i.toNat default).x&&((o.getD ((↑o.length:Int)-1).toNat default).v==(l.getD i.toNat default).y&&((o.getD ((↑o.length:Int)-1).toNat default).w==(l.getD i.toNat default).z&&true)) else false)==true&&true)||decide (0<=wi ((↑(List.map Mo.a o).length:Int)-1)),!((bif bif decide ((↑(List.map Mo.a o).length:Int)>0) then (o.getD ((↑o.length:Int)-1).toNat default).b==(l.getD i.toNat default).b else false then (o.getD ((↑o.length:Int)-1).toNat default).u==(l.getD i.toNat default).x&&((o.getD ((↑o.length:Int)-1).toNat default).v==(l.getD i.toNat default).y&&((o.getD ((↑o.length:Int)-1).toNat default).w==(l.getD i.toNat default).z&&true)) else false)==true&&true)||decide ((wi ((↑(List.map Mo.a o).length:Int)-1)).toNat<(List.map Mo.a o).length),!((bif bif decide ((↑(List.map Mo.a o).length:Int)>0) then (o.getD ((↑o.length:Int)-1).toNat default).b==(l.getD i.toNat default).b else false then (o.getD ((↑o.length:Int)-1).toNat default).u==(l.getD i.toNat default).x&&((o.getD ((↑o.length:Int)-1).toNat default).v==(l.getD i.toNat default).y&&((o.getD ((↑o.length:Int)-1).toNat default).w==(l.getD i.toNat default).z&&true)) else false)==true&&true)||w==w,!((bif bif decide ((↑(List.map Mo.a o).length:Int)>0) then (o.getD ((↑o.length:Int)-1).toNat default).b==(l.getD i.toNat default).b else false then (o.getD ((↑o.length:Int)-1).toNat default).u==(l.getD i.toNat default).x&&((o.getD ((↑o.length:Int)-1).toNat default).v==(l.getD i.toNat default).y&&((o.getD ((↑o.length:Int)-1).toNat default).w==(l.getD i.toNat default).z&&true)) else false)==true&&true)||true,!((bif bif bif decide ((↑(List.map Mo.a o).length:Int)>0) then (o.getD ((↑o.length:Int)-1).toNat default).b==(l.getD i.toNat default).b else false then (o.getD ((↑o.length:Int)-1).toNat default).u==(l.getD i.toNat default).x&&((o.getD ((↑o.length:Int)-1).toNat default).v==(l.getD i.toNat default).y&&((o.getD ((↑o.length:Int)-1).toNat default).w==(l.getD i.toNat default).z&&true)) else false then (o.getD ((↑o.length:Int)-1).toNat default).r==(l.getD i.toNat default).r else false)==true&&true)||w==w,!((bif bif bif decide ((↑(List.map Mo.a o).length:Int)>0) then (o.getD ((↑o.length:Int)-1).toNat default).b==(l.getD i.toNat default).b else false then (o.getD ((↑o.length:Int)-1).toNat default).u==(l.getD i.toNat default).x&&((o.getD ((↑o.length:Int)-1).toNat default).v==(l.getD i.toNat default).y&&((o.getD ((↑o.length:Int)-1).toNat default).w==(l.getD i.toNat default).z&&true)) else false then (o.getD ((↑o.length:Int)-1).toNat default).r==(l.getD i.toNat default).r else false)==true&&true)||decide (0<=wi ((↑(List.map Mo.a o).length:Int)-1)),!((bif bif bif decide ((↑(List.map Mo.a o).length:Int)>0) then (o.getD ((↑o.length:Int)-1).toNat default).b==(l.getD i.toNat default).b else false then (o.getD ((↑o.length:Int)-1).toNat default).u==(l.getD i.toNat default).x&&((o.getD ((↑o.length:Int)-1).toNat default).v==(l.getD i.toNat default).y&&((o.getD ((↑o.length:Int)-1).toNat default).w==(l.getD i.toNat default).z&&true)) else false then (o.getD ((↑o.length:Int)-1).toNat default).r==(l.getD i.toNat default).r else false)==true&&true)||decide ((wi ((↑(List.map Mo.a o).length:Int)-1)).toNat<(List.map Mo.a o).length),!((bif bif bif decide ((↑(List.map Mo.a o).length:Int)>0) then (o.getD ((↑o.length:Int)-1).toNat default).b==(l.getD i.toNat default).b else false then (o.getD ((↑o.length:Int)-1).toNat default).u==(l.getD i.toNat default).x&&((o.getD ((↑o.length:Int)-1).toNat default).v==(l.getD i.toNat default).y&&((o.getD ((↑o.length:Int)-1).toNat default).w==(l.getD i.toNat default).z&&true)) else false then (o.getD ((↑o.length:Int)-1).toNat default).r==(l.getD i.toNat default).r else false)==true&&true)||w==w,!((bif bif bif decide ((↑(List.map Mo.a o).length:Int)>0) then (o.getD ((↑o.length:Int)-1).toNat default).b==(l.getD i.toNat default).b else false then (o.getD ((↑o.length:Int)-1).toNat default).u==(l.getD i.toNat default).x&&((o.getD ((↑o.length:Int)-1).toNat default).v==(l.getD i.toNat default).y&&((o.getD ((↑o.length:Int)-1).toNat default).w==(l.getD i.toNat default).z&&true)) else false then (o.getD ((↑o.length:Int)-1).toNat default).r==(l.getD i.toNat default).r else false)==true&&true)||true],[((List.map Mo.a l).get?Internal i.toNat=some (zCxR3 l i)),((decide ((↑(List.map Mo.a o).length:Int)>0)==true&&true)=true->(List.map Mo.a o).get?Internal (wi ((↑(List.map Mo.a o).length:Int)-1)).toNat=some (Zf0 o)),(((bif decide ((↑(List.map Mo.a o).length:Int)>0) then (o.getD ((↑o.length:Int)-1).toNat default).b==(l.getD i.toNat default).b else false)==true&&true)=true->(List.map Mo.a o).get?Internal (wi ((↑(List.map Mo.a o).length:Int)-1)).toNat=some (Zf0 o)),(((bif bif decide ((↑(List.map Mo.a o).length:Int)>0) then (o.getD ((↑o.length:Int)-1).toNat default).b==(l.getD i.toNat default).b else false then (o.getD ((↑o.length:Int)-1).toNat default).u==(l.getD i.toNat default).x&&((o.getD ((↑o.length:Int)-1).toNat default).v==(l.getD i.toNat default).y&&((o.getD ((↑o.length:Int)-1).toNat default).w==(l.getD i.toNat default).z&&true)) else false)==true&&true)=true->(List.map Mo.a o).get?Internal (wi ((↑(List.map Mo.a o).length:Int)-1)).toNat=some (Zf0 o)),(((bif bif bif decide ((↑(List.map Mo.a o).length:Int)>0) then (o.getD ((↑o.length:Int)-1).toNat default).b==(l.getD i.toNat default).b else false then (o.getD ((↑o.length:Int)-1).toNat default).u==(l.getD i.toNat default).x&&((o.getD ((↑o.length:Int)-1).toNat default).v==(l.getD i.toNat default).y&&((o.getD ((↑o.length:Int)-1).toNat default).w==(l.getD i.toNat default).z&&true)) else false then (o.getD ((↑o.length:Int)-1).toNat default).r==(l.getD i.toNat default).r else false)==true&&true)=true->(List.map Mo.a o).get?Internal (wi ((↑(List.map Mo.a o).length:Int)-1)).toNat=some (Zf0 o))],_⟩ (by kernel_rfl) (bc (Zam (Zae.2 d2)) (bc (Zae.2 k4) (bc (i6.2 k7) (bc rfl (bc (beq_self_eq_true _) (bc (i11.2 (fun _=>rfl)) (bc (i12.2 k13) (bc (i14.2 k15) (bc (i16.2 (fun _=>rfl)) (bc (Bool.or_true _) (bc (i17.2 (fun _=>rfl)) (bc (i18.2 k19) (bc (i20.2 k21) (bc (i22.2 (fun _=>rfl)) (bc (Bool.or_true _) (bc (i23.2 (fun _=>rfl)) (bc (i24.2 k25) (bc (i26.2 k27) (bc (i28.2 (fun _=>rfl)) (bc (Bool.or_true _) (bc (i29.2 (fun _=>rfl)) (bc (i30.2 k31) (bc (i32.2 k33) (bc (i34.2 (fun _=>rfl)) (bc (Bool.or_true _) b0))))))))))))))))))))))))) (qc (Zax k7) (qc (by (try rw [w8]);(try rw [w10]);all_goals exact (fun h=>Zax (k15 ((i_at (i_bt Zae)).1 h)))) (qc (by (try rw [w8]);(try rw [w10]);all_goals exact (fun h=>Zax (k21 ((i_at (i_bt (ZaB Zae i_eq))).1 h)))) (qc (by (try rw [w8]);(try rw [w10]);all_goals exact (fun h=>Zax (k27 ((i_at (i_bt (ZaB (ZaB Zae i_eq) (ZaG i_eq (ZaG i_eq (i_at i_eq)))))).1 h)))) (qc (by (try rw [w8]);(try rw [w10]);all_goals exact (fun h=>Zax (k33 ((i_at (i_bt (ZaB (ZaB (ZaB Zae i_eq) (ZaG i_eq (ZaG i_eq (i_at i_eq)))) i_eq))).1 h)))) q0))))) c0 ?_
  rcases xq H with ⟨d40,H⟩|⟨d40,H⟩
  ·have i41:(decide (0<=wi ((↑(List.map Mo.a o).length:Int)-1)))=true ↔ (0<=(↑o.length:Int)-1):=(by (try rw [w8]);(try rw [w10]);all_goals exact Zae)
   obtain ⟨k42,H⟩:=H
   have i43:(decide ((wi ((↑(List.map Mo.a o).length:Int)-1)).toNat<(List.map Mo.a o).length))=true ↔ (((↑o.length:Int)-1).toNat<o.length):=(by (try rw [w8]);(try rw [w10]);all_goals exact Zae)
   obtain ⟨k44,H⟩:=H
   have w45:(List.map Mo.a o).set ((↑o.length:Int)-1).toNat (ag [vi (o.getD ((↑o.length:Int)-1).toNat default).x,vi (o.getD ((↑o.length:Int)-1).toNat default).y,vi (o.getD ((↑o.length:Int)-1).toNat default).z,vi (l.getD i.toNat default).u,vi (l.getD i.toNat default).v,vi (l.getD i.toNat default).w,vi (o.getD ((↑o.length:Int)-1).toNat default).r,vi (o.getD ((↑o.length:Int)-1).toNat default).t,vi (o.getD ((↑o.length:Int)-1).toNat default).b])=List.map Mo.a (o.set ((↑o.length:Int)-1).toNat { x:=(o.getD ((↑o.length:Int)-1).toNat default).x,y:=(o.getD ((↑o.length:Int)-1).toNat default).y,z:=(o.getD ((↑o.length:Int)-1).toNat default).z,u:=(l.getD i.toNat default).u,v:=(l.getD i.toNat default).v,w:=(l.getD i.toNat default).w,r:=(o.getD ((↑o.length:Int)-1).toNat default).r,t:=(o.getD ((↑o.length:Int)-1).toNat default).t,b:=(o.getD ((↑o.length:Int)-1).toNat default).b }):=(lm_set rfl rfl)
   obtain ⟨k46,H⟩:=H
   have w47:wi (i+1)=i+1:=wI64 k46
   exact Zac (G:=Zab kp18 [(7,7,.elem (Zf0 o))] []) 1000 [true] ⟨(atC (cd Try.f18) [1,1,0,1,0,0]),[(3,AV.row 0 w),(7,AV.vec f 9 (List.map Mo.a l)),(8,vi n),(9,vi (wi (i+1)))],[⟨(List.map Mo.a o).set (wi ((↑(List.map Mo.a o).length:Int)-1)).toNat (ag [vi (o.getD ((↑o.length:Int)-1).toNat default).x,vi (o.getD ((↑o.length:Int)-1).toNat default).y,vi (o.getD ((↑o.length:Int)-1).toNat default).z,vi (l.getD i.toNat default).u,vi (l.getD i.toNat default).v,vi (l.getD i.toNat default).w,vi (o.getD ((↑o.length:Int)-1).toNat default).r,vi (o.getD ((↑o.length:Int)-1).toNat default).t,vi (o.getD ((↑o.length:Int)-1).toNat default).b]),9,w,false,true⟩,⟨[ag [vi (l.getD i.toNat default).x,vi (l.getD i.toNat default).y,vi (l.getD i.toNat default).z,vi (l.getD i.toNat default).u,vi (l.getD i.toNat default).v,vi (l.getD i.toNat default).w,vi (l.getD i.toNat default).r,vi (l.getD i.toNat default).t,vi (l.getD i.toNat default).b]],9,0,false,false⟩],[(bif bif bif bif decide ((↑(List.map Mo.a o).length:Int)>0) then (o.getD ((↑o.length:Int)-1).toNat default).b==(l.getD i.toNat default).b else false then (o.getD ((↑o.length:Int)-1).toNat default).u==(l.getD i.toNat default).x&&((o.getD ((↑o.length:Int)-1).toNat default).v==(l.getD i.toNat default).y&&((o.getD ((↑o.length:Int)-1).toNat default).w==(l.getD i.toNat default).z&&true)) else false then (o.getD ((↑o.length:Int)-1).toNat default).r==(l.getD i.toNat default).r else false then (o.getD ((↑o.length:Int)-1).toNat default).t==(l.getD i.toNat default).t else false)==true,true,w==w,decide (0<=wi ((↑(List.map Mo.a o).length:Int)-1)),decide ((wi ((↑(List.map Mo.a o).length:Int)-1)).toNat<(List.map Mo.a o).length),w==w],[((List.map Mo.a o).get?Internal (wi ((↑(List.map Mo.a o).length:Int)-1)).toNat=some (Zf0 o))],_⟩ (by kernel_rfl) (bc (Zam (i39.2 d40)) (bc rfl (bc (beq_self_eq_true _) (bc (i41.2 k42) (bc (i43.2 k44) (bc (beq_self_eq_true _) b0)))))) (qc (by (try rw [w8]);(try rw [w10]);all_goals exact (Zax k44)) q0) c0 (by (try rw [w8]);(try rw [w10]);(try rw [w45]);(try rw [w47]);all_goals exact Zar [0] (by kernel_rfl) H)
  ·have i48:(decide (((List.map Mo.a o).length+1)*72<=1099511627776))=true ↔ ((o.length+1)*72<=1099511627776):=(by (try rw [w8]);all_goals exact Zae)
   obtain ⟨k49,H⟩:=H
   have w50:List.map Mo.a o++[ag [vi (l.getD i.toNat default).x,vi (l.getD i.toNat default).y,vi (l.getD i.toNat default).z,vi (l.getD i.toNat default).u,vi (l.getD i.toNat default).v,vi (l.getD i.toNat default).w,vi (l.getD i.toNat default).r,vi (l.getD i.toNat default).t,vi (l.getD i.toNat default).b]]=List.map Mo.a (o++[l.getD i.toNat default]):=(ZeE rfl rfl)
   obtain ⟨k51,H⟩:=H
   have w52:wi (i+1)=i+1:=wI64 k51
   exact Zac (G:=Zab kp18 [] []) 1000 [false] ⟨(atC (cd Try.f18) [1,1,0,1,0,0]),[(3,AV.row 0 (w+1)),(7,AV.vec f 9 (List.map Mo.a l)),(8,vi n),(9,vi (wi (i+1)))],[⟨List.map Mo.a o++[ag [vi (l.getD i.toNat default).x,vi (l.getD i.toNat default).y,vi (l.getD i.toNat default).z,vi (l.getD i.toNat default).u,vi (l.getD i.toNat default).v,vi (l.getD i.toNat default).w,vi (l.getD i.toNat default).r,vi (l.getD i.toNat default).t,vi (l.getD i.toNat default).b]],9,w+1,false,true⟩,⟨[ag [vi (l.getD i.toNat default).x,vi (l.getD i.toNat default).y,vi (l.getD i.toNat default).z,vi (l.getD i.toNat default).u,vi (l.getD i.toNat default).v,vi (l.getD i.toNat default).w,vi (l.getD i.toNat default).r,vi (l.getD i.toNat default).t,vi (l.getD i.toNat default).b]],9,0,false,false⟩],[(bif bif bif bif decide ((↑(List.map Mo.a o).length:Int)>0) then (o.getD ((↑o.length:Int)-1).toNat default).b==(l.getD i.toNat default).b else false then (o.getD ((↑o.length:Int)-1).toNat default).u==(l.getD i.toNat default).x&&((o.getD ((↑o.length:Int)-1).toNat default).v==(l.getD i.toNat default).y&&((o.getD ((↑o.length:Int)-1).toNat default).w==(l.getD i.toNat default).z&&true)) else false then (o.getD ((↑o.length:Int)-1).toNat default).r==(l.getD i.toNat default).r else false then (o.getD ((↑o.length:Int)-1).toNat default).t==(l.getD i.toNat default).t else false)==false,true,w==w,decide (((List.map Mo.a o).length+1)*72<=1099511627776)],[],_⟩ (by kernel_rfl) (bc (Zal (fun h=>d40 (i39.1 h))) (bc rfl (bc (beq_self_eq_true _) (bc (i48.2 k49) b0)))) q0 c0 (by (try rw [w50]);(try rw [w52]);all_goals exact Zar [0] (by kernel_rfl) H)
 ·exact Zai (G:=Zab kp18 [] []) 1000 [false] (k:=((atC (cd Try.f18) [1,1,1,1])).tail) (env':=[(2,AV.row 0 w)]) (L':=[⟨List.map Mo.a o,9,w,false,true⟩]) (asm:=[(decide (i<n))==false]) (eqs:=[]) (calls:=[]) (AV.row 0 w) (by kernel_rfl) (by kernel_rfl) (Zaa (Zal (fun h=>d2 (Zae.1 h))) Zad) Zaf Zag (ZdD (d:=(AV.vec false 9 (List.map Mo.a o))) (bs:=[w==w]) (by kernel_rfl) (by kernel_rfl) (Zaa (beq_self_eq_true _) Zad) (by kernel_rfl) H)
theorem lnA (f:Bool) (l:List Mo)  (dq:AV) (H :
  lnN_at f l ((↑l.length:Int)) 0 (Zaj dq)) :
 lnA_at f l (Zaj dq):=by
 unfold lnA_at
 have w1:(List.map Mo.a l).length=l.length:=List.length_map ..
 exact Zac (G:=Zab kp20 [] []) 1000 [] ⟨(atC (cd Try.f20) [1,1,0,1,0,0]),[(3,AV.vnil),(6,AV.vec f 9 (List.map Mo.a l)),(7,vi (↑(List.map Mo.a l).length:Int)),(8,vi 0)],[],_,[],_⟩ (by kernel_rfl) b0 q0 c0 (by (try rw [w1]);all_goals exact H)
noncomputable abbrev zCxR4 (l:List Mo) (i:Int):=ag [vi (l.getD i.toNat default).x,vi (l.getD i.toNat default).y,vi (l.getD i.toNat default).z,vi (l.getD i.toNat default).u,vi (l.getD i.toNat default).v,vi (l.getD i.toNat default).w,vi (l.getD i.toNat default).r,vi (l.getD i.toNat default).t,vi (l.getD i.toNat default).b]
theorem lnN (f:Bool) (l:List Mo) (n i:Int)  (dq:AV) (H :
  ((i<n)->(0<=i) /\
   (i.toNat<l.length) /\
   ((¬(((l.getD i.toNat default).x=(l.getD i.toNat default).u)/\(((l.getD i.toNat default).y=(l.getD i.toNat default).v)/\((l.getD i.toNat default).z=(l.getD i.toNat default).w))))->(-9223372036854775808<=i+1/\i+1<=9223372036854775807) /\
    Zgy f l n (i+1) ([l.getD i.toNat default]) 0 (Zaj dq)) /\
   (¬(¬(((l.getD i.toNat default).x=(l.getD i.toNat default).u)/\(((l.getD i.toNat default).y=(l.getD i.toNat default).v)/\((l.getD i.toNat default).z=(l.getD i.toNat default).w))))->(-9223372036854775808<=i+1/\i+1<=9223372036854775807) /\
    lnN_at f l n (i+1) (Zaj dq))) /\
  (¬(i<n)->Weak (AV.vnil) dq)) :
 lnN_at f l n i (Zaj dq):=by
 unfold lnN_at
 rcases xq H with ⟨d2,H⟩|⟨d2,H⟩
 ·obtain ⟨k4,H⟩:=H
  have w5:(List.map Mo.a l).length=l.length:=List.length_map ..
  have i6:(decide (i.toNat<(List.map Mo.a l).length))=true ↔ (i.toNat<l.length):=(by (try rw [w5]);all_goals exact Zae)
  obtain ⟨k7,H⟩:=H
  refine Zac (G:=Zab kp20 [(4,1,.elem (zCxR4 l i))] []) 11 [true] ⟨(atC (cd Try.f20) [1,1,0,1,0,0,1,1,0,0,1,1]),[(3,AV.vnil),(5,AV.ptr 0 0 0 0),(6,AV.vec f 9 (List.map Mo.a l)),(7,vi n),(8,vi i),(16,vb !((l.getD i.toNat default).x==(l.getD i.toNat default).u&&((l.getD i.toNat default).y==(l.getD i.toNat default).v&&((l.getD i.toNat default).z==(l.getD i.toNat default).w&&true))))],[⟨[ag [vi (l.getD i.toNat default).x,vi (l.getD i.toNat default).y,vi (l.getD i.toNat default).z,vi (l.getD i.toNat default).u,vi (l.getD i.toNat default).v,vi (l.getD i.toNat default).w,vi (l.getD i.toNat default).r,vi (l.getD i.toNat default).t,vi (l.getD i.toNat default).b]],9,0,false,false⟩],_,[((List.map Mo.a l).get?Internal i.toNat=some (zCxR4 l i))],_⟩ (by kernel_rfl) (bc (Zam (Zae.2 d2)) (bc (Zae.2 k4) (bc (i6.2 k7) (bc rfl (bc rfl (bc rfl b0)))))) (qc (Zax k7) q0) c0 ?_
  rcases xq H with ⟨d9,H⟩|⟨d9,H⟩
  ·obtain ⟨k10,H⟩:=H
   have w11:wi (i+1)=i+1:=wI64 k10
   have w12:[ag [vi (l.getD i.toNat default).x,vi (l.getD i.toNat default).y,vi (l.getD i.toNat default).z,vi (l.getD i.toNat default).u,vi (l.getD i.toNat default).v,vi (l.getD i.toNat default).w,vi (l.getD i.toNat default).r,vi (l.getD i.toNat default).t,vi (l.getD i.toNat default).b]]=List.map Mo.a [l.getD i.toNat default]:=rfl
   exact Zac (G:=Zab kp20 [] []) 1000 [true] ⟨(atC (cd Try.f20) [1,1,0,1,0,0]),[(3,AV.row 1 0),(6,AV.vec f 9 (List.map Mo.a l)),(7,vi n),(8,vi (wi (i+1)))],[⟨[ag [vi (l.getD i.toNat default).x,vi (l.getD i.toNat default).y,vi (l.getD i.toNat default).z,vi (l.getD i.toNat default).u,vi (l.getD i.toNat default).v,vi (l.getD i.toNat default).w,vi (l.getD i.toNat default).r,vi (l.getD i.toNat default).t,vi (l.getD i.toNat default).b]],9,0,false,false⟩,⟨[ag [vi (l.getD i.toNat default).x,vi (l.getD i.toNat default).y,vi (l.getD i.toNat default).z,vi (l.getD i.toNat default).u,vi (l.getD i.toNat default).v,vi (l.getD i.toNat default).w,vi (l.getD i.toNat default).r,vi (l.getD i.toNat default).t,vi (l.getD i.toNat default).b]],9,0,false,true⟩],_,[],_⟩ (by kernel_rfl) (bc (Zam ((ZaO (ZaG i_eq (ZaG i_eq (i_at i_eq)))).2 d9)) (bc rfl (bc rfl b0))) q0 c0 (by (try rw [w11]);(try rw [w12]);all_goals exact Zar [1] (by kernel_rfl) H)
  ·obtain ⟨k13,H⟩:=H
   have w14:wi (i+1)=i+1:=wI64 k13
   exact Zac (G:=Zab kp20 [] []) 1000 [false] ⟨(atC (cd Try.f20) [1,1,0,1,0,0]),[(3,AV.vnil),(6,AV.vec f 9 (List.map Mo.a l)),(7,vi n),(8,vi (wi (i+1)))],[⟨[ag [vi (l.getD i.toNat default).x,vi (l.getD i.toNat default).y,vi (l.getD i.toNat default).z,vi (l.getD i.toNat default).u,vi (l.getD i.toNat default).v,vi (l.getD i.toNat default).w,vi (l.getD i.toNat default).r,vi (l.getD i.toNat default).t,vi (l.getD i.toNat default).b]],9,0,false,false⟩],_,[],_⟩ (by kernel_rfl) (bc (Zal (fun h=>d9 ((ZaO (ZaG i_eq (ZaG i_eq (i_at i_eq)))).1 h))) b0) q0 c0 (by (try rw [w14]);all_goals exact Zar [] (by kernel_rfl) H)
 ·exact Zbb (G:=Zab kp20 [] []) 1000 [false] (AV.vnil) (by kernel_rfl) (bc (Zal (fun h=>d2 (Zae.1 h))) b0) q0 c0 H
noncomputable abbrev zCxR5 (l:List Mo) (i:Int):=ag [vi (l.getD i.toNat default).x,vi (l.getD i.toNat default).y,vi (l.getD i.toNat default).z,vi (l.getD i.toNat default).u,vi (l.getD i.toNat default).v,vi (l.getD i.toNat default).w,vi (l.getD i.toNat default).r,vi (l.getD i.toNat default).t,vi (l.getD i.toNat default).b]
theorem lnR (f:Bool) (l:List Mo) (n i:Int) (o:List Mo) (w:Nat)  (dq:AV) (H :
  ((i<n)->(0<=i) /\
   (i.toNat<l.length) /\
   ((¬(((l.getD i.toNat default).x=(l.getD i.toNat default).u)/\(((l.getD i.toNat default).y=(l.getD i.toNat default).v)/\((l.getD i.toNat default).z=(l.getD i.toNat default).w))))->((o.length+1)*72<=1099511627776) /\
    (-9223372036854775808<=i+1/\i+1<=9223372036854775807) /\
    Zgy f l n (i+1) (o++[l.getD i.toNat default]) (w+1) (Zaj dq)) /\
   (¬(¬(((l.getD i.toNat default).x=(l.getD i.toNat default).u)/\(((l.getD i.toNat default).y=(l.getD i.toNat default).v)/\((l.getD i.toNat default).z=(l.getD i.toNat default).w))))->(-9223372036854775808<=i+1/\i+1<=9223372036854775807) /\
    Zgy f l n (i+1) o w (Zaj dq))) /\
  (¬(i<n)->Weak (AV.vec false 9 (List.map Mo.a o)) dq)) :
 Zgy f l n i o w (Zaj dq):=by
 unfold Zgy
 rcases xq H with ⟨d2,H⟩|⟨d2,H⟩
 ·obtain ⟨k4,H⟩:=H
  have w5:(List.map Mo.a l).length=l.length:=List.length_map ..
  have i6:(decide (i.toNat<(List.map Mo.a l).length))=true ↔ (i.toNat<l.length):=(by (try rw [w5]);all_goals exact Zae)
  obtain ⟨k7,H⟩:=H
  refine Zac (G:=Zab kp20 [(4,1,.elem (zCxR5 l i))] []) 11 [true] ⟨(atC (cd Try.f20) [1,1,0,1,0,0,1,1,0,0,1,1]),[(3,AV.row 0 w),(5,AV.ptr 1 0 0 0),(6,AV.vec f 9 (List.map Mo.a l)),(7,vi n),(8,vi i),(16,vb !((l.getD i.toNat default).x==(l.getD i.toNat default).u&&((l.getD i.toNat default).y==(l.getD i.toNat default).v&&((l.getD i.toNat default).z==(l.getD i.toNat default).w&&true))))],[⟨List.map Mo.a o,9,w,false,true⟩,⟨[ag [vi (l.getD i.toNat default).x,vi (l.getD i.toNat default).y,vi (l.getD i.toNat default).z,vi (l.getD i.toNat default).u,vi (l.getD i.toNat default).v,vi (l.getD i.toNat default).w,vi (l.getD i.toNat default).r,vi (l.getD i.toNat default).t,vi (l.getD i.toNat default).b]],9,0,false,false⟩],_,[((List.map Mo.a l).get?Internal i.toNat=some (zCxR5 l i))],_⟩ (by kernel_rfl) (bc (Zam (Zae.2 d2)) (bc (Zae.2 k4) (bc (i6.2 k7) (bc rfl (bc rfl (bc rfl b0)))))) (qc (Zax k7) q0) c0 ?_
  rcases xq H with ⟨d9,H⟩|⟨d9,H⟩
  ·have w10:(List.map Mo.a o).length=o.length:=List.length_map ..
   have i11:(decide (((List.map Mo.a o).length+1)*72<=1099511627776))=true ↔ ((o.length+1)*72<=1099511627776):=(by (try rw [w10]);all_goals exact Zae)
   obtain ⟨k12,H⟩:=H
   have w13:List.map Mo.a o++[ag [vi (l.getD i.toNat default).x,vi (l.getD i.toNat default).y,vi (l.getD i.toNat default).z,vi (l.getD i.toNat default).u,vi (l.getD i.toNat default).v,vi (l.getD i.toNat default).w,vi (l.getD i.toNat default).r,vi (l.getD i.toNat default).t,vi (l.getD i.toNat default).b]]=List.map Mo.a (o++[l.getD i.toNat default]):=(ZeE rfl rfl)
   obtain ⟨k14,H⟩:=H
   have w15:wi (i+1)=i+1:=wI64 k14
   exact Zac (G:=Zab kp20 [] []) 1000 [true] ⟨(atC (cd Try.f20) [1,1,0,1,0,0]),[(3,AV.row 0 (w+1)),(6,AV.vec f 9 (List.map Mo.a l)),(7,vi n),(8,vi (wi (i+1)))],[⟨List.map Mo.a o++[ag [vi (l.getD i.toNat default).x,vi (l.getD i.toNat default).y,vi (l.getD i.toNat default).z,vi (l.getD i.toNat default).u,vi (l.getD i.toNat default).v,vi (l.getD i.toNat default).w,vi (l.getD i.toNat default).r,vi (l.getD i.toNat default).t,vi (l.getD i.toNat default).b]],9,w+1,false,true⟩,⟨[ag [vi (l.getD i.toNat default).x,vi (l.getD i.toNat default).y,vi (l.getD i.toNat default).z,vi (l.getD i.toNat default).u,vi (l.getD i.toNat default).v,vi (l.getD i.toNat default).w,vi (l.getD i.toNat default).r,vi (l.getD i.toNat default).t,vi (l.getD i.toNat default).b]],9,0,false,false⟩],[(!((l.getD i.toNat default).x==(l.getD i.toNat default).u&&((l.getD i.toNat default).y==(l.getD i.toNat default).v&&((l.getD i.toNat default).z==(l.getD i.toNat default).w&&true))))==true,true,w==w,decide (((List.map Mo.a o).length+1)*72<=1099511627776)],[],_⟩ (by kernel_rfl) (bc (Zam ((ZaO (ZaG i_eq (ZaG i_eq (i_at i_eq)))).2 d9)) (bc rfl (bc (beq_self_eq_true _) (bc (i11.2 k12) b0)))) q0 c0 (by (try rw [w13]);(try rw [w15]);all_goals exact Zar [0] (by kernel_rfl) H)
  ·obtain ⟨k16,H⟩:=H
   have w17:wi (i+1)=i+1:=wI64 k16
   exact Zac (G:=Zab kp20 [] []) 1000 [false] ⟨(atC (cd Try.f20) [1,1,0,1,0,0]),[(3,AV.row 0 w),(6,AV.vec f 9 (List.map Mo.a l)),(7,vi n),(8,vi (wi (i+1)))],[⟨List.map Mo.a o,9,w,false,true⟩,⟨[ag [vi (l.getD i.toNat default).x,vi (l.getD i.toNat default).y,vi (l.getD i.toNat default).z,vi (l.getD i.toNat default).u,vi (l.getD i.toNat default).v,vi (l.getD i.toNat default).w,vi (l.getD i.toNat default).r,vi (l.getD i.toNat default).t,vi (l.getD i.toNat default).b]],9,0,false,false⟩],_,[],_⟩ (by kernel_rfl) (bc (Zal (fun h=>d9 ((ZaO (ZaG i_eq (ZaG i_eq (i_at i_eq)))).1 h))) b0) q0 c0 (by (try rw [w17]);all_goals exact Zar [0] (by kernel_rfl) H)
 ·exact Zai (G:=Zab kp20 [] []) 1000 [false] (k:=((atC (cd Try.f20) [1,1,1,1])).tail) (env':=[(2,AV.row 0 w)]) (L':=[⟨List.map Mo.a o,9,w,false,true⟩]) (asm:=[(decide (i<n))==false]) (eqs:=[]) (calls:=[]) (AV.row 0 w) (by kernel_rfl) (by kernel_rfl) (Zaa (Zal (fun h=>d2 (Zae.1 h))) Zad) Zaf Zag (ZdD (d:=(AV.vec false 9 (List.map Mo.a o))) (bs:=[w==w]) (by kernel_rfl) (by kernel_rfl) (Zaa (beq_self_eq_true _) Zad) (by kernel_rfl) H)
theorem smP (f g:Bool) (l m:List Mo)  (dq:AV) (H :
  ((¬(↑l.length:Int)=(↑m.length:Int))->vb false=dq) /\
  (¬(¬(↑l.length:Int)=(↑m.length:Int))->smQ_at f g l m 0 (Zaj dq))) :
 smP_at f g l m (Zaj dq):=by
 unfold smP_at
 have w1:(List.map Mo.a l).length=l.length:=List.length_map ..
 have w2:(List.map Mo.a m).length=m.length:=List.length_map ..
 have i3:((↑(List.map Mo.a l).length:Int) != (↑(List.map Mo.a m).length:Int))=true ↔ (¬(↑l.length:Int)=(↑m.length:Int)):=(by (try rw [w1]);(try rw [w2]);all_goals exact i_ne)
 rcases xq H with ⟨d4,H⟩|⟨d4,H⟩
 ·exact Zao (G:=Zab kp17 [] []) 1000 [true] (vb false) (by kernel_rfl) (bc (Zam (i3.2 d4)) b0) q0 c0 H
 ·exact Zac (G:=Zab kp17 [] []) 1000 [false] ⟨(atC (cd Try.f17) [1,1,0,1,0,0]),[(0,AV.vec f 9 (List.map Mo.a l)),(1,AV.vec g 9 (List.map Mo.a m)),(5,vi 0)],[],_,[],_⟩ (by kernel_rfl) (bc (Zal (fun h=>d4 (i3.1 h))) b0) q0 c0 H
noncomputable abbrev zCxR6 (l:List Mo) (i:Int):=ag [vi (l.getD i.toNat default).x,vi (l.getD i.toNat default).y,vi (l.getD i.toNat default).z,vi (l.getD i.toNat default).u,vi (l.getD i.toNat default).v,vi (l.getD i.toNat default).w,vi (l.getD i.toNat default).r,vi (l.getD i.toNat default).t,vi (l.getD i.toNat default).b]
noncomputable abbrev zCxR7 (m:List Mo) (i:Int):=ag [vi (m.getD i.toNat default).x,vi (m.getD i.toNat default).y,vi (m.getD i.toNat default).z,vi (m.getD i.toNat default).u,vi (m.getD i.toNat default).v,vi (m.getD i.toNat default).w,vi (m.getD i.toNat default).r,vi (m.getD i.toNat default).t,vi (m.getD i.toNat default).b]
theorem smQ (f g:Bool) (l m:List Mo) (i:Int)  (dq:AV) (H :
  ((i<(↑l.length:Int))->(0<=i) /\
   (i.toNat<l.length) /\
   (i.toNat<m.length) /\
   ((¬((((l.getD i.toNat default).x=(m.getD i.toNat default).x)/\(((l.getD i.toNat default).y=(m.getD i.toNat default).y)/\((l.getD i.toNat default).z=(m.getD i.toNat default).z)))/\((((l.getD i.toNat default).u=(m.getD i.toNat default).u)/\(((l.getD i.toNat default).v=(m.getD i.toNat default).v)/\((l.getD i.toNat default).w=(m.getD i.toNat default).w)))/\(((l.getD i.toNat default).r=(m.getD i.toNat default).r)/\(((l.getD i.toNat default).t=(m.getD i.toNat default).t)/\((l.getD i.toNat default).b=(m.getD i.toNat default).b))))))->vb false=dq) /\
   (¬(¬((((l.getD i.toNat default).x=(m.getD i.toNat default).x)/\(((l.getD i.toNat default).y=(m.getD i.toNat default).y)/\((l.getD i.toNat default).z=(m.getD i.toNat default).z)))/\((((l.getD i.toNat default).u=(m.getD i.toNat default).u)/\(((l.getD i.toNat default).v=(m.getD i.toNat default).v)/\((l.getD i.toNat default).w=(m.getD i.toNat default).w)))/\(((l.getD i.toNat default).r=(m.getD i.toNat default).r)/\(((l.getD i.toNat default).t=(m.getD i.toNat default).t)/\((l.getD i.toNat default).b=(m.getD i.toNat default).b))))))->(-9223372036854775808<=i+1/\i+1<=9223372036854775807) /\
    smQ_at f g l m (i+1) (Zaj dq))) /\
  (¬(i<(↑l.length:Int))->vb true=dq)) :
 smQ_at f g l m i (Zaj dq):=by
 unfold smQ_at
 have w1:(List.map Mo.a l).length=l.length:=List.length_map ..
 have i2:(decide (i<(↑(List.map Mo.a l).length:Int)))=true ↔ (i<(↑l.length:Int)):=(by (try rw [w1]);all_goals exact Zae)
 rcases xq H with ⟨d3,H⟩|⟨d3,H⟩
 ·obtain ⟨k5,H⟩:=H
  have i6:(decide (i.toNat<(List.map Mo.a l).length))=true ↔ (i.toNat<l.length):=(by (try rw [w1]);all_goals exact Zae)
  obtain ⟨k7,H⟩:=H
  have w9:(List.map Mo.a m).length=m.length:=List.length_map ..
  have i10:(decide (i.toNat<(List.map Mo.a m).length))=true ↔ (i.toNat<m.length):=(by (try rw [w9]);all_goals exact Zae)
  obtain ⟨k11,H⟩:=H
  refine Zac (G:=Zab kp17 [(6,3,.elem (zCxR6 l i)),(6,7,.elem (zCxR7 m i))] []) 9 [true] ⟨(atC (cd Try.f17) [1,1,0,1,0,0,1,0,0,1]),[(0,AV.vec f 9 (List.map Mo.a l)),(1,AV.vec g 9 (List.map Mo.a m)),(5,vi i),(25,vb !((l.getD i.toNat default).x==(m.getD i.toNat default).x&&((l.getD i.toNat default).y==(m.getD i.toNat default).y&&((l.getD i.toNat default).z==(m.getD i.toNat default).z&&true))&&((l.getD i.toNat default).u==(m.getD i.toNat default).u&&((l.getD i.toNat default).v==(m.getD i.toNat default).v&&((l.getD i.toNat default).w==(m.getD i.toNat default).w&&true))&&((l.getD i.toNat default).r==(m.getD i.toNat default).r&&((l.getD i.toNat default).t==(m.getD i.toNat default).t&&((l.getD i.toNat default).b==(m.getD i.toNat default).b&&true))))))],[],_,[((List.map Mo.a l).get?Internal i.toNat=some (zCxR6 l i)),((List.map Mo.a m).get?Internal i.toNat=some (zCxR7 m i))],_⟩ (by kernel_rfl) (bc (Zam (i2.2 d3)) (bc (Zae.2 k5) (bc (i6.2 k7) (bc (Zae.2 k5) (bc (i10.2 k11) b0))))) (qc (Zax k7) (qc (Zax k11) q0)) c0 ?_
  rcases xq H with ⟨d13,H⟩|⟨d13,H⟩
  ·exact Zao (G:=Zab kp17 [] []) 1000 [true] (vb false) (by kernel_rfl) (bc (Zam ((ZaO (ZaG (ZaG i_eq (ZaG i_eq (i_at i_eq))) (ZaG (ZaG i_eq (ZaG i_eq (i_at i_eq))) (ZaG i_eq (ZaG i_eq (i_at i_eq)))))).2 d13)) b0) q0 c0 H
  ·obtain ⟨k14,H⟩:=H
   have w15:wi (i+1)=i+1:=wI64 k14
   exact Zac (G:=Zab kp17 [] []) 1000 [false] ⟨(atC (cd Try.f17) [1,1,0,1,0,0]),[(0,AV.vec f 9 (List.map Mo.a l)),(1,AV.vec g 9 (List.map Mo.a m)),(5,vi (wi (i+1)))],[],_,[],_⟩ (by kernel_rfl) (bc (Zal (fun h=>d13 ((ZaO (ZaG (ZaG i_eq (ZaG i_eq (i_at i_eq))) (ZaG (ZaG i_eq (ZaG i_eq (i_at i_eq))) (ZaG i_eq (ZaG i_eq (i_at i_eq)))))).1 h))) b0) q0 c0 (by (try rw [w15]);all_goals exact H)
 ·exact Zao (G:=Zab kp17 [] []) 1000 [false] (vb true) (by kernel_rfl) (bc (Zal (fun h=>d3 (i2.1 h))) b0) q0 c0 H
noncomputable abbrev zCxR8 (l:List Mo):=ag [vi (l.getD ((↑l.length:Int)-1).toNat default).x,vi (l.getD ((↑l.length:Int)-1).toNat default).y,vi (l.getD ((↑l.length:Int)-1).toNat default).z,vi (l.getD ((↑l.length:Int)-1).toNat default).u,vi (l.getD ((↑l.length:Int)-1).toNat default).v,vi (l.getD ((↑l.length:Int)-1).toNat default).w,vi (l.getD ((↑l.length:Int)-1).toNat default).r,vi (l.getD ((↑l.length:Int)-1).toNat default).t,vi (l.getD ((↑l.length:Int)-1).toNat default).b]
theorem enA (x y z:Int) (f:Bool) (l:List Mo)  (dq:AV) (H :
  (((↑l.length:Int)=0)->ag [vi x,vi y,vi z]=dq) /\
  (¬((↑l.length:Int)=0)->(-9223372036854775808<=(↑l.length:Int)-1/\(↑l.length:Int)-1<=9223372036854775807) /\
   (0<=(↑l.length:Int)-1) /\
   (((↑l.length:Int)-1).toNat<l.length) /\
   ag [vi (l.getD ((↑l.length:Int)-1).toNat default).u,vi (l.getD ((↑l.length:Int)-1).toNat default).v,vi (l.getD ((↑l.length:Int)-1).toNat default).w]=dq)) :
 enA_at x y z f l (Zaj dq):=by
 unfold enA_at
 have w1:(List.map Mo.a l).length=l.length:=List.length_map ..
 have i2:((↑(List.map Mo.a l).length:Int)==0)=true ↔ ((↑l.length:Int)=0):=(by (try rw [w1]);all_goals exact i_eq)
 rcases xq H with ⟨d3,H⟩|⟨d3,H⟩
 ·exact Zao (G:=Zab kp21 [] []) 1000 [true] (ag [vi x,vi y,vi z]) (by kernel_rfl) (bc (Zam (i2.2 d3)) (bc rfl (bc rfl b0))) q0 c0 H
 ·obtain ⟨k4,H⟩:=H
  have w5:wi ((↑l.length:Int)-1)=(↑l.length:Int)-1:=wI64 k4
  have i6:(decide (0<=wi ((↑(List.map Mo.a l).length:Int)-1)))=true ↔ (0<=(↑l.length:Int)-1):=(by (try rw [w1]);(try rw [w5]);all_goals exact Zae)
  obtain ⟨k7,H⟩:=H
  have i8:(decide ((wi ((↑(List.map Mo.a l).length:Int)-1)).toNat<(List.map Mo.a l).length))=true ↔ (((↑l.length:Int)-1).toNat<l.length):=(by (try rw [w1]);(try rw [w5]);all_goals exact Zae)
  obtain ⟨k9,H⟩:=H
  exact Zao (G:=Zab kp21 [(3,6,.elem (zCxR8 l))] []) 1000 [false] (eqs:=[((List.map Mo.a l).get?Internal (wi ((↑(List.map Mo.a l).length:Int)-1)).toNat=some (zCxR8 l))]) (ag [vi (l.getD ((↑l.length:Int)-1).toNat default).u,vi (l.getD ((↑l.length:Int)-1).toNat default).v,vi (l.getD ((↑l.length:Int)-1).toNat default).w]) (by kernel_rfl) (bc (Zal (fun h=>d3 (i2.1 h))) (bc (i6.2 k7) (bc (i8.2 k9) (bc rfl b0)))) (qc (by (try rw [w1]);(try rw [w5]);all_goals exact (Zax k9)) q0) c0 H
end Go.Av

namespace Go.Av
open Go.Proofs
namespace N
noncomputable def enP (x y z:Int) (l:List Mo):Ps:=if (l.length:Int)=0 then ⟨x,y,z⟩ else (l.getD ((l.length:Int)-1).toNat default).dst
end N
theorem mo_sd (m:Mo):(m.x=m.u/\m.y=m.v/\m.z=m.w) ↔ m.src=m.dst:=by
 unfold Mo.src Mo.dst
 constructor
 ·rintro ⟨h1,h2,h3⟩;rw [h1,h2,h3]
 ·intro h;injection h with h1 h2 h3;exact ⟨h1,h2,h3⟩
theorem lng_len (l:List Mo):(N.lng l).length<=l.length:=List.length_filter_le ..
theorem ln_loop (f:Bool) {l:List Mo} (hl:N.ZeZ l):∀ (k i:Nat) (w:Nat),i+k=l.length->Zgy f l l.length i (N.lng (l.take i)) w (Zaj (.vec false 9 ((N.lng l).map Mo.a))):=by
 unfold N.ZeZ at hl
 intro k
 induction k with
 | zero =>
  intro i w hi
  rw [List.take_of_length_le (by omega)]
  exact lnR _ _ _ _ _ _ _ ⟨fun z=>absurd z (by omega),fun _ => .refl _⟩
 | succ k ih =>
  intro i w hi
  have hs:=ZbS (L:=l) (i:=i) (by omega)
  have hlen:=lng_len (l.take i)
  rw [List.length_take] at hlen
  refine lnR _ _ _ _ _ _ _ ⟨fun _=>⟨by omega,by omega,fun hd=>⟨by omega,by omega,?_⟩,fun hd=>⟨by omega,?_⟩⟩,fun z=>absurd (by omega) z⟩
  ·have:=ih (i+1) (w+1) (by omega)
   rw [hs,Zdr,if_neg fun y=>hd ((mo_sd _).2 (by rw [Int.toNat_natCast];exact y))] at this
   rw [Int.toNat_natCast]
   exact this
  ·have:=ih (i+1) w (by omega)
   rw [hs,Zdr,if_pos (by have:=(mo_sd _).1 (Classical.not_not.1 hd);rw [Int.toNat_natCast] at this;exact this)] at this
   exact this
theorem ln_loopN (f:Bool) {l:List Mo} (hl:N.ZeZ l):∀ (k i:Nat),i+k=l.length->N.lng (l.take i)=[]->lnN_at f l l.length i (Zaj (.vec false 9 ((N.lng l).map Mo.a))):=by
 intro k
 induction k with
 | zero =>
  intro i hi h0
  rw [List.take_of_length_le (by omega)] at h0
  rw [h0]
  exact lnN _ _ _ _ _ ⟨fun z=>absurd z (by omega),fun _ => .vnil 9⟩
 | succ k ih =>
  intro i hi h0
  have hs:=ZbS (L:=l) (i:=i) (by omega)
  have hl':=hl
  unfold N.ZeZ at hl'
  refine lnN _ _ _ _ _ ⟨fun _=>⟨by omega,by omega,fun hd=>⟨by omega,?_⟩,fun hd=>⟨by omega,?_⟩⟩,fun z=>absurd (by omega) z⟩
  ·have:=ln_loop f hl k (i+1) 0 (by omega)
   rw [hs,Zdr,if_neg fun y=>hd ((mo_sd _).2 (by rw [Int.toNat_natCast];exact y)),h0] at this
   rw [Int.toNat_natCast]
   exact this
  ·refine ih (i+1) (by omega) ?_
   rw [hs,Zdr,if_pos (by have:=(mo_sd _).1 (Classical.not_not.1 hd);rw [Int.toNat_natCast] at this;exact this)]
   exact h0
theorem ev20 (f:Bool) (l:List Mo) (h:N.ZeZ l):Ev M1 (.pure 20 [.vec f 9 (l.map Mo.a)]) (.vec false 9 ((N.lng l).map Mo.a)) []:=
 call20 (lnA f l _ (ln_loopN f h l.length 0 (by omega) rfl))
theorem ev21 (x y z:Int) (f:Bool) (l:List Mo) (h:N.ZeZ l):Ev M1 (.pure 21 [.agg [.int .i64 x,.int .i64 y,.int .i64 z],.vec f 9 (l.map Mo.a)]) (.agg [.int .i64 (N.enP x y z l).x,.int .i64 (N.enP x y z l).y,.int .i64 (N.enP x y z l).z]) []:=by
 unfold N.ZeZ at h
 refine call21 (enA x y z f l _ ⟨fun h0 => ?_,fun h0=>⟨by omega,by omega,by omega,?_⟩⟩)
 ·unfold N.enP;rw [if_pos h0]
 ·unfold N.enP;rw [if_neg h0];rfl
end Go.Av

namespace Go.Av
open Go.Proofs
namespace N
def smM (l m:List Mo):Bool:=decide (l=m)
def okSm (l m:List Mo):Prop:=l.length<=1000000000/\m.length<=1000000000
end N
theorem lastM (o:List Mo) (q:Mo):(o++[q]).getD (((o++[q]).length:Int)-1).toNat default=q:=by
 rw [List.length_append,List.length_singleton]
 have:(((o.length+1:Nat):Int)-1).toNat=o.length:=by omega
 rw [this,List.getD_eq_getElem?_getD,List.getElem?_append_right (Nat.le_refl _),Nat.sub_self];rfl
theorem setM (o:List Mo) (q z:Mo):(o++[q]).set (((o++[q]).length:Int)-1).toNat z=o++[z]:=by
 rw [List.length_append,List.length_singleton]
 have:(((o.length+1:Nat):Int)-1).toNat=o.length:=by omega
 rw [this,List.set_append_right (h:=Nat.le_refl _),Nat.sub_self];rfl
theorem wh_loop (f:Bool) {l:List Mo} (hl:N.ZeZ l):∀ (k i:Nat) (Y:List Mo) (q:Mo) (w:Nat),i+k=l.length->N.wh (l.take i)=Y++[q]->Y.length<i->Zgh f l l.length i (Y++[q]) w (Zaj (.vec false 9 ((N.wh l).map Mo.a))):=by
 unfold N.ZeZ at hl
 intro k
 induction k with
 | zero =>
  intro i Y q w hi hY hlen
  rw [List.take_of_length_le (by omega)] at hY
  rw [hY]
  exact whR _ _ _ _ _ _ _ ⟨fun z=>absurd z (by omega),fun _ => .refl _⟩
 | succ k ih =>
  intro i Y q w hi hY hlen
  have hs:=ZbS (L:=l) (i:=i) (by omega)
  have hw:N.wh (l.take (i+1))=N.wstep (Y++[q]) (l.getD i default):=by rw [hs,wh_snoc,hY]
  rw [Zed] at hw
  have hL:=lastM Y q
  have hS:=setM Y q
  have hn:(Y++[q]).length=Y.length+1:=by rw [List.length_append,List.length_singleton]
  refine whR _ _ _ _ _ _ _ ⟨fun _ => ?_,fun z=>absurd (by omega) z⟩
  rw [hL,hS,Int.toNat_natCast]
  refine ⟨by omega,by omega,by omega,fun _=>by omega,fun _=>by omega,fun _=>by omega,fun _=>by omega,fun _=>by omega,fun _=>by omega,fun _=>by omega,fun _=>by omega,fun hc=>⟨by omega,by omega,by omega,?_⟩,fun hc=>⟨by omega,by omega,?_⟩⟩
  ·obtain ⟨⟨⟨⟨_,h1⟩,h2⟩,h3⟩,h4⟩:=hc
   have hd:q.dst=(l.getD i default).src:=by
    unfold Mo.dst Mo.src
    rw [h2.1,h2.2.1,h2.2.2]
   rw [if_pos ⟨h1,hd,h3,h4⟩] at hw
   exact ih (i+1) Y _ w (by omega) hw (by omega)
  ·have hne:¬(q.b=(l.getD i default).b/\q.dst=(l.getD i default).src/\q.r=(l.getD i default).r/\q.t=(l.getD i default).t):=by
    rintro ⟨h1,h2,h3,h4⟩
    unfold Mo.dst Mo.src at h2
    injection h2 with e1 e2 e3
    exact hc ⟨⟨⟨⟨by omega,h1⟩,e1,e2,e3⟩,h3⟩,h4⟩
   rw [if_neg hne] at hw
   exact ih (i+1) (Y++[q]) _ (w+1) (by omega) hw (by omega)
theorem ev18 (f:Bool) (l:List Mo) (h:N.ZeZ l):Ev M1 (.pure 18 [.vec f 9 (l.map Mo.a)]) (.vec false 9 ((N.wh l).map Mo.a)) []:=by
 refine call18 (whA f l _ ?_)
 cases hn:l.length with
 | zero =>
  have:l=[]:=List.eq_nil_of_length_eq_zero hn
  subst this
  exact whN _ _ _ _ _ ⟨fun z=>absurd z (by omega),fun _ => .vnil 9⟩
 | succ k =>
  have hw:N.wh (l.take 1)=[]++[l.getD 0 default]:=by rw [ZbS (L:=l) (i:=0) (by omega)];rfl
  have:=wh_loop f h k 1 [] (l.getD 0 default) 0 (by omega) hw (by simp)
  rw [hn] at this
  exact whN _ _ _ _ _ ⟨fun _=>⟨by omega,by omega,by omega,this⟩,fun z=>absurd (by omega) z⟩
theorem mo_eq (a b:Mo):((a.x=b.x/\a.y=b.y/\a.z=b.z)/\(a.u=b.u/\a.v=b.v/\a.w=b.w)/\a.r=b.r/\a.t=b.t/\a.b=b.b) ↔ a=b:=by
 obtain ⟨a1,a2,a3,a4,a5,a6,a7,a8,a9⟩:=a
 obtain ⟨b1,b2,b3,b4,b5,b6,b7,b8,b9⟩:=b
 constructor
 ·rintro ⟨⟨h1,h2,h3⟩,⟨h4,h5,h6⟩,h7,h8,h9⟩
  simp only at *
  subst h1;subst h2;subst h3;subst h4;subst h5;subst h6;subst h7;subst h8;subst h9;rfl
 ·intro h;cases h;exact ⟨⟨rfl,rfl,rfl⟩,⟨rfl,rfl,rfl⟩,rfl,rfl,rfl⟩
theorem sm_loop (f g:Bool) {l m:List Mo} (he:l.length=m.length) (hl:l.length<=1000000000):∀ (k i:Nat),i+k=l.length->l.take i=m.take i->smQ_at f g l m i (Zaj (.bool (N.smM l m))):=by
 intro k
 induction k with
 | zero =>
  intro i hi ht
  rw [List.take_of_length_le (by omega),List.take_of_length_le (by omega)] at ht
  exact smQ _ _ _ _ _ _ ⟨fun z=>absurd z (by omega),fun _=>by unfold N.smM;rw [decide_eq_true ht]⟩
 | succ k ih =>
  intro i hi ht
  refine smQ _ _ _ _ _ _ ⟨fun _ => ?_,fun z=>absurd (by omega) z⟩
  rw [Int.toNat_natCast]
  refine ⟨by omega,by omega,by omega,fun hd => ?_,fun hd=>⟨by omega,?_⟩⟩
  ·have hne:¬l=m:=by
    intro e
    subst e
    exact hd ((mo_eq _ _).2 rfl)
   unfold N.smM;rw [decide_eq_false hne]
  ·have e:=(mo_eq _ _).1 (Classical.not_not.1 hd)
   refine ih (i+1) (by omega) ?_
   rw [ZbS (L:=l) (by omega),ZbS (L:=m) (by omega),ht,e]
theorem ev17 (f g:Bool) (l m:List Mo) (h:N.okSm l m):Ev M1 (.pure 17 [.vec f 9 (l.map Mo.a),.vec g 9 (m.map Mo.a)]) (.bool (N.smM l m)) []:=by
 refine call17 (smP f g l m _ ⟨fun hn => ?_,fun hn => ?_⟩)
 ·have hne:¬l=m:=fun e=>hn (by rw [e])
  unfold N.smM;rw [decide_eq_false hne]
 ·exact sm_loop f g (by omega) h.1 l.length 0 (by omega) rfl
end Go.Av

namespace Go.Av
open Go.Proofs
set_option maxRecDepth 100000
def fi29:Fi:=⟨21,[.cell 4 42]⟩
def kp29:List (Nat × List Nat):=[(0,[2,3,4]),(1,[4])]
def fi72:Fi:=⟨15,[.tmp 6]⟩
def kp72:List (Nat × List Nat):=[(0,[0,1,2]),(1,[6])]
def w9A_at (n l h:Int) (Q:AV->Heap->Prop):Prop:=Wp M1 (.run fi72 (atC (cd Try.f72) []) [(0,.int .i64 n),(1,.int .i64 l),(2,.int .i64 h)] []) Q
def p5A_at (ax ay az bx by_ bz:Int) (Q:AV->Heap->Prop):Prop:=Wp M1 (.run fi29 (atC (cd Try.f29) []) [(0,.agg [.int .i64 ax,.int .i64 ay,.int .i64 az]),(1,.agg [.int .i64 bx,.int .i64 by_,.int .i64 bz])] []) Q
theorem call29 {args:List AV} {d:AV} (h:wc M1 fi29 Try.f29 args d):Ev M1 (.pure 29 args) d []:=pcl _ _ (by kernel_rfl) h
theorem call72 {args:List AV} {d:AV} (h:wc M1 fi72 Try.f72 args d):Ev M1 (.pure 72 args) d []:=pcl _ _ (by kernel_rfl) h
theorem w9A (n l h:Int)  (dq:AV) (H :
  vb (bif decide (n>=l) then decide (n<=h) else false)=dq) :
 w9A_at n l h (Zaj dq):=by
 unfold w9A_at
 exact Zao (G:=Zab kp72 [] []) 1000 [] (vb (bif decide (n>=l) then decide (n<=h) else false)) (by kernel_rfl) b0 q0 c0 H
theorem p5A (ax ay az bx by_ bz:Int)  (dq:AV) (H :
  (-9223372036854775808<=ax+bx/\ax+bx<=9223372036854775807) /\
  (-9223372036854775808<=ay+by_/\ay+by_<=9223372036854775807) /\
  (-9223372036854775808<=az+bz/\az+bz<=9223372036854775807) /\
  ag [vi (ax+bx),vi (ay+by_),vi (az+bz)]=dq) :
 p5A_at ax ay az bx by_ bz (Zaj dq):=by
 unfold p5A_at
 obtain ⟨k1,H⟩:=H
 have w2:wi (ax+bx)=ax+bx:=wI64 k1
 obtain ⟨k3,H⟩:=H
 have w4:wi (ay+by_)=ay+by_:=wI64 k3
 obtain ⟨k5,H⟩:=H
 have w6:wi (az+bz)=az+bz:=wI64 k5
 exact Zao (G:=Zab kp29 [] []) 1000 [] (ag [vi (wi (ax+bx)),vi (wi (ay+by_)),vi (wi (az+bz))]) (by kernel_rfl) (bc rfl (bc rfl (bc rfl (bc rfl (bc rfl (bc rfl (bc rfl b0))))))) q0 c0 (by (try rw [w2]);(try rw [w4]);(try rw [w6]);all_goals exact H)
end Go.Av

namespace Go.Av
open Go.Proofs
namespace N
def okPl (ax ay az bx by_ bz:Int):Prop:=((-100000000<=ax/\ax<=100000000)/\(-100000000<=ay/\ay<=100000000) /\ -100000000<=az/\az<=100000000)/\(-100000000<=bx/\bx<=100000000)/\(-100000000<=by_/\by_<=100000000) /\ -100000000<=bz/\bz<=100000000
end N
theorem ev72 (n l h:Int):Ev M1 (.pure 72 [.int .i64 n,.int .i64 l,.int .i64 h]) (.bool (N.wi n l h)) []:=call72 (w9A n l h _ rfl)
theorem ev29 (ax ay az bx by_ bz:Int) (h:N.okPl ax ay az bx by_ bz):Ev M1 (.pure 29 [.agg [.int .i64 ax,.int .i64 ay,.int .i64 az],.agg [.int .i64 bx,.int .i64 by_,.int .i64 bz]]) (.agg [.int .i64 (ax+bx),.int .i64 (ay+by_),.int .i64 (az+bz)]) []:=by
 obtain ⟨⟨h1,h2,h3⟩,h4,h5,h6⟩:=h
 exact call29 (p5A _ _ _ _ _ _ _ ⟨by omega,by omega,by omega,rfl⟩)
end Go.Av

namespace Go.Av
open Go.Proofs
set_option maxRecDepth 100000
def fi39:Fi:=⟨19,[.tmp 2]⟩
def kp39:List (Nat × List Nat):=[(0,[1]),(1,[18]),(2,[2]),(3,[2])]
def v9A_at (S A j:Int) (Q:AV->Heap->Prop):Prop:=Wp M1 (.run fi39 (atC (cd Try.f39) []) [(0,.agg [.int .i64 S,.int .i64 A,.int .i64 j])] []) Q
theorem call39 {args:List AV} {d:AV} (h:wc M1 fi39 Try.f39 args d):Ev M1 (.pure 39 args) d []:=pcl _ _ (by kernel_rfl) h
noncomputable abbrev zCxT1 (S:Int) (A:Int) (j:Int):=bif bif !N.wi S 1 100000 then true else !N.wi A 1 100000 then true else !N.wi j 2 100000
theorem v9A (S A j:Int)  (dq:AV) (H :
  ((((¬(N.wi S 1 100000=true))\/(¬(N.wi A 1 100000=true)))\/(¬(N.wi j 2 100000=true)))->vi 1=dq) /\
  (¬(((¬(N.wi S 1 100000=true))\/(¬(N.wi A 1 100000=true)))\/(¬(N.wi j 2 100000=true)))->vi 0=dq)) :
 v9A_at S A j (Zaj dq):=by
 unfold v9A_at
 refine Zac (G:=Zab kp39 [(1,2,.call (vb (N.wi S 1 100000)) none),(1,7,.call (vb (N.wi A 1 100000)) none),(1,13,.call (vb (N.wi j 2 100000)) none)] []) 5 [] ⟨(atC (cd Try.f39) [1,0,1]),[(18,vb (zCxT1 S A j))],[⟨[ag [vi S,vi A,vi j]],3,0,false,false⟩],[true,!((!N.wi S 1 100000)==false&&true)||true,!((bif !N.wi S 1 100000 then true else !N.wi A 1 100000)==false&&true)||true],[],[⟨true,false,72,[vi S,vi 1,vi 100000],[],vb (N.wi S 1 100000),[]⟩,⟨(!N.wi S 1 100000)==false&&true&&true,false,72,[vi A,vi 1,vi 100000],[],vb (N.wi A 1 100000),[]⟩,⟨(bif !N.wi S 1 100000 then true else !N.wi A 1 100000)==false&&true&&true,false,72,[vi j,vi 2,vi 100000],[],vb (N.wi j 2 100000),[]⟩]⟩ (by kernel_rfl) (bc rfl (bc (Bool.or_true _) (bc (Bool.or_true _) b0))) q0 (cc (fun _=>(@ev72 S 1 100000)) (cc (fun hc=>((@ev72 A 1 100000):Ev M1 (Conf.pure 72 [vi A,vi 1,vi 100000]) (vb (N.wi A 1 100000)) [])) (cc (fun hc=>((@ev72 j 2 100000):Ev M1 (Conf.pure 72 [vi j,vi 2,vi 100000]) (vb (N.wi j 2 100000)) [])) c0))) ?_
 rcases xq H with ⟨d4,H⟩|⟨d4,H⟩
 ·exact Zao (G:=Zab kp39 [] []) 1000 [true] (asm:=[(zCxT1 S A j)==true]) (vi 1) (by kernel_rfl) (bc (Zam ((ZaK (ZaK (ZaO (Zas _)) (ZaO (Zas _))) (ZaO (Zas _))).2 d4)) b0) q0 c0 H
 ·exact Zao (G:=Zab kp39 [] []) 1000 [false] (asm:=[(zCxT1 S A j)==false]) (vi 0) (by kernel_rfl) (bc (Zal (fun h=>d4 ((ZaK (ZaK (ZaO (Zas _)) (ZaO (Zas _))) (ZaO (Zas _))).1 h))) b0) q0 c0 H
end Go.Av

namespace Go.Av
open Go.Proofs
structure Wy where
 x:Int
 y:Int
 z:Int
 r:Int
 deriving DecidableEq,Inhabited
def Wy.a (w:Wy):AV:=.agg [.int .i16 w.x,.int .i16 w.y,.int .i16 w.z,.int .i16 w.r]
theorem ev39 (S A j:Int):Ev M1 (.pure 39 [.agg [.int .i64 S,.int .i64 A,.int .i64 j]]) (.int .i64 (N.vlE S A j)) []:=by
 refine call39 (v9A S A j _ ⟨fun h => ?_,fun h => ?_⟩)
 all_goals unfold N.vlE
 ·rw [if_neg]
  rintro ⟨h1,h2,h3⟩
  rcases h with (h | h) | h
  ·exact h h1
  ·exact h h2
  ·exact h h3
 ·rw [if_pos]
  exact ⟨Classical.byContradiction fun y=>h (.inl (.inl y)),Classical.byContradiction fun y=>h (.inl (.inr y)),Classical.byContradiction fun y=>h (.inr y)⟩
end Go.Av

namespace Go.Av
open Go.Proofs
set_option maxRecDepth 100000
def fi7:Fi:=⟨112,[.tmp 2,.cell 3 31,.tmp 4]⟩
def kp7:List (Nat × List Nat):=[(0,[1,3]),(1,[1,3,5]),(2,[1,3,5,6]),(3,[1,3,5,6,59]),(4,[2,3,4]),(5,[1,3,5,6,7]),(6,[3,5,6,7,62,63,64]),(7,[3,5,6,7,62,63,64,65]),(8,[3,5,6,7,8,9,62,63,64]),(9,[3,5,6,7,8,9,10,62,63,64]),(10,[3,5,6,7,11,62,63,64]),(11,[3,5,6,7,11,62,63,64,98]),(12,[3,5,6,7,11,62,63,64]),(13,[3,5,6,7,11,62,63,64]),(14,[3,5,6,7,62,63,64]),(15,[3,5,6,7,62,63,64]),(16,[2,3,4])]
def moA_at (fx fy fz:Int) (fw:Bool) (W:List Wy) (S A j:Int) (Q:AV->Heap->Prop):Prop:=Wp M1 (.run fi7 (atC (cd Try.f7) []) [(0,.agg [.int .i16 fx,.int .i16 fy,.int .i16 fz,.vec fw 4 (W.map Wy.a),.int .i64 S,.int .i64 A,.int .i64 j])] []) Q
def moN_at (fw:Bool) (W:List Wy) (S A j ax ay az n i:Int) (Q:AV->Heap->Prop):Prop:=Wp M1 (.run fi7 (atC (cd Try.f7) [1,1,1,1,1,0,1,0,0]) [(3,.ptr 0 0 0 0),(5,.ptr 1 0 0 0),(6,.ptr 2 0 0 0),(7,.vnil),(62,.vec fw 4 (W.map Wy.a)),(63,.int .i64 n),(64,.int .i64 i)] [⟨[.agg [.int .i64 0,.int .i64 0,.int .i64 0]],3,0,false,false⟩,⟨[.agg [.int .i64 ax,.int .i64 ay,.int .i64 az]],3,0,false,false⟩,⟨[.agg [.int .i64 S,.int .i64 A,.int .i64 j]],3,0,false,false⟩]) Q
def Zfv (fw:Bool) (W:List Wy) (S A j ax ay az n i:Int) (o:List Mo) (w:Nat) (Q:AV->Heap->Prop):Prop:=Wp M1 (.run fi7 (atC (cd Try.f7) [1,1,1,1,1,0,1,0,0]) [(3,.ptr 0 0 0 0),(5,.ptr 1 0 0 0),(6,.ptr 2 0 0 0),(7,.row 3 w),(62,.vec fw 4 (W.map Wy.a)),(63,.int .i64 n),(64,.int .i64 i)] [⟨[.agg [.int .i64 0,.int .i64 0,.int .i64 0]],3,0,false,false⟩,⟨[.agg [.int .i64 ax,.int .i64 ay,.int .i64 az]],3,0,false,false⟩,⟨[.agg [.int .i64 S,.int .i64 A,.int .i64 j]],3,0,false,false⟩,⟨o.map Mo.a,9,w,false,true⟩]) Q
theorem call7 {args:List AV} {d:AV} (h:wc M1 fi7 Try.f7 args d):Ev M1 (.pure 7 args) d []:=pcl _ _ (by kernel_rfl) h
noncomputable abbrev zCxU1 (S:Int) (A:Int) (j:Int):=ag [vi S,vi A,vi j]
theorem moA (fx fy fz:Int) (fw:Bool) (W:List Wy) (S A j:Int)  (dq:AV) (H :
  (-9223372036854775808<=fx/\fx<=9223372036854775807) /\
  (-9223372036854775808<=fy/\fy<=9223372036854775807) /\
  (-9223372036854775808<=fz/\fz<=9223372036854775807) /\
  (((((((↑W.length:Int)>6)\/(¬N.vlE S A j=0))\/(S<20))\/(A<20))\/(j<40))->Weak (tu [AV.vnil,ag [vi S,vi A,vi j],vb false]) dq) /\
  (¬((((((↑W.length:Int)>6)\/(¬N.vlE S A j=0))\/(S<20))\/(A<20))\/(j<40))->moN_at fw W S A j fx fy fz ((↑W.length:Int)) 0 (Zaj dq))) :
 moA_at fx fy fz fw W S A j (Zaj dq):=by
 unfold moA_at
 obtain ⟨k1,H⟩:=H
 have w2:wi fx=fx:=wI64 k1
 obtain ⟨k3,H⟩:=H
 have w4:wi fy=fy:=wI64 k3
 obtain ⟨k5,H⟩:=H
 have w6:wi fz=fz:=wI64 k5
 have w7:(List.map Wy.a W).length=W.length:=List.length_map ..
 have i8:(decide ((↑(List.map Wy.a W).length:Int)>6)==false&&true&&true)=true ↔ (¬((↑W.length:Int)>6)):=(by (try rw [w7]);all_goals exact (i_at (i_at (i_bf Zae))))
 have i9:(bif bif bif bif decide ((↑(List.map Wy.a W).length:Int)>6) then true else N.vlE S A j != 0 then true else decide (S<20) then true else decide (A<20) then true else decide (j<40))=true ↔ ((((((↑W.length:Int)>6)\/(¬N.vlE S A j=0))\/(S<20))\/(A<20))\/(j<40)):=(by (try rw [w7]);all_goals exact (ZaK (ZaK (ZaK (ZaK Zae i_ne) Zae) Zae) Zae))
 refine Zac (G:=Zab kp7 [(3,7,.call (vi (N.vlE S A j)) none)] []) 9 [] ⟨(atC (cd Try.f7) [1,1,1,0,1]),[(1,AV.ptr 0 0 0 0),(3,AV.ptr 1 0 0 0),(5,AV.ptr 2 0 0 0),(6,AV.ptr 3 0 0 0),(59,vb (bif bif bif bif decide ((↑(List.map Wy.a W).length:Int)>6) then true else N.vlE S A j != 0 then true else decide (S<20) then true else decide (A<20) then true else decide (j<40)))],[⟨[ag [AV.int IntKind.i16 fx,AV.int IntKind.i16 fy,AV.int IntKind.i16 fz,AV.vec fw 4 (List.map Wy.a W),vi S,vi A,vi j]],7,0,false,false⟩,⟨[ag [vi 0,vi 0,vi 0]],3,0,false,false⟩,⟨[ag [vi (wi fx),vi (wi fy),vi (wi fz)]],3,0,false,false⟩,⟨[(zCxU1 S A j)],3,0,false,false⟩],[true,true,true,true,true,true,true,true,true,true,true,true,true,true,true,!(decide ((↑(List.map Wy.a W).length:Int)>6)==false&&true)||true,!((bif decide ((↑(List.map Wy.a W).length:Int)>6) then true else N.vlE S A j != 0)==false&&true)||true,!((bif bif decide ((↑(List.map Wy.a W).length:Int)>6) then true else N.vlE S A j != 0 then true else decide (S<20))==false&&true)||true,!((bif bif bif decide ((↑(List.map Wy.a W).length:Int)>6) then true else N.vlE S A j != 0 then true else decide (S<20) then true else decide (A<20))==false&&true)||true],[],[⟨decide ((↑(List.map Wy.a W).length:Int)>6)==false&&true&&true,false,39,[(zCxU1 S A j)],[],vi (N.vlE S A j),[]⟩]⟩ (by kernel_rfl) (bc rfl (bc rfl (bc rfl (bc rfl (bc rfl (bc rfl (bc rfl (bc rfl (bc rfl (bc rfl (bc rfl (bc rfl (bc rfl (bc rfl (bc rfl (bc (Bool.or_true _) (bc (Bool.or_true _) (bc (Bool.or_true _) (bc (Bool.or_true _) b0))))))))))))))))))) q0 (cc (fun hc=>((@ev39 S A j):Ev M1 (Conf.pure 39 [(zCxU1 S A j)]) (vi (N.vlE S A j)) [])) c0) ?_
 rcases xq H with ⟨d10,H⟩|⟨d10,H⟩
 ·exact Zbb (G:=Zab kp7 [] []) 1000 [true] (tu [AV.vnil,(zCxU1 S A j),vb false]) (by kernel_rfl) (bc (Zam (i9.2 d10)) (bc rfl (bc rfl b0))) q0 c0 H
 ·exact Zac (G:=Zab kp7 [] []) 1000 [false] ⟨(atC (cd Try.f7) [1,1,1,1,1,0,1,0,0]),[(3,AV.ptr 1 0 0 0),(5,AV.ptr 2 0 0 0),(6,AV.ptr 3 0 0 0),(7,AV.vnil),(62,AV.vec fw 4 (List.map Wy.a W)),(63,vi (↑(List.map Wy.a W).length:Int)),(64,vi 0)],[⟨[ag [AV.int IntKind.i16 fx,AV.int IntKind.i16 fy,AV.int IntKind.i16 fz,AV.vec fw 4 (List.map Wy.a W),vi S,vi A,vi j]],7,0,false,false⟩,⟨[ag [vi 0,vi 0,vi 0]],3,0,false,false⟩,⟨[ag [vi (wi fx),vi (wi fy),vi (wi fz)]],3,0,false,false⟩,⟨[(zCxU1 S A j)],3,0,false,false⟩],_,[],_⟩ (by kernel_rfl) (bc (Zal (fun h=>d10 (i9.1 h))) (bc rfl b0)) q0 c0 (by (try rw [w2]);(try rw [w4]);(try rw [w6]);(try rw [w7]);all_goals exact Zar [1,2,3] (by kernel_rfl) H)
noncomputable abbrev zCxU2 (W:List Wy) (i:Int):=ag [AV.int IntKind.i16 (W.getD i.toNat default).x,AV.int IntKind.i16 (W.getD i.toNat default).y,AV.int IntKind.i16 (W.getD i.toNat default).z,AV.int IntKind.i16 (W.getD i.toNat default).r]
noncomputable abbrev zCxU3 (ax:Int) (W:List Wy) (i:Int) (ay:Int) (az:Int):=ag [vi (ax+(W.getD i.toNat default).x.tmod 600),vi (ay+(W.getD i.toNat default).y.tmod 600),vi (az+(W.getD i.toNat default).z.tmod 600)]
noncomputable abbrev zCxU4 (S:Int) (A:Int) (j:Int):=ag [vi S,vi A,vi j]
noncomputable abbrev zCxU5:=ag [vi 0,vi 0,vi 0]
theorem moN (fw:Bool) (W:List Wy) (S A j ax ay az n i:Int)  (dq:AV) (H :
  ((i<n)->(0<=i) /\
   (i.toNat<W.length) /\
   (-9223372036854775808<=(W.getD i.toNat default).x.tmod 600/\(W.getD i.toNat default).x.tmod 600<=9223372036854775807) /\
   (-9223372036854775808<=(W.getD i.toNat default).y.tmod 600/\(W.getD i.toNat default).y.tmod 600<=9223372036854775807) /\
   (-9223372036854775808<=(W.getD i.toNat default).z.tmod 600/\(W.getD i.toNat default).z.tmod 600<=9223372036854775807) /\
   (N.okPl ax ay az ((W.getD i.toNat default).x.tmod 600) ((W.getD i.toNat default).y.tmod 600) ((W.getD i.toNat default).z.tmod 600)) /\
   (-9223372036854775808<=(W.getD i.toNat default).r/\(W.getD i.toNat default).r<=9223372036854775807) /\
   (-9223372036854775808<=(1000*if (W.getD i.toNat default).r>0 then (W.getD i.toNat default).r else 0)/\(1000*if (W.getD i.toNat default).r>0 then (W.getD i.toNat default).r else 0)<=9223372036854775807) /\
   (-9223372036854775808<=i.tdiv 2/\i.tdiv 2<=9223372036854775807) /\
   (-9223372036854775808<=1+i.tdiv 2/\1+i.tdiv 2<=9223372036854775807) /\
   (((1000*if (W.getD i.toNat default).r>0 then (W.getD i.toNat default).r else 0)>0)->(-9223372036854775808<=i+1/\i+1<=9223372036854775807) /\
    Zfv fw W S A j (ax+(W.getD i.toNat default).x.tmod 600) (ay+(W.getD i.toNat default).y.tmod 600) (az+(W.getD i.toNat default).z.tmod 600) n (i+1) ([{ x:=ax,y:=ay,z:=az,u:=ax+(W.getD i.toNat default).x.tmod 600,v:=ay+(W.getD i.toNat default).y.tmod 600,w:=az+(W.getD i.toNat default).z.tmod 600,r:=if (1000*if (W.getD i.toNat default).r>0 then (W.getD i.toNat default).r else 0)>20000 then 1000*if (W.getD i.toNat default).r>0 then (W.getD i.toNat default).r else 0 else 20000,t:=1+i.tdiv 2,b:=i }]) 0 (Zaj dq)) /\
   (¬((1000*if (W.getD i.toNat default).r>0 then (W.getD i.toNat default).r else 0)>0)->(-9223372036854775808<=i+1/\i+1<=9223372036854775807) /\
    Zfv fw W S A j (ax+(W.getD i.toNat default).x.tmod 600) (ay+(W.getD i.toNat default).y.tmod 600) (az+(W.getD i.toNat default).z.tmod 600) n (i+1) ([{ x:=ax,y:=ay,z:=az,u:=ax+(W.getD i.toNat default).x.tmod 600,v:=ay+(W.getD i.toNat default).y.tmod 600,w:=az+(W.getD i.toNat default).z.tmod 600,r:=1000*if (W.getD i.toNat default).r>0 then (W.getD i.toNat default).r else 0,t:=1+i.tdiv 2,b:=i }]) 0 (Zaj dq))) /\
  (¬(i<n)->Weak (tu [AV.vnil,ag [vi S,vi A,vi j],vb true]) dq)) :
 moN_at fw W S A j ax ay az n i (Zaj dq):=by
 unfold moN_at
 rcases xq H with ⟨d2,H⟩|⟨d2,H⟩
 ·obtain ⟨k4,H⟩:=H
  have w5:(List.map Wy.a W).length=W.length:=List.length_map ..
  have i6:(decide (i.toNat<(List.map Wy.a W).length))=true ↔ (i.toNat<W.length):=(by (try rw [w5]);all_goals exact Zae)
  obtain ⟨k7,k8,H⟩:=H
  have w9:wi ((W.getD i.toNat default).x.tmod 600)=(W.getD i.toNat default).x.tmod 600:=wI64 k8
  obtain ⟨k10,H⟩:=H
  have w11:wi ((W.getD i.toNat default).y.tmod 600)=(W.getD i.toNat default).y.tmod 600:=wI64 k10
  obtain ⟨k12,H⟩:=H
  have w13:wi ((W.getD i.toNat default).z.tmod 600)=(W.getD i.toNat default).z.tmod 600:=wI64 k12
  obtain ⟨k14,k15,H⟩:=H
  have w16:wi (W.getD i.toNat default).r=(W.getD i.toNat default).r:=wI64 k15
  obtain ⟨k17,H⟩:=H
  have w18:wi (1000*if (W.getD i.toNat default).r>0 then (W.getD i.toNat default).r else 0)=1000*if (W.getD i.toNat default).r>0 then (W.getD i.toNat default).r else 0:=wI64 k17
  obtain ⟨k19,H⟩:=H
  have w20:wi (i.tdiv 2)=i.tdiv 2:=wI64 k19
  obtain ⟨k21,H⟩:=H
  have w22:wi (1+i.tdiv 2)=1+i.tdiv 2:=wI64 k21
  have i23:(decide (wi (1000*if wi (W.getD i.toNat default).r>0 then wi (W.getD i.toNat default).r else 0)>0))=true ↔ ((1000*if (W.getD i.toNat default).r>0 then (W.getD i.toNat default).r else 0)>0):=(by (try rw [w16]);(try rw [w18]);all_goals exact Zae)
  refine Zac (G:=Zab kp7 [(8,2,.elem ((zCxU2 W i))),(10,3,.call ((zCxU3 ax W i ay az)) none)] []) 16 [true] ⟨(atC (cd Try.f7) [1,1,1,1,1,0,1,0,0,1,1,0,0,1,1,1,0,1]),[(3,AV.ptr 0 0 0 0),(5,AV.ptr 1 0 0 0),(6,AV.ptr 2 0 0 0),(7,AV.vnil),(11,AV.ptr 5 0 0 0),(62,AV.vec fw 4 (List.map Wy.a W)),(63,vi n),(64,vi i),(98,vb (decide (wi (1000*if wi (W.getD i.toNat default).r>0 then wi (W.getD i.toNat default).r else 0)>0)))],[⟨[zCxU5],3,0,false,false⟩,⟨[ag [vi ax,vi ay,vi az]],3,0,false,false⟩,⟨[(zCxU4 S A j)],3,0,false,false⟩,⟨[(zCxU2 W i)],4,0,false,false⟩,⟨[ag [vi (wi ((W.getD i.toNat default).x.tmod 600)),vi (wi ((W.getD i.toNat default).y.tmod 600)),vi (wi ((W.getD i.toNat default).z.tmod 600))]],3,0,false,false⟩,⟨[ag [vi ax,vi ay,vi az,vi (ax+(W.getD i.toNat default).x.tmod 600),vi (ay+(W.getD i.toNat default).y.tmod 600),vi (az+(W.getD i.toNat default).z.tmod 600),vi (wi (1000*if wi (W.getD i.toNat default).r>0 then wi (W.getD i.toNat default).r else 0)),vi (wi (1+wi (i.tdiv 2))),vi i]],9,0,false,false⟩],_,[((List.map Wy.a W).get?Internal i.toNat=some ((zCxU2 W i)))],[pc 29 [ag [vi ax,vi ay,vi az],ag [vi (wi ((W.getD i.toNat default).x.tmod 600)),vi (wi ((W.getD i.toNat default).y.tmod 600)),vi (wi ((W.getD i.toNat default).z.tmod 600))]] ((zCxU3 ax W i ay az))]⟩ (by kernel_rfl) (bc (Zam (Zae.2 d2)) (bc (Zae.2 k4) (bc (i6.2 k7) (bc rfl (bc rfl (bc rfl (bc rfl (bc rfl (bc rfl (bc rfl (bc rfl (bc rfl (bc rfl (bc rfl (bc rfl (bc rfl (bc rfl (bc rfl (bc rfl (bc rfl (bc rfl (bc rfl (bc rfl (bc rfl (bc rfl (bc rfl b0)))))))))))))))))))))))))) (qc (Zax k7) q0) (ce (by (try rw [w9]);(try rw [w11]);(try rw [w13]);all_goals exact (@ev29 ax ay az ((W.getD i.toNat default).x.tmod 600) ((W.getD i.toNat default).y.tmod 600) ((W.getD i.toNat default).z.tmod 600) k14)) c0) ?_
  rcases xq H with ⟨d24,H⟩|⟨d24,H⟩
  ·obtain ⟨k25,H⟩:=H
   have w26:wi (i+1)=i+1:=wI64 k25
   have w27:[ag [vi ax,vi ay,vi az,vi (ax+(W.getD i.toNat default).x.tmod 600),vi (ay+(W.getD i.toNat default).y.tmod 600),vi (az+(W.getD i.toNat default).z.tmod 600),vi (if (1000*if (W.getD i.toNat default).r>0 then (W.getD i.toNat default).r else 0)>20000 then 1000*if (W.getD i.toNat default).r>0 then (W.getD i.toNat default).r else 0 else 20000),vi (1+i.tdiv 2),vi i]]=List.map Mo.a [{ x:=ax,y:=ay,z:=az,u:=ax+(W.getD i.toNat default).x.tmod 600,v:=ay+(W.getD i.toNat default).y.tmod 600,w:=az+(W.getD i.toNat default).z.tmod 600,r:=if (1000*if (W.getD i.toNat default).r>0 then (W.getD i.toNat default).r else 0)>20000 then 1000*if (W.getD i.toNat default).r>0 then (W.getD i.toNat default).r else 0 else 20000,t:=1+i.tdiv 2,b:=i }]:=rfl
   exact Zac (G:=Zab kp7 [] []) 1000 [true] ⟨(atC (cd Try.f7) [1,1,1,1,1,0,1,0,0]),[(3,AV.ptr 0 0 0 0),(5,AV.ptr 1 0 0 0),(6,AV.ptr 2 0 0 0),(7,AV.row 6 0),(62,AV.vec fw 4 (List.map Wy.a W)),(63,vi n),(64,vi (wi (i+1)))],[⟨[zCxU5],3,0,false,false⟩,⟨[(zCxU3 ax W i ay az)],3,0,false,false⟩,⟨[(zCxU4 S A j)],3,0,false,false⟩,⟨[(zCxU2 W i)],4,0,false,false⟩,⟨[ag [vi (wi ((W.getD i.toNat default).x.tmod 600)),vi (wi ((W.getD i.toNat default).y.tmod 600)),vi (wi ((W.getD i.toNat default).z.tmod 600))]],3,0,false,false⟩,⟨[ag [vi ax,vi ay,vi az,vi (ax+(W.getD i.toNat default).x.tmod 600),vi (ay+(W.getD i.toNat default).y.tmod 600),vi (az+(W.getD i.toNat default).z.tmod 600),vi (if wi (1000*if wi (W.getD i.toNat default).r>0 then wi (W.getD i.toNat default).r else 0)>20000 then wi (1000*if wi (W.getD i.toNat default).r>0 then wi (W.getD i.toNat default).r else 0) else 20000),vi (wi (1+wi (i.tdiv 2))),vi i]],9,0,false,false⟩,⟨[ag [vi ax,vi ay,vi az,vi (ax+(W.getD i.toNat default).x.tmod 600),vi (ay+(W.getD i.toNat default).y.tmod 600),vi (az+(W.getD i.toNat default).z.tmod 600),vi (if wi (1000*if wi (W.getD i.toNat default).r>0 then wi (W.getD i.toNat default).r else 0)>20000 then wi (1000*if wi (W.getD i.toNat default).r>0 then wi (W.getD i.toNat default).r else 0) else 20000),vi (wi (1+wi (i.tdiv 2))),vi i]],9,0,false,true⟩],_,[],_⟩ (by kernel_rfl) (bc (Zam (i23.2 d24)) (bc rfl (bc rfl (bc rfl (bc rfl (bc rfl (bc rfl b0))))))) q0 c0 (by (try rw [w9]);(try rw [w11]);(try rw [w13]);(try rw [w16]);(try rw [w18]);(try rw [w20]);(try rw [w22]);(try rw [w26]);(try rw [w27]);all_goals exact Zar [0,1,2,6] (by kernel_rfl) H)
  ·obtain ⟨k28,H⟩:=H
   have w29:wi (i+1)=i+1:=wI64 k28
   have w30:[ag [vi ax,vi ay,vi az,vi (ax+(W.getD i.toNat default).x.tmod 600),vi (ay+(W.getD i.toNat default).y.tmod 600),vi (az+(W.getD i.toNat default).z.tmod 600),vi (1000*if (W.getD i.toNat default).r>0 then (W.getD i.toNat default).r else 0),vi (1+i.tdiv 2),vi i]]=List.map Mo.a [{ x:=ax,y:=ay,z:=az,u:=ax+(W.getD i.toNat default).x.tmod 600,v:=ay+(W.getD i.toNat default).y.tmod 600,w:=az+(W.getD i.toNat default).z.tmod 600,r:=1000*if (W.getD i.toNat default).r>0 then (W.getD i.toNat default).r else 0,t:=1+i.tdiv 2,b:=i }]:=rfl
   exact Zac (G:=Zab kp7 [] []) 1000 [false] ⟨(atC (cd Try.f7) [1,1,1,1,1,0,1,0,0]),[(3,AV.ptr 0 0 0 0),(5,AV.ptr 1 0 0 0),(6,AV.ptr 2 0 0 0),(7,AV.row 6 0),(62,AV.vec fw 4 (List.map Wy.a W)),(63,vi n),(64,vi (wi (i+1)))],[⟨[zCxU5],3,0,false,false⟩,⟨[(zCxU3 ax W i ay az)],3,0,false,false⟩,⟨[(zCxU4 S A j)],3,0,false,false⟩,⟨[(zCxU2 W i)],4,0,false,false⟩,⟨[ag [vi (wi ((W.getD i.toNat default).x.tmod 600)),vi (wi ((W.getD i.toNat default).y.tmod 600)),vi (wi ((W.getD i.toNat default).z.tmod 600))]],3,0,false,false⟩,⟨[ag [vi ax,vi ay,vi az,vi (ax+(W.getD i.toNat default).x.tmod 600),vi (ay+(W.getD i.toNat default).y.tmod 600),vi (az+(W.getD i.toNat default).z.tmod 600),vi (wi (1000*if wi (W.getD i.toNat default).r>0 then wi (W.getD i.toNat default).r else 0)),vi (wi (1+wi (i.tdiv 2))),vi i]],9,0,false,false⟩,⟨[ag [vi ax,vi ay,vi az,vi (ax+(W.getD i.toNat default).x.tmod 600),vi (ay+(W.getD i.toNat default).y.tmod 600),vi (az+(W.getD i.toNat default).z.tmod 600),vi (wi (1000*if wi (W.getD i.toNat default).r>0 then wi (W.getD i.toNat default).r else 0)),vi (wi (1+wi (i.tdiv 2))),vi i]],9,0,false,true⟩],_,[],_⟩ (by kernel_rfl) (bc (Zal (fun h=>d24 (i23.1 h))) (bc rfl (bc rfl (bc rfl (bc rfl b0))))) q0 c0 (by (try rw [w9]);(try rw [w11]);(try rw [w13]);(try rw [w16]);(try rw [w18]);(try rw [w20]);(try rw [w22]);(try rw [w29]);(try rw [w30]);all_goals exact Zar [0,1,2,6] (by kernel_rfl) H)
 ·exact Zbb (G:=Zab kp7 [] []) 1000 [false] (tu [AV.vnil,(zCxU4 S A j),vb true]) (by kernel_rfl) (bc (Zal (fun h=>d2 (Zae.1 h))) (bc rfl (bc rfl b0))) q0 c0 H
noncomputable abbrev zCxU6 (W:List Wy) (i:Int):=ag [AV.int IntKind.i16 (W.getD i.toNat default).x,AV.int IntKind.i16 (W.getD i.toNat default).y,AV.int IntKind.i16 (W.getD i.toNat default).z,AV.int IntKind.i16 (W.getD i.toNat default).r]
noncomputable abbrev zCxU7 (ax:Int) (W:List Wy) (i:Int) (ay:Int) (az:Int):=ag [vi (ax+(W.getD i.toNat default).x.tmod 600),vi (ay+(W.getD i.toNat default).y.tmod 600),vi (az+(W.getD i.toNat default).z.tmod 600)]
noncomputable abbrev zCxU8 (S:Int) (A:Int) (j:Int):=ag [vi S,vi A,vi j]
noncomputable abbrev zCxU9:=ag [vi 0,vi 0,vi 0]
theorem moR (fw:Bool) (W:List Wy) (S A j ax ay az n i:Int) (o:List Mo) (w:Nat)  (dq:AV) (H :
  ((i<n)->(0<=i) /\
   (i.toNat<W.length) /\
   (-9223372036854775808<=(W.getD i.toNat default).x.tmod 600/\(W.getD i.toNat default).x.tmod 600<=9223372036854775807) /\
   (-9223372036854775808<=(W.getD i.toNat default).y.tmod 600/\(W.getD i.toNat default).y.tmod 600<=9223372036854775807) /\
   (-9223372036854775808<=(W.getD i.toNat default).z.tmod 600/\(W.getD i.toNat default).z.tmod 600<=9223372036854775807) /\
   (N.okPl ax ay az ((W.getD i.toNat default).x.tmod 600) ((W.getD i.toNat default).y.tmod 600) ((W.getD i.toNat default).z.tmod 600)) /\
   (-9223372036854775808<=(W.getD i.toNat default).r/\(W.getD i.toNat default).r<=9223372036854775807) /\
   (-9223372036854775808<=(1000*if (W.getD i.toNat default).r>0 then (W.getD i.toNat default).r else 0)/\(1000*if (W.getD i.toNat default).r>0 then (W.getD i.toNat default).r else 0)<=9223372036854775807) /\
   (-9223372036854775808<=i.tdiv 2/\i.tdiv 2<=9223372036854775807) /\
   (-9223372036854775808<=1+i.tdiv 2/\1+i.tdiv 2<=9223372036854775807) /\
   (((1000*if (W.getD i.toNat default).r>0 then (W.getD i.toNat default).r else 0)>0)->((o.length+1)*72<=1099511627776) /\
    (-9223372036854775808<=i+1/\i+1<=9223372036854775807) /\
    Zfv fw W S A j (ax+(W.getD i.toNat default).x.tmod 600) (ay+(W.getD i.toNat default).y.tmod 600) (az+(W.getD i.toNat default).z.tmod 600) n (i+1) (o++[{ x:=ax,y:=ay,z:=az,u:=ax+(W.getD i.toNat default).x.tmod 600,v:=ay+(W.getD i.toNat default).y.tmod 600,w:=az+(W.getD i.toNat default).z.tmod 600,r:=if (1000*if (W.getD i.toNat default).r>0 then (W.getD i.toNat default).r else 0)>20000 then 1000*if (W.getD i.toNat default).r>0 then (W.getD i.toNat default).r else 0 else 20000,t:=1+i.tdiv 2,b:=i }]) (w+1) (Zaj dq)) /\
   (¬((1000*if (W.getD i.toNat default).r>0 then (W.getD i.toNat default).r else 0)>0)->((o.length+1)*72<=1099511627776) /\
    (-9223372036854775808<=i+1/\i+1<=9223372036854775807) /\
    Zfv fw W S A j (ax+(W.getD i.toNat default).x.tmod 600) (ay+(W.getD i.toNat default).y.tmod 600) (az+(W.getD i.toNat default).z.tmod 600) n (i+1) (o++[{ x:=ax,y:=ay,z:=az,u:=ax+(W.getD i.toNat default).x.tmod 600,v:=ay+(W.getD i.toNat default).y.tmod 600,w:=az+(W.getD i.toNat default).z.tmod 600,r:=1000*if (W.getD i.toNat default).r>0 then (W.getD i.toNat default).r else 0,t:=1+i.tdiv 2,b:=i }]) (w+1) (Zaj dq))) /\
  (¬(i<n)->Weak (tu [AV.vec false 9 (List.map Mo.a o),ag [vi S,vi A,vi j],vb true]) dq)) :
 Zfv fw W S A j ax ay az n i o w (Zaj dq):=by
 unfold Zfv
 rcases xq H with ⟨d2,H⟩|⟨d2,H⟩
 ·obtain ⟨k4,H⟩:=H
  have w5:(List.map Wy.a W).length=W.length:=List.length_map ..
  have i6:(decide (i.toNat<(List.map Wy.a W).length))=true ↔ (i.toNat<W.length):=(by (try rw [w5]);all_goals exact Zae)
  obtain ⟨k7,k8,H⟩:=H
  have w9:wi ((W.getD i.toNat default).x.tmod 600)=(W.getD i.toNat default).x.tmod 600:=wI64 k8
  obtain ⟨k10,H⟩:=H
  have w11:wi ((W.getD i.toNat default).y.tmod 600)=(W.getD i.toNat default).y.tmod 600:=wI64 k10
  obtain ⟨k12,H⟩:=H
  have w13:wi ((W.getD i.toNat default).z.tmod 600)=(W.getD i.toNat default).z.tmod 600:=wI64 k12
  obtain ⟨k14,k15,H⟩:=H
  have w16:wi (W.getD i.toNat default).r=(W.getD i.toNat default).r:=wI64 k15
  obtain ⟨k17,H⟩:=H
  have w18:wi (1000*if (W.getD i.toNat default).r>0 then (W.getD i.toNat default).r else 0)=1000*if (W.getD i.toNat default).r>0 then (W.getD i.toNat default).r else 0:=wI64 k17
  obtain ⟨k19,H⟩:=H
  have w20:wi (i.tdiv 2)=i.tdiv 2:=wI64 k19
  obtain ⟨k21,H⟩:=H
  have w22:wi (1+i.tdiv 2)=1+i.tdiv 2:=wI64 k21
  have i23:(decide (wi (1000*if wi (W.getD i.toNat default).r>0 then wi (W.getD i.toNat default).r else 0)>0))=true ↔ ((1000*if (W.getD i.toNat default).r>0 then (W.getD i.toNat default).r else 0)>0):=(by (try rw [w16]);(try rw [w18]);all_goals exact Zae)
  refine Zac (G:=Zab kp7 [(8,2,.elem ((zCxU6 W i))),(10,3,.call ((zCxU7 ax W i ay az)) none)] []) 16 [true] ⟨(atC (cd Try.f7) [1,1,1,1,1,0,1,0,0,1,1,0,0,1,1,1,0,1]),[(3,AV.ptr 0 0 0 0),(5,AV.ptr 1 0 0 0),(6,AV.ptr 2 0 0 0),(7,AV.row 3 w),(11,AV.ptr 6 0 0 0),(62,AV.vec fw 4 (List.map Wy.a W)),(63,vi n),(64,vi i),(98,vb (decide (wi (1000*if wi (W.getD i.toNat default).r>0 then wi (W.getD i.toNat default).r else 0)>0)))],[⟨[zCxU9],3,0,false,false⟩,⟨[ag [vi ax,vi ay,vi az]],3,0,false,false⟩,⟨[(zCxU8 S A j)],3,0,false,false⟩,⟨List.map Mo.a o,9,w,false,true⟩,⟨[(zCxU6 W i)],4,0,false,false⟩,⟨[ag [vi (wi ((W.getD i.toNat default).x.tmod 600)),vi (wi ((W.getD i.toNat default).y.tmod 600)),vi (wi ((W.getD i.toNat default).z.tmod 600))]],3,0,false,false⟩,⟨[ag [vi ax,vi ay,vi az,vi (ax+(W.getD i.toNat default).x.tmod 600),vi (ay+(W.getD i.toNat default).y.tmod 600),vi (az+(W.getD i.toNat default).z.tmod 600),vi (wi (1000*if wi (W.getD i.toNat default).r>0 then wi (W.getD i.toNat default).r else 0)),vi (wi (1+wi (i.tdiv 2))),vi i]],9,0,false,false⟩],_,[((List.map Wy.a W).get?Internal i.toNat=some ((zCxU6 W i)))],[pc 29 [ag [vi ax,vi ay,vi az],ag [vi (wi ((W.getD i.toNat default).x.tmod 600)),vi (wi ((W.getD i.toNat default).y.tmod 600)),vi (wi ((W.getD i.toNat default).z.tmod 600))]] ((zCxU7 ax W i ay az))]⟩ (by kernel_rfl) (bc (Zam (Zae.2 d2)) (bc (Zae.2 k4) (bc (i6.2 k7) (bc rfl (bc rfl (bc rfl (bc rfl (bc rfl (bc rfl (bc rfl (bc rfl (bc rfl (bc rfl (bc rfl (bc rfl (bc rfl (bc rfl (bc rfl (bc rfl (bc rfl (bc rfl (bc rfl (bc rfl (bc rfl (bc rfl (bc rfl b0)))))))))))))))))))))))))) (qc (Zax k7) q0) (ce (by (try rw [w9]);(try rw [w11]);(try rw [w13]);all_goals exact (@ev29 ax ay az ((W.getD i.toNat default).x.tmod 600) ((W.getD i.toNat default).y.tmod 600) ((W.getD i.toNat default).z.tmod 600) k14)) c0) ?_
  rcases xq H with ⟨d24,H⟩|⟨d24,H⟩
  ·have w25:(List.map Mo.a o).length=o.length:=List.length_map ..
   have i26:(decide (((List.map Mo.a o).length+1)*72<=1099511627776))=true ↔ ((o.length+1)*72<=1099511627776):=(by (try rw [w16]);(try rw [w18]);(try rw [w20]);(try rw [w22]);(try rw [w25]);all_goals exact Zae)
   obtain ⟨k27,H⟩:=H
   have w28:List.map Mo.a o++[ag [vi ax,vi ay,vi az,vi (ax+(W.getD i.toNat default).x.tmod 600),vi (ay+(W.getD i.toNat default).y.tmod 600),vi (az+(W.getD i.toNat default).z.tmod 600),vi (if (1000*if (W.getD i.toNat default).r>0 then (W.getD i.toNat default).r else 0)>20000 then 1000*if (W.getD i.toNat default).r>0 then (W.getD i.toNat default).r else 0 else 20000),vi (1+i.tdiv 2),vi i]]=List.map Mo.a (o++[{ x:=ax,y:=ay,z:=az,u:=ax+(W.getD i.toNat default).x.tmod 600,v:=ay+(W.getD i.toNat default).y.tmod 600,w:=az+(W.getD i.toNat default).z.tmod 600,r:=if (1000*if (W.getD i.toNat default).r>0 then (W.getD i.toNat default).r else 0)>20000 then 1000*if (W.getD i.toNat default).r>0 then (W.getD i.toNat default).r else 0 else 20000,t:=1+i.tdiv 2,b:=i }]):=(ZeE rfl rfl)
   obtain ⟨k29,H⟩:=H
   have w30:wi (i+1)=i+1:=wI64 k29
   exact Zac (G:=Zab kp7 [] []) 1000 [true] ⟨(atC (cd Try.f7) [1,1,1,1,1,0,1,0,0]),[(3,AV.ptr 0 0 0 0),(5,AV.ptr 1 0 0 0),(6,AV.ptr 2 0 0 0),(7,AV.row 3 (w+1)),(62,AV.vec fw 4 (List.map Wy.a W)),(63,vi n),(64,vi (wi (i+1)))],[⟨[zCxU9],3,0,false,false⟩,⟨[(zCxU7 ax W i ay az)],3,0,false,false⟩,⟨[(zCxU8 S A j)],3,0,false,false⟩,⟨List.map Mo.a o++[ag [vi ax,vi ay,vi az,vi (ax+(W.getD i.toNat default).x.tmod 600),vi (ay+(W.getD i.toNat default).y.tmod 600),vi (az+(W.getD i.toNat default).z.tmod 600),vi (if wi (1000*if wi (W.getD i.toNat default).r>0 then wi (W.getD i.toNat default).r else 0)>20000 then wi (1000*if wi (W.getD i.toNat default).r>0 then wi (W.getD i.toNat default).r else 0) else 20000),vi (wi (1+wi (i.tdiv 2))),vi i]],9,w+1,false,true⟩,⟨[(zCxU6 W i)],4,0,false,false⟩,⟨[ag [vi (wi ((W.getD i.toNat default).x.tmod 600)),vi (wi ((W.getD i.toNat default).y.tmod 600)),vi (wi ((W.getD i.toNat default).z.tmod 600))]],3,0,false,false⟩,⟨[ag [vi ax,vi ay,vi az,vi (ax+(W.getD i.toNat default).x.tmod 600),vi (ay+(W.getD i.toNat default).y.tmod 600),vi (az+(W.getD i.toNat default).z.tmod 600),vi (if wi (1000*if wi (W.getD i.toNat default).r>0 then wi (W.getD i.toNat default).r else 0)>20000 then wi (1000*if wi (W.getD i.toNat default).r>0 then wi (W.getD i.toNat default).r else 0) else 20000),vi (wi (1+wi (i.tdiv 2))),vi i]],9,0,false,false⟩],[(decide (wi (1000*if wi (W.getD i.toNat default).r>0 then wi (W.getD i.toNat default).r else 0)>0))==true,true,true,true,w==w,decide (((List.map Mo.a o).length+1)*72<=1099511627776),true,true],[],_⟩ (by kernel_rfl) (bc (Zam (i23.2 d24)) (bc rfl (bc rfl (bc rfl (bc (beq_self_eq_true _) (bc (i26.2 k27) (bc rfl (bc rfl b0)))))))) q0 c0 (by (try rw [w9]);(try rw [w11]);(try rw [w13]);(try rw [w16]);(try rw [w18]);(try rw [w20]);(try rw [w22]);(try rw [w28]);(try rw [w30]);all_goals exact Zar [0,1,2,3] (by kernel_rfl) H)
  ·have w31:(List.map Mo.a o).length=o.length:=List.length_map ..
   have i32:(decide (((List.map Mo.a o).length+1)*72<=1099511627776))=true ↔ ((o.length+1)*72<=1099511627776):=(by (try rw [w16]);(try rw [w18]);(try rw [w20]);(try rw [w22]);(try rw [w31]);all_goals exact Zae)
   obtain ⟨k33,H⟩:=H
   have w34:List.map Mo.a o++[ag [vi ax,vi ay,vi az,vi (ax+(W.getD i.toNat default).x.tmod 600),vi (ay+(W.getD i.toNat default).y.tmod 600),vi (az+(W.getD i.toNat default).z.tmod 600),vi (1000*if (W.getD i.toNat default).r>0 then (W.getD i.toNat default).r else 0),vi (1+i.tdiv 2),vi i]]=List.map Mo.a (o++[{ x:=ax,y:=ay,z:=az,u:=ax+(W.getD i.toNat default).x.tmod 600,v:=ay+(W.getD i.toNat default).y.tmod 600,w:=az+(W.getD i.toNat default).z.tmod 600,r:=1000*if (W.getD i.toNat default).r>0 then (W.getD i.toNat default).r else 0,t:=1+i.tdiv 2,b:=i }]):=(ZeE rfl rfl)
   obtain ⟨k35,H⟩:=H
   have w36:wi (i+1)=i+1:=wI64 k35
   exact Zac (G:=Zab kp7 [] []) 1000 [false] ⟨(atC (cd Try.f7) [1,1,1,1,1,0,1,0,0]),[(3,AV.ptr 0 0 0 0),(5,AV.ptr 1 0 0 0),(6,AV.ptr 2 0 0 0),(7,AV.row 3 (w+1)),(62,AV.vec fw 4 (List.map Wy.a W)),(63,vi n),(64,vi (wi (i+1)))],[⟨[zCxU9],3,0,false,false⟩,⟨[(zCxU7 ax W i ay az)],3,0,false,false⟩,⟨[(zCxU8 S A j)],3,0,false,false⟩,⟨List.map Mo.a o++[ag [vi ax,vi ay,vi az,vi (ax+(W.getD i.toNat default).x.tmod 600),vi (ay+(W.getD i.toNat default).y.tmod 600),vi (az+(W.getD i.toNat default).z.tmod 600),vi (wi (1000*if wi (W.getD i.toNat default).r>0 then wi (W.getD i.toNat default).r else 0)),vi (wi (1+wi (i.tdiv 2))),vi i]],9,w+1,false,true⟩,⟨[(zCxU6 W i)],4,0,false,false⟩,⟨[ag [vi (wi ((W.getD i.toNat default).x.tmod 600)),vi (wi ((W.getD i.toNat default).y.tmod 600)),vi (wi ((W.getD i.toNat default).z.tmod 600))]],3,0,false,false⟩,⟨[ag [vi ax,vi ay,vi az,vi (ax+(W.getD i.toNat default).x.tmod 600),vi (ay+(W.getD i.toNat default).y.tmod 600),vi (az+(W.getD i.toNat default).z.tmod 600),vi (wi (1000*if wi (W.getD i.toNat default).r>0 then wi (W.getD i.toNat default).r else 0)),vi (wi (1+wi (i.tdiv 2))),vi i]],9,0,false,false⟩],[(decide (wi (1000*if wi (W.getD i.toNat default).r>0 then wi (W.getD i.toNat default).r else 0)>0))==false,true,w==w,decide (((List.map Mo.a o).length+1)*72<=1099511627776),true,true],[],_⟩ (by kernel_rfl) (bc (Zal (fun h=>d24 (i23.1 h))) (bc rfl (bc (beq_self_eq_true _) (bc (i32.2 k33) (bc rfl (bc rfl b0)))))) q0 c0 (by (try rw [w9]);(try rw [w11]);(try rw [w13]);(try rw [w16]);(try rw [w18]);(try rw [w20]);(try rw [w22]);(try rw [w34]);(try rw [w36]);all_goals exact Zar [0,1,2,3] (by kernel_rfl) H)
 ·exact Zai (G:=Zab kp7 [] []) 1000 [false] (k:=((atC (cd Try.f7) [1,1,1,1,1,1,1])).tail) (env':=[(2,AV.row 3 w),(3,AV.ptr 0 0 0 0),(4,vb true)]) (L':=[⟨[(zCxU8 S A j)],3,0,false,false⟩,⟨[ag [vi ax,vi ay,vi az]],3,0,false,false⟩,⟨[(zCxU8 S A j)],3,0,false,false⟩,⟨List.map Mo.a o,9,w,false,true⟩]) (asm:=[(decide (i<n))==false,true,true]) (eqs:=[]) (calls:=[]) (tu [AV.row 3 w,(zCxU8 S A j),vb true]) (by kernel_rfl) (by kernel_rfl) (Zaa (Zal (fun h=>d2 (Zae.1 h))) (Zaa rfl (Zaa rfl Zad))) Zaf Zag (ZdD (d:=(tu [AV.vec false 9 (List.map Mo.a o),(zCxU8 S A j),vb true])) (bs:=[w==w]) (by kernel_rfl) (by kernel_rfl) (Zaa (beq_self_eq_true _) Zad) (by kernel_rfl) H)
end Go.Av

namespace Go.Av
open Go.Proofs
set_option maxRecDepth 100000
end Go.Av

namespace Go.Av
open Go.Proofs
namespace N
end N
end Go.Av

namespace Go.Av
open Go.Proofs
namespace N
def s16 (x:Int):Prop:=-32768<=x/\x<=32767
def wyR (r:Int):Int:=if (1000*if r>0 then r else 0)>0 then (if (1000*if r>0 then r else 0)>20000 then 1000*if r>0 then r else 0 else 20000) else 1000*if r>0 then r else 0
def atW (p:Ps) (W:List Wy):Nat->Ps
 | 0=>p
 | i+1=>⟨(atW p W i).x+(W.getD i default).x.tmod 600,(atW p W i).y+(W.getD i default).y.tmod 600,(atW p W i).z+(W.getD i default).z.tmod 600⟩
def moW (p:Ps) (W:List Wy) (i:Nat):Mo:=⟨(atW p W i).x,(atW p W i).y,(atW p W i).z,(atW p W (i+1)).x,(atW p W (i+1)).y,(atW p W (i+1)).z,wyR (W.getD i default).r,1+(i:Int).tdiv 2,i⟩
def moL (p:Ps) (W:List Wy) (n:Nat):List Mo:=(List.range n).map (moW p W)
def trB (W:List Wy) (S A j:Int):Bool:=decide ¬(((((W.length:Int)>6\/¬vlE S A j=0)\/S<20)\/A<20)\/j<40)
def trL (x y z:Int) (W:List Wy) (S A j:Int):List Mo:=if trB W S A j=true then moL ⟨x,y,z⟩ W W.length else []
def okTr (x y z:Int) (W:List Wy):Prop:=(s16 x/\s16 y/\s16 z) /\ ∀ w ∈ W,s16 w.r
end N
theorem ZeL (x:Int):-599<=x.tmod 600/\x.tmod 600<=599:=by
 have h1:=Int.tmod_lt_of_pos x (show (0:Int)<600 by decide)
 have h2:=Int.lt_tmod_of_pos x (show (0:Int)<600 by decide)
 omega
theorem atW_bd {p:Ps} {W:List Wy} (h:N.s16 p.x/\N.s16 p.y/\N.s16 p.z):∀ i:Nat,i<=6->(-32768-599*(i:Int)<=(N.atW p W i).x/\(N.atW p W i).x<=32768+599*(i:Int))/\(-32768-599*(i:Int)<=(N.atW p W i).y/\(N.atW p W i).y<=32768+599*(i:Int)) /\ -32768-599*(i:Int)<=(N.atW p W i).z/\(N.atW p W i).z<=32768+599*(i:Int)
 | 0,_=>by
  obtain ⟨h1,h2,h3⟩:=h
  unfold N.s16 at h1 h2 h3
  unfold N.atW
  omega
 | i+1,hi=>by
  have:=atW_bd (W:=W) h i (by omega)
  have h1:=ZeL (W.getD i default).x
  have h2:=ZeL (W.getD i default).y
  have h3:=ZeL (W.getD i default).z
  unfold N.atW
  simp only
  omega
theorem moL_succ (p:Ps) (W:List Wy) (i:Nat):N.moL p W (i+1)=N.moL p W i++[N.moW p W i]:=by
 unfold N.moL
 rw [List.range_succ,List.map_append];rfl
theorem moL_len (p:Ps) (W:List Wy) (i:Nat):(N.moL p W i).length=i:=by unfold N.moL;rw [List.length_map,List.length_range]
theorem ZdF (p:Ps) (W:List Wy) {n i:Nat} (h:i<n):(N.moL p W n).getD i default=N.moW p W i:=by
 unfold N.moL
 rw [List.getD_eq_getElem?_getD,List.getElem?_map,List.getElem?_range h];rfl
theorem wyR_bd {r:Int} (h:N.s16 r):0<=N.wyR r/\N.wyR r<=32767000/\(N.wyR r=0\/20000<=N.wyR r):=by
 unfold N.s16 at h
 unfold N.wyR
 split <;> split <;> (try split) <;> omega
section
variable (fw:Bool) {W:List Wy} {p:Ps} {S A j:Int}
theorem moR_loop (h:N.s16 p.x/\N.s16 p.y/\N.s16 p.z) (hW:∀ w ∈ W,N.s16 w.r) (hn:W.length<=6):∀ (k i w:Nat),i+k=W.length ->
  Zfv fw W S A j (N.atW p W i).x (N.atW p W i).y (N.atW p W i).z W.length i (N.moL p W i) w (Zaj (.tup [.vec false 9 ((N.moL p W W.length).map Mo.a),.agg [.int .i64 S,.int .i64 A,.int .i64 j],.bool true])):=by
 intro k
 induction k with
 | zero =>
  intro i w hi
  refine moR _ _ _ _ _ _ _ _ _ _ _ _ _ ⟨fun z=>absurd z (by omega),fun _ => ?_⟩
  rw [show i=W.length by omega];exact .refl _
 | succ k ih =>
  intro i w hi
  have hb:=atW_bd (W:=W) h i (by omega)
  have h1:=ZeL (W.getD i default).x
  have h2:=ZeL (W.getD i default).y
  have h3:=ZeL (W.getD i default).z
  have hr:N.s16 (W.getD i default).r:=hW _ (by
   rw [List.getD_eq_getElem?_getD,List.getElem?_eq_getElem (by omega)]
   exact List.getElem_mem _)
  have hr':=hr
  unfold N.s16 at hr'
  have e2:(i:Int).tdiv 2=(i:Int) / 2:=Int.tdiv_eq_ediv_of_nonneg (by omega)
  have hl:=moL_len p W i
  have hstep:=ih (i+1) (w+1) (by omega)
  rw [moL_succ] at hstep
  refine moR _ _ _ _ _ _ _ _ _ _ _ _ _ ⟨fun _ => ?_,fun z=>absurd (by omega) z⟩
  rw [Int.toNat_natCast]
  refine ⟨by omega,by omega,by omega,by omega,by omega,⟨⟨by omega,by omega,by omega⟩,by omega,by omega,by omega⟩,by omega,by split <;> omega,by omega,by omega,fun hc=>⟨by omega,by omega,?_⟩,fun hc=>⟨by omega,by omega,?_⟩⟩
  ·have e:N.wyR (W.getD i default).r=if (1000*if (W.getD i default).r>0 then (W.getD i default).r else 0)>20000 then 1000*if (W.getD i default).r>0 then (W.getD i default).r else 0 else 20000:=by unfold N.wyR;rw [if_pos hc]
   rw [<- e];exact hstep
  ·have e:N.wyR (W.getD i default).r=1000*if (W.getD i default).r>0 then (W.getD i default).r else 0:=by unfold N.wyR;rw [if_neg hc]
   rw [<- e];exact hstep
theorem moN_loop (h:N.s16 p.x/\N.s16 p.y/\N.s16 p.z) (hW:∀ w ∈ W,N.s16 w.r) (hn:W.length<=6) :
  moN_at fw W S A j p.x p.y p.z W.length 0 (Zaj (.tup [.vec false 9 ((N.moL p W W.length).map Mo.a),.agg [.int .i64 S,.int .i64 A,.int .i64 j],.bool true])):=by
 cases hk:W.length with
 | zero =>
  refine moN _ _ _ _ _ _ _ _ _ _ _ ⟨fun z=>absurd z (by omega),fun _ => ?_⟩
  exact .tup _ _ rfl fun i x y hx hy=>by
   match i,hx,hy with
   | 0,hx,hy=>cases hx;cases hy;exact .vnil 9
   | 1,hx,hy=>cases hx;cases hy;exact .refl _
   | 2,hx,hy=>cases hx;cases hy;exact .refl _
 | succ k =>
  have hb:=atW_bd (W:=W) h 0 (by omega)
  unfold N.atW at hb
  have h1:=ZeL (W.getD 0 default).x
  have h2:=ZeL (W.getD 0 default).y
  have h3:=ZeL (W.getD 0 default).z
  have hr:N.s16 (W.getD 0 default).r:=hW _ (by
   rw [List.getD_eq_getElem?_getD,List.getElem?_eq_getElem (by omega)]
   exact List.getElem_mem _)
  have hr':=hr
  unfold N.s16 at hr'
  have hstep:=moR_loop fw (S:=S) (A:=A) (j:=j) h hW hn k 1 0 (by omega)
  rw [moL_succ] at hstep
  rw [hk] at hstep
  refine moN _ _ _ _ _ _ _ _ _ _ _ ⟨fun _ => ?_,fun z=>absurd (by omega) z⟩
  refine ⟨by omega,by rw [Int.toNat_zero];omega,by rw [Int.toNat_zero];omega,by rw [Int.toNat_zero];omega,by rw [Int.toNat_zero];omega,by rw [Int.toNat_zero];exact ⟨⟨by omega,by omega,by omega⟩,by omega,by omega,by omega⟩,by rw [Int.toNat_zero];omega,by rw [Int.toNat_zero];split <;> omega,by decide,by decide,fun hc=>⟨by omega,?_⟩,fun hc=>⟨by omega,?_⟩⟩
  ·have e:N.wyR (W.getD 0 default).r=if (1000*if (W.getD 0 default).r>0 then (W.getD 0 default).r else 0)>20000 then 1000*if (W.getD 0 default).r>0 then (W.getD 0 default).r else 0 else 20000:=by rw [Int.toNat_zero] at hc;unfold N.wyR;rw [if_pos hc]
   rw [Int.toNat_zero,<- e];exact hstep
  ·have e:N.wyR (W.getD 0 default).r=1000*if (W.getD 0 default).r>0 then (W.getD 0 default).r else 0:=by rw [Int.toNat_zero] at hc;unfold N.wyR;rw [if_neg hc]
   rw [Int.toNat_zero,<- e];exact hstep
end
theorem ev7 (fx fy fz:Int) (fw:Bool) (W:List Wy) (S A j:Int) (h:N.okTr fx fy fz W):Ev M1 (.pure 7 [.agg [.int .i16 fx,.int .i16 fy,.int .i16 fz,.vec fw 4 (W.map Wy.a),.int .i64 S,.int .i64 A,.int .i64 j]]) (.tup [.vec false 9 ((N.trL fx fy fz W S A j).map Mo.a),.agg [.int .i64 S,.int .i64 A,.int .i64 j],.bool (N.trB W S A j)]) []:=by
 obtain ⟨hp,hW⟩:=h
 have hp':=hp
 unfold N.s16 at hp'
 refine call7 (moA fx fy fz fw W S A j _ ⟨by omega,by omega,by omega,fun hb => ?_,fun hb => ?_⟩)
 ·have e:N.trB W S A j=false:=decide_eq_false fun y=>y hb
  unfold N.trL
  rw [e,if_neg (by decide)]
  exact .tup _ _ rfl fun i x y hx hy=>by
   match i,hx,hy with
   | 0,hx,hy=>cases hx;cases hy;exact .vnil 9
   | 1,hx,hy=>cases hx;cases hy;exact .refl _
   | 2,hx,hy=>cases hx;cases hy;exact .refl _
 ·have e:N.trB W S A j=true:=decide_eq_true hb
  unfold N.trL
  rw [if_pos e,e]
  exact moN_loop fw (p:=⟨fx,fy,fz⟩) hp hW (by omega)
end Go.Av

namespace Go.Av
open Go.Proofs
theorem pack96 (cs:List AV):Zc6 Try.prog 96 cs = .agg cs:=by
 simp [Zc6,aggT,Try.underlying96]
theorem pack28 (cs:List AV):Zc6 Try.prog 28 cs = .agg cs:=by
 simp [Zc6,aggT,Try.underlying28]
theorem pack5 (x:AV):Zc6 Try.prog 5 [x]=x:=by
 simp [Zc6,aggT,Try.underlying5]
theorem pack29 (x:AV):Zc6 Try.prog 29 [x]=x:=by
 simp [Zc6,aggT,Try.underlying29]
theorem cells96:Try.prog.cellsOf 96=4:=by kernel_rfl
theorem cells5:Try.prog.cellsOf 5=1:=by kernel_rfl
set_option maxRecDepth 100000 in
theorem ctthree_ty {n:Nat} {cs:List AV} (h:Ty Try.prog (n+1+1) 23 cs):∃ x y z:Int,cs=[.int .i16 x,.int .i16 y,.int .i16 z]/\N.s16 x/\N.s16 y/\N.s16 z:=by
 unfold Ty at h
 rw [Try.underlying23] at h
 obtain ⟨a0,b0,rfl,h0,a1,b1,rfl,h1,a2,b2,rfl,h2,rfl⟩:=h
 obtain ⟨x,rfl,p⟩:=ZcX Try.underlying22 h0
 obtain ⟨y,rfl,q⟩:=ZcX Try.underlying22 h1
 obtain ⟨z,rfl,r⟩:=ZcX Try.underlying22 h2
 exact ⟨x,y,z,rfl,p,q,r⟩
set_option maxRecDepth 100000 in
theorem ctfour_ty {n:Nat} {cs:List AV} (h:Ty Try.prog (n+1+1) 96 cs):∃ x y z r:Int,cs=[.int .i16 x,.int .i16 y,.int .i16 z,.int .i16 r]/\N.s16 r:=by
 unfold Ty at h
 rw [Try.underlying96] at h
 obtain ⟨a0,b0,rfl,h0,a1,b1,rfl,h1,a2,b2,rfl,h2,a3,b3,rfl,h3,rfl⟩:=h
 obtain ⟨x,rfl,_⟩:=ZcX Try.underlying22 h0
 obtain ⟨y,rfl,_⟩:=ZcX Try.underlying22 h1
 obtain ⟨z,rfl,_⟩:=ZcX Try.underlying22 h2
 obtain ⟨r,rfl,p⟩:=ZcX Try.underlying22 h3
 exact ⟨x,y,z,r,rfl,p⟩
set_option maxRecDepth 100000 in
theorem ctways_ty {n:Nat} {cs:List AV} (h:Ty Try.prog (n+1+1+1) 24 cs):∃ W:List Wy,cs=[.vec false 4 (W.map Wy.a)] /\ ∀ w ∈ W,N.s16 w.r:=by
 obtain ⟨o,rfl,_⟩:=ty_list (τ:={ w:Wy // N.s16 w.r }) (enc:=fun w=>w.1.a) Try.underlying24 (fun ys hy=>by
  obtain ⟨x,y,z,r,rfl,p⟩:=ctfour_ty hy
  exact ⟨⟨⟨x,y,z,r⟩,p⟩,by rw [pack96];rfl⟩) h
 rw [cells96]
 refine ⟨o.map (·.1),?_,fun w hw => ?_⟩
 ·rw [List.map_map];rfl
 ·obtain ⟨x,_,rfl⟩:=List.mem_map.1 hw
  exact x.2
set_option maxRecDepth 100000 in
theorem ctlims_ty {n:Nat} {cs:List AV} (h:Ty Try.prog (n+1+1) 26 cs):∃ x y z:Int,cs=[.int .i64 x,.int .i64 y,.int .i64 z]:=by
 have h:=ty_struct Try.underlying26 h
 obtain ⟨a0,b0,rfl,h0,a1,b1,rfl,h1,a2,b2,rfl,h2,rfl⟩:=h
 obtain ⟨x0,rfl,_⟩:=ZcX Try.underlying2 h0
 obtain ⟨x1,rfl,_⟩:=ZcX Try.underlying2 h1
 obtain ⟨x2,rfl,_⟩:=ZcX Try.underlying2 h2
 exact ⟨x0,x1,x2,rfl⟩
set_option maxRecDepth 100000 in
theorem cttrip_ty {n:Nat} {cs:List AV} (h:Ty Try.prog (n+1+1+1+1) 28 cs):∃ (x y z:Int) (W:List Wy) (S A j:Int),cs=[.int .i16 x,.int .i16 y,.int .i16 z,.vec false 4 (W.map Wy.a),.int .i64 S,.int .i64 A,.int .i64 j]/\N.okTr x y z W:=by
 have h:=ty_struct Try.underlying28 h
 obtain ⟨a0,b0,rfl,h0,a1,b1,rfl,h1,a2,b2,rfl,h2,rfl⟩:=h
 obtain ⟨x,y,z,rfl,p,q,r⟩:=ctthree_ty h0
 obtain ⟨W,rfl,hW⟩:=ctways_ty h1
 obtain ⟨S,A,j,rfl⟩:=ctlims_ty h2
 exact ⟨x,y,z,W,S,A,j,rfl,⟨p,q,r⟩,hW⟩
set_option maxRecDepth 100000 in
theorem ctbytes_ty {n:Nat} {cs:List AV} (h:Ty Try.prog (n+1+1) 29 cs):∃ U:List Int,cs=[.vec false 1 (U.map (.int .u8))] /\ ∀ h ∈ U,0<=h/\h<=255:=by
 obtain ⟨o,rfl,_⟩:=ty_list (τ:={ x:Int // 0<=x/\x<=255 }) (enc:=fun x => .int .u8 x.1) Try.underlying29 (fun ys hy=>by
  obtain ⟨x,rfl,p1,p2⟩:=ZcX Try.underlying5 hy
  exact ⟨⟨x,p1,p2⟩,by rw [pack5]⟩) h
 rw [cells5]
 refine ⟨o.map (·.1),?_,fun w hw => ?_⟩
 ·rw [List.map_map];rfl
 ·obtain ⟨x,_,rfl⟩:=List.mem_map.1 hw
  exact x.2
theorem laidOut:laidOutB Try.prog=true:=by kernel_rfl
theorem ownGo:ownKnob Try.prog.godebug=none:=by kernel_rfl
end Go.Av

namespace Go.Av
open Go.Proofs
namespace N
def big (S A j:Int):Prop:=Zbf S A j/\20<=S/\20<=A/\40<=j
def rtO (r:Int):Prop:=(0<=r/\r<=32767000)/\(r=0\/20000<=r)
def rts (l:List Mo):Prop:=∀ i,i<l.length->rtO (l.getD i default).r
def cd (c:Int) (p:Ps):Prop:=(-c<=p.x/\p.x<=c)/\(-c<=p.y/\p.y<=c) /\ -c<=p.z/\p.z<=c
end N
theorem lm_big {S A j r:Int} (h:N.big S A j) (hr:N.rtO r):N.Zbf (N.lm r S) A j/\20<=N.sim (N.lm r S) A j:=by
 obtain ⟨hl,h1,h2,h3⟩:=h
 obtain ⟨h4,h5⟩:=hr
 have hl':=hl
 unfold N.Zbf at hl'
 have hj:j.tdiv 2=j / 2:=Int.tdiv_eq_ediv_of_nonneg (by omega)
 have hlm:20<=N.lm r S/\N.lm r S<=S:=by
  unfold N.lm
  by_cases hp:r>0
  ·rw [if_pos hp,Int.tdiv_eq_ediv_of_nonneg (by omega)]
   split <;> omega
  ·rw [if_neg hp];omega
 refine ⟨by unfold N.Zbf;omega,?_⟩
 unfold N.sim
 omega
theorem tk_few {S A j r n:Int} (h:N.big S A j) (hr:N.rtO r) (hn:0<=n/\n<=400000):N.tkE (N.lm r S) A j n=0/\0<=N.tkV (N.lm r S) A j n/\N.tkV (N.lm r S) A j n<=(n+19) / 20:=by
 obtain ⟨h1,h2⟩:=lm_big h hr
 have hE:N.tkE (N.lm r S) A j n=0:=by
  unfold N.tkE
  rw [if_neg,if_neg (by omega)]
  rintro (y | y)
  ·exact y (ZcF.2 h1)
  ·omega
 obtain ⟨⟨h3,_⟩,_,h4⟩:=tkV_ok hE
 refine ⟨hE,h3,?_⟩
 by_cases h0:N.tkV (N.lm r S) A j n=0
 ·omega
 ·have:(N.tkV (N.lm r S) A j n-1)*20<=(N.tkV (N.lm r S) A j n-1)*N.sim (N.lm r S) A j:=Int.mul_le_mul_of_nonneg_left h2 (by omega)
  omega
theorem st_few {S A j r n:Int} (h:N.big S A j) (hr:N.rtO r) (hn:0<=n/\n<=400000):N.stE (N.lm r S) A j n=0:=by
 obtain ⟨h1,h2,h3⟩:=tk_few h hr hn
 unfold N.stE
 rw [if_neg fun y=>y h1,if_neg (by omega)]
theorem rts_good {l:List Mo} {S A j:Int} (h:N.big S A j) (hr:N.rts l):N.good l S A j:=fun i hi=>by
 have h1:=hr i hi
 refine ⟨?_,fun n h2 h3=>st_few h h1 ⟨h2,h3⟩⟩
 have:=h1.1
 unfold N.okR
 omega
theorem rts_ck {l:List Mo} {S A j:Int} (h:N.big S A j) (ht:N.okT l) (hn:l.length<=20000) (hr:N.rts l):N.okCk l S A j:=⟨⟨ht,hn⟩,h.1,rts_good h hr,fun i hi=>(hr i hi).1.1⟩
theorem trB_iff {W:List Wy} {S A j:Int}:N.trB W S A j=true ↔ W.length<=6/\N.big S A j:=by
 unfold N.trB N.big
 rw [decide_eq_true_iff]
 constructor
 ·intro h
  have h1:N.vlE S A j=0:=Classical.byContradiction fun y=>h (.inl (.inl (.inl (.inr y))))
  have h2:=ZcF.1 h1
  refine ⟨?_,h2,?_,?_,?_⟩
  ·exact Classical.byContradiction fun y=>h (.inl (.inl (.inl (.inl (by omega)))))
  ·exact Int.not_lt.1 fun y=>h (.inl (.inl (.inr y)))
  ·exact Int.not_lt.1 fun y=>h (.inl (.inr y))
  ·exact Int.not_lt.1 fun y=>h (.inr y)
 ·rintro ⟨h1,h2,h3,h4,h5⟩
  rintro ((((y | y) | y) | y) | y)
  ·omega
  ·exact y (ZcF.2 h2)
  ·omega
  ·omega
  ·omega
structure TrOk (l:List Mo):Prop where
 t:N.okT l
 n:l.length<=6
 r:N.rts l
 b:N.hasB l
 m:∀ i,i<l.length->N.ml (l.getD i default)<=1200
 c:∀ i,i<l.length->N.cd 36400 (l.getD i default).src/\N.cd 36400 (l.getD i default).dst
theorem trL_ok {x y z:Int} {W:List Wy} {S A j:Int} (h:N.okTr x y z W) (hb:N.trB W S A j=true):TrOk (N.trL x y z W S A j):=by
 obtain ⟨hp,hW⟩:=h
 obtain ⟨hn,_⟩:=trB_iff.1 hb
 unfold N.trL
 rw [if_pos hb]
 have hlen:=moL_len ⟨x,y,z⟩ W W.length
 have hc:∀ i,i<=6->_:=fun i=>atW_bd (p:=⟨x,y,z⟩) (W:=W) hp i
 have hcd:∀ i,i<W.length->N.cd 36400 (N.moW ⟨x,y,z⟩ W i).src/\N.cd 36400 (N.moW ⟨x,y,z⟩ W i).dst:=fun i hi=>by
  have h1:=hc i (by omega)
  have h2:=hc (i+1) (by omega)
  unfold N.cd N.moW Mo.src Mo.dst
  simp only
  omega
 have hm:∀ i,i<W.length->N.ml (N.moW ⟨x,y,z⟩ W i)<=1200:=fun i hi=>by
  have h1:=ZeL (W.getD i default).x
  have h2:=ZeL (W.getD i default).y
  have h3:=ZeL (W.getD i default).z
  refine Int.le_trans (ml_bd (B:=599) (by omega) ?_ ?_ ?_) (by omega)
  ·show -599<=((N.atW ⟨x,y,z⟩ W i).x+(W.getD i default).x.tmod 600)-(N.atW ⟨x,y,z⟩ W i).x/\((N.atW ⟨x,y,z⟩ W i).x+(W.getD i default).x.tmod 600)-(N.atW ⟨x,y,z⟩ W i).x<=599
   omega
  ·show -599<=((N.atW ⟨x,y,z⟩ W i).y+(W.getD i default).y.tmod 600)-(N.atW ⟨x,y,z⟩ W i).y/\((N.atW ⟨x,y,z⟩ W i).y+(W.getD i default).y.tmod 600)-(N.atW ⟨x,y,z⟩ W i).y<=599
   omega
  ·show -599<=((N.atW ⟨x,y,z⟩ W i).z+(W.getD i default).z.tmod 600)-(N.atW ⟨x,y,z⟩ W i).z/\((N.atW ⟨x,y,z⟩ W i).z+(W.getD i default).z.tmod 600)-(N.atW ⟨x,y,z⟩ W i).z<=599
   omega
 refine ⟨⟨⟨by omega,fun i hi => ?_⟩,fun i hi => ?_⟩,by omega,fun i hi => ?_,fun i hi => ?_,fun i hi => ?_,fun i hi => ?_⟩
 ·rw [ZdF _ _ (by omega)]
  obtain ⟨h1,h2⟩:=hcd i (by omega)
  unfold N.cd Mo.src at h1
  unfold N.cd Mo.dst at h2
  simp only at h1 h2
  unfold N.okM
  omega
 ·rw [ZdF _ _ (by omega),ZdF _ _ (by omega)];rfl
 ·rw [ZdF _ _ (by omega)]
  have:=wyR_bd (r:=(W.getD i default).r) (hW _ (by
   rw [List.getD_eq_getElem?_getD,List.getElem?_eq_getElem (by omega)]
   exact List.getElem_mem _))
  exact ⟨⟨this.1,this.2.1⟩,this.2.2⟩
 ·rw [ZdF _ _ (by omega)];rfl
 ·rw [ZdF _ _ (by omega)];exact hm i (by omega)
 ·rw [ZdF _ _ (by omega)];exact hcd i (by omega)
theorem sum_le {l:List Mo} {c:Int}:(∀ i,i<l.length->N.ml (l.getD i default)<=c)->(l.map N.ml).sum<=c*l.length:=by
 induction l with
 | nil=>intro _;simp
 | cons m l ih =>
  intro h
  have h1:=h 0 (by simp)
  have h2:=ih fun i hi=>by have:=h (i+1) (by simp;omega);simpa using this
  rw [List.map_cons,List.sum_cons,List.length_cons]
  have:c*((l.length+1:Nat):Int)=c+c*l.length:=by rw [Int.natCast_add,Int.mul_add];omega
  rw [this]
  have h3:N.ml m<=c:=by simpa using h1
  omega
theorem tr_D {l:List Mo} (h:TrOk l):N.D l 0 0<=7200:=by
 have h1:=sum_le h.m
 have h2:=h.n
 unfold N.D
 rw [Int.toNat_zero,List.drop_zero]
 omega
end Go.Av

namespace Go.Av
open Go.RowKit
def ZfY (M:Mach) (it:FuncId) (A:AV) (xs:List (AV × AV)):Prop:=
 ∀ (l:Nat) (J:Nat->St->Prop),(∀ j T,J j T->HeapOk T)->(∀ j T T',J j T->HeapOk T'->Ext T T'->T'.L=T.L->J j T') ->
  (∀ j T v1 v2 (hj:j<xs.length),J j T->Rel T (xs[j]).1 v1->Rel T (xs[j]).2 v2 -> ∃ fid tmps asg bd,(Instr.yield l #[v1,v2]).run (M.P ()) T.w = .ok (.round l fid tmps asg bd) T.w /\
   ∀ c cs,∃ T',J (j+1) T'/\(∀ a v,Rel T a v->Rel T' a v)/\Steps (M.P ()) (lone (Frame.round l fid tmps asg bd .normal) (c::cs) T.w) (lone (c.finish (.bool true)) cs T'.w)) ->
  ∀ T cA,J 0 T->Rel T A cA -> ∀ cs,∃ cv fr T',J xs.length T'/\(∀ a v,Rel T a v->Rel T' a v) /\
   Steps (M.P ()) (lone (Frame.enter (M.P ()) it #[.func (.yield l) #[] #[],cA] .normal) cs T.w) (lone fr cs T'.w)/\fr.leaving (M.P ()) T'.w (.returned cv)
theorem Zcd {T T':St} (hT:HeapOk T) (he:Ext T T') {l:Nat} {o:Obj} (ho:T.w.heap[l]? = some o) (hk:ZbB o=true) (hl:T.base<=l):T'.w.heap[l]? = some o:=
 (he.other l hl (Array.getElem?_eq_some_iff.1 ho).1 (other_blk hT ho hk)).trans ho
theorem vrel_mono {S S':St} (he:Ext S S') {env:Vars} {tm:Array Value} (h:VRel S env tm):VRel S' env tm:=fun t=>(h t).mono he
theorem vrel_set {S:St} {env:Vars} {tm:Array Value} (h:VRel S env tm) {p:Nat} (hp:p<tm.size) {x:AV} {v:Value} (hx:Rel S x v):VRel S ((p,x)::env) (tm.setIfInBounds p v):=by
 intro t
 simp only [Vars.get]
 by_cases e:p=t
 ·subst e
  have:(p==p)=true:=by simp
  rw [this]
  simpa [hp] using hx
 ·have:(p==t)=false:=by simpa using e
  rw [this]
  simpa [e] using h t
theorem fold_two {p0 p1:Tmp} {v1 v2:Value} (f:Array Value->Tmp × Value->Array Value) (a:Array Value):(#[p0,p1].zip #[v1,v2]).foldl f a=f (f a (p0,v1)) (p1,v2):=by
 have:(#[p0,p1].zip #[v1,v2]) = #[(p0,v1),(p1,v2)]:=by
  show [p0,p1].toArray.zip [v1,v2].toArray=_
  rw [List.zip_toArray];rfl
 rw [this];rfl
theorem range_sound {M:Mach} {fi:Fi} {g:Operand} {p0 p1:Tmp} {ida:Nat} {opsA:Array Oper} {body:Code} {k:List Item} {env:Vars} {L:Heap} {Q:AV->Heap->Prop} {it:FuncId} {A:AV} {xs:List (AV × AV)} {keepA:List Nat}
  (hg:evV env g = .func (.func it) [] [A]) (hit:∀ args w,(callFunc it args).run (M.P ()) w = .ok (.enter it args) w) (hI:ZfY M it A xs) (hna:Zc7 opsA=true) (hnb:Zcg body=true) (hp0:p0<fi.n) (hp1:p1<fi.n)
  (Ls:Nat->Heap) (h0:Ls 0=L) (eA:Nat->Env)
  (hasg:∀ j (hj:j<xs.length),Zat M.P M.inl (fun _ _ _=>none) fi.n opsA (fun _=>none) (fun _=>2) (List.range opsA.size) ⟨lift ((p1,(xs[j]).2)::(p0,(xs[j]).1)::env),Ls j,[],[],[]⟩=some ⟨eA j,Ls j,[],[],[]⟩)
  (hbody:∀ j,j<xs.length->ZaV M fi [.code body] (Zbt keepA (eA j)) (Ls j) (fun _ L'=>L'=Ls (j+1)))
  (hk:ZaV M fi k env (Ls xs.length) Q):ZaV M fi (.code (.rangeFunc g #[p0,p1] (.region ida opsA false) body)::k) env L Q:=by
 intro S b a cs fn h1 h2 h3 h4 h5 h6 h7 h8
 have hb:b.roundOf=none:=by
  rcases h4 with h | h
  ·exact h
  ·simp [Zcu,ZdS,Zcg] at h
 obtain ⟨R,hR⟩:∃ R:Loop,R = { state:=.ready,pending:=none,fn:=b.fn,tmps:=a.tmps,params:=#[p0,p1],assign:=.region ida opsA false,body,defers:=S.w.heap.size }:=⟨_,rfl⟩
 obtain ⟨B,hB⟩:∃ B:Loop,B = { R with state:=.busy }:=⟨_,rfl⟩
 obtain ⟨X,hX⟩:∃ X:Loop,X = { R with state:=.exhausted }:=⟨_,rfl⟩
 obtain ⟨W1,hW1⟩:∃ W1,(S.w.alloc (.deferred (some []))).alloc (.loop R)=W1:=⟨_,rfl⟩
 have hl1:W1.heap[S.w.heap.size+1]? = some (.loop R):=by
  rw [<- hW1];have:=World.alloc_heap_new (S.w.alloc (.deferred (some []))) (.loop R);rwa [World.size_alloc] at this
 have hd1:W1.heap[S.w.heap.size]? = some (.deferred (some [])):=by
  rw [<- hW1];exact (Below.heap_alloc _ _ _ (by simp)).trans (World.alloc_heap_new S.w _)
 have hbelow:Below S.base S.w W1:=by
  rw [<- hW1];exact (((Below.refl _ S.w).alloc h5.base _).alloc (by simp;have:=h5.base;omega) _)
 have hsame:∀ q,q<S.w.heap.size->W1.heap[q]? = S.w.heap[q]?:=fun q hq=>by
  rw [<- hW1];exact (Below.heap_alloc _ _ q (by simp;omega)).trans (Below.heap_alloc _ _ q hq)
 obtain ⟨o1,e1⟩:=Zca h5 hbelow hsame
 obtain ⟨cg,hcg⟩:∃ cg,a.eval g=cg:=⟨_,rfl⟩
 have hrg:=ZeQ (a:=a) h7 g
 rw [hg,hcg] at hrg
 obtain ⟨va,vb,rfl,l1,l2,r1,r2⟩:=Zcj hrg
 have hva:va=[]:=List.length_eq_zero_iff.1 l1.symm
 subst hva
 obtain ⟨cA,rfl⟩:=List.length_eq_one_iff.1 l2.symm
 have hcA:Rel S A cA:=r2 0 A cA rfl rfl
 let J:Nat->St->Prop:=fun j T=>HeapOk T/\Ext S T/\T.L=Ls j/\T.w.heap[S.w.heap.size+1]? = some (.loop R)/\T.w.heap[S.w.heap.size]? = some (.deferred (some []))
 have hbase:∀ {T:St},Ext S T->T.base<=S.w.heap.size:=fun he=>by rw [he.base];exact h5.base
 have hJ:∀ j T T',J j T->HeapOk T'->Ext T T'->T'.L=T.L->J j T':=fun j T T' ⟨q1,q2,q3,q4,q5⟩ hT' he hL =>
  ⟨hT',q2.trans he,hL.trans q3,Zcd q1 he q4 rfl (by have:=hbase q2;omega),Zcd q1 he q5 rfl (hbase q2)⟩
 have hround:∀ j T v1 v2 (hj:j<xs.length),J j T->Rel T (xs[j]).1 v1->Rel T (xs[j]).2 v2 -> ∃ fid tmps asg bd,(Instr.yield (S.w.heap.size+1) #[v1,v2]).run (M.P ()) T.w = .ok (.round (S.w.heap.size+1) fid tmps asg bd) T.w /\
   ∀ c cs,∃ T',J (j+1) T'/\(∀ a v,Rel T a v->Rel T' a v)/\Steps (M.P ()) (lone (Frame.round (S.w.heap.size+1) fid tmps asg bd .normal) (c::cs) T.w) (lone (c.finish (.bool true)) cs T'.w):=by
  intro j T v1 v2 hj ⟨q1,q2,q3,q4,q5⟩ hv1 hv2
  obtain ⟨tm,htm⟩:∃ tm:Array Value,tm=(a.tmps.setIfInBounds p0 v1).setIfInBounds p1 v2:=⟨_,rfl⟩
  have hy:(Instr.yield (S.w.heap.size+1) #[v1,v2]).run (M.P ()) T.w = .ok (.round (S.w.heap.size+1) b.fn tm (.region ida opsA false) body) T.w:=by
   have:=run_yield (P:=M.P ()) (args:=#[v1,v2]) q4 (by rw [hR];rfl)
   rw [hR] at this
   simp only [fold_two] at this
   rw [this,htm]
  refine ⟨b.fn,tm,.region ida opsA false,body,hy,fun c cs => ?_⟩
  have hV:VRel T ((p1,(xs[j]).2)::(p0,(xs[j]).1)::env) tm:=by
   rw [htm]
   exact vrel_set (vrel_set (vrel_mono q2 h7) (Nat.lt_of_lt_of_le hp0 h8) hv1) (by rw [Array.size_setIfInBounds];exact Nat.lt_of_lt_of_le hp1 h8) hv2
  let bR:Frame:={ (default:Frame) with fn:=b.fn,kind:=.normal,roundOf:=some (S.w.heap.size+1) }
  have hfr:Frame.round (S.w.heap.size+1) b.fn tm (.region ida opsA false) body .normal=bR.atR { tmps:=tm,defers:=[] } [.code (.region ida opsA false),.beginRound,.code body]:=by
   simp [Frame.round,Frame.atR,bR]
  have hsz:fi.n<=tm.size:=by rw [htm,Array.size_setIfInBounds,Array.size_setIfInBounds];exact h8
  rw [hfr]
  have hA:RegR (M.P ()) ida opsA false (fun a' w' => ∃ T2:St,T2.w=w'/\HeapOk T2/\Ext T T2/\T2.L=Ls j/\VRel T2 (Zbt keepA (eA j)) a'.tmps/\a'.tmps.size=tm.size/\a'.defers=[]) { tmps:=tm,defers:=[] } T.w:=
   ZdY (Zct _ (hasg j hj) (by simp) (by simp) (by simp) q1 q3 (Zcm hV) hsz fun S' a' k1 k2 k3 k4 k5 k6=>⟨S',rfl,k1,k2,k3,ZbK k4 keepA,k5,k6⟩)
  obtain ⟨a2,_,⟨T2,rfl,u1,u2,u3,u4,u5,u6⟩,st1⟩:=hA bR [.beginRound,.code body] (c::cs) (.inr hna)
  have hl2:=Zcd q1 u2 q4 rfl (by have:=hbase q2;omega)
  have hd2:=Zcd q1 u2 q5 rfl (hbase q2)
  have hbr:=run_beginRound (P:=M.P ()) hl2 (by rw [hR])
  rw [<- hB] at hbr
  obtain ⟨v1',v2'⟩:=ZdZ (o':=.loop B) u1 hl2 rfl rfl
  have x3:Ext S ⟨T2.base,T2.acc,T2.L,T2.β,T2.w.putObj (S.w.heap.size+1) (.loop B)⟩:=
   put_ext hl2 rfl rfl h5.base (by omega) (q2.trans u2)
  have hl3:(T2.w.putObj (S.w.heap.size+1) (.loop B)).heap[S.w.heap.size+1]? = some (.loop B):=World.putObj_heap_same (Array.getElem?_eq_some_iff.1 hl2).1
  have hd3:(T2.w.putObj (S.w.heap.size+1) (.loop B)).heap[S.w.heap.size]? = some (.deferred (some [])):=(World.putObj_heap_other (by omega)).trans hd2
  obtain ⟨a4,todo4,Ds4,w4,β4,v4,L4,hq4,g1,g2,s4,d4,m4,r4,o4,x4⟩:=hbody j hj ⟨T2.base,T2.acc,T2.L,T2.β,T2.w.putObj (S.w.heap.size+1) (.loop B)⟩ bR a2 (c::cs) fn h1 h2 rfl
   (.inr (by simp [Zcu,ZdS,hnb])) v1' u3 (fun t=>v2' _ _ (u4 t)) (by rw [u5];exact hsz)
  obtain ⟨rfl,rfl⟩:todo4=[]/\Ds4=[]:=by
   rcases g2 with g | g
   ·simp [bR] at g
   ·exact g
  subst hq4
  have hb3:T2.base<=S.w.heap.size:=hbase (q2.trans u2)
  have hl4:=Zcd v1' x4 hl3 rfl (by show T2.base<=_;omega)
  have hd4:=Zcd v1' x4 hd3 rfl hb3
  have her:=run_endRound (P:=M.P ()) none hl4
  have hrr:({ B with state:=if (none:Option Code).isNone then .ready else .done,pending:=none }:Loop)=R:=by rw [hB,hR];rfl
  rw [hrr] at her
  obtain ⟨y1,y2⟩:=ZdZ (o':=.loop R) o4 hl4 rfl rfl
  have x5:=put_ext (o':=.loop R) hl4 rfl rfl h5.base (by omega) (x3.trans x4)
  refine ⟨_,⟨y1,x5,rfl,World.putObj_heap_same (Array.getElem?_eq_some_iff.1 hl4).1,(World.putObj_heap_other (by omega)).trans hd4⟩,fun a v h=>y2 _ _ ((v2' _ _ (h.mono u2)).mono x4),?_⟩
  exact Steps.trans st1 (.head (stepR_beginRound rfl hbr) (Steps.trans s4 (.one (stepR_round_end rfl rfl her))))
 have hmono:∀ a v,Rel S a v->Rel ⟨S.base,S.acc,S.L,S.β,W1⟩ a v:=fun a v h=>h.mono e1
 obtain ⟨cv,fr,T,⟨q1,q2,q3,q4,q5⟩,t2,t3,t4⟩:=hI (S.w.heap.size+1) J (fun j T h=>h.1) hJ hround ⟨S.base,S.acc,S.L,S.β,W1⟩ cA ⟨o1,e1,h6.trans h0.symm,hl1,hd1⟩ (hmono _ _ hcA)
  (b.atR { a with defers:=[ZeC S.w.heap.size]++a.defers } (.inRangeFunc (S.w.heap.size+1)::k)::cs)
 have he:=run_enterLoop_outer (P:=M.P ()) (w:=S.w) b.fn a.tmps #[p0,p1] (.region ida opsA false) body
 have hW1':(S.w.alloc (.deferred (some []))).alloc (.loop { state:=.ready,pending:=none,fn:=b.fn,tmps:=a.tmps,params:=#[p0,p1],assign:=.region ida opsA false,body,defers:=S.w.heap.size })=W1:=by rw [<- hW1,hR]
 rw [hW1',<- hb] at he
 have henter:=stepR_rangeFunc (P:=M.P ()) (b:=b) (a:=a) (k:=k) (cs:=cs) (w:=S.w) (g:=g) (d:={ target:=.fn (.func it) #[cA],args:=#[.func (.yield (S.w.heap.size+1)) #[] #[]] }) (w₁':=W1) (w₂:=W1) (f:=it) (args:=#[.func (.yield (S.w.heap.size+1)) #[] #[]] ++ #[cA]) he
  (by simp only [resolve,hcg];simp [go_sem]) (by simp [invoke,go_sem,hit])
 have hend:=run_endLoop (P:=M.P ()) q4 (by rw [hR];simp)
 rw [<- hX,(show R.pending=none by rw [hR])] at hend
 obtain ⟨z1,z2⟩:=ZdZ (o':=.loop X) q1 q4 rfl rfl
 have x6:=put_ext (o':=.loop X) q4 rfl rfl h5.base (by omega) q2
 have hd6:(T.w.putObj (S.w.heap.size+1) (.loop X)).heap[S.w.heap.size]? = some (.deferred (some [])):=(World.putObj_heap_other (by omega)).trans q5
 have hb6:=hbase q2
 obtain ⟨a7,todo7,Ds7,w7,β7,v7,L7,hq7,g1,g2,s7,d7,m7,r7,o7,x7⟩:=hk ⟨T.base,T.acc,T.L,T.β,T.w.putObj (S.w.heap.size+1) (.loop X)⟩ b { a with defers:=[ZeC S.w.heap.size]++a.defers } cs fn h1 h2 h3 (.inl hb) z1 q3
  (fun t=>z2 _ _ ((h7 t).mono q2)) h8
 have hd7:=Zcd z1 x7 hd6 rfl hb6
 have hsz7:S.w.heap.size<(T.w.putObj (S.w.heap.size+1) (.loop X)).heap.size:=(Array.getElem?_eq_some_iff.1 hd6).1
 have hb7:T.base=S.base:=q2.base
 have ha7:T.acc=S.acc:=q2.acc
 refine ⟨a7,todo7,Ds7++[S.w.heap.size],w7,β7,v7,L7,hq7,g1,.inl hb,?_,by rw [d7];simp,⟨?_,fun D hD => ?_⟩,?_,?_,?_⟩
 ·refine .head henter (Steps.trans t3 (.head ?_ (.head (stepR_endRangeFunc hend) s7)))
  rw [<- finish_atR_inRangeFunc (S.w.heap.size+1) cv]
  exact step_leave_returned t4
 ·rw [List.nodup_append]
  refine ⟨m7.1,by simp,fun x hx y hy => ?_⟩
  simp only [List.mem_singleton] at hy
  have:=(m7.2 x hx).1
  simp only at this
  omega
 ·rcases List.mem_append.1 hD with h | h
  ·obtain ⟨n1,n2⟩:=m7.2 D h
   simp only at n1
   exact ⟨by omega,n2⟩
  ·simp only [List.mem_singleton] at h;subst h
   exact ⟨Nat.le_refl _,hd7⟩
 ·intro w'' hn
  obtain ⟨cv',n1,n2⟩:=r7 w'' hn
  simp only [hb7,ha7] at n2
  exact ⟨cv',n1,n2⟩
 ·simpa only [hb7,ha7] using o7
 ·have:=x6.trans x7
  simpa only [hb7,ha7] using this
def bkX (X:List Int):List (AV × AV):=(List.range X.length).map fun j=>(.int .i64 ((X.length-1-j:Nat):Int),.int .i64 (X.getD (X.length-1-j) 0))
inductive Rounds (M:Mach) (fi:Fi) (p0 p1:Tmp) (opsA:Array Oper) (body:Code) (env:Vars) (keepA:List Nat):List (AV × AV)->Heap->Heap->Prop
 | nil (L:Heap):Rounds M fi p0 p1 opsA body env keepA [] L L
 | cons {x:AV × AV} {xs:List (AV × AV)} {L L1 L2:Heap} (e:Env):Zat M.P M.inl (fun _ _ _=>none) fi.n opsA (fun _=>none) (fun _=>2) (List.range opsA.size) ⟨lift ((p1,x.2)::(p0,x.1)::env),L,[],[],[]⟩=some ⟨e,L,[],[],[]⟩ ->
   ZaV M fi [.code body] (Zbt keepA e) L (fun _ L'=>L'=L1)->Rounds M fi p0 p1 opsA body env keepA xs L1 L2->Rounds M fi p0 p1 opsA body env keepA (x::xs) L L2
theorem Rounds.to {M:Mach} {fi:Fi} {p0 p1:Tmp} {opsA:Array Oper} {body:Code} {env:Vars} {keepA:List Nat} {xs:List (AV × AV)} {L L2:Heap} (h:Rounds M fi p0 p1 opsA body env keepA xs L L2) :
  ∃ (Ls:Nat->Heap) (eA:Nat->Env),Ls 0=L/\Ls xs.length=L2 /\
   (∀ j (hj:j<xs.length),Zat M.P M.inl (fun _ _ _=>none) fi.n opsA (fun _=>none) (fun _=>2) (List.range opsA.size) ⟨lift ((p1,(xs[j]).2)::(p0,(xs[j]).1)::env),Ls j,[],[],[]⟩=some ⟨eA j,Ls j,[],[],[]⟩) /\
   (∀ j,j<xs.length->ZaV M fi [.code body] (Zbt keepA (eA j)) (Ls j) (fun _ L'=>L'=Ls (j+1))):=by
 induction h with
 | nil L=>exact ⟨fun _=>L,fun _=>[],rfl,rfl,fun j hj=>absurd hj (Nat.not_lt_zero _),fun j hj=>absurd hj (Nat.not_lt_zero _)⟩
 | @cons x xs L L1 L2 e h1 h2 _ ih =>
  obtain ⟨Ls,eA,g1,g2,g3,g4⟩:=ih
  refine ⟨fun j=>match j with | 0=>L | j+1=>Ls j,fun j=>match j with | 0=>e | j+1=>eA j,rfl,g2,fun j hj => ?_,fun j hj => ?_⟩
  ·cases j with
   | zero=>exact h1
   | succ j=>exact g3 j (by simpa using hj)
  ·cases j with
   | zero=>subst g1;exact h2
   | succ j=>exact g4 j (by simpa using hj)
theorem range_rounds {M:Mach} {fi:Fi} {g:Operand} {p0 p1:Tmp} {ida:Nat} {opsA:Array Oper} {body:Code} {k:List Item} {env:Vars} {L L2:Heap} {Q:AV->Heap->Prop} {it:FuncId} {A:AV} {xs:List (AV × AV)} {keepA:List Nat}
  (hg:evV env g = .func (.func it) [] [A]) (hit:∀ args w,(callFunc it args).run (M.P ()) w = .ok (.enter it args) w) (hI:ZfY M it A xs) (hna:Zc7 opsA=true) (hnb:Zcg body=true) (hp0:p0<fi.n) (hp1:p1<fi.n)
  (hr:Rounds M fi p0 p1 opsA body env keepA xs L L2) (hk:ZaV M fi k env L2 Q):ZaV M fi (.code (.rangeFunc g #[p0,p1] (.region ida opsA false) body)::k) env L Q:=by
 obtain ⟨Ls,eA,g1,g2,g3,g4⟩:=hr.to
 subst g2
 exact range_sound hg hit hI hna hnb hp0 hp1 Ls g1 eA g3 g4 hk
end Go.Av

namespace Go.Av
open Go.RowKit
theorem Zfc {M:Mach} {n:Nat} {ops:Array Oper} {ans:Nat->Option Ans} {hot:Nat->Nat} {call:Zaw} {Q:Exit->Act->World->Prop} {rest:List Nat}:∀ (l:List Nat) {s sf:RS} {S:St} {a:Act},Zat M.P M.inl call n ops ans hot l s=some sf ->
  (∀ b ∈ sf.asm,b=true)->(∀ q ∈ sf.eqs,q)->(∀ c ∈ sf.calls,c.cond=true->ZbO M c) ->
  HeapOk S->S.L=s.L->TRel S s.env a.tmps->n<=a.tmps.size ->
  (∀ S' a',HeapOk S'->Ext S S'->S'.L=sf.L->TRel S' sf.env a'.tmps->a'.tmps.size=a.tmps.size->a'.defers=a.defers->wpOps (M.P ()) ops Q rest a' S'.w) ->
  wpOps (M.P ()) ops Q (l++rest) a S.w
 | [],s,sf,S,a,h,_,_,_,hS,hL,hT,_,hK=>by
  simp only [Zat,Option.some.injEq] at h;subst h
  exact hK S a hS (Ext.refl S) hL hT rfl rfl
 | i::l,s,sf,S,a,h,hA,hQ,hC,hS,hL,hT,hn,hK=>by
  rw [List.cons_append,wpOps_cons]
  simp only [Zat] at h
  cases ho:ops[i]? with
  | none =>
   rw [ho] at h
   unfold wpOp
   simp only [ho]
   exact Zfc l h hA hQ hC hS hL hT hn hK
  | some o =>
   rw [ho] at h
   simp only at h
   cases h1:Zbk M.P M.inl call n ops (ans i) (hot i) o s with
   | none=>rw [h1] at h;simp at h
   | some s1 =>
    rw [h1] at h
    simp only at h
    obtain ⟨env,L,x,y,z,rfl,_⟩:=ZaW _ h
    refine Zck hS hL hT hn ho h1 (fun b hb=>hA b (by simp [hb])) (fun b hb=>hQ b (by simp [hb])) (fun b hb=>hC b (by simp [hb])) fun S' a' k1 k2 k3 k4 k5 k6 => ?_
    exact Zfc l h hA hQ hC k1 k3 k4 (by rw [k5];exact hn) fun S'' a'' m1 m2 m3 m4 m5 m6=>hK S'' a'' m1 (k2.trans m2) m3 m4 (m5.trans k5) (m6.trans k6)
end Go.Av

namespace Go.Av
open Go.RowKit
def forget2 (keep:List Nat) (env:Env):Vars:=keep.map fun t=>(t,bif Zan env (env.get t).1 then (env.get t).2 else .any)
theorem forget2_rel {S:St} {env:Env} {tm:Array Value} (h:TRel S env tm) (keep:List Nat):VRel S (forget2 keep env) tm:=by
 intro t
 induction keep with
 | nil=>exact .any _
 | cons k keep ih =>
  simp only [forget2,List.map_cons,Vars.get]
  cases hk:k==t with
  | false=>exact ih
  | true =>
   have hk:k=t:=by simpa using hk
   subst hk
   simp only [cond_true]
   cases hc:Zan env (env.get k).1 with
   | true=>exact h.yes k hc
   | false=>exact .any _
def runW (M:Mach) (n:Nat) (ops:Array Oper) (ans:Nat->Option Ans) (l keep:List Nat) (env:Vars) (L:Heap):Option (Vars × Heap × List Bool × List Prop):=
 match Zat M.P M.inl (fun _ _ _=>none) n ops ans (fun _=>2) l ⟨lift env,L,[],[],[]⟩ with
 | some s=>match s.calls with
  | []=>some (forget2 keep s.env,s.L,s.asm,s.eqs)
  | _=>none
 | none=>none
def Zdi (ops:Array Oper) (i:Nat) (env:Vars):Option (Nat × FuncId × List AV):=
 match ops[i]? with
 | some o=>match Za1 ops (lift env) o,o.dst,o.op with
  | some (some c),some d,.call k=>match k.callee with
   | .value f=>match evV env f with
    | .func (.func g) first captured=>bif Zan (lift env) c then some (d,g,first++k.args.toList.map (evV env)++captured) else none
    | _=>none
   | _=>none
  | _,_,_=>none
 | none=>none
theorem call_then2 {M:Mach} {ops:Array Oper} {i d:Nat} {g:FuncId} {args:List AV} {env:Vars} {S:St} {a:Act} {Q:Exit->Act->World->Prop} {rest:List Nat} {Qc:AV->Heap->Prop} (hc:Zdi ops i env=some (d,g,args)) (hS:HeapOk S) (hV:VRel S env a.tmps) (hd:d<a.tmps.size)
  (hO:OwnQ M g args S.L Qc) (hK:∀ v L2 β' w' a',Qc v L2->HeapOk ⟨S.base,S.acc,L2,β',w'⟩->Ext S ⟨S.base,S.acc,L2,β',w'⟩->VRel ⟨S.base,S.acc,L2,β',w'⟩ ((d,v)::env) a'.tmps->a'.tmps.size=a.tmps.size->a'.defers=a.defers->wpOps (M.P ()) ops Q rest a' w') :
  wpOps (M.P ()) ops Q (i::rest) a S.w:=by
 unfold Zdi at hc
 split at hc
 ·rename_i o ho
  split at hc
  ·rename_i ch d' c hg hdst hop
   split at hc
   ·rename_i f hcal
    split at hc
    ·rename_i g' first captured hf
     cases hcv:Zan (lift env) ch with
     | false=>rw [hcv] at hc;simp at hc
     | true =>
     rw [hcv] at hc
     simp only [cond_true,Option.some.injEq,Prod.mk.injEq] at hc
     obtain ⟨rfl,rfl,rfl⟩:=hc
     have hr:=ZeQ (a:=a) hV f
     rw [hf] at hr
     obtain ⟨va,vb,e1,l1,l2,r1,r2⟩:=Zcj hr
     have hrel:RelL S (first++c.args.toList.map (evV env)++captured) (va++c.args.toList.map a.eval++vb):=
      RelL.append (RelL.append ⟨l1,r1⟩ (RelL.map fun x=>ZeQ (a:=a) hV x)) ⟨l2,r2⟩
     obtain ⟨m1,m2⟩:=hO S _ hS rfl hrel
     have hrun:(execOp a.eval o).run (M.P ()) S.w=(callFunc g' ⟨va++c.args.toList.map a.eval++vb⟩).run (M.P ()) S.w:=by
      have e2:(⟨va⟩:Array Value)++c.args.map a.eval++⟨vb⟩=⟨va++c.args.toList.map a.eval++vb⟩:=by
       apply Array.ext';simp
      simp only [execOp,hop,resolve,hcal,e1,Deferred.ofValue,Sem.run_bind,Sem.run_pure,Result.andThen_ok,invoke,e2]
     rw [wpOps_cons]
     unfold wpOp
     have hw:Region.wanted o (yielded ops a.tmps)=true:=by
      rw [(ZdN (Zcm hV) hg).2,hcv]
     simp only [ho,hw,if_true]
     left
     unfold Oper.wp
     rw [hrun,m1,Oper.upon_enter]
     refine Calls.mono m2 fun e w' he => ?_
     cases e with
     | returned cv =>
      obtain ⟨v,L2,β',q1,q2,q3,q4⟩:=he
      refine hK v L2 β' w' _ q1 q2 q3 ?_ (ZcG _ _ _) (by rw [hdst];rfl)
      rw [hdst]
      exact vrel_set (fun t=>(hV t).mono q3) hd q4
     | panicked c=>exact he.elim
     | outgrown=>exact he.elim
    ·simp at hc
   ·simp at hc
  ·simp at hc
 ·simp at hc
def ZeO (M:Mach) (n:Nat) (ops:Array Oper) (l:List Nat) (env:Vars) (L:Heap) (K:Vars->Heap->Prop):Prop:=
 ∀ (S:St) (a:Act) (Q:Exit->Act->World->Prop),HeapOk S->S.L=L->VRel S env a.tmps->n<=a.tmps.size ->
  (∀ (S':St) a' env',HeapOk S'->Ext S S'->VRel S' env' a'.tmps->K env' S'.L->a'.tmps.size=a.tmps.size->a'.defers=a.defers->Q .normal a' S'.w)->wpOps (M.P ()) ops Q l a S.w
theorem ZeO.nil {M:Mach} {n:Nat} {ops:Array Oper} {env:Vars} {L:Heap} {K:Vars->Heap->Prop} (h:K env L):ZeO M n ops [] env L K:=fun S a _ hS hL hV _ hK=>hK S a env hS (Ext.refl S) hV (by rw [hL];exact h) rfl rfl
theorem ZeO.run {M:Mach} {n:Nat} {ops:Array Oper} {env env1:Vars} {L L1:Heap} {K:Vars->Heap->Prop} {ans:Nat->Option Ans} {asm:List Bool} {eqs:List Prop} {rest:List Nat} (l keep:List Nat) (h:runW M n ops ans l keep env L=some (env1,L1,asm,eqs)) (hA:allB asm) (hQ:allP eqs) (hk:ZeO M n ops rest env1 L1 K):ZeO M n ops (l++rest) env L K:=by
 intro S a Q hS hL hV hn hK
 unfold runW at h
 split at h
 ·rename_i s hs
  split at h
  ·rename_i hc
   simp only [Option.some.injEq,Prod.mk.injEq] at h
   obtain ⟨rfl,rfl,rfl,rfl⟩:=h
   refine Zfc l hs ((Zb6 _).1 hA) ((allP_iff _).1 hQ) (by rw [hc];simp) hS hL (Zcm hV) hn fun S' a' k1 k2 k3 k4 k5 k6 => ?_
   exact hk S' a' Q k1 k3 (forget2_rel k4 keep) (by rw [k5];exact hn) fun S'' a'' env' m1 m2 m3 m4 m5 m6=>hK S'' a'' env' m1 (k2.trans m2) m3 m4 (m5.trans k5) (m6.trans k6)
  ·simp at h
 ·simp at h
theorem ZeO.last {M:Mach} {n:Nat} {ops:Array Oper} {env env1:Vars} {L L1:Heap} {K:Vars->Heap->Prop} {ans:Nat->Option Ans} {asm:List Bool} {eqs:List Prop} (l keep:List Nat) (h:runW M n ops ans l keep env L=some (env1,L1,asm,eqs)) (hA:allB asm) (hQ:allP eqs) (hk:K env1 L1):ZeO M n ops l env L K:=by
 have:=ZeO.run (K:=K) (rest:=[]) l keep h hA hQ (.nil hk)
 rwa [List.append_nil] at this
theorem ZeO.call {M:Mach} (hm:(M.P ()).follows .mixedOrders=true) {n:Nat} {ops:Array Oper} {env:Vars} {L:Heap} {K:Vars->Heap->Prop} {i d:Nat} {g:FuncId} {args:List AV} {rest:List Nat} {Qc:AV->Heap->Prop} (hc:Zdi ops i env=some (d,g,args)) (hd:d<n) (hO:Wp M (.own g args L) Qc) (hk:∀ v L2,Qc v L2->ZeO M n ops rest ((d,v)::env) L2 K):ZeO M n ops (i::rest) env L K:=by
 intro S a Q hS hL hV hn hK
 refine call_then2 (M:=M) hc hS hV (Nat.lt_of_lt_of_le hd hn) (Qc:=Qc) (by rw [hL];exact Zbm hm (c:=.own g args L) hO) fun v L2 β' w' a2 m1 m2 m3 m4 m5 m6 => ?_
 exact hk v L2 m1 _ a2 Q m2 rfl m4 (by rw [m5];exact hn) fun S'' a'' env' p1 p2 p3 p4 p5 p6=>hK S'' a'' env' p1 (m3.trans p2) p3 p4 (p5.trans m5) (p6.trans m6)
theorem Zee {M:Mach} (hm:(M.P ()).follows .mixedOrders=true) {fi:Fi} {id:Nat} {ops:Array Oper} {k:List Item} {env:Vars} {L:Heap} {Q:AV->Heap->Prop} (l:List Nat) (hl:List.range ops.size=l) (h:ZeO M fi.n ops l env L fun env' L'=>Wp M (.run fi k env' L') Q):Wp M (.run fi (.code (.region id ops false)::k) env L) Q:=by
 refine .sem (ZaV.after fun S a h5 h6 h7 h8=>ZdY ?_)
 rw [hl]
 refine h S a _ h5 h6 h7 h8 fun S' a' env' m1 m2 m3 m4 m5 m6 => ?_
 exact ⟨S',env',rfl,m1,m2,Zbm hm (c:=.run fi k env' S'.L) m4,m3,m5,m6⟩
end Go.Av

namespace Go.Av
open Go.Proofs
set_option maxRecDepth 100000
def fi16:Fi:=⟨19,[.tmp 4]⟩
def kp16:List (Nat × List Nat):=[(0,[0,1]),(1,[0,1,5]),(2,[0,1,5,9]),(3,[0,1,5]),(4,[0,1,5,18]),(5,[4]),(6,[4])]
def fiA_at (n:Int) (L:Heap) (Q:AV->Heap->Prop):Prop:=Wp M1 (.run fi16 (atC (cd Try.f16) []) [(0,.ptr 0 0 0 0),(1,.int .i64 n)] L) Q
def ZgL (n i:Int) (L:Heap) (Q:AV->Heap->Prop):Prop:=Wp M1 (.run fi16 (atC (cd Try.f16) [1,0,1,0,0]) [(0,.ptr 0 0 0 0),(1,.int .i64 n),(5,.int .i64 i)] L) Q
def fiC_at (n i:Int) (b:Bool) (L:Heap) (Q:AV->Heap->Prop):Prop:=Wp M1 (.run fi16 (atC (cd Try.f16) [1,0,1,0,0,0,1]) [(0,.ptr 0 0 0 0),(1,.int .i64 n),(5,.int .i64 i),(9,.bool b)] L) Q
def fiD_at (n i:Int) (b:Bool) (L:Heap) (Q:AV->Heap->Prop):Prop:=Wp M1 (.run fi16 (atC (cd Try.f16) [1,0,1,0,0,1,0,0,1]) [(0,.ptr 0 0 0 0),(1,.int .i64 n),(5,.int .i64 i),(18,.bool b)] L) Q
theorem owncall16 {args:List AV} {L:Heap} {Q:AV->Heap->Prop} (h:Wp M1 (.run fi16 [.code (cd Try.f16)] (ZaM 0 args) L) Q):Wp M1 (.own 16 args L) Q:=
 Zfr Try.f16 fi16 (by kernel_rfl) (by kernel_rfl) (by kernel_rfl) (by kernel_rfl) h
theorem fiA (n:Int) (L:Heap)  (Q:AV->Heap->Prop) (H :
  ZgL n 0 L Q) :
 fiA_at n L Q:=by
 unfold fiA_at
 exact Zac (G:=Zab kp16 [] []) 1000 [] ⟨(atC (cd Try.f16) [1,0,1,0,0]),[(0,AV.ptr 0 0 0 0),(1,vi n),(5,vi 0)],L,_,[],_⟩ (by kernel_rfl) b0 q0 c0 H
theorem fiL (n i:Int) (L:Heap)  (Q:AV->Heap->Prop) (H :
  Wp M1 (.run fi16 (atC (cd Try.f16) [1,0,1,0,0,0,0]) [(0,AV.ptr 0 0 0 0),(1,vi n),(5,vi i)] L) Q) :
 ZgL n i L Q:=by
 unfold ZgL
 exact Zac (G:=Zab kp16 [] []) 2 [] ⟨(atC (cd Try.f16) [1,0,1,0,0,0,0]),[(0,AV.ptr 0 0 0 0),(1,vi n),(5,vi i)],L,_,[],_⟩ (by kernel_rfl) b0 q0 c0 H
theorem fiC (n i:Int) (b:Bool) (L:Heap)  (Q:AV->Heap->Prop) (H :
  ((b=true)->Wp M1 (.run fi16 (atC (cd Try.f16) [1,0,1,0,0,1,0,0,0]) [(0,AV.ptr 0 0 0 0),(1,vi n),(5,vi i),(9,vb b)] L) Q) /\
  (¬(b=true)->Q (vb true) L)) :
 fiC_at n i b L Q:=by
 unfold fiC_at
 rcases xq H with ⟨d2,H⟩|⟨d2,H⟩
 ·exact Zac (G:=Zab kp16 [] []) 5 [true] ⟨(atC (cd Try.f16) [1,0,1,0,0,1,0,0,0]),[(0,AV.ptr 0 0 0 0),(1,vi n),(5,vi i),(9,vb b)],L,[(b)==true],[],_⟩ (by kernel_rfl) (bc (Zam ((Zas _).2 d2)) b0) q0 c0 H
 ·exact Zai (G:=Zab kp16 [] []) 1000 [false] (k:=((atC (cd Try.f16) [1,1,1])).tail) (env':=[(4,vb true)]) (L':=L) (asm:=[(b)==false]) (eqs:=[]) (calls:=[]) (vb true) (by kernel_rfl) (by kernel_rfl) (Zaa (Zal (fun h=>d2 ((Zas _).1 h))) Zad) Zaf Zag H
theorem fiD (n i:Int) (b:Bool) (L:Heap)  (Q:AV->Heap->Prop) (H :
  ((b=true)->Q (vb false) L) /\
  (¬(b=true)->(-9223372036854775808<=i+1/\i+1<=9223372036854775807) /\
   ZgL n (i+1) L Q)) :
 fiD_at n i b L Q:=by
 unfold fiD_at
 rcases xq H with ⟨d2,H⟩|⟨d2,H⟩
 ·exact Zai (G:=Zab kp16 [] []) 1000 [true] (k:=((atC (cd Try.f16) [1,0,1,0,0,1,0,0,1,0,1])).tail) (env':=[(4,vb false)]) (L':=L) (asm:=[(b)==true]) (eqs:=[]) (calls:=[]) (vb false) (by kernel_rfl) (by kernel_rfl) (Zaa (Zam ((Zas _).2 d2)) Zad) Zaf Zag H
 ·obtain ⟨k3,H⟩:=H
  have w4:wi (i+1)=i+1:=wI64 k3
  exact Zac (G:=Zab kp16 [] []) 1000 [false] ⟨(atC (cd Try.f16) [1,0,1,0,0]),[(0,AV.ptr 0 0 0 0),(1,vi n),(5,vi (wi (i+1)))],L,[(b)==false],[],_⟩ (by kernel_rfl) (bc (Zal (fun h=>d2 ((Zas _).1 h))) b0) q0 c0 (by (try rw [w4]);all_goals exact H)
end Go.Av

namespace Go.Av
open Go.Proofs
def cNo:Nat->Option Ans:=fun _=>none
theorem cB0:allB []:=trivial
theorem cP0:allP []:=trivial
section
variable {l:List Mo} {B S A j:Int} {fm:Bool}
theorem index_hq {s:Cs} (hs:Iv l B s) (f:Option Nat):Ev M1 (.own 14 [.ptr 0 0 0 0] (N.hq fm l S A j s f)) (.int .i64 s.ix) (N.hq fm l S A j s f):=by
 obtain ⟨ix,p,X,k,bk,hd,br,P,q⟩:=s
 cases X with
 | none =>
  obtain ⟨hk0,hb0,_⟩:=hs.rest rfl
  simp only at hk0 hb0
  subst hk0;subst hb0
  cases f with
  | none=>exact evo14_a fm l S A j ix p hd br q.x q.y q.z
  | some w=>exact evo14_b fm l S A j ix p hd br q.x q.y q.z P w false
 | some X =>
  cases f with
  | none=>exact evo14_c fm l S A j ix p k bk hd br q.x q.y q.z X
  | some w=>exact evo14_d fm l S A j ix p k bk hd br q.x q.y q.z X P w false
end
section
variable {l:List Mo} {S A j:Int}
theorem stF_none {ix p qx qy qz:Int} {f:Option Nat} (h:N.stF l ix p qx qy qz f=none):f=none:=by
 cases f with
 | none=>rfl
 | some w=>cases h
theorem advF_none {s:Cs} {X:List Int} {k:Int} {f:Option Nat} (h:N.advF l s X k f=none):f=none:=by
 unfold N.advF at h
 split at h
 ·exact stF_none h
 ·exact h
theorem tickF_none {s:Cs} {f:Option Nat} (h:N.Zef l S A j s f=none):f=none:=by
 unfold N.Zef at h
 split at h
 ·exact h
 ·split at h
  ·exact advF_none h
  ·split at h
   ·exact h
   ·split at h
    ·exact h
    ·exact advF_none h
end
noncomputable def fiO2:Array Oper:=match atC (cd Try.f16) [1,0,1,0,0,0,0] with
 | .code (.region _ ops _)::_=>ops
 | _ => #[]
noncomputable def fiO4:Array Oper:=match atC (cd Try.f16) [1,0,1,0,0,1,0,0,0] with
 | .code (.region _ ops _)::_=>ops
 | _ => #[]
theorem fiC2:atC (cd Try.f16) [1,0,1,0,0,0,0] = .code (.region 2 fiO2 false)::atC (cd Try.f16) [1,0,1,0,0,0,1]:=by kernel_rfl
theorem fiC4:atC (cd Try.f16) [1,0,1,0,0,1,0,0,0] = .code (.region 4 fiO4 false)::atC (cd Try.f16) [1,0,1,0,0,1,0,0,1]:=by kernel_rfl
theorem fiR2:List.range fiO2.size=[0]++1::[2,3]:=by kernel_rfl
theorem fiR4:List.range fiO4.size=[0,1,2]++([3]++4::[5,6]):=by kernel_rfl
section
variable (n i:Int) (L:Heap)
def fiE:Vars:=[(0,.ptr 0 0 0 0),(1,.int .i64 n),(5,.int .i64 i)]
theorem fiV2:runW M1 fi16.n fiO2 cNo [0] [0,1,5,6] (fiE n i) L=some (fiE n i++[(6,.ptr 0 0 0 0)],L,[],[]):=by kernel_rfl
theorem fiK2:Zdi fiO2 1 (fiE n i++[(6,.ptr 0 0 0 0)])=some (7,14,[.ptr 0 0 0 0]):=by kernel_rfl
theorem fiW2 (x:Int):runW M1 fi16.n fiO2 cNo [2,3] [0,1,5,9] ((7,.int .i64 x)::(fiE n i++[(6,.ptr 0 0 0 0)])) L=some (fiE n i++[(9,.bool (decide (x<n)))],L,[],[]):=by kernel_rfl
theorem fiV4:runW M1 fi16.n fiO4 cNo [0,1,2] [0,1,5,14] (fiE n i) L=some (fiE n i++[(14,.bool (decide (i>20000)))],L,[],[]):=by kernel_rfl
theorem fiU4:runW M1 fi16.n fiO4 cNo [3] [0,1,5,14,15] (fiE n i++[(14,.bool false)]) L=some (fiE n i++[(14,.bool false),(15,.ptr 0 0 0 0)],L,[],[]):=by kernel_rfl
theorem fiK4:Zdi fiO4 4 (fiE n i++[(14,.bool false),(15,.ptr 0 0 0 0)])=some (16,10,[.ptr 0 0 0 0]):=by kernel_rfl
theorem fiW4 (b:Bool):runW M1 fi16.n fiO4 cNo [5,6] [0,1,5,18] ((16,.bool b)::(fiE n i++[(14,.bool false),(15,.ptr 0 0 0 0)])) L=some (fiE n i++[(18,.bool (!b))],L,[],[]):=by kernel_rfl
end
section
variable {l:List Mo} {B S A j:Int} (fm:Bool)
theorem fi_loop (hl:N.okL l) (hg:N.good l S A j) (hB:B<=1000000000) {J:Cs->Prop} {m:Cs->Int} (hJ:∀ s,J s->Iv l B s/\0<=m s/\(s.ix<l.length->(N.Zbp l S A j s).2=true/\J (N.Zbp l S A j s).1/\m (N.Zbp l S A j s).1<m s)) :
  ∀ (k:Nat) (i:Int) (s:Cs) (f:Option Nat),J s->m s<=k->0<=i->i+k<=20000->(f=none->s.P=[]) ->
   ∃ s' f',(J s'/\s'.ix=l.length/\(f'=none->s'.P=[])/\(f'=none->f=none))/\ZgL l.length i (N.hq fm l S A j s f) (isR (.bool true) (N.hq fm l S A j s' f')):=by
 intro k
 have hhead:∀ (i:Int) (s:Cs) (f:Option Nat),J s -> ∀ Q,fiC_at l.length i (decide (s.ix<l.length)) (N.hq fm l S A j s f) Q->ZgL l.length i (N.hq fm l S A j s f) Q:=by
  intro i s f hs Q h
  refine fiL _ _ _ _ ?_
  rw [fiC2]
  refine Zee hm1 _ fiR2 (.run _ _ (fiV2 _ _ _) cB0 cP0 (.call hm1 (fiK2 _ _) (by decide) (index_hq (hJ s hs).1 f) fun v L2 ⟨e1,e2⟩ => ?_))
  subst e1;subst e2
  exact .last _ _ (fiW2 _ _ _ _) cB0 cP0 h
 induction k with
 | zero =>
  intro i s f hs hm h0 hi hf
  obtain ⟨hI,hm0,hst⟩:=hJ s hs
  have hix:=hI.ixr
  have he:¬s.ix<l.length:=fun y=>by
   obtain ⟨_,h2,h3⟩:=hst y
   have:=(hJ _ h2).2.1
   omega
  refine ⟨s,f,⟨hs,by omega,hf,fun h=>h⟩,hhead i s f hs _ (fiC _ _ _ _ _ ⟨fun y=>absurd (of_decide_eq_true y) he,fun _=>⟨rfl,rfl⟩⟩)⟩
 | succ k ih =>
  intro i s f hs hm h0 hi hf
  obtain ⟨hI,hm0,hst⟩:=hJ s hs
  have hix:=hI.ixr
  by_cases he:s.ix<l.length
  ·obtain ⟨t1,t2,t3⟩:=hst he
   obtain ⟨s',f',h1,h2⟩:=ih (i+1) _ (N.Zef l S A j s f) t2 (by omega) (by omega) (by omega) (tickF_P hl hg hI hf)
   refine ⟨s',f',⟨h1.1,h1.2.1,h1.2.2.1,fun h=>tickF_none (h1.2.2.2 h)⟩,hhead i s f hs _ (fiC _ _ _ _ _ ⟨fun _ => ?_,fun y=>absurd (decide_eq_true he) y⟩)⟩
   refine .less [0,1,5] ?_
   rw [fiC4]
   refine Zee hm1 _ fiR4 (.run _ _ (fiV4 _ _ _) cB0 cP0 ?_)
   rw [decide_eq_false (show ¬i>20000 by omega)]
   refine .run _ _ (fiU4 _ _ _) cB0 cP0 (.call hm1 (fiK4 _ _) (by decide) (tick_ex hl hg hB hI hf) fun v L2 ⟨e1,e2⟩ => ?_)
   subst e1;subst e2
   refine .last _ _ (fiW4 _ _ _ _) cB0 cP0 ?_
   rw [t1]
   exact fiD _ _ _ _ _ ⟨fun y=>(nomatch y),fun _=>⟨by omega,h2⟩⟩
  ·exact ⟨s,f,⟨hs,by omega,hf,fun h=>h⟩,hhead i s f hs _ (fiC _ _ _ _ _ ⟨fun y=>absurd (of_decide_eq_true y) he,fun _=>⟨rfl,rfl⟩⟩)⟩
theorem finish_ex (hl:N.okL l) (hg:N.good l S A j) (hB:B<=1000000000) {J:Cs->Prop} {m:Cs->Int} (hJ:∀ s,J s->Iv l B s/\0<=m s/\(s.ix<l.length->(N.Zbp l S A j s).2=true/\J (N.Zbp l S A j s).1/\m (N.Zbp l S A j s).1<m s)) {s:Cs} {f:Option Nat} (hs:J s) (hm:m s<=20000) (hf:f=none->s.P=[]) :
  ∃ s' f',(J s'/\s'.ix=l.length/\(f'=none->s'.P=[])/\(f'=none->f=none))/\Ev M1 (.own 16 [.ptr 0 0 0 0,.int .i64 l.length] (N.hq fm l S A j s f)) (.bool true) (N.hq fm l S A j s' f'):=by
 have h0:=(hJ s hs).2.1
 obtain ⟨s',f',h1,h2⟩:=fi_loop fm hl hg hB hJ (m s).toNat 0 s f hs (by omega) (by omega) (by omega) hf
 exact ⟨s',f',h1,owncall16 (fiA _ _ _ h2)⟩
end
end Go.Av
