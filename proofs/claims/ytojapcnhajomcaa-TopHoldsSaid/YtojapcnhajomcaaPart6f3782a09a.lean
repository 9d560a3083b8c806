/- PART 5 of the texts of a claim, joined by a program: what each part shows stands at its head. -/
import Derived.Test.YtojapcnhajomcaaPart5beca65e61
import Derived.RangeFuncIn

namespace Go.Av
structure Cs where
 ix:Int
 p:Int
 X:Option (List Int)
 k:Int
 bk:Bool
 hd:Bool
 br:Bool
 P:List Mo
 q:Ps
namespace O
noncomputable def stpN (l:List Mo) (s:Cs):Cs:={ s with X:=none,k:=0,bk:=false,P:=stP l s.ix s.p s.q.x s.q.y s.q.z s.P,q:=po l s.ix s.p,ix:=stI l s.ix s.p,p:=stK l s.ix s.p }
noncomputable def adv (l:List Mo) (s:Cs) (X:List Int) (k:Int):Cs:=if k+1=X.length then stpN l { s with p:=s.p+X.getD k.toNat default } else { s with X:=some X,k:=k+1,p:=s.p+X.getD k.toNat default }
noncomputable def plan (l:List Mo) (S A j:Int) (s:Cs):List Int:=stX (lm (l.getD s.ix.toNat default).r S) A j (lf l s.ix s.p)
noncomputable def planE (l:List Mo) (S A j:Int) (s:Cs):Int:=stE (lm (l.getD s.ix.toNat default).r S) A j (lf l s.ix s.p)
noncomputable def Zbq (l:List Mo) (S A j:Int) (s:Cs):Cs × Bool:=
 if s.br=true\/s.ix=l.length then (s,false) else
 match s.X with
 | some X=>(adv l s X s.k,true)
 | none=>if s.hd=true then (s,false) else if ¬planE l S A j s=0\/((plan l S A j s).length:Int)=0 then (s,false) else (adv l s (plan l S A j s) 0,true)
noncomputable def D (l:List Mo) (ix p:Int):Int:=((l.drop ix.toNat).map ml).sum-p
def okT (l:List Mo):Prop:=okL l/\chain l
def hasB (l:List Mo):Prop:=∀ i,i<l.length->(l.getD i default).b=i
end O
structure Iv (l:List Mo) (B:Int) (s:Cs):Prop where
 ixr:0<=s.ix/\s.ix<=l.length
 mot:s.ix<l.length->¬O.ml (l.getD s.ix.toNat default)=0/\0<=s.p/\s.p<O.ml (l.getD s.ix.toNat default)
 fin:s.ix=l.length->s.p=0/\s.X=none
 plan:∀ X,s.X=some X->(0<=s.k/\s.k<X.length/\X.length<=1000000)/\(∀ x ∈ X,1<=x)/\s.p+(X.drop s.k.toNat).sum<=O.ml (l.getD s.ix.toNat default)
 rest:s.X=none->s.k=0/\s.bk=false/\s.q=O.po l s.ix s.p
 pb:∀ X,s.X=some X -> ∀ x ∈ X,x<=1000000
 kb:∀ X,s.X=some X->s.bk=false->1<=s.k
 wi:O.hasB l->WI l s.P s.ix.toNat s.q
 few:(s.P.length:Int)+O.D l s.ix s.p+(if s.X=none then 0 else 1)<=B
section
variable {l:List Mo} {B:Int}
theorem skF_sum:∀ (k i:Nat),i+k=l.length->((l.drop (O.skF l k i)).map O.ml).sum=((l.drop i).map O.ml).sum
 | 0,i,_=>rfl
 | k+1,i,h=>by
  unfold O.skF
  by_cases hc:i<l.length/\O.ml (l.getD i default)=0
  ·rw [if_pos hc,skF_sum k (i+1) (by omega),List.drop_eq_getElem_cons hc.1,List.map_cons,List.sum_cons]
   have:=hc.2
   rw [List.getD_eq_getElem?_getD,List.getElem?_eq_getElem hc.1,Option.getD_some] at this
   omega
  ·rw [if_neg hc]
theorem drop_sum {i:Nat} (h:i<l.length):((l.drop i).map O.ml).sum=O.ml (l.getD i default)+((l.drop (i+1)).map O.ml).sum:=by
 rw [List.drop_eq_getElem_cons h,List.map_cons,List.sum_cons,List.getD_eq_getElem?_getD,List.getElem?_eq_getElem h];rfl
theorem dropX_sum {X:List Int} {i:Nat} (h:i<X.length):(X.drop i).sum=X.getD i default+(X.drop (i+1)).sum:=by
 rw [List.drop_eq_getElem_cons h,List.sum_cons,List.getD_eq_getElem?_getD,List.getElem?_eq_getElem h];rfl
theorem sum_ml_nn:∀ L:List Mo,0<=(L.map O.ml).sum
 | []=>Int.le_refl _
 | m::L=>by rw [List.map_cons,List.sum_cons];have:=Zgx m;have:=sum_ml_nn L;omega
theorem po_mid {ix p:Int} (h0:0<=ix) (h:ix<l.length):O.po l ix p=O.at3 (l.getD ix.toNat default) p:=by
 unfold O.po
 rw [if_neg (by omega),if_neg (by omega)]
theorem stpN_ok (ht:O.okT l) {s:Cs} (h0:0<=s.ix/\s.ix<l.length) (hm:¬O.ml (l.getD s.ix.toNat default)=0) (hp:0<=s.p/\s.p<=O.ml (l.getD s.ix.toNat default)) (hw:O.hasB l->WI l s.P s.ix.toNat s.q) (hB:(s.P.length:Int)+O.D l s.ix s.p+1<=B) :
  Iv l B (O.stpN l s)/\O.D l (O.stpN l s).ix (O.stpN l s).p=O.D l s.ix s.p/\(O.stpN l s).hd=s.hd/\(O.stpN l s).br=s.br:=by
 obtain ⟨hl,hc⟩:=ht
 obtain ⟨i,hi⟩:=Int.eq_ofNat_of_zero_le h0.1
 obtain ⟨ix,p,X,k,bk,hd,br,P,q⟩:=s
 simp only at h0 hm hp hw hB hi
 subst hi
 rw [Int.toNat_natCast] at hm hp hw
 have hlt:i<l.length:=by omega
 have hpo:O.po l (i:Int) p=O.at3 (l.getD i default) p:=by rw [po_mid (by omega) h0.2,Int.toNat_natCast]
 have hw2:(O.hasB l->WI l (O.stP l (i:Int) p q.x q.y q.z P) i (O.po l (i:Int) p))/\((O.stP l (i:Int) p q.x q.y q.z P).length:Int)<=P.length+1:=by
  unfold O.stP
  by_cases hcq:O.pcB l (i:Int) p q.x q.y q.z=true
  ·rw [if_pos hcq]
   refine ⟨?_,by rw [List.length_append,List.length_singleton];omega⟩
   have e:O.pcM l (i:Int) p q.x q.y q.z=(l.getD i default).cut q (O.po l (i:Int) p):=by
    unfold O.pcM
    rw [if_neg (by omega),Int.toNat_natCast]
   rw [e]
   exact fun hb=>wi_piece hb hlt (hw hb)
  ·rw [if_neg hcq]
   have:q=O.po l (i:Int) p:=by
    have:=(pcB_iff (l:=l) (ix:=(i:Int)) (p:=p) (qx:=q.x) (qy:=q.y) (qz:=q.z) (by omega))
    exact Classical.byContradiction fun y=>hcq (this.2 y)
   rw [<- this]
   exact ⟨hw,by omega⟩
 have hDn:O.D l (i:Int) p=O.ml (l.getD i default)+((l.drop (i+1)).map O.ml).sum-p:=by
  unfold O.D
  rw [Int.toNat_natCast,drop_sum hlt]
 by_cases hz:O.lf l (i:Int) p=0
 ·have hz':p=O.ml (l.getD i default):=by unfold O.lf at hz;rw [Int.toNat_natCast] at hz;omega
  have eI:O.stI l (i:Int) p=((O.sk l (i+1):Nat):Int):=by
   unfold O.stI O.skI
   rw [if_pos hz,show ((i:Int)+1).toNat=i+1 by omega]
  have eK:O.stK l (i:Int) p=0:=by unfold O.stK;rw [if_pos hz]
  obtain ⟨⟨k1,k2⟩,k3,k4⟩:=sk_spec (L:=l) (i:=i+1) (by omega)
  have hdst:O.po l (i:Int) p=(l.getD i default).dst:=by rw [hpo,hz',at3_full hm]
  have hwd:=fun hb=>wi_done hc hlt hm (hw2.1 hb) hdst
  have hDs:O.D l ((O.sk l (i+1):Nat):Int) 0=O.D l (i:Int) p:=by
   rw [hDn]
   unfold O.D O.sk
   rw [Int.toNat_natCast,skF_sum _ _ (by omega)];omega
  have hposk:O.po l ((O.sk l (i+1):Nat):Int) 0=(l.getD i default).dst:=by
   have e1:O.pos l (O.sk l (i+1))=(l.getD i default).dst:=by rw [sk_pos hc (by omega),pos_succ hc hlt]
   rw [<- e1]
   unfold O.pos
   by_cases hq:O.sk l (i+1)<l.length
   ·rw [if_pos hq,po_mid (by omega) (by omega),Int.toNat_natCast,at3_zero (k3 hq)]
   ·rw [if_neg hq]
    unfold O.po
    rw [if_neg (by omega),if_pos (by omega),show (((O.sk l (i+1):Nat):Int)-1).toNat=l.length-1 by omega]
  unfold O.stpN
  simp only [eI,eK]
  refine ⟨⟨?_,?_,?_,?_,?_,(fun X hX=>nomatch hX),?_,?_,?_⟩,hDs,trivial,trivial⟩
  ·simp only;omega
  ·simp only
   intro hq
   rw [Int.toNat_natCast]
   have:=k3 (by omega)
   have:=Zgx (l.getD (O.sk l (i+1)) default)
   exact ⟨k3 (by omega),by omega,by omega⟩
  ·simp only;intro _;exact ⟨trivial,trivial⟩
  ·simp only;intro X hX;cases hX
  ·simp only;intro _;exact ⟨trivial,trivial,by rw [hposk,hdst]⟩
  ·simp only;intro X hX;cases hX
  ·simp only;rw [Int.toNat_natCast];exact hwd
  ·simp only
   rw [hDs,if_pos trivial]
   have:=hw2.2
   omega
 ·have eI:O.stI l (i:Int) p=(i:Int):=by unfold O.stI;rw [if_neg hz]
  have eK:O.stK l (i:Int) p=p:=by unfold O.stK;rw [if_neg hz]
  have hz':p<O.ml (l.getD i default):=by unfold O.lf at hz;rw [Int.toNat_natCast] at hz;omega
  unfold O.stpN
  simp only [eI,eK]
  refine ⟨⟨?_,?_,?_,?_,?_,(fun X hX=>nomatch hX),?_,?_,?_⟩,trivial,trivial,trivial⟩
  ·simp only;omega
  ·simp only
   intro _
   rw [Int.toNat_natCast]
   exact ⟨hm,hp.1,hz'⟩
  ·simp only;intro hq;omega
  ·simp only;intro X hX;cases hX
  ·simp only;intro _;exact ⟨trivial,trivial,trivial⟩
  ·simp only;intro X hX;cases hX
  ·simp only;rw [Int.toNat_natCast];exact hw2.1
  ·simp only
   rw [if_pos trivial]
   have:=hw2.2
   omega
theorem adv_ok (ht:O.okT l) {s:Cs} {X:List Int} {k:Int} (hs:Iv l B s) (h0:s.ix<l.length) (hk:0<=k/\k<X.length/\X.length<=1000000) (hX:∀ x ∈ X,1<=x) (hXb:∀ x ∈ X,x<=1000000) (hsum:s.p+(X.drop k.toNat).sum<=O.ml (l.getD s.ix.toNat default)) (hbk:s.X=none\/s.X=some X) :
  Iv l B (O.adv l s X k)/\O.D l (O.adv l s X k).ix (O.adv l s X k).p<O.D l s.ix s.p/\(O.adv l s X k).hd=s.hd/\(O.adv l s X k).br=s.br:=by
 have hx:1<=X.getD k.toNat default:=by
  refine hX _ ?_
  rw [List.getD_eq_getElem?_getD,List.getElem?_eq_getElem (by omega)]
  exact List.getElem_mem _
 have hd:=dropX_sum (X:=X) (i:=k.toNat) (by omega)
 have hrest:0<=(X.drop (k.toNat+1)).sum:=by
  have:=ZcZ (X.drop (k.toNat+1)) fun x hx=>hX x (List.mem_of_mem_drop hx)
  omega
 obtain ⟨hm,hp1,hp2⟩:=hs.mot h0
 have hfew:=hs.few
 have hD:O.D l s.ix (s.p+X.getD k.toNat default)=O.D l s.ix s.p-X.getD k.toNat default:=by unfold O.D;omega
 unfold O.adv
 by_cases he:k+1=X.length
 ·rw [if_pos he]
  obtain ⟨q1,q2,q3,q4⟩:=stpN_ok (B:=B) ht (s:={ s with p:=s.p+X.getD k.toNat default }) ⟨hs.ixr.1,h0⟩ hm ⟨by simp only;omega,by simp only;omega⟩ hs.wi (by
   simp only
   rw [hD]
   split at hfew <;> omega)
  refine ⟨q1,?_,q3,q4⟩
  rw [q2]
  simp only
  omega
 ·rw [if_neg he]
  have hlast:1<=(X.drop (k.toNat+1)).sum:=by
   have:=ZcZ (X.drop (k.toNat+1)) fun x hx=>hX x (List.mem_of_mem_drop hx)
   rw [List.length_drop] at this
   omega
  refine ⟨⟨hs.ixr,fun _=>⟨hm,by simp only;omega,by simp only;omega⟩,fun h=>absurd h (by simp only;omega),fun Y hY => ?_,fun h=>(nomatch h),fun Y hY => ?_,fun Y hY _=>by simp only;omega,hs.wi,?_⟩,by simp only;omega,rfl,rfl⟩
  ·simp only [Option.some.injEq] at hY
   subst hY
   simp only
   rw [show (k+1).toNat=k.toNat+1 by omega]
   exact ⟨by omega,hX,by omega⟩
  ·simp only [Option.some.injEq] at hY
   subst hY
   exact hXb
  ·simp only
   rw [hD,if_neg (by simp)]
   split at hfew <;> omega
end
end Go.Av

namespace Go.Av
open Go.Proofs
namespace O
def plA:Option (List Int)->AV
 | none => .vnil
 | some X => .vec false 1 (X.map (.int .i64))
def Cr (fm:Bool) (l:List Mo) (S A j:Int) (s:Cs) (pc:AV):Row:=⟨[.agg [.vec fm 9 (l.map Mo.a),.int .i64 S,.int .i64 A,.int .i64 j,.int .i64 s.ix,.int .i64 s.p,plA s.X,.int .i64 s.k,.bool s.bk,.bool s.hd,.bool s.br,pc,.int .i64 s.q.x,.int .i64 s.q.y,.int .i64 s.q.z]],15,0,false,false⟩
def Rw (P:List Mo) (w:Nat):Row:=⟨P.map Mo.a,9,w,false,true⟩
def good (l:List Mo) (S A j:Int):Prop:=∀ i,i<l.length->okR (l.getD i default).r /\ ∀ n:Int,0<=n->n<=400000->stE (lm (l.getD i default).r S) A j n=0
end O
inductive RM (fm:Bool) (l:List Mo) (S A j:Int) (s:Cs):Heap->Prop
 | nil:s.P=[]->RM fm l S A j s [O.Cr fm l S A j s .vnil]
 | row (w:Nat):RM fm l S A j s [O.Cr fm l S A j s (.row 1 w),O.Rw s.P w]
section
variable {l:List Mo} {B S A j:Int} {fm:Bool}
theorem sum_nn:∀ L:List Mo,0<=(L.map O.ml).sum:=sum_ml_nn
theorem le_sum:∀ L:List Int,(∀ x ∈ L,1<=x) -> ∀ x ∈ L,x<=L.sum:=by
 intro L
 induction L with
 | nil=>intro _ x h;cases h
 | cons y L ih =>
  intro hl x hx
  have hy:=hl y (List.mem_cons_self ..)
  have hs:=ZcZ L fun z hz=>hl z (List.mem_cons_of_mem _ hz)
  rw [List.sum_cons]
  rcases List.mem_cons.1 hx with e | e
  ·omega
  ·have:=ih (fun z hz=>hl z (List.mem_cons_of_mem _ hz)) x e
   omega
theorem iv_D {s:Cs} (hs:Iv l B s):0<=O.D l s.ix s.p:=by
 have h1:=hs.ixr
 obtain ⟨i,hi⟩:=Int.eq_ofNat_of_zero_le h1.1
 unfold O.D
 by_cases h:s.ix<l.length
 ·have hm:=hs.mot h
  rw [drop_sum (by omega)]
  have:=sum_nn (l.drop (s.ix.toNat+1))
  omega
 ·have:=hs.fin (by omega)
  have:=sum_nn (l.drop s.ix.toNat)
  omega
theorem iv_G (hl:O.okL l) {s:Cs} (hs:Iv l B s) (h:s.ix<l.length):(O.okG l s.ix s.p/\1<=O.lf l s.ix s.p/\O.lf l s.ix s.p<=400000)/\0<=s.ix/\s.ix.toNat<l.length/\s.p<=400000:=by
 have h1:=hs.ixr
 obtain ⟨m1,m2,m3⟩:=hs.mot h
 have hm:=Zcl (hl.2 s.ix.toNat (by omega))
 unfold O.lf
 exact ⟨⟨⟨hl,⟨h1.1,h⟩,m2,by omega⟩,by omega,by omega⟩,h1.1,by omega,by omega⟩
theorem iv_plan (hl:O.okL l) (hg:O.good l S A j) {s:Cs} (hs:Iv l B s) (h:s.ix<l.length):O.okR (l.getD s.ix.toNat default).r/\O.planE l S A j s=0/\(0<(O.plan l S A j s).length/\(∀ x ∈ O.plan l S A j s,1<=x)/\(O.plan l S A j s).sum=O.lf l s.ix s.p/\(O.plan l S A j s).length<=1000000 /\ ∀ x ∈ O.plan l S A j s,x<=1000000):=by
 obtain ⟨⟨g1,g2,g3⟩,g4,g5,_⟩:=iv_G hl hs h
 obtain ⟨q1,q2⟩:=hg s.ix.toNat g5
 have q3:=q2 _ (show 0<=O.lf l s.ix s.p by omega) g3
 obtain ⟨_,⟨⟨k1,k2⟩,k3⟩,k4,_⟩:=stX_ok (by omega) q3
 refine ⟨q1,q3,?_,k2,k1,by unfold O.plan;omega,fun x hx=>by have:=le_sum _ k2 x hx;omega⟩
 unfold O.plan
 rcases List.eq_nil_or_concat (O.stX (O.lm (l.getD s.ix.toNat default).r S) A j (O.lf l s.ix s.p)) with e | ⟨Y,y,e⟩
 ·rw [e] at k1
  simp at k1
  omega
 ·rw [e];simp
theorem adv_sp (hl:O.okL l) {s:Cs} {X:List Int} {k:Int} (hs:Iv l B s) (hB:B<=1000000000) (h0:s.ix<l.length) (hk:0<=k/\k<X.length) (hX:∀ x ∈ X,1<=x) (hsum:s.p+(X.drop k.toNat).sum<=O.ml (l.getD s.ix.toNat default)) :
  O.okSq l s.ix (s.p+X.getD k.toNat default) s.P /\ -9223372036854775808<=s.p+X.getD k.toNat default/\s.p+X.getD k.toNat default<=9223372036854775807:=by
 have hx:1<=X.getD k.toNat default:=by
  refine hX _ ?_
  rw [List.getD_eq_getElem?_getD,List.getElem?_eq_getElem (by omega)]
  exact List.getElem_mem _
 have hd:=dropX_sum (X:=X) (i:=k.toNat) (by omega)
 have hrest:0<=(X.drop (k.toNat+1)).sum:=by
  have:=ZcZ (X.drop (k.toNat+1)) fun x hx=>hX x (List.mem_of_mem_drop hx)
  omega
 obtain ⟨hm,hp1,hp2⟩:=hs.mot h0
 have h1:=hs.ixr
 have hfew:=hs.few
 have hD:=iv_D hs
 have hmm:=Zcl (hl.2 s.ix.toNat (by omega))
 exact ⟨⟨⟨⟨hl,h1,fun _=>⟨hm,by omega,by omega⟩⟩,h0⟩,by split at hfew <;> omega⟩,by omega,by omega⟩
theorem Zdl {s:Cs} (h:s.br=true\/s.ix=l.length):O.Zbq l S A j s=(s,false):=by unfold O.Zbq;rw [if_pos h]
theorem ZeS {s:Cs} {X:List Int} (h:¬(s.br=true\/s.ix=l.length)) (hX:s.X=some X):O.Zbq l S A j s=(O.adv l s X s.k,true):=by unfold O.Zbq;rw [if_neg h,hX]
theorem ZeT {s:Cs} (h:¬(s.br=true\/s.ix=l.length)) (hX:s.X=none) (hh:s.hd=true):O.Zbq l S A j s=(s,false):=by unfold O.Zbq;rw [if_neg h,hX];simp only;rw [if_pos hh]
theorem ZeR (hl:O.okL l) (hg:O.good l S A j) {s:Cs} (hs:Iv l B s) (h:¬(s.br=true\/s.ix=l.length)) (hX:s.X=none) (hh:¬s.hd=true):O.Zbq l S A j s=(O.adv l s (O.plan l S A j s) 0,true):=by
 have h1:=hs.ixr
 have hlt:s.ix<l.length:=by have:¬s.ix=l.length:=fun y=>h (.inr y);omega
 obtain ⟨_,p2,p3,_⟩:=iv_plan hl hg hs hlt
 unfold O.Zbq
 rw [if_neg h,hX]
 simp only
 rw [if_neg hh,if_neg (by rintro (y | y);exact y p2;omega)]
theorem ZcS {s:Cs} {X:List Int} {k:Int} (h:k+1=X.length):O.adv l s X k=O.stpN l { s with p:=s.p+X.getD k.toNat default }:=by unfold O.adv;rw [if_pos h]
theorem Zec {s:Cs} {X:List Int} {k:Int} (h:¬k+1=X.length):O.adv l s X k = { s with X:=some X,k:=k+1,p:=s.p+X.getD k.toNat default }:=by unfold O.adv;rw [if_neg h]
theorem stP_y {ix p qx qy qz:Int} {P:List Mo} (h:O.pcB l ix p qx qy qz=true):O.stP l ix p qx qy qz P=P++[O.pcM l ix p qx qy qz]:=by unfold O.stP;rw [if_pos h]
theorem stP_n {ix p qx qy qz:Int} {P:List Mo} (h:¬O.pcB l ix p qx qy qz=true):O.stP l ix p qx qy qz P=P:=by unfold O.stP;rw [if_neg h]
theorem tick_ok (ht:O.okT l) (hg:O.good l S A j) {s:Cs} (hs:Iv l B s) (h:¬(s.br=true\/s.ix=l.length)) (hm:s.X=none->¬s.hd=true) :
  (O.Zbq l S A j s).2=true/\Iv l B (O.Zbq l S A j s).1/\O.D l (O.Zbq l S A j s).1.ix (O.Zbq l S A j s).1.p<O.D l s.ix s.p/\(O.Zbq l S A j s).1.hd=s.hd/\(O.Zbq l S A j s).1.br=s.br:=by
 have hlt:s.ix<l.length:=by
  have:=hs.ixr
  have:¬s.ix=l.length:=fun y=>h (.inr y)
  omega
 cases hX:s.X with
 | none =>
  rw [ZeR ht.1 hg hs h hX (hm hX)]
  obtain ⟨_,_,p3,p4,p5,p6,p7⟩:=iv_plan ht.1 hg hs hlt
  exact ⟨rfl,adv_ok ht hs hlt ⟨Int.le_refl _,by omega,p6⟩ p4 p7 (by rw [Int.toNat_zero,List.drop_zero,p5];unfold O.lf;omega) (.inl hX)⟩
 | some X =>
  rw [ZeS h hX]
  obtain ⟨k1,k2,k3⟩:=hs.plan X hX
  exact ⟨rfl,adv_ok ht hs hlt k1 k2 (hs.pb X hX) k3 (.inr hX)⟩
end
end Go.Av

namespace Go.Av
open Go.Proofs
namespace O
def hq (fm:Bool) (l:List Mo) (S A j:Int) (s:Cs):Option Nat->Heap
 | none=>[Cr fm l S A j s .vnil]
 | some w=>[Cr fm l S A j s (.row 1 w),Rw s.P w]
noncomputable def stF (l:List Mo) (ix p qx qy qz:Int):Option Nat->Option Nat
 | none=>if pcB l ix p qx qy qz=true then some 0 else none
 | some w=>some (stW l ix p qx qy qz w)
noncomputable def advF (l:List Mo) (s:Cs) (X:List Int) (k:Int) (f:Option Nat):Option Nat:=if k+1=X.length then stF l s.ix (s.p+X.getD k.toNat default) s.q.x s.q.y s.q.z f else f
noncomputable def Zef (l:List Mo) (S A j:Int) (s:Cs) (f:Option Nat):Option Nat:=
 if s.br=true\/s.ix=l.length then f else
 match s.X with
 | some X=>advF l s X s.k f
 | none=>if s.hd=true then f else if ¬planE l S A j s=0\/((plan l S A j s).length:Int)=0 then f else advF l s (plan l S A j s) 0 f
end O
section
variable {l:List Mo} {B S A j:Int} {fm:Bool}
theorem hq_row {s:Cs} {P:List Mo} {w:Nat} (e:s.P=P):O.hq fm l S A j s (some w)=[O.Cr fm l S A j s (.row 1 w),O.Rw P w]:=by subst e;rfl
theorem stF_y {ix p qx qy qz:Int} (h:O.pcB l ix p qx qy qz=true):O.stF l ix p qx qy qz none=some 0:=by unfold O.stF;simp only;rw [if_pos h]
theorem stF_n {ix p qx qy qz:Int} (h:¬O.pcB l ix p qx qy qz=true):O.stF l ix p qx qy qz none=none:=by unfold O.stF;simp only;rw [if_neg h]
theorem hqs_y {s:Cs} {L:Heap} {ix p qx qy qz:Int} (h:O.pcB l ix p qx qy qz=true) (e:s.P=O.stP l ix p qx qy qz []) (hL:L=[O.Cr fm l S A j s (.row 1 0),O.Rw [O.pcM l ix p qx qy qz] 0]):L=O.hq fm l S A j s (O.stF l ix p qx qy qz none):=by
 rw [stF_y h,hL]
 exact (hq_row (e.trans (stP_y h))).symm
theorem hqs_n {s:Cs} {L:Heap} {ix p qx qy qz:Int} (h:¬O.pcB l ix p qx qy qz=true) (hL:L=[O.Cr fm l S A j s .vnil]):L=O.hq fm l S A j s (O.stF l ix p qx qy qz none):=by
 rw [stF_n h,hL];rfl
theorem stF_P {ix p qx qy qz:Int} {f:Option Nat} {P:List Mo} (h:f=none->P=[]) (h2:O.stF l ix p qx qy qz f=none):O.stP l ix p qx qy qz P=[]:=by
 cases f with
 | none =>
  by_cases hc:O.pcB l ix p qx qy qz=true
  ·rw [stF_y hc] at h2;cases h2
  ·rw [stP_n hc];exact h rfl
 | some w=>cases h2
theorem Zcg {s:Cs} {X:List Int} {k:Int} {f:Option Nat} (h:k+1=X.length):O.advF l s X k f=O.stF l s.ix (s.p+X.getD k.toNat default) s.q.x s.q.y s.q.z f:=by unfold O.advF;rw [if_pos h]
theorem Zdk {s:Cs} {X:List Int} {k:Int} {f:Option Nat} (h:¬k+1=X.length):O.advF l s X k f=f:=by unfold O.advF;rw [if_neg h]
theorem advF_P {s:Cs} {X:List Int} {k:Int} {f:Option Nat} (h:f=none->s.P=[]) (h2:O.advF l s X k f=none):(O.adv l s X k).P=[]:=by
 by_cases he:k+1=X.length
 ·rw [Zcg he] at h2
  rw [ZcS he]
  exact stF_P h h2
 ·rw [Zdk he] at h2
  rw [Zec he]
  exact h h2
theorem ZcY {s:Cs} {f:Option Nat} (h:s.br=true\/s.ix=l.length):O.Zef l S A j s f=f:=by unfold O.Zef;rw [if_pos h]
theorem Zfa {s:Cs} {X:List Int} {f:Option Nat} (h:¬(s.br=true\/s.ix=l.length)) (hX:s.X=some X):O.Zef l S A j s f=O.advF l s X s.k f:=by unfold O.Zef;rw [if_neg h,hX]
theorem Zfb {s:Cs} {f:Option Nat} (h:¬(s.br=true\/s.ix=l.length)) (hX:s.X=none) (hh:s.hd=true):O.Zef l S A j s f=f:=by unfold O.Zef;rw [if_neg h,hX];simp only;rw [if_pos hh]
theorem Ze9 (hl:O.okL l) (hg:O.good l S A j) {s:Cs} {f:Option Nat} (hs:Iv l B s) (h:¬(s.br=true\/s.ix=l.length)) (hX:s.X=none) (hh:¬s.hd=true):O.Zef l S A j s f=O.advF l s (O.plan l S A j s) 0 f:=by
 have h1:=hs.ixr
 have hlt:s.ix<l.length:=by have:¬s.ix=l.length:=fun y=>h (.inr y);omega
 obtain ⟨_,p2,p3,_⟩:=iv_plan hl hg hs hlt
 unfold O.Zef
 rw [if_neg h,hX]
 simp only
 rw [if_neg hh,if_neg (by rintro (y | y);exact y p2;omega)]
theorem tickF_P (hl:O.okL l) (hg:O.good l S A j) {s:Cs} {f:Option Nat} (hs:Iv l B s) (h:f=none->s.P=[]) (h2:O.Zef l S A j s f=none):(O.Zbq l S A j s).1.P=[]:=by
 by_cases h1:s.br=true\/s.ix=l.length
 ·rw [Zdl h1];rw [ZcY h1] at h2;exact h h2
 ·cases hX:s.X with
  | some X=>rw [ZeS h1 hX];rw [Zfa h1 hX] at h2;exact advF_P h h2
  | none =>
   by_cases hh:s.hd=true
   ·rw [ZeT h1 hX hh];rw [Zfb h1 hX hh] at h2;exact h h2
   ·rw [ZeR hl hg hs h1 hX hh];rw [Ze9 hl hg hs h1 hX hh] at h2;exact advF_P h h2
theorem RM_hq {s:Cs} {f:Option Nat} (h:f=none->s.P=[]):RM fm l S A j s (O.hq fm l S A j s f):=by
 cases f with
 | none=>exact .nil (h rfl)
 | some w=>exact .row w
theorem tick_ex (hl:O.okL l) (hg:O.good l S A j) (hB:B<=1000000000) {s:Cs} (hs:Iv l B s) {f:Option Nat} (hf:f=none->s.P=[]):Ev M1 (.own 10 [.ptr 0 0 0 0] (O.hq fm l S A j s f)) (.bool (O.Zbq l S A j s).2) (O.hq fm l S A j (O.Zbq l S A j s).1 (O.Zef l S A j s f)):=by
 obtain ⟨ix,p,X,k,bk,hd,br,P,q⟩:=s
 have hlt:∀ h:¬(br=true\/ix=l.length),ix<l.length:=fun h=>by
  have:=hs.ixr
  have:¬ix=l.length:=fun y=>h (.inr y)
  simp only at *
  omega
 cases X with
 | none =>
  obtain ⟨hk0,hb0,_⟩:=hs.rest rfl
  simp only at hk0 hb0
  subst hk0;subst hb0
  have hplan:∀ (h:¬(br=true\/ix=l.length)),_:=fun h=>iv_plan hl hg hs (hlt h)
  have hsq:∀ (h:¬(br=true\/ix=l.length)),_:=fun h=>adv_sp (X:=O.plan l S A j ⟨ix,p,none,0,false,hd,br,P,q⟩) (k:=0) hl hs hB (hlt h) ⟨Int.le_refl _,by have:=(hplan h).2.2.1;omega⟩ (hplan h).2.2.2.1 (by
   have:=(hplan h).2.2.2.2.1
   rw [Int.toNat_zero,List.drop_zero,this]
   unfold O.lf
   simp only;omega)
  cases f with
  | none =>
   have hP:=hf rfl
   simp only at hP
   subst hP
   refine ZdE (Zcz (tcA fm l S A j ix p hd br q.x q.y q.z _ ⟨fun h => ?_,fun h=>⟨fun h2 => ?_,fun h2 => ?_⟩⟩))
   ·rw [Zdl h,ZcY h];exact ⟨rfl,rfl⟩
   ·rw [ZeT h rfl h2,Zfb h rfl h2];exact ⟨rfl,rfl⟩
   ·obtain ⟨⟨g1,g2,g3⟩,g4,g5,_⟩:=iv_G hl hs (hlt h)
    obtain ⟨p1,p2,p3,p4,p5,_,_⟩:=hplan h
    obtain ⟨⟨s1,s2⟩,s3⟩:=hsq h
    rw [ZeR hl hg hs h rfl h2,Ze9 hl hg hs h rfl h2]
    refine ⟨g1,p1,by unfold O.okSt;simp only at g3;omega,g4,g5,fun z => ?_,fun _=>⟨p3,s3,fun h3=>⟨fun hc=>⟨s1,?_⟩,fun hc=>⟨s1,?_⟩⟩,fun h3 => ?_⟩⟩
    ·rcases z with z | z
     ·exact absurd p2 z
     ·have:=p3;unfold O.plan at this;simp only at this;omega
    ·rw [ZcS (by rw [Int.zero_add];exact h3),Zcg (by rw [Int.zero_add];exact h3)]
     exact ⟨rfl,hqs_y hc rfl rfl⟩
    ·rw [ZcS (by rw [Int.zero_add];exact h3),Zcg (by rw [Int.zero_add];exact h3)]
     exact ⟨rfl,hqs_n hc rfl⟩
    ·rw [Zec (by rw [Int.zero_add];exact h3),Zdk (by rw [Int.zero_add];exact h3)]
     exact ⟨rfl,rfl⟩
  | some w =>
   refine ZdE (Zcz (tcB fm l S A j ix p hd br q.x q.y q.z P w _ ⟨fun h => ?_,fun h=>⟨fun h2 => ?_,fun h2 => ?_⟩⟩))
   ·rw [Zdl h,ZcY h];exact ⟨rfl,rfl⟩
   ·rw [ZeT h rfl h2,Zfb h rfl h2];exact ⟨rfl,rfl⟩
   ·obtain ⟨⟨g1,g2,g3⟩,g4,g5,_⟩:=iv_G hl hs (hlt h)
    obtain ⟨p1,p2,p3,p4,p5,_,_⟩:=hplan h
    obtain ⟨s1,s3⟩:=hsq h
    rw [ZeR hl hg hs h rfl h2,Ze9 hl hg hs h rfl h2]
    refine ⟨g1,p1,by unfold O.okSt;simp only at g3;omega,g4,g5,fun z => ?_,fun _=>⟨p3,s3,fun h3=>⟨s1,?_⟩,fun h3 => ?_⟩⟩
    ·rcases z with z | z
     ·exact absurd p2 z
     ·have:=p3;unfold O.plan at this;simp only at this;omega
    ·rw [ZcS (by rw [Int.zero_add];exact h3),Zcg (by rw [Int.zero_add];exact h3)]
     exact ⟨rfl,rfl⟩
    ·rw [Zec (by rw [Int.zero_add];exact h3),Zdk (by rw [Int.zero_add];exact h3)]
     exact ⟨rfl,rfl⟩
 | some X =>
  obtain ⟨hk,hX,hsum⟩:=hs.plan X rfl
  simp only at hk hX hsum
  have hsq:∀ (h:¬(br=true\/ix=l.length)),_:=fun h=>adv_sp (X:=X) (k:=k) hl hs hB (hlt h) ⟨hk.1,hk.2.1⟩ hX hsum
  cases f with
  | none =>
   have hP:=hf rfl
   simp only at hP
   subst hP
   refine ZdE (Zcz (tcC fm l S A j ix p k bk hd br q.x q.y q.z X _ ⟨fun h => ?_,fun h=>⟨fun z=>absurd z (by omega),fun _ => ?_⟩⟩))
   ·rw [Zdl h,ZcY h];exact ⟨rfl,rfl⟩
   ·obtain ⟨⟨s1,s2⟩,s3⟩:=hsq h
    rw [ZeS h rfl,Zfa h rfl]
    refine ⟨hk.1,by omega,s3,by omega,fun h3=>⟨fun hc=>⟨s1,?_⟩,fun hc=>⟨s1,?_⟩⟩,fun h3 => ?_⟩
    ·rw [ZcS h3,Zcg h3]
     exact ⟨rfl,hqs_y hc rfl rfl⟩
    ·rw [ZcS h3,Zcg h3]
     exact ⟨rfl,hqs_n hc rfl⟩
    ·rw [Zec h3,Zdk h3]
     exact ⟨rfl,rfl⟩
  | some w =>
   refine ZdE (Zcz (tcD fm l S A j ix p k bk hd br q.x q.y q.z X P w _ ⟨fun h => ?_,fun h=>⟨fun z=>absurd z (by omega),fun _ => ?_⟩⟩))
   ·rw [Zdl h,ZcY h];exact ⟨rfl,rfl⟩
   ·obtain ⟨s1,s3⟩:=hsq h
    rw [ZeS h rfl,Zfa h rfl]
    refine ⟨hk.1,by omega,s3,by omega,fun h3=>⟨s1,?_⟩,fun h3 => ?_⟩
    ·rw [ZcS h3,Zcg h3]
     exact ⟨rfl,rfl⟩
    ·rw [Zec h3,Zdk h3]
     exact ⟨rfl,rfl⟩
end
end Go.Av

namespace Go.Av
open Go.Proofs
namespace O
def bef (X:List Int) (k:Int):Int:=if k>1 then X.getD (k-2).toNat default else 0
def lst (X:List Int) (k:Int):Int:=X.getD (k-1).toNat default
noncomputable def hlN (l:List Mo) (S A j:Int) (s:Cs):Cs:=
 if s.br=true then s else
 match s.X with
 | none => { s with hd:=true }
 | some X=>if s.bk=true then { s with hd:=true } else
  if ¬ndE (lm (l.getD s.ix.toNat default).r S) A j (bef X s.k) (lst X s.k)=0\/ndV (lm (l.getD s.ix.toNat default).r S) A j (bef X s.k) (lst X s.k)>lf l s.ix s.p then { s with hd:=true } else
  if ((stL (lm (l.getD s.ix.toNat default).r S) A j (bef X s.k) (lst X s.k)).length:Int)=0 then stpN l { s with hd:=true } else { s with hd:=true,X:=some (stL (lm (l.getD s.ix.toNat default).r S) A j (bef X s.k) (lst X s.k)),k:=0,bk:=true }
end O
inductive RX (fm:Bool) (l:List Mo) (S A j:Int) (s:Cs):Heap->Prop
 | nil:s.P=[]->RX fm l S A j s [O.Cr fm l S A j s .vnil]
 | row (w:Nat):RX fm l S A j s [O.Cr fm l S A j s (.row 1 w),O.Rw s.P w]
 | nilx (x:Row):s.P=[]->RX fm l S A j s [O.Cr fm l S A j s .vnil,x]
 | rowx (x:Row) (w:Nat):RX fm l S A j s [O.Cr fm l S A j s (.row 2 w),x,O.Rw s.P w]
 | roww (x:Row) (w:Nat):RX fm l S A j s [O.Cr fm l S A j s (.row 1 w),O.Rw s.P w,x]
section
variable {l:List Mo} {B S A j:Int} {fm:Bool}
theorem RX_rowx {s:Cs} {P:List Mo} {L:Heap} (x:Row) (w:Nat) (e:s.P=P) (h:L=[O.Cr fm l S A j s (.row 2 w),x,O.Rw P w]):RX fm l S A j s L:=by subst e;rw [h];exact .rowx x w
theorem Zex {s:Cs} {P:List Mo} {L:Heap} (x:Row) (w:Nat) (e:s.P=P) (h:L=[O.Cr fm l S A j s (.row 1 w),O.Rw P w,x]):RX fm l S A j s L:=by subst e;rw [h];exact .roww x w
theorem Zey {s:Cs} {L:Heap} (x:Row) (e:s.P=[]) (h:L=[O.Cr fm l S A j s .vnil,x]):RX fm l S A j s L:=by rw [h];exact .nilx x e
theorem hl_br {s:Cs} (h:s.br=true):O.hlN l S A j s=s:=by unfold O.hlN;rw [if_pos h]
theorem hl_none {s:Cs} (h:¬s.br=true) (hX:s.X=none):O.hlN l S A j s = { s with hd:=true }:=by unfold O.hlN;rw [if_neg h,hX]
theorem hl_bk {s:Cs} {X:List Int} (h:¬s.br=true) (hX:s.X=some X) (hb:s.bk=true):O.hlN l S A j s = { s with hd:=true }:=by unfold O.hlN;rw [if_neg h,hX];simp only;rw [if_pos hb]
section
variable {s:Cs} {X:List Int} (h:¬s.br=true) (hX:s.X=some X) (hb:¬s.bk=true)
include h hX hb
theorem hl_no (hn:¬O.ndE (O.lm (l.getD s.ix.toNat default).r S) A j (O.bef X s.k) (O.lst X s.k)=0\/O.ndV (O.lm (l.getD s.ix.toNat default).r S) A j (O.bef X s.k) (O.lst X s.k)>O.lf l s.ix s.p):O.hlN l S A j s = { s with hd:=true }:=by unfold O.hlN;rw [if_neg h,hX];simp only;rw [if_neg hb,if_pos hn]
theorem ZdH (hn:¬(¬O.ndE (O.lm (l.getD s.ix.toNat default).r S) A j (O.bef X s.k) (O.lst X s.k)=0\/O.ndV (O.lm (l.getD s.ix.toNat default).r S) A j (O.bef X s.k) (O.lst X s.k)>O.lf l s.ix s.p)) (h0:((O.stL (O.lm (l.getD s.ix.toNat default).r S) A j (O.bef X s.k) (O.lst X s.k)).length:Int)=0):O.hlN l S A j s=O.stpN l { s with hd:=true }:=by unfold O.hlN;rw [if_neg h,hX];simp only;rw [if_neg hb,if_neg hn,if_pos h0]
theorem ZfA (hn:¬(¬O.ndE (O.lm (l.getD s.ix.toNat default).r S) A j (O.bef X s.k) (O.lst X s.k)=0\/O.ndV (O.lm (l.getD s.ix.toNat default).r S) A j (O.bef X s.k) (O.lst X s.k)>O.lf l s.ix s.p)) (h0:¬((O.stL (O.lm (l.getD s.ix.toNat default).r S) A j (O.bef X s.k) (O.lst X s.k)).length:Int)=0):O.hlN l S A j s = { s with hd:=true,X:=some (O.stL (O.lm (l.getD s.ix.toNat default).r S) A j (O.bef X s.k) (O.lst X s.k)),k:=0,bk:=true }:=by unfold O.hlN;rw [if_neg h,hX];simp only;rw [if_neg hb,if_neg hn,if_neg h0]
end
theorem mov_of {S A j b v:Int} (h:O.ndE S A j b v=0):O.mov S A j b v=true:=by
 unfold O.ndE at h
 by_cases hm:O.mov S A j b v=true
 ·exact hm
 ·rw [if_neg hm] at h;cases h
theorem hl_ok (ht:O.okT l) {s:Cs} (hs:Iv l B s):Iv l B (O.hlN l S A j s)/\(s.br=false->(O.hlN l S A j s).hd=true)/\(O.hlN l S A j s).br=s.br/\O.D l (O.hlN l S A j s).ix (O.hlN l S A j s).p=O.D l s.ix s.p:=by
 have hset:Iv l B { s with hd:=true }:=⟨hs.ixr,hs.mot,hs.fin,hs.plan,hs.rest,hs.pb,hs.kb,hs.wi,hs.few⟩
 by_cases hbr:s.br=true
 ·rw [hl_br hbr];exact ⟨hs,(fun (h:s.br=false)=>absurd (hbr.symm.trans h) (by decide)),rfl,rfl⟩
 ·cases hX:s.X with
  | none=>rw [hl_none hbr hX];exact ⟨hset,fun _=>rfl,rfl,rfl⟩
  | some X =>
   by_cases hb:s.bk=true
   ·rw [hl_bk hbr hX hb];exact ⟨hset,fun _=>rfl,rfl,rfl⟩
   ·by_cases hn:¬O.ndE (O.lm (l.getD s.ix.toNat default).r S) A j (O.bef X s.k) (O.lst X s.k)=0\/O.ndV (O.lm (l.getD s.ix.toNat default).r S) A j (O.bef X s.k) (O.lst X s.k)>O.lf l s.ix s.p
    ·rw [hl_no hbr hX hb hn];exact ⟨hset,fun _=>rfl,rfl,rfl⟩
    ·have hlt:s.ix<l.length:=by
      have h1:=hs.ixr
      by_cases hq:s.ix=l.length
      ·have:=(hs.fin hq).2;rw [hX] at this;cases this
      ·omega
     obtain ⟨m1,m2,m3⟩:=hs.mot hlt
     have hfew:=hs.few
     rw [hX,if_neg (by simp)] at hfew
     by_cases h0:((O.stL (O.lm (l.getD s.ix.toNat default).r S) A j (O.bef X s.k) (O.lst X s.k)).length:Int)=0
     ·rw [ZdH hbr hX hb hn h0]
      obtain ⟨q1,q2,q3,q4⟩:=stpN_ok (B:=B) ht (s:={ s with hd:=true }) ⟨hs.ixr.1,hlt⟩ m1 ⟨m2,by simp only;omega⟩ hs.wi hfew
      exact ⟨q1,fun _=>q3,q4,q2⟩
     ·rw [ZfA hbr hX hb hn h0]
      have he:O.ndE (O.lm (l.getD s.ix.toNat default).r S) A j (O.bef X s.k) (O.lst X s.k)=0:=Classical.byContradiction fun y=>hn (.inl y)
      have hv:¬O.ndV (O.lm (l.getD s.ix.toNat default).r S) A j (O.bef X s.k) (O.lst X s.k)>O.lf l s.ix s.p:=fun y=>hn (.inr y)
      have hm:=mov_of he
      obtain ⟨⟨k1,_⟩,k2⟩:=mov_iff.1 hm
      have k3:=Zdm k1 k2
      obtain ⟨t1,t2⟩:=stp_sum k1 (ZeI k1) k3
      have t3:=stp_len k1 k3
      have e1:O.stL (O.lm (l.getD s.ix.toNat default).r S) A j (O.bef X s.k) (O.lst X s.k)=O.stp (O.brk (O.lm (l.getD s.ix.toNat default).r S) A j) (O.lm (l.getD s.ix.toNat default).r S) j (O.lst X s.k) (O.lst X s.k-O.bef X s.k):=by unfold O.stL;rw [if_pos hm]
      have e2:O.ndV (O.lm (l.getD s.ix.toNat default).r S) A j (O.bef X s.k) (O.lst X s.k)=O.dst (O.brk (O.lm (l.getD s.ix.toNat default).r S) A j) (O.lm (l.getD s.ix.toNat default).r S) j (O.lst X s.k) (O.lst X s.k-O.bef X s.k):=by unfold O.ndV O.dis;rw [if_pos hm]
      rw [e1] at h0 ⊢
      have hmm:=Zcl (ht.1.2 s.ix.toNat (by have:=hs.ixr;omega))
      have hsm:s.p+(O.stp (O.brk (O.lm (l.getD s.ix.toNat default).r S) A j) (O.lm (l.getD s.ix.toNat default).r S) j (O.lst X s.k) (O.lst X s.k-O.bef X s.k)).sum<=O.ml (l.getD s.ix.toNat default):=by
       rw [t1,<- e2]
       unfold O.lf at hv
       omega
      refine ⟨⟨hs.ixr,hs.mot,fun hq=>absurd hq (by simp only;omega),fun Y hY => ?_,fun h=>(nomatch h),fun Y hY => ?_,fun Y hY hz=>(nomatch hz),hs.wi,?_⟩,fun _=>rfl,rfl,rfl⟩
      ·simp only [Option.some.injEq] at hY
       subst hY
       exact ⟨⟨Int.le_refl _,by simp only;omega,by omega⟩,t2,by simp only;rw [Int.toNat_zero,List.drop_zero];exact hsm⟩
      ·simp only [Option.some.injEq] at hY
       subst hY
       intro x hx
       have:=le_sum _ t2 x hx
       omega
      ·simp only
       rw [if_neg (by simp)]
       exact hfew
theorem hold_wp (ht:O.okT l) (hg:O.good l S A j) (hB:B<=1000000000) {s:Cs} (hs:Iv l B s) {L:Heap} (hL:RM fm l S A j s L):Wp M1 (.own 11 [.ptr 0 0 0 0] L) (fun v L2=>v = .tup []/\RX fm l S A j (O.hlN l S A j s) L2):=by
 obtain ⟨ix,p,X,k,bk,hd,br,P,q⟩:=s
 cases X with
 | none =>
  obtain ⟨hk0,hb0,_⟩:=hs.rest rfl
  simp only at hk0 hb0
  subst hk0;subst hb0
  cases hL with
  | nil hP =>
   simp only at hP
   subst hP
   refine Zd2 (hoA fm l S A j ix p hd br q.x q.y q.z _ ⟨fun h => ?_,fun h => ?_⟩)
   ·rw [hl_br h];exact ⟨rfl,.nil rfl⟩
   ·rw [hl_none h rfl];exact ⟨rfl,.nil rfl⟩
  | row w =>
   refine Zd2 (hoB fm l S A j ix p hd br q.x q.y q.z P w _ ⟨fun h => ?_,fun h => ?_⟩)
   ·rw [hl_br h];exact ⟨rfl,.row w⟩
   ·rw [hl_none h rfl];exact ⟨rfl,.row w⟩
 | some X =>
  obtain ⟨hk,hX,hsum⟩:=hs.plan X rfl
  have hpb:=hs.pb X rfl
  have hkb:=hs.kb X rfl
  have hlt:ix<l.length:=by
   have h1:=hs.ixr
   by_cases hq:ix=l.length
   ·have:=(hs.fin hq).2;cases this
   ·simp only at *;omega
  obtain ⟨⟨g1,g2,g3⟩,g4,g5,_⟩:=iv_G ht.1 hs hlt
  obtain ⟨q1,_⟩:=hg ix.toNat g5
  obtain ⟨m1,m2,m3⟩:=hs.mot hlt
  have hD:=iv_D hs
  have hfew:=hs.few
  have hsp:O.okSq l ix p P:=⟨⟨⟨ht.1,hs.ixr,fun _=>⟨m1,m2,by simp only at m3;omega⟩⟩,hlt⟩,by rw [if_neg (by simp)] at hfew;simp only at *;omega⟩
  simp only at hk hX hsum hpb hkb
  have hel:∀ n:Nat,n<X.length->1<=X.getD n default/\X.getD n default<=1000000:=fun n hn=>by
   have:X.getD n default ∈ X:=by
    rw [List.getD_eq_getElem?_getD,List.getElem?_eq_getElem hn]
    exact List.getElem_mem _
   exact ⟨hX _ this,hpb _ this⟩
  have hov:∀ (h:¬(k=(X.length:Int)\/bk=true)),O.okV (O.bef X k) (O.lst X k):=fun h=>by
   have hb:bk=false:=by cases bk with | false=>rfl | true=>exact absurd (.inr rfl) h
   have:=hkb hb
   have a1:=hel (k-1).toNat (by omega)
   unfold O.bef O.lst
   split
   ·have a2:=hel (k-2).toNat (by omega)
    exact ⟨by omega,by omega⟩
   ·exact ⟨by omega,by omega⟩
  cases hL with
  | nil hP =>
   simp only at hP
   subst hP
   refine Zd2 (hoC fm l S A j ix p k bk hd br q.x q.y q.z X _ ⟨fun h => ?_,fun h=>⟨fun h2 => ?_,fun hkk => ?_⟩⟩)
   ·rw [hl_br h];exact ⟨rfl,.nil rfl⟩
   ·rw [hl_bk (X:=X) h rfl (by rcases h2 with y | y;exact absurd y (by omega);exact y)];exact ⟨rfl,.nil rfl⟩
   ·have hbk:¬bk=true:=fun y=>hkk (.inr y)
    have hk1:=hkb (by cases bk with | false=>rfl | true=>exact absurd rfl hbk)
    have hokv:=hov hkk
    refine ⟨by omega,by omega,by omega,fun h3 => ?_,fun h3 => ?_⟩
    ·have eb:O.bef X k=X.getD (k-2).toNat default:=by unfold O.bef;rw [if_pos h3]
     have el:O.lst X k=X.getD (k-1).toNat default:=rfl
     rw [eb,el] at hokv
     refine ⟨by omega,by omega,by omega,q1,g4,g5,hokv,fun _=>g1,fun hn => ?_,fun hn=>⟨fun z=>absurd (Classical.byContradiction fun y=>hn (.inl y)) z,fun _=>⟨fun h0=>⟨fun hc=>⟨hsp.1,?_⟩,fun hc=>⟨hsp.1,?_⟩⟩,fun h0 => ?_⟩⟩⟩
     ·rw [hl_no h rfl hbk (by rw [eb,el];exact hn)];exact ⟨rfl,Zey _ rfl rfl⟩
     ·rw [ZdH h rfl hbk (by rw [eb,el];exact hn) (by rw [eb,el];exact h0)];exact ⟨rfl,RX_rowx _ 0 (stP_y hc) rfl⟩
     ·rw [ZdH h rfl hbk (by rw [eb,el];exact hn) (by rw [eb,el];exact h0)];exact ⟨rfl,Zey _ (stP_n hc) rfl⟩
     ·rw [ZfA h rfl hbk (by rw [eb,el];exact hn) (by rw [eb,el];exact h0),eb,el];exact ⟨rfl,Zey _ rfl rfl⟩
    ·have eb:O.bef X k=0:=by unfold O.bef;rw [if_neg h3]
     have el:O.lst X k=X.getD (k-1).toNat default:=rfl
     rw [eb,el] at hokv
     refine ⟨ q1,g4,g5,hokv,fun _=>g1,fun hn => ?_,fun hn=>⟨fun z=>absurd (Classical.byContradiction fun y=>hn (.inl y)) z,fun _=>⟨fun h0=>⟨fun hc=>⟨hsp.1,?_⟩,fun hc=>⟨hsp.1,?_⟩⟩,fun h0 => ?_⟩⟩⟩
     ·rw [hl_no h rfl hbk (by rw [eb,el];exact hn)];exact ⟨rfl,Zey _ rfl rfl⟩
     ·rw [ZdH h rfl hbk (by rw [eb,el];exact hn) (by rw [eb,el];exact h0)];exact ⟨rfl,RX_rowx _ 0 (stP_y hc) rfl⟩
     ·rw [ZdH h rfl hbk (by rw [eb,el];exact hn) (by rw [eb,el];exact h0)];exact ⟨rfl,Zey _ (stP_n hc) rfl⟩
     ·rw [ZfA h rfl hbk (by rw [eb,el];exact hn) (by rw [eb,el];exact h0),eb,el];exact ⟨rfl,Zey _ rfl rfl⟩
  | row w =>
   refine Zd2 (hoD fm l S A j ix p k bk hd br q.x q.y q.z X P w _ ⟨fun h => ?_,fun h=>⟨fun h2 => ?_,fun hkk => ?_⟩⟩)
   ·rw [hl_br h];exact ⟨rfl,.row w⟩
   ·rw [hl_bk (X:=X) h rfl (by rcases h2 with y | y;exact absurd y (by omega);exact y)];exact ⟨rfl,.row w⟩
   ·have hbk:¬bk=true:=fun y=>hkk (.inr y)
    have hk1:=hkb (by cases bk with | false=>rfl | true=>exact absurd rfl hbk)
    have hokv:=hov hkk
    refine ⟨by omega,by omega,by omega,fun h3 => ?_,fun h3 => ?_⟩
    ·have eb:O.bef X k=X.getD (k-2).toNat default:=by unfold O.bef;rw [if_pos h3]
     have el:O.lst X k=X.getD (k-1).toNat default:=rfl
     rw [eb,el] at hokv
     refine ⟨by omega,by omega,by omega,q1,g4,g5,hokv,fun _=>g1,fun hn => ?_,fun hn=>⟨fun z=>absurd (Classical.byContradiction fun y=>hn (.inl y)) z,fun _=>⟨fun h0=>⟨hsp,?_⟩,fun h0 => ?_⟩⟩⟩
     ·rw [hl_no h rfl hbk (by rw [eb,el];exact hn)];exact ⟨rfl,Zex _ w rfl rfl⟩
     ·rw [ZdH h rfl hbk (by rw [eb,el];exact hn) (by rw [eb,el];exact h0)];exact ⟨rfl,Zex _ _ rfl rfl⟩
     ·rw [ZfA h rfl hbk (by rw [eb,el];exact hn) (by rw [eb,el];exact h0),eb,el];exact ⟨rfl,Zex _ w rfl rfl⟩
    ·have eb:O.bef X k=0:=by unfold O.bef;rw [if_neg h3]
     have el:O.lst X k=X.getD (k-1).toNat default:=rfl
     rw [eb,el] at hokv
     refine ⟨ q1,g4,g5,hokv,fun _=>g1,fun hn => ?_,fun hn=>⟨fun z=>absurd (Classical.byContradiction fun y=>hn (.inl y)) z,fun _=>⟨fun h0=>⟨hsp,?_⟩,fun h0 => ?_⟩⟩⟩
     ·rw [hl_no h rfl hbk (by rw [eb,el];exact hn)];exact ⟨rfl,Zex _ w rfl rfl⟩
     ·rw [ZdH h rfl hbk (by rw [eb,el];exact hn) (by rw [eb,el];exact h0)];exact ⟨rfl,Zex _ _ rfl rfl⟩
     ·rw [ZfA h rfl hbk (by rw [eb,el];exact hn) (by rw [eb,el];exact h0),eb,el];exact ⟨rfl,Zex _ w rfl rfl⟩
end
end Go.Av

namespace Go.Av
open Go.Proofs
namespace O
def okDn (l:List Mo) (ix p:Int) (P:List Mo):Prop:=okC l ix p/\ZeZ P
end O
theorem evo19_a (fm:Bool) (l:List Mo) (S A j ix p:Int) (hd br:Bool) (qx qy qz:Int) (h:O.okC l ix p):Ev M1 (.own 19 [.ptr 0 0 0 0] [⟨[.agg [.vec fm 9 (l.map Mo.a),.int .i64 S,.int .i64 A,.int .i64 j,.int .i64 ix,.int .i64 p,.vnil,.int .i64 0,.bool false,.bool hd,.bool br,.vnil,.int .i64 qx,.int .i64 qy,.int .i64 qz]],15,0,false,false⟩]) (.vec false 9 (([]:List Mo).map Mo.a)) [⟨[.agg [.vec fm 9 (l.map Mo.a),.int .i64 S,.int .i64 A,.int .i64 j,.int .i64 ix,.int .i64 p,.vnil,.int .i64 0,.bool false,.bool hd,.bool br,.vnil,.int .i64 qx,.int .i64 qy,.int .i64 qz]],15,0,false,false⟩]:=
 ZgD rfl (dnA fm l S A j ix p hd br qx qy qz _ _ rfl ⟨h,fun z=>(nomatch z.2),fun _=>⟨rfl,rfl⟩⟩)
theorem evo19_b (fm:Bool) (l:List Mo) (S A j ix p:Int) (hd br:Bool) (qx qy qz:Int) (P:List Mo) (w:Nat) (h:O.okDn l ix p P):Ev M1 (.own 19 [.ptr 0 0 0 0] [⟨[.agg [.vec fm 9 (l.map Mo.a),.int .i64 S,.int .i64 A,.int .i64 j,.int .i64 ix,.int .i64 p,.vnil,.int .i64 0,.bool false,.bool hd,.bool br,.row 1 w,.int .i64 qx,.int .i64 qy,.int .i64 qz]],15,0,false,false⟩,⟨P.map Mo.a,9,w,false,true⟩]) (.vec false 9 (P.map Mo.a)) [⟨[.agg [.vec fm 9 (l.map Mo.a),.int .i64 S,.int .i64 A,.int .i64 j,.int .i64 ix,.int .i64 p,.vnil,.int .i64 0,.bool false,.bool hd,.bool br,.row 1 w,.int .i64 qx,.int .i64 qy,.int .i64 qz]],15,0,false,false⟩,⟨P.map Mo.a,9,w,true,true⟩]:=
 ZgD rfl (dnB fm l S A j ix p hd br qx qy qz P w _ _ rfl ⟨h.2,h.1,fun z=>(nomatch z.2),fun _=>⟨rfl,rfl⟩⟩)
section
variable {l:List Mo} {B S A j:Int} {fm:Bool}
theorem iv_C (hl:O.okL l) {s:Cs} (hs:Iv l B s):O.okC l s.ix s.p:=⟨hl,hs.ixr,fun h=>by obtain ⟨h1,h2,h3⟩:=hs.mot h;exact ⟨h1,h2,by omega⟩⟩
end
end Go.Av

namespace Go.Av
open Go.Proofs
set_option maxRecDepth 100000
def fi74:Fi:=⟨21,[.tmp 2]⟩
def kp74:List (Nat × List Nat):=[(0,[1]),(1,[2])]
def frA_at (x y z:Int) (Q:AV->Heap->Prop):Prop:=Wp M1 (.run fi74 (atC (cd Try.f74) []) [(0,.agg [.int .i64 x,.int .i64 y,.int .i64 z])] []) Q
theorem call74 {args:List AV} {d:AV} (h:wc M1 fi74 Try.f74 args d):Ev M1 (.pure 74 args) d []:=pcl _ _ (by kernel_rfl) h
theorem frA (x y z:Int)  (dq:AV) (H :
  vb (bif decide ((if z>if y>x then y else x then z else if y>x then y else x)>10000000) then true else decide ((if z<if y<x then y else x then z else if y<x then y else x) < -10000000))=dq) :
 frA_at x y z (Zak dq):=by
 unfold frA_at
 exact Zao (G:=Zab kp74 [] []) 1000 [] (asm:=[true,true,true,!(decide ((if z>if y>x then y else x then z else if y>x then y else x)>10000000)==false&&true)||true,!(decide ((if z>if y>x then y else x then z else if y>x then y else x)>10000000)==false&&true)||true,!(decide ((if z>if y>x then y else x then z else if y>x then y else x)>10000000)==false&&true)||true]) (vb (bif decide ((if z>if y>x then y else x then z else if y>x then y else x)>10000000) then true else decide ((if z<if y<x then y else x then z else if y<x then y else x) < -10000000))) (by kernel_rfl) (bc rfl (bc rfl (bc rfl (bc (Bool.or_true _) (bc (Bool.or_true _) (bc (Bool.or_true _) b0)))))) q0 c0 H
end Go.Av

namespace Go.Av
open Go.Proofs
namespace O
def okFar (x y z:Int):Prop:=(-10000000<=x/\x<=10000000)/\(-10000000<=y/\y<=10000000) /\ -10000000<=z/\z<=10000000
end O
theorem ev74 (x y z:Int) (h:O.okFar x y z):Ev M1 (.pure 74 [.agg [.int .i64 x,.int .i64 y,.int .i64 z]]) (.bool false) []:=by
 obtain ⟨h1,h2,h3⟩:=h
 refine call74 (frA x y z _ ?_)
 have e1:decide ((if z>if y>x then y else x then z else if y>x then y else x)>10000000)=false:=by
  rw [decide_eq_false_iff_not]
  split <;> split <;> omega
 have e2:decide ((if z<if y<x then y else x then z else if y<x then y else x) < -10000000)=false:=by
  rw [decide_eq_false_iff_not]
  split <;> split <;> omega
 rw [e1,e2];rfl
end Go.Av

namespace Go.Av
open Go.Proofs
set_option maxRecDepth 100000
def fi40:Fi:=⟨79,[.tmp 4]⟩
def kp40:List (Nat × List Nat):=[(0,[0,3]),(1,[0,3,15]),(2,[4]),(3,[0,3,16,17,18]),(4,[0,3,16,17,18,19]),(5,[0,3,5,6,16,17,18]),(6,[0,3,16,17,18,40]),(7,[4]),(8,[0,3,16,17,18]),(9,[0,3,42,43,44]),(10,[0,3,42,43,44,45]),(11,[0,3,8,42,43,44]),(12,[0,3,42,43,44,55]),(13,[4]),(14,[0,3,42,43,44]),(15,[0,3,59]),(16,[4]),(17,[3,60,61,62]),(18,[3,60,61,62,63]),(19,[3,10,60,61,62]),(20,[3,12,60,61,62]),(21,[3,12,60,61,62,76]),(22,[4]),(23,[3,60,61,62]),(24,[4])]
def ckA_at (f:Bool) (l:List Mo) (S A j:Int) (Q:AV->Heap->Prop):Prop:=Wp M1 (.run fi40 (atC (cd Try.f40) []) [(0,.vec f 9 (l.map Mo.a)),(1,.agg [.int .i64 S,.int .i64 A,.int .i64 j])] []) Q
def ckB_at (f:Bool) (l:List Mo) (S A j:Int) (n i:Int) (Q:AV->Heap->Prop):Prop:=Wp M1 (.run fi40 (atC (cd Try.f40) [1,1,0,1,0,0]) [(0,.vec f 9 (l.map Mo.a)),(3,.ptr 0 0 0 0),(16,.vec f 9 (l.map Mo.a)),(17,.int .i64 n),(18,.int .i64 i)] [⟨[.agg [.int .i64 S,.int .i64 A,.int .i64 j]],3,0,false,false⟩]) Q
def ckC_at (f:Bool) (l:List Mo) (S A j:Int) (n i:Int) (Q:AV->Heap->Prop):Prop:=Wp M1 (.run fi40 (atC (cd Try.f40) [1,1,1,0,1,0,0]) [(0,.vec f 9 (l.map Mo.a)),(3,.ptr 0 0 0 0),(42,.vec f 9 (l.map Mo.a)),(43,.int .i64 n),(44,.int .i64 i)] [⟨[.agg [.int .i64 S,.int .i64 A,.int .i64 j]],3,0,false,false⟩]) Q
def ckD_at (f:Bool) (l:List Mo) (S A j:Int) (n i:Int) (Q:AV->Heap->Prop):Prop:=Wp M1 (.run fi40 (atC (cd Try.f40) [1,1,1,1,1,0,1,0,0]) [(3,.ptr 0 0 0 0),(60,.vec f 9 (l.map Mo.a)),(61,.int .i64 n),(62,.int .i64 i)] [⟨[.agg [.int .i64 S,.int .i64 A,.int .i64 j]],3,0,false,false⟩]) Q
theorem call40 {args:List AV} {d:AV} (h:wc M1 fi40 Try.f40 args d):Ev M1 (.pure 40 args) d []:=pcl _ _ (by kernel_rfl) h
theorem ckA (f:Bool) (l:List Mo) (S A j:Int)  (dq:AV) (H :
  ((¬O.vlE S A j=0)->vi 1=dq) /\
  (¬(¬O.vlE S A j=0)->ckB_at f l S A j ((↑l.length:Int)) 0 (Zak dq))) :
 ckA_at f l S A j (Zak dq):=by
 unfold ckA_at
 refine Zac (G:=Zab kp40 [(1,1,.call (vi (O.vlE S A j)) none)] []) 5 [] ⟨(atC (cd Try.f40) [1,0,1]),[(0,AV.vec f 9 (List.map Mo.a l)),(3,AV.ptr 0 0 0 0),(15,vb (O.vlE S A j != 0))],[⟨[ag [vi S,vi A,vi j]],3,0,false,false⟩],_,[],_⟩ (by kernel_rfl) (bc rfl b0) q0 (ce (@ev73 S A j) c0) ?_
 rcases xq H with ⟨d2,H⟩|⟨d2,H⟩
 ·exact Zao (G:=Zab kp40 [] []) 1000 [true] (vi 1) (by kernel_rfl) (bc (Zam (i_ne.2 d2)) b0) q0 c0 H
 ·have w3:(List.map Mo.a l).length=l.length:=List.length_map ..
  exact Zac (G:=Zab kp40 [] []) 1000 [false] ⟨(atC (cd Try.f40) [1,1,0,1,0,0]),[(0,AV.vec f 9 (List.map Mo.a l)),(3,AV.ptr 0 0 0 0),(16,AV.vec f 9 (List.map Mo.a l)),(17,vi (↑(List.map Mo.a l).length:Int)),(18,vi 0)],[⟨[ag [vi S,vi A,vi j]],3,0,false,false⟩],_,[],_⟩ (by kernel_rfl) (bc (Zal (fun h=>d2 (i_ne.1 h))) b0) q0 c0 (by (try rw [w3]);all_goals exact H)
noncomputable abbrev zCxP1 (l:List Mo) (i:Int):=ag [vi (l.getD i.toNat default).x,vi (l.getD i.toNat default).y,vi (l.getD i.toNat default).z,vi (l.getD i.toNat default).u,vi (l.getD i.toNat default).v,vi (l.getD i.toNat default).w,vi (l.getD i.toNat default).r,vi (l.getD i.toNat default).t,vi (l.getD i.toNat default).b]
noncomputable abbrev zCxP2 (l:List Mo) (i:Int):=ag [vi (l.getD (i-1).toNat default).x,vi (l.getD (i-1).toNat default).y,vi (l.getD (i-1).toNat default).z,vi (l.getD (i-1).toNat default).u,vi (l.getD (i-1).toNat default).v,vi (l.getD (i-1).toNat default).w,vi (l.getD (i-1).toNat default).r,vi (l.getD (i-1).toNat default).t,vi (l.getD (i-1).toNat default).b]
noncomputable abbrev zCxP3 (S:Int) (A:Int) (j:Int):=ag [vi S,vi A,vi j]
theorem ckB (f:Bool) (l:List Mo) (S A j:Int) (n i:Int)  (dq:AV) (H :
  ((i<n)->(0<=i) /\
   (i.toNat<l.length) /\
   (-9223372036854775808<=i-1/\i-1<=9223372036854775807) /\
   (((i>0)/\(¬((l.getD i.toNat default).r<0)))->(0<=i-1)) /\
   (((i>0)/\(¬((l.getD i.toNat default).r<0)))->((i-1).toNat<l.length)) /\
   ((((l.getD i.toNat default).r<0)\/((i>0)/\(¬(((l.getD (i-1).toNat default).u=(l.getD i.toNat default).x)/\(((l.getD (i-1).toNat default).v=(l.getD i.toNat default).y)/\((l.getD (i-1).toNat default).w=(l.getD i.toNat default).z))))))->vi 1=dq) /\
   (¬(((l.getD i.toNat default).r<0)\/((i>0)/\(¬(((l.getD (i-1).toNat default).u=(l.getD i.toNat default).x)/\(((l.getD (i-1).toNat default).v=(l.getD i.toNat default).y)/\((l.getD (i-1).toNat default).w=(l.getD i.toNat default).z))))))->(-9223372036854775808<=i+1/\i+1<=9223372036854775807) /\
    ckB_at f l S A j n (i+1) (Zak dq))) /\
  (¬(i<n)->ckC_at f l S A j ((↑l.length:Int)) 0 (Zak dq))) :
 ckB_at f l S A j n i (Zak dq):=by
 unfold ckB_at
 rcases xq H with ⟨d2,H⟩|⟨d2,H⟩
 ·obtain ⟨k4,H⟩:=H
  have w5:(List.map Mo.a l).length=l.length:=List.length_map ..
  have i6:(decide (i.toNat<(List.map Mo.a l).length))=true ↔ (i.toNat<l.length):=(by (try rw [w5]);all_goals exact Zae)
  obtain ⟨k7,k8,H⟩:=H
  have w9:wi (i-1)=i-1:=wI64 k8
  have i10:(!(decide (i>0)==true&&(decide ((l.getD i.toNat default).r<0)==false&&true))||decide (0<=wi (i-1)))=true ↔ (((i>0)/\(¬((l.getD i.toNat default).r<0)))->(0<=i-1)):=(by (try rw [w9]);all_goals exact (ZbJ (ZaG (i_bt Zae) (i_at (i_bf Zae))) Zae))
  obtain ⟨k11,H⟩:=H
  have i12:(!(decide (i>0)==true&&(decide ((l.getD i.toNat default).r<0)==false&&true))||decide ((wi (i-1)).toNat<(List.map Mo.a l).length))=true ↔ (((i>0)/\(¬((l.getD i.toNat default).r<0)))->((i-1).toNat<l.length)):=(by (try rw [w5]);(try rw [w9]);all_goals exact (ZbJ (ZaG (i_bt Zae) (i_at (i_bf Zae))) Zae))
  obtain ⟨k13,H⟩:=H
  refine Zac (G:=Zab kp40 [(5,2,.elem ((zCxP1 l i))),(6,12,.elem (zCxP2 l i))] []) 11 [true] ⟨(atC (cd Try.f40) [1,1,0,1,0,0,1,1,0,0,1,1]),[(0,AV.vec f 9 (List.map Mo.a l)),(3,AV.ptr 0 0 0 0),(16,AV.vec f 9 (List.map Mo.a l)),(17,vi n),(18,vi i),(40,vb (bif decide ((l.getD i.toNat default).r<0) then true else bif decide (i>0) then !((l.getD (i-1).toNat default).u==(l.getD i.toNat default).x&&((l.getD (i-1).toNat default).v==(l.getD i.toNat default).y&&((l.getD (i-1).toNat default).w==(l.getD i.toNat default).z&&true))) else false))],[⟨[(zCxP3 S A j)],3,0,false,false⟩,⟨[(zCxP1 l i)],9,0,false,false⟩],[(decide (i<n))==true,decide (0<=i),decide (i.toNat<(List.map Mo.a l).length),true,true,!(decide (i>0)==true&&(decide ((l.getD i.toNat default).r<0)==false&&true))||decide (0<=wi (i-1)),!(decide (i>0)==true&&(decide ((l.getD i.toNat default).r<0)==false&&true))||decide ((wi (i-1)).toNat<(List.map Mo.a l).length),!(decide (i>0)==true&&(decide ((l.getD i.toNat default).r<0)==false&&true))||true],[((List.map Mo.a l).get?Internal i.toNat=some ((zCxP1 l i))),((decide (i>0)==true&&(decide ((l.getD i.toNat default).r<0)==false&&true))=true->(List.map Mo.a l).get?Internal (wi (i-1)).toNat=some (zCxP2 l i))],_⟩ (by kernel_rfl) (bc (Zam (Zae.2 d2)) (bc (Zae.2 k4) (bc (i6.2 k7) (bc rfl (bc rfl (bc (i10.2 k11) (bc (i12.2 k13) (bc (Bool.or_true _) b0)))))))) (qc (Zay k7) (qc (by (try rw [w9]);all_goals exact (fun h=>Zay (k13 ((ZaG (i_bt Zae) (i_at (i_bf Zae))).1 h)))) q0)) c0 ?_
  rcases xq H with ⟨d16,H⟩|⟨d16,H⟩
  ·exact Zao (G:=Zab kp40 [] []) 1000 [true] (vi 1) (by kernel_rfl) (bc (Zam ((ZaL Zae (ZaB Zae (ZaO (ZaG i_eq (ZaG i_eq (i_at i_eq)))))).2 d16)) b0) q0 c0 H
  ·obtain ⟨k17,H⟩:=H
   have w18:wi (i+1)=i+1:=wI64 k17
   exact Zac (G:=Zab kp40 [] []) 1000 [false] ⟨(atC (cd Try.f40) [1,1,0,1,0,0]),[(0,AV.vec f 9 (List.map Mo.a l)),(3,AV.ptr 0 0 0 0),(16,AV.vec f 9 (List.map Mo.a l)),(17,vi n),(18,vi (wi (i+1)))],[⟨[(zCxP3 S A j)],3,0,false,false⟩,⟨[(zCxP1 l i)],9,0,false,false⟩],_,[],_⟩ (by kernel_rfl) (bc (Zal (fun h=>d16 ((ZaL Zae (ZaB Zae (ZaO (ZaG i_eq (ZaG i_eq (i_at i_eq)))))).1 h))) b0) q0 c0 (by (try rw [w18]);all_goals exact Zar [0] (by kernel_rfl) H)
 ·have w19:(List.map Mo.a l).length=l.length:=List.length_map ..
  exact Zac (G:=Zab kp40 [] []) 1000 [false] ⟨(atC (cd Try.f40) [1,1,1,0,1,0,0]),[(0,AV.vec f 9 (List.map Mo.a l)),(3,AV.ptr 0 0 0 0),(42,AV.vec f 9 (List.map Mo.a l)),(43,vi (↑(List.map Mo.a l).length:Int)),(44,vi 0)],[⟨[(zCxP3 S A j)],3,0,false,false⟩],_,[],_⟩ (by kernel_rfl) (bc (Zal (fun h=>d2 (Zae.1 h))) b0) q0 c0 (by (try rw [w19]);all_goals exact H)
noncomputable abbrev zCxP4 (l:List Mo) (i:Int):=ag [vi (l.getD i.toNat default).x,vi (l.getD i.toNat default).y,vi (l.getD i.toNat default).z,vi (l.getD i.toNat default).u,vi (l.getD i.toNat default).v,vi (l.getD i.toNat default).w,vi (l.getD i.toNat default).r,vi (l.getD i.toNat default).t,vi (l.getD i.toNat default).b]
theorem ckC (f:Bool) (l:List Mo) (S A j:Int) (n i:Int)  (dq:AV) (H :
  ((i<n)->(0<=i) /\
   (i.toNat<l.length) /\
   (O.okFar (l.getD i.toNat default).x (l.getD i.toNat default).y (l.getD i.toNat default).z) /\
   (O.okFar (l.getD i.toNat default).u (l.getD i.toNat default).v (l.getD i.toNat default).w) /\
   (-9223372036854775808<=i+1/\i+1<=9223372036854775807) /\
   ckC_at f l S A j n (i+1) (Zak dq)) /\
  (¬(i<n)->(((↑l.length:Int)>20000)->vi 3=dq) /\
   (¬((↑l.length:Int)>20000)->ckD_at f l S A j ((↑l.length:Int)) 0 (Zak dq)))) :
 ckC_at f l S A j n i (Zak dq):=by
 unfold ckC_at
 rcases xq H with ⟨d2,H⟩|⟨d2,H⟩
 ·obtain ⟨k4,H⟩:=H
  have w5:(List.map Mo.a l).length=l.length:=List.length_map ..
  have i6:(decide (i.toNat<(List.map Mo.a l).length))=true ↔ (i.toNat<l.length):=(by (try rw [w5]);all_goals exact Zae)
  obtain ⟨k7,k8,k9,k10,H⟩:=H
  have w11:wi (i+1)=i+1:=wI64 k10
  exact Zac (G:=Zab kp40 [(11,1,.elem ((zCxP4 l i))),(12,2,.call (vb false) none),(12,6,.call (vb false) none)] []) 1000 [true,false] ⟨(atC (cd Try.f40) [1,1,1,0,1,0,0]),[(0,AV.vec f 9 (List.map Mo.a l)),(3,AV.ptr 0 0 0 0),(42,AV.vec f 9 (List.map Mo.a l)),(43,vi n),(44,vi (wi (i+1)))],[⟨[ag [vi S,vi A,vi j]],3,0,false,false⟩,⟨[(zCxP4 l i)],9,0,false,false⟩],_,[((List.map Mo.a l).get?Internal i.toNat=some ((zCxP4 l i)))],_⟩ (by kernel_rfl) (bc (Zam (Zae.2 d2)) (bc (Zae.2 k4) (bc (i6.2 k7) (bc rfl (bc rfl (bc rfl (bc rfl b0))))))) (qc (Zay k7) q0) (ce (@ev74 ((l.getD i.toNat default).x) ((l.getD i.toNat default).y) ((l.getD i.toNat default).z) k8) (ce (@ev74 ((l.getD i.toNat default).u) ((l.getD i.toNat default).v) ((l.getD i.toNat default).w) k9) c0)) (by (try rw [w11]);all_goals exact Zar [0] (by kernel_rfl) H)
 ·have w12:(List.map Mo.a l).length=l.length:=List.length_map ..
  have i13:(decide ((↑(List.map Mo.a l).length:Int)>20000))=true ↔ ((↑l.length:Int)>20000):=(by (try rw [w12]);all_goals exact Zae)
  rcases xq H with ⟨d14,H⟩|⟨d14,H⟩
  ·exact Zao (G:=Zab kp40 [] []) 1000 [false,true] (vi 3) (by kernel_rfl) (bc (Zal (fun h=>d2 (Zae.1 h))) (bc (Zam (i13.2 d14)) b0)) q0 c0 H
  ·exact Zac (G:=Zab kp40 [] []) 1000 [false,false] ⟨(atC (cd Try.f40) [1,1,1,1,1,0,1,0,0]),[(3,AV.ptr 0 0 0 0),(60,AV.vec f 9 (List.map Mo.a l)),(61,vi (↑(List.map Mo.a l).length:Int)),(62,vi 0)],[⟨[ag [vi S,vi A,vi j]],3,0,false,false⟩],_,[],_⟩ (by kernel_rfl) (bc (Zal (fun h=>d2 (Zae.1 h))) (bc (Zal (fun h=>d14 (i13.1 h))) b0)) q0 c0 (by (try rw [w12]);all_goals exact H)
noncomputable abbrev zCxP5 (l:List Mo) (i:Int):=ag [vi (l.getD i.toNat default).x,vi (l.getD i.toNat default).y,vi (l.getD i.toNat default).z,vi (l.getD i.toNat default).u,vi (l.getD i.toNat default).v,vi (l.getD i.toNat default).w,vi (l.getD i.toNat default).r,vi (l.getD i.toNat default).t,vi (l.getD i.toNat default).b]
noncomputable abbrev zCxP6 (l:List Mo) (i:Int):=O.len ((l.getD i.toNat default).u-(l.getD i.toNat default).x) ((l.getD i.toNat default).v-(l.getD i.toNat default).y) ((l.getD i.toNat default).w-(l.getD i.toNat default).z)
theorem ckD (f:Bool) (l:List Mo) (S A j:Int) (n i:Int)  (dq:AV) (H :
  ((i<n)->(0<=i) /\
   (i.toNat<l.length) /\
   (O.cl ((l.getD i.toNat default).u-(l.getD i.toNat default).x)/\O.cl ((l.getD i.toNat default).v-(l.getD i.toNat default).y)/\O.cl ((l.getD i.toNat default).w-(l.getD i.toNat default).z)) /\
   (O.okR (l.getD i.toNat default).r) /\
   (O.okSt (O.len ((l.getD i.toNat default).u-(l.getD i.toNat default).x) ((l.getD i.toNat default).v-(l.getD i.toNat default).y) ((l.getD i.toNat default).w-(l.getD i.toNat default).z))) /\
   ((¬O.stE (O.lm (l.getD i.toNat default).r S) A j (O.len ((l.getD i.toNat default).u-(l.getD i.toNat default).x) ((l.getD i.toNat default).v-(l.getD i.toNat default).y) ((l.getD i.toNat default).w-(l.getD i.toNat default).z))=0)->vi (O.stE (O.lm (l.getD i.toNat default).r S) A j (O.len ((l.getD i.toNat default).u-(l.getD i.toNat default).x) ((l.getD i.toNat default).v-(l.getD i.toNat default).y) ((l.getD i.toNat default).w-(l.getD i.toNat default).z)))=dq) /\
   (¬(¬O.stE (O.lm (l.getD i.toNat default).r S) A j (O.len ((l.getD i.toNat default).u-(l.getD i.toNat default).x) ((l.getD i.toNat default).v-(l.getD i.toNat default).y) ((l.getD i.toNat default).w-(l.getD i.toNat default).z))=0)->(-9223372036854775808<=i+1/\i+1<=9223372036854775807) /\
    ckD_at f l S A j n (i+1) (Zak dq))) /\
  (¬(i<n)->vi 0=dq)) :
 ckD_at f l S A j n i (Zak dq):=by
 unfold ckD_at
 rcases xq H with ⟨d2,H⟩|⟨d2,H⟩
 ·obtain ⟨k4,H⟩:=H
  have w5:(List.map Mo.a l).length=l.length:=List.length_map ..
  have i6:(decide (i.toNat<(List.map Mo.a l).length))=true ↔ (i.toNat<l.length):=(by (try rw [w5]);all_goals exact Zae)
  obtain ⟨k7,k8,k9,k10,H⟩:=H
  refine Zac (G:=Zab kp40 [(19,1,.elem ((zCxP5 l i))),(20,1,.call (vi (zCxP6 l i)) none),(20,4,.call (ag [vi (O.lm (l.getD i.toNat default).r S),vi A,vi j]) none),(20,5,.call (tu [vf (List.map vi (O.stX (O.lm (l.getD i.toNat default).r S) A j (zCxP6 l i))),vi (O.stE (O.lm (l.getD i.toNat default).r S) A j (zCxP6 l i))]) none)] []) 13 [true] ⟨(atC (cd Try.f40) [1,1,1,1,1,0,1,0,0,1,1,0,0,1,1,1]),[(3,AV.ptr 0 0 0 0),(12,vi (O.stE (O.lm (l.getD i.toNat default).r S) A j (zCxP6 l i))),(60,AV.vec f 9 (List.map Mo.a l)),(61,vi n),(62,vi i),(76,vb (O.stE (O.lm (l.getD i.toNat default).r S) A j (zCxP6 l i) != 0))],[⟨[ag [vi S,vi A,vi j]],3,0,false,false⟩,⟨[(zCxP5 l i)],9,0,false,false⟩],_,[((List.map Mo.a l).get?Internal i.toNat=some ((zCxP5 l i)))],_⟩ (by kernel_rfl) (bc (Zam (Zae.2 d2)) (bc (Zae.2 k4) (bc (i6.2 k7) (bc rfl (bc rfl (bc rfl (bc rfl b0))))))) (qc (Zay k7) q0) (ce (@ev51 ((l.getD i.toNat default).x) ((l.getD i.toNat default).y) ((l.getD i.toNat default).z) ((l.getD i.toNat default).u) ((l.getD i.toNat default).v) ((l.getD i.toNat default).w) ((l.getD i.toNat default).r) ((l.getD i.toNat default).t) ((l.getD i.toNat default).b) k8) (ce (@ev46 ((l.getD i.toNat default).x) ((l.getD i.toNat default).y) ((l.getD i.toNat default).z) ((l.getD i.toNat default).u) ((l.getD i.toNat default).v) ((l.getD i.toNat default).w) ((l.getD i.toNat default).r) ((l.getD i.toNat default).t) ((l.getD i.toNat default).b) S A j k9) (ce (@ev44 (O.lm (l.getD i.toNat default).r S) A j (zCxP6 l i) k10) c0))) ?_
  rcases xq H with ⟨d12,H⟩|⟨d12,H⟩
  ·exact Zao (G:=Zab kp40 [] []) 1000 [true] (vi (O.stE (O.lm (l.getD i.toNat default).r S) A j (zCxP6 l i))) (by kernel_rfl) (bc (Zam (i_ne.2 d12)) b0) q0 c0 H
  ·obtain ⟨k13,H⟩:=H
   have w14:wi (i+1)=i+1:=wI64 k13
   exact Zac (G:=Zab kp40 [] []) 1000 [false] ⟨(atC (cd Try.f40) [1,1,1,1,1,0,1,0,0]),[(3,AV.ptr 0 0 0 0),(60,AV.vec f 9 (List.map Mo.a l)),(61,vi n),(62,vi (wi (i+1)))],[⟨[ag [vi S,vi A,vi j]],3,0,false,false⟩,⟨[(zCxP5 l i)],9,0,false,false⟩],_,[],_⟩ (by kernel_rfl) (bc (Zal (fun h=>d12 (i_ne.1 h))) b0) q0 c0 (by (try rw [w14]);all_goals exact Zar [0] (by kernel_rfl) H)
 ·exact Zao (G:=Zab kp40 [] []) 1000 [false] (vi 0) (by kernel_rfl) (bc (Zal (fun h=>d2 (Zae.1 h))) b0) q0 c0 H
end Go.Av

namespace Go.Av
open Go.Proofs
namespace O
def okCk (l:List Mo) (S A j:Int):Prop:=(okT l/\l.length<=20000)/\Zbf S A j/\good l S A j /\ ∀ i,i<l.length->0<=(l.getD i default).r
end O
section
variable {l:List Mo} {S A j:Int} (f:Bool) (h:O.okCk l S A j)
include h
theorem ckD_loop:∀ (k i:Nat),i+k=l.length->ckD_at f l S A j l.length i (Zak (.int .i64 0)):=by
 obtain ⟨⟨⟨hl,hc⟩,hn⟩,hL,hg,hr⟩:=h
 intro k
 induction k with
 | zero =>
  intro i hi
  exact ckD _ _ _ _ _ _ _ _ ⟨fun z=>absurd z (by omega),fun _=>rfl⟩
 | succ k ih =>
  intro i hi
  have hm:=Zcl (hl.2 i (by omega))
  obtain ⟨g1,g2⟩:=hg i (by omega)
  have g3:O.stE (O.lm (l.getD i default).r S) A j (O.len ((l.getD i default).u-(l.getD i default).x) ((l.getD i default).v-(l.getD i default).y) ((l.getD i default).w-(l.getD i default).z))=0:=g2 (O.ml (l.getD i default)) hm.2.1 hm.2.2
  have g4:O.okSt (O.len ((l.getD i default).u-(l.getD i default).x) ((l.getD i default).v-(l.getD i default).y) ((l.getD i default).w-(l.getD i default).z)):=by
   show O.ml (l.getD i default)<=1000000
   omega
  refine ckD _ _ _ _ _ _ _ _ ⟨fun _ => ?_,fun z=>absurd (by omega) z⟩
  rw [Int.toNat_natCast]
  exact ⟨by omega,by omega,hm.1,g1,g4,fun z=>absurd g3 z,fun _=>⟨by omega,ih (i+1) (by omega)⟩⟩
theorem ckC_loop:∀ (k i:Nat),i+k=l.length->ckC_at f l S A j l.length i (Zak (.int .i64 0)):=by
 have hD:=ckD_loop f h l.length 0 (by omega)
 obtain ⟨⟨⟨hl,hc⟩,hn⟩,hL,hg,hr⟩:=h
 intro k
 induction k with
 | zero =>
  intro i hi
  exact ckC _ _ _ _ _ _ _ _ ⟨fun z=>absurd z (by omega),fun _=>⟨fun z=>absurd z (by omega),fun _=>hD⟩⟩
 | succ k ih =>
  intro i hi
  have hm:=hl.2 i (by omega)
  unfold O.okM at hm
  refine ckC _ _ _ _ _ _ _ _ ⟨fun _ => ?_,fun z=>absurd (by omega) z⟩
  rw [Int.toNat_natCast]
  exact ⟨by omega,by omega,⟨by omega,by omega,by omega⟩,⟨by omega,by omega,by omega⟩,by omega,ih (i+1) (by omega)⟩
theorem ckB_loop:∀ (k i:Nat),i+k=l.length->ckB_at f l S A j l.length i (Zak (.int .i64 0)):=by
 have hD:=ckC_loop f h l.length 0 (by omega)
 obtain ⟨⟨⟨hl,hc⟩,hn⟩,hL,hg,hr⟩:=h
 intro k
 induction k with
 | zero =>
  intro i hi
  exact ckB _ _ _ _ _ _ _ _ ⟨fun z=>absurd z (by omega),fun _=>hD⟩
 | succ k ih =>
  intro i hi
  have hri:=hr i (by omega)
  have hcc:(i:Int)>0->((l.getD ((i:Int)-1).toNat default).u=(l.getD i default).x)/\((l.getD ((i:Int)-1).toNat default).v=(l.getD i default).y)/\(l.getD ((i:Int)-1).toNat default).w=(l.getD i default).z:=fun hp=>by
   have:=hc (i-1) (by omega)
   rw [show i-1+1=i by omega] at this
   unfold Mo.dst Mo.src at this
   injection this with e1 e2 e3
   rw [show ((i:Int)-1).toNat=i-1 by omega]
   exact ⟨e1,e2,e3⟩
  have hno:¬(((l.getD i default).r<0)\/((i:Int)>0/\¬(((l.getD ((i:Int)-1).toNat default).u=(l.getD i default).x)/\(((l.getD ((i:Int)-1).toNat default).v=(l.getD i default).y)/\(l.getD ((i:Int)-1).toNat default).w=(l.getD i default).z)))):=by
   rintro (y | y)
   ·omega
   ·exact y.2 (hcc y.1)
  refine ckB _ _ _ _ _ _ _ _ ⟨fun _ => ?_,fun z=>absurd (by omega) z⟩
  rw [Int.toNat_natCast]
  exact ⟨by omega,by omega,by omega,fun z=>by omega,fun z=>by omega,fun z=>absurd z hno,fun _=>⟨by omega,ih (i+1) (by omega)⟩⟩
end
theorem ev40 (f:Bool) (l:List Mo) (S A j:Int) (h:O.okCk l S A j):Ev M1 (.pure 40 [.vec f 9 (l.map Mo.a),.agg [.int .i64 S,.int .i64 A,.int .i64 j]]) (.int .i64 0) []:=
 call40 (ckA f l S A j _ ⟨fun z=>absurd (ZcF.2 h.2.1) z,fun _=>ckB_loop f h l.length 0 (by omega)⟩)
end Go.Av

namespace Go.Av
open Go.Proofs
set_option maxRecDepth 100000
def fi9:Fi:=⟨32,[.tmp 4,.tmp 5]⟩
def kp9:List (Nat × List Nat):=[(0,[0,3]),(1,[0,3,6]),(2,[0,3,6,12]),(3,[4,5]),(4,[0,7]),(5,[0,7,21]),(6,[7]),(7,[7]),(8,[4,5])]
def nwA_at (f:Bool) (l:List Mo) (S A j:Int) (Q:AV->Heap->Prop):Prop:=Wp M1 (.run fi9 (atC (cd Try.f9) []) [(0,.vec f 9 (l.map Mo.a)),(1,.agg [.int .i64 S,.int .i64 A,.int .i64 j])] []) Q
theorem owncall9 {args:List AV} {L:Heap} {Q:AV->Heap->Prop} (h:Wp M1 (.run fi9 [.code (cd Try.f9)] (ZaM 0 args) L) Q):Wp M1 (.own 9 args L) Q:=
 Zfr Try.f9 fi9 (by kernel_rfl) (by kernel_rfl) (by kernel_rfl) (by kernel_rfl) h
noncomputable abbrev zCxQ1 (l:List Mo):=ag [vi (l.getD 0 default).x,vi (l.getD 0 default).y,vi (l.getD 0 default).z,vi (l.getD 0 default).u,vi (l.getD 0 default).v,vi (l.getD 0 default).w,vi (l.getD 0 default).r,vi (l.getD 0 default).t,vi (l.getD 0 default).b]
noncomputable abbrev zCxQ2 (S:Int) (A:Int) (j:Int):=ag [vi S,vi A,vi j]
theorem nwA (f:Bool) (l:List Mo) (S A j:Int)  (Q:AV->Heap->Prop) (H :
  (O.okCk l S A j) /\
  (O.ZeZ l) /\
  (((↑l.length:Int)>0)->(0<l.length) /\
   (O.okK l 0) /\
   Q (tu [AV.ptr 1 0 0 0,vi 0]) [{ elems:=[ag [vi S,vi A,vi j]],es:=3,ver:=0,frozen:=false,clean:=false },{ elems:=[ag [AV.vec false 9 (List.map Mo.a l),vi S,vi A,vi j,vi (O.skI l 0),vi 0,AV.vnil,vi 0,vb false,vb false,vb false,AV.vnil,vi (l.getD 0 default).x,vi (l.getD 0 default).y,vi (l.getD 0 default).z]],es:=15,ver:=0,frozen:=false,clean:=false }]) /\
  (¬((↑l.length:Int)>0)->(O.okK l 0) /\
   Q (tu [AV.ptr 1 0 0 0,vi 0]) [{ elems:=[ag [vi S,vi A,vi j]],es:=3,ver:=0,frozen:=false,clean:=false },{ elems:=[ag [AV.vec false 9 (List.map Mo.a l),vi S,vi A,vi j,vi (O.skI l 0),vi 0,AV.vnil,vi 0,vb false,vb false,vb false,AV.vnil,vi 0,vi 0,vi 0]],es:=15,ver:=0,frozen:=false,clean:=false }])) :
 nwA_at f l S A j Q:=by
 unfold nwA_at
 obtain ⟨k1,k2,H⟩:=H
 have w3:(List.map Mo.a l).length=l.length:=List.length_map ..
 have i4:(decide ((↑(List.map Mo.a l).length:Int)>0))=true ↔ ((↑l.length:Int)>0):=(by (try rw [w3]);all_goals exact Zae)
 refine Zac (G:=Zab kp9 [(1,2,.call (vi 0) none),(4,1,.call (AV.vec false 9 (List.map Mo.a l)) none)] []) 14 [false] ⟨(atC (cd Try.f9) [1,1,1,0,1]),[(0,AV.vec f 9 (List.map Mo.a l)),(7,AV.ptr 1 0 0 0),(21,vb (decide ((↑(List.map Mo.a l).length:Int)>0)))],[⟨[(zCxQ2 S A j)],3,0,false,false⟩,⟨[ag [AV.vec false 9 (List.map Mo.a l),vi S,vi A,vi j,vi 0,vi 0,AV.vnil,vi 0,vb false,vb false,vb false,AV.vnil,vi 0,vi 0,vi 0]],15,0,false,false⟩],_,[],_⟩ (by kernel_rfl) (bc rfl (bc rfl (bc rfl b0))) q0 (ce (@ev40 f l S A j k1) (ce (@ev41 f l k2) c0)) ?_
 rcases xq H with ⟨d5,H⟩|⟨d5,H⟩
 ·have i6:(decide (0<(List.map Mo.a l).length))=true ↔ (0<l.length):=(by (try rw [w3]);all_goals exact Zae)
  obtain ⟨k7,k8,H⟩:=H
  exact Zai (G:=Zab kp9 [(6,4,.elem (zCxQ1 l)),(7,1,.call (tu []) (some [⟨[ag [AV.vec false 9 (List.map Mo.a l),vi S,vi A,vi j,vi (O.skI l 0),vi 0,AV.vnil,vi 0,vb false,vb false,vb false,AV.vnil,vi (l.getD 0 default).x,vi (l.getD 0 default).y,vi (l.getD 0 default).z]],15,0,false,false⟩]))] []) 1000 [true] (k:=((atC (cd Try.f9) [1,1,1,1,1,1])).tail) (env':=[(4,AV.ptr 1 0 0 0),(5,vi 0)]) (L':=[⟨[(zCxQ2 S A j)],3,0,false,false⟩,⟨[ag [AV.vec false 9 (List.map Mo.a l),vi S,vi A,vi j,vi (O.skI l 0),vi 0,AV.vnil,vi 0,vb false,vb false,vb false,AV.vnil,vi (l.getD 0 default).x,vi (l.getD 0 default).y,vi (l.getD 0 default).z]],15,0,false,false⟩]) (asm:=[(decide ((↑(List.map Mo.a l).length:Int)>0))==true,true,decide (0<(List.map Mo.a l).length),true]) (eqs:=[((List.map Mo.a l).get?Internal 0=some (zCxQ1 l))]) (calls:=[⟨true,true,42,[AV.ptr 0 0 0 0],[⟨[ag [AV.vec false 9 (List.map Mo.a l),vi S,vi A,vi j,vi 0,vi 0,AV.vnil,vi 0,vb false,vb false,vb false,AV.vnil,vi (l.getD 0 default).x,vi (l.getD 0 default).y,vi (l.getD 0 default).z]],15,0,false,false⟩],tu [],[⟨[ag [AV.vec false 9 (List.map Mo.a l),vi S,vi A,vi j,vi (O.skI l 0),vi 0,AV.vnil,vi 0,vb false,vb false,vb false,AV.vnil,vi (l.getD 0 default).x,vi (l.getD 0 default).y,vi (l.getD 0 default).z]],15,0,false,false⟩]⟩]) (tu [AV.ptr 1 0 0 0,vi 0]) (by kernel_rfl) (by kernel_rfl) (Zaa (Zam (i4.2 d5)) (Zaa rfl (Zaa (i6.2 k7) (Zaa rfl Zad)))) (Zbe (Zay k7) Zaf) (Zaq (fun _=>(@evo42_a false l S A j 0 0 0 false false false ((l.getD 0 default).x) ((l.getD 0 default).y) ((l.getD 0 default).z) k8)) Zag) H
 ·obtain ⟨k9,H⟩:=H
  exact Zai (G:=Zab kp9 [(7,1,.call (tu []) (some [⟨[ag [AV.vec false 9 (List.map Mo.a l),vi S,vi A,vi j,vi (O.skI l 0),vi 0,AV.vnil,vi 0,vb false,vb false,vb false,AV.vnil,vi 0,vi 0,vi 0]],15,0,false,false⟩]))] []) 1000 [false] (k:=((atC (cd Try.f9) [1,1,1,1,1,1])).tail) (env':=[(4,AV.ptr 1 0 0 0),(5,vi 0)]) (L':=[⟨[(zCxQ2 S A j)],3,0,false,false⟩,⟨[ag [AV.vec false 9 (List.map Mo.a l),vi S,vi A,vi j,vi (O.skI l 0),vi 0,AV.vnil,vi 0,vb false,vb false,vb false,AV.vnil,vi 0,vi 0,vi 0]],15,0,false,false⟩]) (asm:=[(decide ((↑(List.map Mo.a l).length:Int)>0))==false]) (eqs:=[]) (calls:=[⟨true,true,42,[AV.ptr 0 0 0 0],[⟨[ag [AV.vec false 9 (List.map Mo.a l),vi S,vi A,vi j,vi 0,vi 0,AV.vnil,vi 0,vb false,vb false,vb false,AV.vnil,vi 0,vi 0,vi 0]],15,0,false,false⟩],tu [],[⟨[ag [AV.vec false 9 (List.map Mo.a l),vi S,vi A,vi j,vi (O.skI l 0),vi 0,AV.vnil,vi 0,vb false,vb false,vb false,AV.vnil,vi 0,vi 0,vi 0]],15,0,false,false⟩]⟩]) (tu [AV.ptr 1 0 0 0,vi 0]) (by kernel_rfl) (by kernel_rfl) (Zaa (Zal (fun h=>d5 (i4.1 h))) Zad) Zaf (Zaq (fun _=>(@evo42_a false l S A j 0 0 0 false false false 0 0 0 k9)) Zag) H
end Go.Av

namespace Go.Av
open Go.RowKit
theorem ZfC:∀ (rs:List Nat) (L:Heap) (n:Nat),(∀ r ∈ rs,n<=r)->(ZaZ rs L).take n=L.take n
 | [],_,_,_=>rfl
 | r::rs,L,n,h=>by
  have e:ZaZ (r::rs) L=ZaZ rs (match L[r]? with
   | some row=>L.set r { row with frozen:=true }
   | none=>L):=rfl
  rw [e,ZfC rs _ n fun q hq=>h q (List.mem_cons_of_mem _ hq)]
  have hr:=h r (List.mem_cons_self ..)
  cases L[r]? with
  | none=>rfl
  | some row=>exact List.take_set_of_le hr
def FrzQ (d:AV) (K:Heap):AV->Heap->Prop:=fun v L=>pureA L v=some d/\(∀ b ∈ versA L v,b=true)/\(∀ r ∈ rowsA v,K.length<=r)/\L.take K.length=K
theorem freeze_sound {M:Mach} {f:FuncId} {args:List AV} {L:Heap} {d:AV} {K:Heap} (hKl:K.length=L.length) (hK:∀ row ∈ K,∀ r ∈ Zat row,r<L.length) (hdc:rowsA d=[]) (ih:OwnQ M f args L (FrzQ d K)):OwnQ M f args L (isR d K):=by
 intro S cargs h1 h2 h3
 subst h2
 have hrows:=ZdI S.L
 have hnd:(List.range S.L.length).Nodup:=List.nodup_range
 have hin:=refs_in h1
 have hcl:∀ row ∈ S.L,∀ r ∈ Zat row,r ∈ List.range S.L.length:=fun row hr r hrr=>by simpa using hin row hr r hrr
 obtain ⟨hSc,_,hrelc⟩:=Zfg h1 hrows hnd hcl
 have hself:S.L.map (Zaj (Zap (List.range S.L.length)))=S.L:=by
  have:S.L.map (Zaj (Zap (List.range S.L.length)))=S.L.map id:=List.map_congr_left fun row hr=>by
   rw [ZcK fun r hrr=>ZcM (hin row hr r hrr)];rfl
  rw [this,List.map_id]
 have hrel':RelL ⟨S.base,Za7 S (List.range S.L.length),S.L.map (Zaj (Zap (List.range S.L.length))),subβ S.β (List.range S.L.length),S.w⟩ args cargs:=by
  refine ⟨h3.1,fun i c cv hc hcv => ?_⟩
  have hri:=Zgq (h3.2 i c cv hc hcv)
  have:=hrelc c cv (h3.2 i c cv hc hcv) fun r hr=>by simpa using hri r hr
  rwa [Zc2 fun r hr=>ZcM (hri r hr)] at this
 obtain ⟨m1,m2⟩:=ih _ cargs hSc hself hrel'
 refine ⟨m1,Calls.mono m2 fun e w' he => ?_⟩
 cases e with
 | panicked c=>exact he.elim
 | outgrown=>exact he.elim
 | returned cv =>
  obtain ⟨v',L1,β1,⟨hd,hvs,hge,hq⟩,n1,n2,n3⟩:=he
  have fr:=ZcC (S:=⟨S.base,Za7 S (List.range S.L.length),L1,β1,w'⟩) (rowsA v') n1
  have n1':HeapOk ⟨S.base,Za7 S (List.range S.L.length),ZaZ (rowsA v') L1,β1,w'⟩:=fr.1
  have n2':Ext ⟨S.base,Za7 S (List.range S.L.length),S.L.map (Zaj (Zap (List.range S.L.length))),subβ S.β (List.range S.L.length),S.w⟩ ⟨S.base,Za7 S (List.range S.L.length),ZaZ (rowsA v') L1,β1,w'⟩:=n2.trans fr.2
  have hD:DRel ⟨S.base,Za7 S (List.range S.L.length),ZaZ (rowsA v') L1,β1,w'⟩ d cv:=pure_rel (S:=⟨S.base,Za7 S (List.range S.L.length),L1,β1,w'⟩) (S':=⟨S.base,Za7 S (List.range S.L.length),ZaZ (rowsA v') L1,β1,w'⟩) n1 rfl (fun b off hi hb=>(fr.2.imm b off hi hb).1) v' n3 hd hvs (Zdg (S:=⟨S.base,Za7 S (List.range S.L.length),L1,β1,w'⟩) n1 _)
  have hq':(ZaZ (rowsA v') L1).take K.length=K:=(ZfC _ _ _ hge).trans hq
  generalize ZaZ (rowsA v') L1=L2 at n1' n2' hD hq'
  rw [hKl] at hq'
  have hlen:(List.range S.L.length).length=S.L.length:=List.length_range
  have hle:S.L.length<=L2.length:=by
   have:=congrArg List.length hq'
   rw [List.length_take,hKl] at this
   omega
  have ho:ZaD L2 (List.range (List.range S.L.length).length)=some K:=by
   rw [hlen,<- hq']
   have:=Zdf L2 S.L.length hle
   rw [hq'] at this ⊢
   exact this
  obtain ⟨k1,k2,k3⟩:=Zeu (S1:=⟨S.base,Za7 S (List.range S.L.length),L2,β1,w'⟩) (ns:=[]) (new:=[]) h1 hrows hnd hcl n1' n2' List.nodup_nil (by simp) ho rfl
   (fun row hr r hrr => .inl (by rw [hlen];exact hK row (by simpa using hr) r hrr))
  have hb:∀ r,r<S.L.length->ZaQ S.L.length (List.range S.L.length) [] r=r:=by
   intro r hr
   rw [Zev (by rw [hlen];exact hr)];simp
  have hKK:Za3 S.L (List.range S.L.length) [] K []=K:=by
   unfold Za3
   rw [List.map_nil,List.append_nil]
   have:K.map (Zaj (ZaQ S.L.length (List.range S.L.length) []))=K.map id:=List.map_congr_left fun row hr=>by
    rw [ZcK fun r hrr=>hb r (hK row hr r hrr)];rfl
   rw [this,List.map_id,put_all _ _ hKl]
  have k3':=k3 d cv (.data _ _ hD) fun r hr=>by rw [hdc] at hr;cases hr
  rw [Zc2 fun r hr=>by rw [hdc] at hr;cases hr] at k3'
  rw [hKK] at k1 k2 k3'
  exact ⟨d,K,_,⟨rfl,rfl⟩,k1,k2,k3'⟩
def frzOk (n:Nat) (K:Heap):Bool:=Nat.beq K.length n&&K.all fun row=>(Zat row).all fun r=>Nat.blt r n
theorem own_freeze {M:Mach} (hm:(M.P ()).follows .mixedOrders=true) {f:FuncId} {args:List AV} {L:Heap} {d:AV} {K:Heap} (hk:frzOk L.length K=true) (hdc:rowsA d=[]) (h:Wp M (.own f args L) (FrzQ d K)):Ev M (.own f args L) d K:=by
 unfold frzOk at hk
 simp only [Bool.and_eq_true,List.all_eq_true,Nat.blt_eq,Nat.beq_eq] at hk
 exact .sem (freeze_sound hk.1 hk.2 hdc (Zbn hm (c:=.own f args L) h))
end Go.Av

namespace Go.Av
open Go.RowKit
def FrsQ (d:AV) (K:Heap):AV->Heap->Prop:=fun v L => ∃ ns rows,ZaD L ns=some rows/\ns.Nodup/\(∀ r ∈ rowsA v,r ∈ ns)/\(∀ row ∈ rows,∀ r ∈ Zat row,r ∈ ns)/\renA (Zap ns) v=d/\rows.map (Zaj (Zap ns))=K
theorem frs_sound {M:Mach} {f:FuncId} {args:List AV} {d:AV} {K:Heap} (ih:OwnQ M f args [] (FrsQ d K)):OwnQ M f args [] (isR d K):=by
 intro S cargs h1 h2 h3
 have hrows:ZaD S.L []=some []:=rfl
 have hcl:∀ row ∈ ([]:List Row),∀ r ∈ Zat row,r ∈ ([]:List Nat):=fun row hr=>by cases hr
 obtain ⟨hSc,_,hrelc⟩:=Zfg h1 hrows List.nodup_nil hcl
 have hno:∀ {a v},Rel S a v->rowsA a=[]:=fun {a v} h=>by
  cases hr:rowsA a with
  | nil=>rfl
  | cons r l=>have:=Zgq h r (by rw [hr];exact List.mem_cons_self ..);rw [h2] at this;simp at this
 have hrel':RelL ⟨S.base,Za7 S [],[],subβ S.β [],S.w⟩ args cargs:=by
  refine ⟨h3.1,fun i c cv hc hcv => ?_⟩
  have hri:=hno (h3.2 i c cv hc hcv)
  have:=hrelc c cv (h3.2 i c cv hc hcv) fun r hr=>by rw [hri] at hr;cases hr
  rwa [Zc2 fun r hr=>by rw [hri] at hr;cases hr] at this
 obtain ⟨m1,m2⟩:=ih ⟨S.base,Za7 S [],[],subβ S.β [],S.w⟩ cargs hSc rfl hrel'
 refine ⟨m1,Calls.mono m2 fun e w' he => ?_⟩
 cases e with
 | panicked c=>exact he.elim
 | outgrown=>exact he.elim
 | returned cv =>
  obtain ⟨v',L1,β1,⟨ns,rows,hn,hnd,hv,hr,hd,hK⟩,n1,n2,n3⟩:=he
  obtain ⟨k1,k2,k3⟩:=Zeu (S1:=⟨S.base,Za7 S [],L1,β1,w'⟩) (ns:=ns) (new:=rows) (old:=[]) h1 hrows List.nodup_nil hcl n1 n2 hnd (by simp) rfl hn
   (fun r hr1 q hq=>by simp only [List.nil_append] at hr1;exact .inr (hr r hr1 q hq))
  have hb:∀ r,ZaQ S.L.length [] ns r=Zap ns r:=fun r=>by rw [back_ge (by simp),h2];simp
  have hLL:Za3 S.L [] ns [] rows=K:=by
   rw [<- hK]
   unfold Za3
   rw [h2]
   simp only [List.map_nil,ZcU,List.nil_append]
   refine List.map_congr_left fun row _ => ?_
   unfold Zaj
   cases row.clean with
   | true=>rfl
   | false=>simp only [cond_false];rw [renL_ext (g:=Zap ns) row.elems fun r _=>by have:=hb r;rw [h2] at this;exact this]
  have k3':=k3 v' cv n3 fun r hr1 => .inr (hv r hr1)
  rw [renA_ext (g:=Zap ns) v' fun r _=>hb r,hd] at k3'
  rw [hLL] at k1 k2 k3'
  exact ⟨d,K,_,⟨rfl,rfl⟩,k1,k2,k3'⟩
theorem own_frs {M:Mach} (hm:(M.P ()).follows .mixedOrders=true) {f:FuncId} {args:List AV} {d:AV} {K:Heap} (h:Wp M (.own f args []) (FrsQ d K)):Ev M (.own f args []) d K:=
 .sem (frs_sound (Zbn hm (c:=.own f args []) h))
theorem frs_end {v:AV} {L:Heap} {d:AV} {K:Heap} (ns:List Nat) (h:(match ZaD L ns with
  | some rows=>Zft ns&&((rowsA v).all ns.contains&&rows.all fun row=>(Zat row).all ns.contains)
  | none=>false)=true) (hd:renA (Zap ns) v=d) (hK:(match ZaD L ns with
  | some rows=>rows.map (Zaj (Zap ns))
  | none=>[])=K):FrsQ d K v L:=by
 split at h
 ·rename_i rows hr
  simp only [Bool.and_eq_true,List.all_eq_true,List.contains_iff_mem] at h
  rw [hr] at hK
  exact ⟨ns,rows,hr,(Zbm ns).1 h.1,h.2.1,h.2.2,hd,hK⟩
 ·cases h
end Go.Av

namespace Go.Av
open Go.Proofs
namespace O
def q0 (l:List Mo):Ps:=if (l.length:Int)>0 then (l.getD 0 default).src else ⟨0,0,0⟩
def q0x (l:List Mo):Int:=(q0 l).x
def q0y (l:List Mo):Int:=(q0 l).y
def q0z (l:List Mo):Int:=(q0 l).z
noncomputable def newS (l:List Mo):Cs:=⟨skI l 0,0,none,0,false,false,false,[],q0 l⟩
end O
theorem hm1:(M1.P ()).follows .mixedOrders=true:=by kernel_rfl
theorem evo9 (f:Bool) (l:List Mo) (S A j:Int) (h:O.okCk l S A j):Ev M1 (.own 9 [.vec f 9 (l.map Mo.a),.agg [.int .i64 S,.int .i64 A,.int .i64 j]] []) (.tup [.ptr 0 0 0 0,.int .i64 0]) [⟨[.agg [.vec false 9 (l.map Mo.a),.int .i64 S,.int .i64 A,.int .i64 j,.int .i64 (O.skI l 0),.int .i64 0,.vnil,.int .i64 0,.bool false,.bool false,.bool false,.vnil,.int .i64 (O.q0x l),.int .i64 (O.q0y l),.int .i64 (O.q0z l)]],15,0,false,false⟩]:=by
 have hl:=h.1.1.1
 have hlen:=h.1.2
 refine own_frs hm1 (owncall9 (nwA f l S A j _ ⟨h,by unfold O.ZeZ;omega,fun hp=>⟨by omega,⟨hl,by omega,by omega⟩,?_⟩,fun hp=>⟨⟨hl,by omega,by omega⟩,?_⟩⟩))
 ·refine frs_end [1] rfl rfl ?_
  unfold O.q0x O.q0y O.q0z O.q0
  rw [if_pos hp];rfl
 ·refine frs_end [1] rfl rfl ?_
  unfold O.q0x O.q0y O.q0z O.q0
  rw [if_neg hp];rfl
theorem po_sk {l:List Mo} (hc:O.chain l) (h:0<l.length) {i:Nat} (hi:i<=l.length):O.po l ((O.sk l i:Nat):Int) 0=O.pos l i:=by
 obtain ⟨⟨k1,k2⟩,k3,k4⟩:=sk_spec (L:=l) (i:=i) hi
 rw [<- sk_pos hc hi]
 unfold O.pos
 by_cases hq:O.sk l i<l.length
 ·rw [if_pos hq,po_mid (by omega) (by omega),Int.toNat_natCast,at3_zero (k3 hq)]
 ·rw [if_neg hq]
  unfold O.po
  rw [if_neg (by omega),if_pos (by omega),show (((O.sk l i:Nat):Int)-1).toNat=l.length-1 by omega]
theorem new_ok {l:List Mo} {B:Int} (ht:O.okT l) (hB:O.D l 0 0<=B):Iv l B (O.newS l)/\O.D l (O.newS l).ix (O.newS l).p=O.D l 0 0:=by
 obtain ⟨hl,hc⟩:=ht
 obtain ⟨⟨k1,k2⟩,k3,k4⟩:=sk_spec (L:=l) (i:=0) (by omega)
 have e0:O.skI l 0=((O.sk l 0:Nat):Int):=rfl
 have hD:O.D l ((O.sk l 0:Nat):Int) 0=O.D l 0 0:=by
  unfold O.D O.sk
  rw [Int.toNat_natCast,skF_sum _ _ (by omega)];rfl
 have hq:O.q0 l=O.po l ((O.sk l 0:Nat):Int) 0/\O.q0 l=O.pos l (O.sk l 0):=by
  by_cases h:0<l.length
  ·have e1:O.q0 l=O.pos l 0:=by unfold O.q0 O.pos;rw [if_pos (by omega),if_pos h]
   rw [po_sk hc h (by omega),sk_pos hc (by omega)]
   exact ⟨e1,e1⟩
  ·have:l=[]:=List.eq_nil_of_length_eq_zero (by omega)
   subst this
   exact ⟨rfl,rfl⟩
 unfold O.newS
 rw [e0]
 refine ⟨⟨?_,?_,fun _=>⟨rfl,rfl⟩,(fun X hX=>nomatch hX),fun _=>⟨rfl,rfl,hq.1⟩,(fun X hX=>nomatch hX),(fun X hX=>nomatch hX),fun _ => .inl ⟨?_,?_⟩,?_⟩,hD⟩
 ·simp only;omega
 ·simp only
  intro hlt
  rw [Int.toNat_natCast]
  have:=Zgx (l.getD (O.sk l 0) default)
  have:=k3 (by omega)
  exact ⟨this,by omega,by omega⟩
 ·simp only
  rw [Int.toNat_natCast,k4];rfl
 ·simp only
  rw [Int.toNat_natCast];exact hq.2
 ·simp only
  rw [hD,if_pos trivial]
  simp
  exact hB
end Go.Av

namespace Go.Av
open Go.Proofs
set_option maxRecDepth 100000
def fi17:Fi:=⟨26,[.tmp 4]⟩
def kp17:List (Nat × List Nat):=[(0,[0,1]),(1,[0,1,10]),(2,[4]),(3,[0,1,5]),(4,[0,1,5,14]),(5,[0,1,5]),(6,[0,1,5,25]),(7,[4]),(8,[4])]
def fi18:Fi:=⟨74,[.tmp 2]⟩
def kp18:List (Nat × List Nat):=[(0,[0]),(1,[0,3]),(2,[3,7,8,9]),(3,[3,7,8,9,10]),(4,[3,5,7,8,9]),(5,[3,5,6,7,8,9]),(6,[3,5,6,7,8,9,60]),(7,[3,7,8,9]),(8,[3,7,8,9]),(9,[3,7,8,9]),(10,[2])]
def fi20:Fi:=⟨23,[.tmp 2]⟩
def kp20:List (Nat × List Nat):=[(0,[0]),(1,[0,3]),(2,[3,6,7,8]),(3,[3,6,7,8,9]),(4,[3,5,6,7,8]),(5,[3,5,6,7,8,16]),(6,[3,6,7,8]),(7,[3,6,7,8]),(8,[2])]
def fi21:Fi:=⟨16,[.cell 4 42]⟩
def kp21:List (Nat × List Nat):=[(0,[1,2,4]),(1,[1,2,4,7]),(2,[4]),(3,[4])]
def whA_at (f:Bool) (l:List Mo) (Q:AV->Heap->Prop):Prop:=Wp M1 (.run fi18 (atC (cd Try.f18) []) [(0,.vec f 9 (l.map Mo.a))] []) Q
def whN_at (f:Bool) (l:List Mo) (n i:Int) (Q:AV->Heap->Prop):Prop:=Wp M1 (.run fi18 (atC (cd Try.f18) [1,1,0,1,0,0]) [(3,.vnil),(7,.vec f 9 (l.map Mo.a)),(8,.int .i64 n),(9,.int .i64 i)] []) Q
def Zgh (f:Bool) (l:List Mo) (n i:Int) (o:List Mo) (w:Nat) (Q:AV->Heap->Prop):Prop:=Wp M1 (.run fi18 (atC (cd Try.f18) [1,1,0,1,0,0]) [(3,.row 0 w),(7,.vec f 9 (l.map Mo.a)),(8,.int .i64 n),(9,.int .i64 i)] [⟨o.map Mo.a,9,w,false,true⟩]) Q
def lnA_at (f:Bool) (l:List Mo) (Q:AV->Heap->Prop):Prop:=Wp M1 (.run fi20 (atC (cd Try.f20) []) [(0,.vec f 9 (l.map Mo.a))] []) Q
def lnN_at (f:Bool) (l:List Mo) (n i:Int) (Q:AV->Heap->Prop):Prop:=Wp M1 (.run fi20 (atC (cd Try.f20) [1,1,0,1,0,0]) [(3,.vnil),(6,.vec f 9 (l.map Mo.a)),(7,.int .i64 n),(8,.int .i64 i)] []) Q
def Zgz (f:Bool) (l:List Mo) (n i:Int) (o:List Mo) (w:Nat) (Q:AV->Heap->Prop):Prop:=Wp M1 (.run fi20 (atC (cd Try.f20) [1,1,0,1,0,0]) [(3,.row 0 w),(6,.vec f 9 (l.map Mo.a)),(7,.int .i64 n),(8,.int .i64 i)] [⟨o.map Mo.a,9,w,false,true⟩]) Q
def smP_at (f g:Bool) (l m:List Mo) (Q:AV->Heap->Prop):Prop:=Wp M1 (.run fi17 (atC (cd Try.f17) []) [(0,.vec f 9 (l.map Mo.a)),(1,.vec g 9 (m.map Mo.a))] []) Q
def smQ_at (f g:Bool) (l m:List Mo) (i:Int) (Q:AV->Heap->Prop):Prop:=Wp M1 (.run fi17 (atC (cd Try.f17) [1,1,0,1,0,0]) [(0,.vec f 9 (l.map Mo.a)),(1,.vec g 9 (m.map Mo.a)),(5,.int .i64 i)] []) Q
def enA_at (x y z:Int) (f:Bool) (l:List Mo) (Q:AV->Heap->Prop):Prop:=Wp M1 (.run fi21 (atC (cd Try.f21) []) [(0,.agg [.int .i64 x,.int .i64 y,.int .i64 z]),(1,.vec f 9 (l.map Mo.a))] []) Q
theorem call17 {args:List AV} {d:AV} (h:wc M1 fi17 Try.f17 args d):Ev M1 (.pure 17 args) d []:=pcl _ _ (by kernel_rfl) h
theorem call18 {args:List AV} {d:AV} (h:wc M1 fi18 Try.f18 args d):Ev M1 (.pure 18 args) d []:=pcl _ _ (by kernel_rfl) h
theorem call20 {args:List AV} {d:AV} (h:wc M1 fi20 Try.f20 args d):Ev M1 (.pure 20 args) d []:=pcl _ _ (by kernel_rfl) h
theorem call21 {args:List AV} {d:AV} (h:wc M1 fi21 Try.f21 args d):Ev M1 (.pure 21 args) d []:=pcl _ _ (by kernel_rfl) h
theorem whA (f:Bool) (l:List Mo)  (dq:AV) (H :
  whN_at f l ((↑l.length:Int)) 0 (Zak dq)) :
 whA_at f l (Zak dq):=by
 unfold whA_at
 have w1:(List.map Mo.a l).length=l.length:=List.length_map ..
 exact Zac (G:=Zab kp18 [] []) 1000 [] ⟨(atC (cd Try.f18) [1,1,0,1,0,0]),[(3,AV.vnil),(7,AV.vec f 9 (List.map Mo.a l)),(8,vi (↑(List.map Mo.a l).length:Int)),(9,vi 0)],[],_,[],_⟩ (by kernel_rfl) b0 q0 c0 (by (try rw [w1]);all_goals exact H)
noncomputable abbrev zCxR1 (l:List Mo) (i:Int):=ag [vi (l.getD i.toNat default).x,vi (l.getD i.toNat default).y,vi (l.getD i.toNat default).z,vi (l.getD i.toNat default).u,vi (l.getD i.toNat default).v,vi (l.getD i.toNat default).w,vi (l.getD i.toNat default).r,vi (l.getD i.toNat default).t,vi (l.getD i.toNat default).b]
theorem whN (f:Bool) (l:List Mo) (n i:Int)  (dq:AV) (H :
  ((i<n)->(0<=i) /\
   (i.toNat<l.length) /\
   (-9223372036854775808<=i+1/\i+1<=9223372036854775807) /\
   Zgh f l n (i+1) ([l.getD i.toNat default]) 0 (Zak dq)) /\
  (¬(i<n)->Weak (AV.vnil) dq)) :
 whN_at f l n i (Zak dq):=by
 unfold whN_at
 rcases xq H with ⟨d2,H⟩|⟨d2,H⟩
 ·obtain ⟨k4,H⟩:=H
  have w5:(List.map Mo.a l).length=l.length:=List.length_map ..
  have i6:(decide (i.toNat<(List.map Mo.a l).length))=true ↔ (i.toNat<l.length):=(by (try rw [w5]);all_goals exact Zae)
  obtain ⟨k7,k8,H⟩:=H
  have w9:wi (i+1)=i+1:=wI64 k8
  have w10:[ag [vi (l.getD i.toNat default).x,vi (l.getD i.toNat default).y,vi (l.getD i.toNat default).z,vi (l.getD i.toNat default).u,vi (l.getD i.toNat default).v,vi (l.getD i.toNat default).w,vi (l.getD i.toNat default).r,vi (l.getD i.toNat default).t,vi (l.getD i.toNat default).b]]=List.map Mo.a [l.getD i.toNat default]:=rfl
  exact Zac (G:=Zab kp18 [(4,1,.elem (zCxR1 l i))] []) 1000 [true,false] ⟨(atC (cd Try.f18) [1,1,0,1,0,0]),[(3,AV.row 1 0),(7,AV.vec f 9 (List.map Mo.a l)),(8,vi n),(9,vi (wi (i+1)))],[⟨[ag [vi (l.getD i.toNat default).x,vi (l.getD i.toNat default).y,vi (l.getD i.toNat default).z,vi (l.getD i.toNat default).u,vi (l.getD i.toNat default).v,vi (l.getD i.toNat default).w,vi (l.getD i.toNat default).r,vi (l.getD i.toNat default).t,vi (l.getD i.toNat default).b]],9,0,false,false⟩,⟨[ag [vi (l.getD i.toNat default).x,vi (l.getD i.toNat default).y,vi (l.getD i.toNat default).z,vi (l.getD i.toNat default).u,vi (l.getD i.toNat default).v,vi (l.getD i.toNat default).w,vi (l.getD i.toNat default).r,vi (l.getD i.toNat default).t,vi (l.getD i.toNat default).b]],9,0,false,true⟩],_,[((List.map Mo.a l).get?Internal i.toNat=some (zCxR1 l i))],_⟩ (by kernel_rfl) (bc (Zam (Zae.2 d2)) (bc (Zae.2 k4) (bc (i6.2 k7) (bc rfl (bc rfl (bc rfl (bc rfl (bc rfl (bc rfl (bc rfl (bc rfl b0))))))))))) (qc (Zay k7) q0) c0 (by (try rw [w9]);(try rw [w10]);all_goals exact Zar [1] (by kernel_rfl) H)
 ·exact Zbb (G:=Zab kp18 [] []) 1000 [false] (AV.vnil) (by kernel_rfl) (bc (Zal (fun h=>d2 (Zae.1 h))) b0) q0 c0 H
noncomputable abbrev Zf0 (o:List Mo):=ag [vi (o.getD ((↑o.length:Int)-1).toNat default).x,vi (o.getD ((↑o.length:Int)-1).toNat default).y,vi (o.getD ((↑o.length:Int)-1).toNat default).z,vi (o.getD ((↑o.length:Int)-1).toNat default).u,vi (o.getD ((↑o.length:Int)-1).toNat default).v,vi (o.getD ((↑o.length:Int)-1).toNat default).w,vi (o.getD ((↑o.length:Int)-1).toNat default).r,vi (o.getD ((↑o.length:Int)-1).toNat default).t,vi (o.getD ((↑o.length:Int)-1).toNat default).b]
noncomputable abbrev zCxR3 (l:List Mo) (i:Int):=ag [vi (l.getD i.toNat default).x,vi (l.getD i.toNat default).y,vi (l.getD i.toNat default).z,vi (l.getD i.toNat default).u,vi (l.getD i.toNat default).v,vi (l.getD i.toNat default).w,vi (l.getD i.toNat default).r,vi (l.getD i.toNat default).t,vi (l.getD i.toNat default).b]
theorem whR (f:Bool) (l:List Mo) (n i:Int) (o:List Mo) (w:Nat)  (dq:AV) (H :
  ((i<n)->(0<=i) /\
   (i.toNat<l.length) /\
   (-9223372036854775808<=(↑o.length:Int)-1/\(↑o.length:Int)-1<=9223372036854775807) /\
   (((↑o.length:Int)>0)->(0<=(↑o.length:Int)-1)) /\
   (((↑o.length:Int)>0)->(((↑o.length:Int)-1).toNat<o.length)) /\
   ((((↑o.length:Int)>0)/\((o.getD ((↑o.length:Int)-1).toNat default).b=(l.getD i.toNat default).b))->(0<=(↑o.length:Int)-1)) /\
   ((((↑o.length:Int)>0)/\((o.getD ((↑o.length:Int)-1).toNat default).b=(l.getD i.toNat default).b))->(((↑o.length:Int)-1).toNat<o.length)) /\
   (((((↑o.length:Int)>0)/\((o.getD ((↑o.length:Int)-1).toNat default).b=(l.getD i.toNat default).b))/\(((o.getD ((↑o.length:Int)-1).toNat default).u=(l.getD i.toNat default).x)/\(((o.getD ((↑o.length:Int)-1).toNat default).v=(l.getD i.toNat default).y)/\((o.getD ((↑o.length:Int)-1).toNat default).w=(l.getD i.toNat default).z))))->(0<=(↑o.length:Int)-1)) /\
   (((((↑o.length:Int)>0)/\((o.getD ((↑o.length:Int)-1).toNat default).b=(l.getD i.toNat default).b))/\(((o.getD ((↑o.length:Int)-1).toNat default).u=(l.getD i.toNat default).x)/\(((o.getD ((↑o.length:Int)-1).toNat default).v=(l.getD i.toNat default).y)/\((o.getD ((↑o.length:Int)-1).toNat default).w=(l.getD i.toNat default).z))))->(((↑o.length:Int)-1).toNat<o.length)) /\
   ((((((↑o.length:Int)>0)/\((o.getD ((↑o.length:Int)-1).toNat default).b=(l.getD i.toNat default).b))/\(((o.getD ((↑o.length:Int)-1).toNat default).u=(l.getD i.toNat default).x)/\(((o.getD ((↑o.length:Int)-1).toNat default).v=(l.getD i.toNat default).y)/\((o.getD ((↑o.length:Int)-1).toNat default).w=(l.getD i.toNat default).z))))/\((o.getD ((↑o.length:Int)-1).toNat default).r=(l.getD i.toNat default).r))->(0<=(↑o.length:Int)-1)) /\
   ((((((↑o.length:Int)>0)/\((o.getD ((↑o.length:Int)-1).toNat default).b=(l.getD i.toNat default).b))/\(((o.getD ((↑o.length:Int)-1).toNat default).u=(l.getD i.toNat default).x)/\(((o.getD ((↑o.length:Int)-1).toNat default).v=(l.getD i.toNat default).y)/\((o.getD ((↑o.length:Int)-1).toNat default).w=(l.getD i.toNat default).z))))/\((o.getD ((↑o.length:Int)-1).toNat default).r=(l.getD i.toNat default).r))->(((↑o.length:Int)-1).toNat<o.length)) /\
   (((((((↑o.length:Int)>0)/\((o.getD ((↑o.length:Int)-1).toNat default).b=(l.getD i.toNat default).b))/\(((o.getD ((↑o.length:Int)-1).toNat default).u=(l.getD i.toNat default).x)/\(((o.getD ((↑o.length:Int)-1).toNat default).v=(l.getD i.toNat default).y)/\((o.getD ((↑o.length:Int)-1).toNat default).w=(l.getD i.toNat default).z))))/\((o.getD ((↑o.length:Int)-1).toNat default).r=(l.getD i.toNat default).r))/\((o.getD ((↑o.length:Int)-1).toNat default).t=(l.getD i.toNat default).t))->(0<=(↑o.length:Int)-1) /\
    (((↑o.length:Int)-1).toNat<o.length) /\
    (-9223372036854775808<=i+1/\i+1<=9223372036854775807) /\
    Zgh f l n (i+1) (o.set ((↑o.length:Int)-1).toNat { x:=(o.getD ((↑o.length:Int)-1).toNat default).x,y:=(o.getD ((↑o.length:Int)-1).toNat default).y,z:=(o.getD ((↑o.length:Int)-1).toNat default).z,u:=(l.getD i.toNat default).u,v:=(l.getD i.toNat default).v,w:=(l.getD i.toNat default).w,r:=(o.getD ((↑o.length:Int)-1).toNat default).r,t:=(o.getD ((↑o.length:Int)-1).toNat default).t,b:=(o.getD ((↑o.length:Int)-1).toNat default).b }) w (Zak dq)) /\
   (¬((((((↑o.length:Int)>0)/\((o.getD ((↑o.length:Int)-1).toNat default).b=(l.getD i.toNat default).b))/\(((o.getD ((↑o.length:Int)-1).toNat default).u=(l.getD i.toNat default).x)/\(((o.getD ((↑o.length:Int)-1).toNat default).v=(l.getD i.toNat default).y)/\((o.getD ((↑o.length:Int)-1).toNat default).w=(l.getD i.toNat default).z))))/\((o.getD ((↑o.length:Int)-1).toNat default).r=(l.getD i.toNat default).r))/\((o.getD ((↑o.length:Int)-1).toNat default).t=(l.getD i.toNat default).t))->((o.length+1)*72<=1099511627776) /\
    (-9223372036854775808<=i+1/\i+1<=9223372036854775807) /\
    Zgh f l n (i+1) (o++[l.getD i.toNat default]) (w+1) (Zak dq))) /\
  (¬(i<n)->Weak (AV.vec false 9 (List.map Mo.a o)) dq)) :
 Zgh f l n i o w (Zak dq):=by
 unfold Zgh
 rcases xq H with ⟨d2,H⟩|⟨d2,H⟩
 ·obtain ⟨k4,H⟩:=H
  have w5:(List.map Mo.a l).length=l.length:=List.length_map ..
  have i6:(decide (i.toNat<(List.map Mo.a l).length))=true ↔ (i.toNat<l.length):=(by (try rw [w5]);all_goals exact Zae)
  obtain ⟨k7,H⟩:=H
  have w8:(List.map Mo.a o).length=o.length:=List.length_map ..
  obtain ⟨k9,H⟩:=H
  have w10:wi ((↑o.length:Int)-1)=(↑o.length:Int)-1:=wI64 k9
  have i11:(!(decide ((↑(List.map Mo.a o).length:Int)>0)==true&&true)||w==w)=true ↔ (((↑o.length:Int)>0)->(w=w)):=(by (try rw [w8]);all_goals exact (ZbJ (i_at (i_bt Zae)) i_eq))
  have i12:(!(decide ((↑(List.map Mo.a o).length:Int)>0)==true&&true)||decide (0<=wi ((↑(List.map Mo.a o).length:Int)-1)))=true ↔ (((↑o.length:Int)>0)->(0<=(↑o.length:Int)-1)):=(by (try rw [w8]);(try rw [w10]);all_goals exact (ZbJ (i_at (i_bt Zae)) Zae))
  obtain ⟨k13,H⟩:=H
  have i14:(!(decide ((↑(List.map Mo.a o).length:Int)>0)==true&&true)||decide ((wi ((↑(List.map Mo.a o).length:Int)-1)).toNat<(List.map Mo.a o).length))=true ↔ (((↑o.length:Int)>0)->(((↑o.length:Int)-1).toNat<o.length)):=(by (try rw [w8]);(try rw [w10]);all_goals exact (ZbJ (i_at (i_bt Zae)) Zae))
  obtain ⟨k15,H⟩:=H
  have i16:(!(decide ((↑(List.map Mo.a o).length:Int)>0)==true&&true)||w==w)=true ↔ (((↑o.length:Int)>0)->(w=w)):=(by (try rw [w8]);all_goals exact (ZbJ (i_at (i_bt Zae)) i_eq))
  have i17:(!((bif decide ((↑(List.map Mo.a o).length:Int)>0) then (o.getD ((↑o.length:Int)-1).toNat default).b==(l.getD i.toNat default).b else false)==true&&true)||w==w)=true ↔ ((((↑o.length:Int)>0)/\((o.getD ((↑o.length:Int)-1).toNat default).b=(l.getD i.toNat default).b))->(w=w)):=(by (try rw [w8]);all_goals exact (ZbJ (i_at (i_bt (ZaB Zae i_eq))) i_eq))
  have i18:(!((bif decide ((↑(List.map Mo.a o).length:Int)>0) then (o.getD ((↑o.length:Int)-1).toNat default).b==(l.getD i.toNat default).b else false)==true&&true)||decide (0<=wi ((↑(List.map Mo.a o).length:Int)-1)))=true ↔ ((((↑o.length:Int)>0)/\((o.getD ((↑o.length:Int)-1).toNat default).b=(l.getD i.toNat default).b))->(0<=(↑o.length:Int)-1)):=(by (try rw [w8]);(try rw [w10]);all_goals exact (ZbJ (i_at (i_bt (ZaB Zae i_eq))) Zae))
  obtain ⟨k19,H⟩:=H
  have i20:(!((bif decide ((↑(List.map Mo.a o).length:Int)>0) then (o.getD ((↑o.length:Int)-1).toNat default).b==(l.getD i.toNat default).b else false)==true&&true)||decide ((wi ((↑(List.map Mo.a o).length:Int)-1)).toNat<(List.map Mo.a o).length))=true ↔ ((((↑o.length:Int)>0)/\((o.getD ((↑o.length:Int)-1).toNat default).b=(l.getD i.toNat default).b))->(((↑o.length:Int)-1).toNat<o.length)):=(by (try rw [w8]);(try rw [w10]);all_goals exact (ZbJ (i_at (i_bt (ZaB Zae i_eq))) Zae))
  obtain ⟨k21,H⟩:=H
  have i22:(!((bif decide ((↑(List.map Mo.a o).length:Int)>0) then (o.getD ((↑o.length:Int)-1).toNat default).b==(l.getD i.toNat default).b else false)==true&&true)||w==w)=true ↔ ((((↑o.length:Int)>0)/\((o.getD ((↑o.length:Int)-1).toNat default).b=(l.getD i.toNat default).b))->(w=w)):=(by (try rw [w8]);all_goals exact (ZbJ (i_at (i_bt (ZaB Zae i_eq))) i_eq))
  have i23:(!((bif bif decide ((↑(List.map Mo.a o).length:Int)>0) then (o.getD ((↑o.length:Int)-1).toNat default).b==(l.getD i.toNat default).b else false then (o.getD ((↑o.length:Int)-1).toNat default).u==(l.getD i.toNat default).x&&((o.getD ((↑o.length:Int)-1).toNat default).v==(l.getD i.toNat default).y&&((o.getD ((↑o.length:Int)-1).toNat default).w==(l.getD i.toNat default).z&&true)) else false)==true&&true)||w==w)=true ↔ (((((↑o.length:Int)>0)/\((o.getD ((↑o.length:Int)-1).toNat default).b=(l.getD i.toNat default).b))/\(((o.getD ((↑o.length:Int)-1).toNat default).u=(l.getD i.toNat default).x)/\(((o.getD ((↑o.length:Int)-1).toNat default).v=(l.getD i.toNat default).y)/\((o.getD ((↑o.length:Int)-1).toNat default).w=(l.getD i.toNat default).z))))->(w=w)):=(by (try rw [w8]);all_goals exact (ZbJ (i_at (i_bt (ZaB (ZaB Zae i_eq) (ZaG i_eq (ZaG i_eq (i_at i_eq)))))) i_eq))
  have i24:(!((bif bif decide ((↑(List.map Mo.a o).length:Int)>0) then (o.getD ((↑o.length:Int)-1).toNat default).b==(l.getD i.toNat default).b else false then (o.getD ((↑o.length:Int)-1).toNat default).u==(l.getD i.toNat default).x&&((o.getD ((↑o.length:Int)-1).toNat default).v==(l.getD i.toNat default).y&&((o.getD ((↑o.length:Int)-1).toNat default).w==(l.getD i.toNat default).z&&true)) else false)==true&&true)||decide (0<=wi ((↑(List.map Mo.a o).length:Int)-1)))=true ↔ (((((↑o.length:Int)>0)/\((o.getD ((↑o.length:Int)-1).toNat default).b=(l.getD i.toNat default).b))/\(((o.getD ((↑o.length:Int)-1).toNat default).u=(l.getD i.toNat default).x)/\(((o.getD ((↑o.length:Int)-1).toNat default).v=(l.getD i.toNat default).y)/\((o.getD ((↑o.length:Int)-1).toNat default).w=(l.getD i.toNat default).z))))->(0<=(↑o.length:Int)-1)):=(by (try rw [w8]);(try rw [w10]);all_goals exact (ZbJ (i_at (i_bt (ZaB (ZaB Zae i_eq) (ZaG i_eq (ZaG i_eq (i_at i_eq)))))) Zae))
  obtain ⟨k25,H⟩:=H
  have i26:(!((bif bif decide ((↑(List.map Mo.a o).length:Int)>0) then (o.getD ((↑o.length:Int)-1).toNat default).b==(l.getD i.toNat default).b else false then (o.getD ((↑o.length:Int)-1).toNat default).u==(l.getD i.toNat default).x&&((o.getD ((↑o.length:Int)-1).toNat default).v==(l.getD i.toNat default).y&&((o.getD ((↑o.length:Int)-1).toNat default).w==(l.getD i.toNat default).z&&true)) else false)==true&&true)||decide ((wi ((↑(List.map Mo.a o).length:Int)-1)).toNat<(List.map Mo.a o).length))=true ↔ (((((↑o.length:Int)>0)/\((o.getD ((↑o.length:Int)-1).toNat default).b=(l.getD i.toNat default).b))/\(((o.getD ((↑o.length:Int)-1).toNat default).u=(l.getD i.toNat default).x)/\(((o.getD ((↑o.length:Int)-1).toNat default).v=(l.getD i.toNat default).y)/\((o.getD ((↑o.length:Int)-1).toNat default).w=(l.getD i.toNat default).z))))->(((↑o.length:Int)-1).toNat<o.length)):=(by (try rw [w8]);(try rw [w10]);all_goals exact (ZbJ (i_at (i_bt (ZaB (ZaB Zae i_eq) (ZaG i_eq (ZaG i_eq (i_at i_eq)))))) Zae))
  obtain ⟨k27,H⟩:=H
  have i28:(!((bif bif decide ((↑(List.map Mo.a o).length:Int)>0) then (o.getD ((↑o.length:Int)-1).toNat default).b==(l.getD i.toNat default).b else false then (o.getD ((↑o.length:Int)-1).toNat default).u==(l.getD i.toNat default).x&&((o.getD ((↑o.length:Int)-1).toNat default).v==(l.getD i.toNat default).y&&((o.getD ((↑o.length:Int)-1).toNat default).w==(l.getD i.toNat default).z&&true)) else false)==true&&true)||w==w)=true ↔ (((((↑o.length:Int)>0)/\((o.getD ((↑o.length:Int)-1).toNat default).b=(l.getD i.toNat default).b))/\(((o.getD ((↑o.length:Int)-1).toNat default).u=(l.getD i.toNat default).x)/\(((o.getD ((↑o.length:Int)-1).toNat default).v=(l.getD i.toNat default).y)/\((o.getD ((↑o.length:Int)-1).toNat default).w=(l.getD i.toNat default).z))))->(w=w)):=(by (try rw [w8]);all_goals exact (ZbJ (i_at (i_bt (ZaB (ZaB Zae i_eq) (ZaG i_eq (ZaG i_eq (i_at i_eq)))))) i_eq))
  have i29:(!((bif bif bif decide ((↑(List.map Mo.a o).length:Int)>0) then (o.getD ((↑o.length:Int)-1).toNat default).b==(l.getD i.toNat default).b else false then (o.getD ((↑o.length:Int)-1).toNat default).u==(l.getD i.toNat default).x&&((o.getD ((↑o.length:Int)-1).toNat default).v==(l.getD i.toNat default).y&&((o.getD ((↑o.length:Int)-1).toNat default).w==(l.getD i.toNat default).z&&true)) else false then (o.getD ((↑o.length:Int)-1).toNat default).r==(l.getD i.toNat default).r else false)==true&&true)||w==w)=true ↔ ((((((↑o.length:Int)>0)/\((o.getD ((↑o.length:Int)-1).toNat default).b=(l.getD i.toNat default).b))/\(((o.getD ((↑o.length:Int)-1).toNat default).u=(l.getD i.toNat default).x)/\(((o.getD ((↑o.length:Int)-1).toNat default).v=(l.getD i.toNat default).y)/\((o.getD ((↑o.length:Int)-1).toNat default).w=(l.getD i.toNat default).z))))/\((o.getD ((↑o.length:Int)-1).toNat default).r=(l.getD i.toNat default).r))->(w=w)):=(by (try rw [w8]);all_goals exact (ZbJ (i_at (i_bt (ZaB (ZaB (ZaB Zae i_eq) (ZaG i_eq (ZaG i_eq (i_at i_eq)))) i_eq))) i_eq))
  have i30:(!((bif bif bif decide ((↑(List.map Mo.a o).length:Int)>0) then (o.getD ((↑o.length:Int)-1).toNat default).b==(l.getD i.toNat default).b else false then (o.getD ((↑o.length:Int)-1).toNat default).u==(l.getD i.toNat default).x&&((o.getD ((↑o.length:Int)-1).toNat default).v==(l.getD i.toNat default).y&&((o.getD ((↑o.length:Int)-1).toNat default).w==(l.getD i.toNat default).z&&true)) else false then (o.getD ((↑o.length:Int)-1).toNat default).r==(l.getD i.toNat default).r else false)==true&&true)||decide (0<=wi ((↑(List.map Mo.a o).length:Int)-1)))=true ↔ ((((((↑o.length:Int)>0)/\((o.getD ((↑o.length:Int)-1).toNat default).b=(l.getD i.toNat default).b))/\(((o.getD ((↑o.length:Int)-1).toNat default).u=(l.getD i.toNat default).x)/\(((o.getD ((↑o.length:Int)-1).toNat default).v=(l.getD i.toNat default).y)/\((o.getD ((↑o.length:Int)-1).toNat default).w=(l.getD i.toNat default).z))))/\((o.getD ((↑o.length:Int)-1).toNat default).r=(l.getD i.toNat default).r))->(0<=(↑o.length:Int)-1)):=(by (try rw [w8]);(try rw [w10]);all_goals exact (ZbJ (i_at (i_bt (ZaB (ZaB (ZaB Zae i_eq) (ZaG i_eq (ZaG i_eq (i_at i_eq)))) i_eq))) Zae))
  obtain ⟨k31,H⟩:=H
  have i32:(!((bif bif bif decide ((↑(List.map Mo.a o).length:Int)>0) then (o.getD ((↑o.length:Int)-1).toNat default).b==(l.getD i.toNat default).b else false then (o.getD ((↑o.length:Int)-1).toNat default).u==(l.getD i.toNat default).x&&((o.getD ((↑o.length:Int)-1).toNat default).v==(l.getD i.toNat default).y&&((o.getD ((↑o.length:Int)-1).toNat default).w==(l.getD i.toNat default).z&&true)) else false then (o.getD ((↑o.length:Int)-1).toNat default).r==(l.getD i.toNat default).r else false)==true&&true)||decide ((wi ((↑(List.map Mo.a o).length:Int)-1)).toNat<(List.map Mo.a o).length))=true ↔ ((((((↑o.length:Int)>0)/\((o.getD ((↑o.length:Int)-1).toNat default).b=(l.getD i.toNat default).b))/\(((o.getD ((↑o.length:Int)-1).toNat default).u=(l.getD i.toNat default).x)/\(((o.getD ((↑o.length:Int)-1).toNat default).v=(l.getD i.toNat default).y)/\((o.getD ((↑o.length:Int)-1).toNat default).w=(l.getD i.toNat default).z))))/\((o.getD ((↑o.length:Int)-1).toNat default).r=(l.getD i.toNat default).r))->(((↑o.length:Int)-1).toNat<o.length)):=(by (try rw [w8]);(try rw [w10]);all_goals exact (ZbJ (i_at (i_bt (ZaB (ZaB (ZaB Zae i_eq) (ZaG i_eq (ZaG i_eq (i_at i_eq)))) i_eq))) Zae))
  obtain ⟨k33,H⟩:=H
  have i34:(!((bif bif bif decide ((↑(List.map Mo.a o).length:Int)>0) then (o.getD ((↑o.length:Int)-1).toNat default).b==(l.getD i.toNat default).b else false then (o.getD ((↑o.length:Int)-1).toNat default).u==(l.getD i.toNat default).x&&((o.getD ((↑o.length:Int)-1).toNat default).v==(l.getD i.toNat default).y&&((o.getD ((↑o.length:Int)-1).toNat default).w==(l.getD i.toNat default).z&&true)) else false then (o.getD ((↑o.length:Int)-1).toNat default).r==(l.getD i.toNat default).r else false)==true&&true)||w==w)=true ↔ ((((((↑o.length:Int)>0)/\((o.getD ((↑o.length:Int)-1).toNat default).b=(l.getD i.toNat default).b))/\(((o.getD ((↑o.length:Int)-1).toNat default).u=(l.getD i.toNat default).x)/\(((o.getD ((↑o.length:Int)-1).toNat default).v=(l.getD i.toNat default).y)/\((o.getD ((↑o.length:Int)-1).toNat default).w=(l.getD i.toNat default).z))))/\((o.getD ((↑o.length:Int)-1).toNat default).r=(l.getD i.toNat default).r))->(w=w)):=(by (try rw [w8]);all_goals exact (ZbJ (i_at (i_bt (ZaB (ZaB (ZaB Zae i_eq) (ZaG i_eq (ZaG i_eq (i_at i_eq)))) i_eq))) i_eq))
  have i39:(bif bif bif bif decide ((↑(List.map Mo.a o).length:Int)>0) then (o.getD ((↑o.length:Int)-1).toNat default).b==(l.getD i.toNat default).b else false then (o.getD ((↑o.length:Int)-1).toNat default).u==(l.getD i.toNat default).x&&((o.getD ((↑o.length:Int)-1).toNat default).v==(l.getD i.toNat default).y&&((o.getD ((↑o.length:Int)-1).toNat default).w==(l.getD i.toNat default).z&&true)) else false then (o.getD ((↑o.length:Int)-1).toNat default).r==(l.getD i.toNat default).r else false then (o.getD ((↑o.length:Int)-1).toNat default).t==(l.getD i.toNat default).t else false)=true ↔ ((((((↑o.length:Int)>0)/\((o.getD ((↑o.length:Int)-1).toNat default).b=(l.getD i.toNat default).b))/\(((o.getD ((↑o.length:Int)-1).toNat default).u=(l.getD i.toNat default).x)/\(((o.getD ((↑o.length:Int)-1).toNat default).v=(l.getD i.toNat default).y)/\((o.getD ((↑o.length:Int)-1).toNat default).w=(l.getD i.toNat default).z))))/\((o.getD ((↑o.length:Int)-1).toNat default).r=(l.getD i.toNat default).r))/\((o.getD ((↑o.length:Int)-1).toNat default).t=(l.getD i.toNat default).t)):=(by (try rw [w8]);all_goals exact (ZaB (ZaB (ZaB (ZaB Zae i_eq) (ZaG i_eq (ZaG i_eq (i_at i_eq)))) i_eq) i_eq))
  refine Zac (G:=Zab kp18 [(4,1,.elem (zCxR3 l i)),(6,8,.elem (Zf0 o)),(6,19,.elem (Zf0 o)),(6,30,.elem (Zf0 o)),(6,41,.elem (Zf0 o))] []) 14 [true] ⟨(atC (cd Try.f18) [1,1,0,1,0,0,1,1,0,0,1,0,1,1]),[(3,AV.row 0 w),(5,AV.ptr 1 0 0 0),(6,vi (↑(List.map Mo.a o).length:Int)),(7,AV.vec f 9 (List.map Mo.a l)),(8,vi n),(9,vi i),(60,vb (bif bif bif bif decide ((↑(List.map Mo.a o).length:Int)>0) then (o.getD ((↑o.length:Int)-1).toNat default).b==(l.getD i.toNat default).b else false then (o.getD ((↑o.length:Int)-1).toNat default).u==(l.getD i.toNat default).x&&((o.getD ((↑o.length:Int)-1).toNat default).v==(l.getD i.toNat default).y&&((o.getD ((↑o.length:Int)-1).toNat default).w==(l.getD i.toNat default).z&&true)) else false then (o.getD ((↑o.length:Int)-1).toNat default).r==(l.getD i.toNat default).r else false then (o.getD ((↑o.length:Int)-1).toNat default).t==(l.getD i.toNat default).t else false))],[⟨List.map Mo.a o,9,w,false,true⟩,⟨[ag [vi (l.getD i.toNat default).x,vi (l.getD i.toNat default).y,vi (l.getD i.toNat default).z,vi (l.getD i.toNat default).u,vi (l.getD i.toNat default).v,vi (l.getD i.toNat default).w,vi (l.getD i.toNat default).r,vi (l.getD i.toNat default).t,vi (l.getD i.toNat default).b]],9,0,false,false⟩],[(decide (i<n))==true,decide (0<=i),decide (i.toNat<(List.map Mo.a l).length),true,w==w,!(decide ((↑(List.map Mo.a o).length:Int)>0)==true&&true)||w==w,!(decide ((↑(List.map Mo.a o).length:Int)>0)==true&&true)||decide (0<=wi ((↑(List.map Mo.a o).length:Int)-1)),!(decide ((↑(List.map Mo.a o).length:Int)>0)==true&&true)||decide ((wi ((↑(List.map Mo.a o).length:Int)-1)).toNat<(List.map Mo.a o).length),!(decide ((↑(List.map Mo.a o).length:Int)>0)==true&&true)||w==w,!(decide ((↑(List.map Mo.a o).length:Int)>0)==true&&true)||true,!((bif decide ((↑(List.map Mo.a o).length:Int)>0) then (o.getD ((↑o.length:Int)-1).toNat default).b==(l.getD i.toNat default).b else false)==true&&true)||w==w,!((bif decide ((↑(List.map Mo.a o).length:Int)>0) then (o.getD ((↑o.length:Int)-1).toNat default).b==(l.getD i.toNat default).b else false)==true&&true)||decide (0<=wi ((↑(List.map Mo.a o).length:Int)-1)),!((bif decide ((↑(List.map Mo.a o).length:Int)>0) then (o.getD ((↑o.length:Int)-1).toNat default).b==(l.getD i.toNat default).b else false)==true&&true)||decide ((wi ((↑(List.map Mo.a o).length:Int)-1)).toNat<(List.map Mo.a o).length),!((bif decide ((↑(List.map Mo.a o).length:Int)>0) then (o.getD ((↑o.length:Int)-1).toNat default).b==(l.getD i.toNat default).b else false)==true&&true)||w==w,!((bif decide ((↑(List.map Mo.a o).length:Int)>0) then (o.getD ((↑o.length:Int)-1).toNat default).b==(l.getD i.toNat default).b else false)==true&&true)||true,!((bif bif decide ((↑(List.map Mo.a o).length:Int)>0) then (o.getD ((↑o.length:Int)-1).toNat default).b==(l.getD i.toNat default).b else false then (o.getD ((↑o.length:Int)-1).toNat default).u==(l.getD i.toNat default).x&&((o.getD ((↑o.length:Int)-1).toNat default).v==(l.getD i.toNat default).y&&((o.getD ((↑o.length:Int)-1).toNat default).w==(l.getD i.toNat default).z&&true)) else false)==true&&true)||w==w,!((bif bif decide ((↑(List.map Mo.a o).length:Int)>0) then (o.getD ((↑o.length:Int)-1).toNat default).b==(l.getD i.toNat default).b else false then (o.getD ((↑o.length:Int)-1).toNat default).u==(l.getD i.toNat default).x&&((o.getD ((↑o.length:Int)-1).toNat default).v==(l.getD i.toNat default).y&&((o.getD ((↑o.length:Int)-1).toNat default).w==(l.getD i.toNat default).z&&true)) else false)==true&&true)||decide (0<=wi ((↑(List.map Mo.a o).length:Int)-1)),!((bif bif decide ((↑(List.map Mo.a o).length:Int)>0) then (o.getD ((↑o.length:Int)-1).toNat default).b==(l.getD i.toNat default).b else false then (o.getD ((↑o.length:Int)-1).toNat default).u==(l.getD i.toNat default).x&&((o.getD ((↑o.length:Int)-1).toNat default).v==(l.getD i.toNat default).y&&((o.getD ((↑o.length:Int)-1).toNat default).w==(l.getD i.toNat default).z&&true)) else false)==true&&true)||decide ((wi ((↑(List.map Mo.a o).length:Int)-1)).toNat<(List.map Mo.a o).length),!((bif bif decide ((↑(List.map Mo.a o).length:Int)>0) then (o.getD ((↑o.length:Int)-1).toNat default).b==(l.getD i.toNat default).b else false then (o.getD ((↑o.length:Int)-1).toNat default).u==(l.getD i.toNat default).x&&((o.getD ((↑o.length:Int)-1).toNat default).v==(l.getD i.toNat default).y&&((o.getD ((↑o.length:Int)-1).toNat default).w==(l.getD i.toNat default).z&&true)) else false)==true&&true)||w==w,!((bif bif decide ((↑(List.map Mo.a o).length:Int)>0) then (o.getD ((↑o.length:Int)-1).toNat default).b==(l.getD i.toNat default).b else false then (o.getD ((↑o.length:Int)-1).toNat default).u==(l.getD i.toNat default).x&&((o.getD ((↑o.length:Int)-1).toNat default).v==(l.getD i.toNat default).y&&((o.getD ((↑o.length:Int)-1).toNat default).w==(l.getD i.toNat default).z&&true)) else false)==true&&true)||true,!((bif bif bif decide ((↑(List.map Mo.a o).length:Int)>0) then (o.getD ((↑o.length:Int)-1).toNat default).b==(l.getD i.toNat default).b else false then (o.getD ((↑o.length:Int)-1).toNat default).u==(l.getD i.toNat default).x&&((o.getD ((↑o.length:Int)-1).toNat default).v==(l.getD i.toNat default).y&&((o.getD ((↑o.length:Int)-1).toNat default).w==(l.getD i.toNat default).z&&true)) else false then (o.getD ((↑o.length:Int)-1).toNat default).r==(l.getD i.toNat default).r else false)==true&&true)||w==w,!((bif bif bif decide ((↑(List.map Mo.a o).length:Int)>0) then (o.getD ((↑o.length:Int)-1).toNat default).b==(l.getD i.toNat default).b else false then (o.getD ((↑o.length:Int)-1).toNat default).u==(l.getD i.toNat default).x&&((o.getD ((↑o.length:Int)-1).toNat default).v==(l.getD i.toNat default).y&&((o.getD ((↑o.length:Int)-1).toNat default).w==(l.getD i.toNat default).z&&true)) else false then (o.getD ((↑o.length:Int)-1).toNat default).r==(l.getD i.toNat default).r else false)==true&&true)||decide (0<=wi ((↑(List.map Mo.a o).length:Int)-1)),!((bif bif bif decide ((↑(List.map Mo.a o).length:Int)>0) then (o.getD ((↑o.length:Int)-1).toNat default).b==(l.getD i.toNat default).b else false then (o.getD ((↑o.length:Int)-1).toNat default).u==(l.getD i.toNat default).x&&((o.getD ((↑o.length:Int)-1).toNat default).v==(l.getD i.toNat default).y&&((o.getD ((↑o.length:Int)-1).toNat default).w==(l.getD i.toNat default).z&&true)) else false then (o.getD ((↑o.length:Int)-1).toNat default).r==(l.getD i.toNat default).r else false)==true&&true)||decide ((wi ((↑(List.map Mo.a o).length:Int)-1)).toNat<(List.map Mo.a o).length),!((bif bif bif decide ((↑(List.map Mo.a o).length:Int)>0) then (o.getD ((↑o.length:Int)-1).toNat default).b==(l.getD i.toNat default).b else false then (o.getD ((↑o.length:Int)-1).toNat default).u==(l.getD i.toNat default).x&&((o.getD ((↑o.length:Int)-1).toNat default).v==(l.getD i.toNat default).y&&((o.getD ((↑o.length:Int)-1).toNat default).w==(l.getD i.toNat default).z&&true)) else false then (o.getD ((↑o.length:Int)-1).toNat default).r==(l.getD i.toNat default).r else false)==true&&true)||w==w,!((bif bif bif decide ((↑(List.map Mo.a o).length:Int)>0) then (o.getD ((↑o.length:Int)-1).toNat default).b==(l.getD i.toNat default).b else false then (o.getD ((↑o.length:Int)-1).toNat default).u==(l.getD i.toNat default).x&&((o.getD ((↑o.length:Int)-1).toNat default).v==(l.getD i.toNat default).y&&((o.getD ((↑o.length:Int)-1).toNat default).w==(l.getD i.toNat default).z&&true)) else false then (o.getD ((↑o.length:Int)-1).toNat default).r==(l.getD i.toNat default).r else false)==true&&true)||true],[((List.map Mo.a l).get?Internal i.toNat=some (zCxR3 l i)),((decide ((↑(List.map Mo.a o).length:Int)>0)==true&&true)=true->(List.map Mo.a o).get?Internal (wi ((↑(List.map Mo.a o).length:Int)-1)).toNat=some (Zf0 o)),(((bif decide ((↑(List.map Mo.a o).length:Int)>0) then (o.getD ((↑o.length:Int)-1).toNat default).b==(l.getD i.toNat default).b else false)==true&&true)=true->(List.map Mo.a o).get?Internal (wi ((↑(List.map Mo.a o).length:Int)-1)).toNat=some (Zf0 o)),(((bif bif decide ((↑(List.map Mo.a o).length:Int)>0) then (o.getD ((↑o.length:Int)-1).toNat default).b==(l.getD i.toNat default).b else false then (o.getD ((↑o.length:Int)-1).toNat default).u==(l.getD i.toNat default).x&&((o.getD ((↑o.length:Int)-1).toNat default).v==(l.getD i.toNat default).y&&((o.getD ((↑o.length:Int)-1).toNat default).w==(l.getD i.toNat default).z&&true)) else false)==true&&true)=true->(List.map Mo.a o).get?Internal (wi ((↑(List.map Mo.a o).length:Int)-1)).toNat=some (Zf0 o)),(((bif bif bif decide ((↑(List.map Mo.a o).length:Int)>0) then (o.getD ((↑o.length:Int)-1).toNat default).b==(l.getD i.toNat default).b else false then (o.getD ((↑o.length:Int)-1).toNat default).u==(l.getD i.toNat default).x&&((o.getD ((↑o.length:Int)-1).toNat default).v==(l.getD i.toNat default).y&&((o.getD ((↑o.length:Int)-1).toNat default).w==(l.getD i.toNat default).z&&true)) else false then (o.getD ((↑o.length:Int)-1).toNat default).r==(l.getD i.toNat default).r else false)==true&&true)=true->(List.map Mo.a o).get?Internal (wi ((↑(List.map Mo.a o).length:Int)-1)).toNat=some (Zf0 o))],_⟩ (by kernel_rfl) (bc (Zam (Zae.2 d2)) (bc (Zae.2 k4) (bc (i6.2 k7) (bc rfl (bc (beq_self_eq_true _) (bc (i11.2 (fun _=>rfl)) (bc (i12.2 k13) (bc (i14.2 k15) (bc (i16.2 (fun _=>rfl)) (bc (Bool.or_true _) (bc (i17.2 (fun _=>rfl)) (bc (i18.2 k19) (bc (i20.2 k21) (bc (i22.2 (fun _=>rfl)) (bc (Bool.or_true _) (bc (i23.2 (fun _=>rfl)) (bc (i24.2 k25) (bc (i26.2 k27) (bc (i28.2 (fun _=>rfl)) (bc (Bool.or_true _) (bc (i29.2 (fun _=>rfl)) (bc (i30.2 k31) (bc (i32.2 k33) (bc (i34.2 (fun _=>rfl)) (bc (Bool.or_true _) b0))))))))))))))))))))))))) (qc (Zay k7) (qc (by (try rw [w8]);(try rw [w10]);all_goals exact (fun h=>Zay (k15 ((i_at (i_bt Zae)).1 h)))) (qc (by (try rw [w8]);(try rw [w10]);all_goals exact (fun h=>Zay (k21 ((i_at (i_bt (ZaB Zae i_eq))).1 h)))) (qc (by (try rw [w8]);(try rw [w10]);all_goals exact (fun h=>Zay (k27 ((i_at (i_bt (ZaB (ZaB Zae i_eq) (ZaG i_eq (ZaG i_eq (i_at i_eq)))))).1 h)))) (qc (by (try rw [w8]);(try rw [w10]);all_goals exact (fun h=>Zay (k33 ((i_at (i_bt (ZaB (ZaB (ZaB Zae i_eq) (ZaG i_eq (ZaG i_eq (i_at i_eq)))) i_eq))).1 h)))) q0))))) c0 ?_
  rcases xq H with ⟨d40,H⟩|⟨d40,H⟩
  ·have i41:(decide (0<=wi ((↑(List.map Mo.a o).length:Int)-1)))=true ↔ (0<=(↑o.length:Int)-1):=(by (try rw [w8]);(try rw [w10]);all_goals exact Zae)
   obtain ⟨k42,H⟩:=H
   have i43:(decide ((wi ((↑(List.map Mo.a o).length:Int)-1)).toNat<(List.map Mo.a o).length))=true ↔ (((↑o.length:Int)-1).toNat<o.length):=(by (try rw [w8]);(try rw [w10]);all_goals exact Zae)
   obtain ⟨k44,H⟩:=H
   have w45:(List.map Mo.a o).set ((↑o.length:Int)-1).toNat (ag [vi (o.getD ((↑o.length:Int)-1).toNat default).x,vi (o.getD ((↑o.length:Int)-1).toNat default).y,vi (o.getD ((↑o.length:Int)-1).toNat default).z,vi (l.getD i.toNat default).u,vi (l.getD i.toNat default).v,vi (l.getD i.toNat default).w,vi (o.getD ((↑o.length:Int)-1).toNat default).r,vi (o.getD ((↑o.length:Int)-1).toNat default).t,vi (o.getD ((↑o.length:Int)-1).toNat default).b])=List.map Mo.a (o.set ((↑o.length:Int)-1).toNat { x:=(o.getD ((↑o.length:Int)-1).toNat default).x,y:=(o.getD ((↑o.length:Int)-1).toNat default).y,z:=(o.getD ((↑o.length:Int)-1).toNat default).z,u:=(l.getD i.toNat default).u,v:=(l.getD i.toNat default).v,w:=(l.getD i.toNat default).w,r:=(o.getD ((↑o.length:Int)-1).toNat default).r,t:=(o.getD ((↑o.length:Int)-1).toNat default).t,b:=(o.getD ((↑o.length:Int)-1).toNat default).b }):=(lm_set rfl rfl)
   obtain ⟨k46,H⟩:=H
   have w47:wi (i+1)=i+1:=wI64 k46
   exact Zac (G:=Zab kp18 [(7,7,.elem (Zf0 o))] []) 1000 [true] ⟨(atC (cd Try.f18) [1,1,0,1,0,0]),[(3,AV.row 0 w),(7,AV.vec f 9 (List.map Mo.a l)),(8,vi n),(9,vi (wi (i+1)))],[⟨(List.map Mo.a o).set (wi ((↑(List.map Mo.a o).length:Int)-1)).toNat (ag [vi (o.getD ((↑o.length:Int)-1).toNat default).x,vi (o.getD ((↑o.length:Int)-1).toNat default).y,vi (o.getD ((↑o.length:Int)-1).toNat default).z,vi (l.getD i.toNat default).u,vi (l.getD i.toNat default).v,vi (l.getD i.toNat default).w,vi (o.getD ((↑o.length:Int)-1).toNat default).r,vi (o.getD ((↑o.length:Int)-1).toNat default).t,vi (o.getD ((↑o.length:Int)-1).toNat default).b]),9,w,false,true⟩,⟨[ag [vi (l.getD i.toNat default).x,vi (l.getD i.toNat default).y,vi (l.getD i.toNat default).z,vi (l.getD i.toNat default).u,vi (l.getD i.toNat default).v,vi (l.getD i.toNat default).w,vi (l.getD i.toNat default).r,vi (l.getD i.toNat default).t,vi (l.getD i.toNat default).b]],9,0,false,false⟩],[(bif bif bif bif decide ((↑(List.map Mo.a o).length:Int)>0) then (o.getD ((↑o.length:Int)-1).toNat default).b==(l.getD i.toNat default).b else false then (o.getD ((↑o.length:Int)-1).toNat default).u==(l.getD i.toNat default).x&&((o.getD ((↑o.length:Int)-1).toNat default).v==(l.getD i.toNat default).y&&((o.getD ((↑o.length:Int)-1).toNat default).w==(l.getD i.toNat default).z&&true)) else false then (o.getD ((↑o.length:Int)-1).toNat default).r==(l.getD i.toNat default).r else false then (o.getD ((↑o.length:Int)-1).toNat default).t==(l.getD i.toNat default).t else false)==true,true,w==w,decide (0<=wi ((↑(List.map Mo.a o).length:Int)-1)),decide ((wi ((↑(List.map Mo.a o).length:Int)-1)).toNat<(List.map Mo.a o).length),w==w],[((List.map Mo.a o).get?Internal (wi ((↑(List.map Mo.a o).length:Int)-1)).toNat=some (Zf0 o))],_⟩ (by kernel_rfl) (bc (Zam (i39.2 d40)) (bc rfl (bc (beq_self_eq_true _) (bc (i41.2 k42) (bc (i43.2 k44) (bc (beq_self_eq_true _) b0)))))) (qc (by (try rw [w8]);(try rw [w10]);all_goals exact (Zay k44)) q0) c0 (by (try rw [w8]);(try rw [w10]);(try rw [w45]);(try rw [w47]);all_goals exact Zar [0] (by kernel_rfl) H)
  ·have i48:(decide (((List.map Mo.a o).length+1)*72<=1099511627776))=true ↔ ((o.length+1)*72<=1099511627776):=(by (try rw [w8]);all_goals exact Zae)
   obtain ⟨k49,H⟩:=H
   have w50:List.map Mo.a o++[ag [vi (l.getD i.toNat default).x,vi (l.getD i.toNat default).y,vi (l.getD i.toNat default).z,vi (l.getD i.toNat default).u,vi (l.getD i.toNat default).v,vi (l.getD i.toNat default).w,vi (l.getD i.toNat default).r,vi (l.getD i.toNat default).t,vi (l.getD i.toNat default).b]]=List.map Mo.a (o++[l.getD i.toNat default]):=(ZeE rfl rfl)
   obtain ⟨k51,H⟩:=H
   have w52:wi (i+1)=i+1:=wI64 k51
   exact Zac (G:=Zab kp18 [] []) 1000 [false] ⟨(atC (cd Try.f18) [1,1,0,1,0,0]),[(3,AV.row 0 (w+1)),(7,AV.vec f 9 (List.map Mo.a l)),(8,vi n),(9,vi (wi (i+1)))],[⟨List.map Mo.a o++[ag [vi (l.getD i.toNat default).x,vi (l.getD i.toNat default).y,vi (l.getD i.toNat default).z,vi (l.getD i.toNat default).u,vi (l.getD i.toNat default).v,vi (l.getD i.toNat default).w,vi (l.getD i.toNat default).r,vi (l.getD i.toNat default).t,vi (l.getD i.toNat default).b]],9,w+1,false,true⟩,⟨[ag [vi (l.getD i.toNat default).x,vi (l.getD i.toNat default).y,vi (l.getD i.toNat default).z,vi (l.getD i.toNat default).u,vi (l.getD i.toNat default).v,vi (l.getD i.toNat default).w,vi (l.getD i.toNat default).r,vi (l.getD i.toNat default).t,vi (l.getD i.toNat default).b]],9,0,false,false⟩],[(bif bif bif bif decide ((↑(List.map Mo.a o).length:Int)>0) then (o.getD ((↑o.length:Int)-1).toNat default).b==(l.getD i.toNat default).b else false then (o.getD ((↑o.length:Int)-1).toNat default).u==(l.getD i.toNat default).x&&((o.getD ((↑o.length:Int)-1).toNat default).v==(l.getD i.toNat default).y&&((o.getD ((↑o.length:Int)-1).toNat default).w==(l.getD i.toNat default).z&&true)) else false then (o.getD ((↑o.length:Int)-1).toNat default).r==(l.getD i.toNat default).r else false then (o.getD ((↑o.length:Int)-1).toNat default).t==(l.getD i.toNat default).t else false)==false,true,w==w,decide (((List.map Mo.a o).length+1)*72<=1099511627776)],[],_⟩ (by kernel_rfl) (bc (Zal (fun h=>d40 (i39.1 h))) (bc rfl (bc (beq_self_eq_true _) (bc (i48.2 k49) b0)))) q0 c0 (by (try rw [w50]);(try rw [w52]);all_goals exact Zar [0] (by kernel_rfl) H)
 ·exact Zai (G:=Zab kp18 [] []) 1000 [false] (k:=((atC (cd Try.f18) [1,1,1,1])).tail) (env':=[(2,AV.row 0 w)]) (L':=[⟨List.map Mo.a o,9,w,false,true⟩]) (asm:=[(decide (i<n))==false]) (eqs:=[]) (calls:=[]) (AV.row 0 w) (by kernel_rfl) (by kernel_rfl) (Zaa (Zal (fun h=>d2 (Zae.1 h))) Zad) Zaf Zag (ZdD (d:=(AV.vec false 9 (List.map Mo.a o))) (bs:=[w==w]) (by kernel_rfl) (by kernel_rfl) (Zaa (beq_self_eq_true _) Zad) (by kernel_rfl) H)
theorem lnA (f:Bool) (l:List Mo)  (dq:AV) (H :
  lnN_at f l ((↑l.length:Int)) 0 (Zak dq)) :
 lnA_at f l (Zak dq):=by
 unfold lnA_at
 have w1:(List.map Mo.a l).length=l.length:=List.length_map ..
 exact Zac (G:=Zab kp20 [] []) 1000 [] ⟨(atC (cd Try.f20) [1,1,0,1,0,0]),[(3,AV.vnil),(6,AV.vec f 9 (List.map Mo.a l)),(7,vi (↑(List.map Mo.a l).length:Int)),(8,vi 0)],[],_,[],_⟩ (by kernel_rfl) b0 q0 c0 (by (try rw [w1]);all_goals exact H)
noncomputable abbrev zCxR4 (l:List Mo) (i:Int):=ag [vi (l.getD i.toNat default).x,vi (l.getD i.toNat default).y,vi (l.getD i.toNat default).z,vi (l.getD i.toNat default).u,vi (l.getD i.toNat default).v,vi (l.getD i.toNat default).w,vi (l.getD i.toNat default).r,vi (l.getD i.toNat default).t,vi (l.getD i.toNat default).b]
theorem lnN (f:Bool) (l:List Mo) (n i:Int)  (dq:AV) (H :
  ((i<n)->(0<=i) /\
   (i.toNat<l.length) /\
   ((¬(((l.getD i.toNat default).x=(l.getD i.toNat default).u)/\(((l.getD i.toNat default).y=(l.getD i.toNat default).v)/\((l.getD i.toNat default).z=(l.getD i.toNat default).w))))->(-9223372036854775808<=i+1/\i+1<=9223372036854775807) /\
    Zgz f l n (i+1) ([l.getD i.toNat default]) 0 (Zak dq)) /\
   (¬(¬(((l.getD i.toNat default).x=(l.getD i.toNat default).u)/\(((l.getD i.toNat default).y=(l.getD i.toNat default).v)/\((l.getD i.toNat default).z=(l.getD i.toNat default).w))))->(-9223372036854775808<=i+1/\i+1<=9223372036854775807) /\
    lnN_at f l n (i+1) (Zak dq))) /\
  (¬(i<n)->Weak (AV.vnil) dq)) :
 lnN_at f l n i (Zak dq):=by
 unfold lnN_at
 rcases xq H with ⟨d2,H⟩|⟨d2,H⟩
 ·obtain ⟨k4,H⟩:=H
  have w5:(List.map Mo.a l).length=l.length:=List.length_map ..
  have i6:(decide (i.toNat<(List.map Mo.a l).length))=true ↔ (i.toNat<l.length):=(by (try rw [w5]);all_goals exact Zae)
  obtain ⟨k7,H⟩:=H
  refine Zac (G:=Zab kp20 [(4,1,.elem (zCxR4 l i))] []) 11 [true] ⟨(atC (cd Try.f20) [1,1,0,1,0,0,1,1,0,0,1,1]),[(3,AV.vnil),(5,AV.ptr 0 0 0 0),(6,AV.vec f 9 (List.map Mo.a l)),(7,vi n),(8,vi i),(16,vb !((l.getD i.toNat default).x==(l.getD i.toNat default).u&&((l.getD i.toNat default).y==(l.getD i.toNat default).v&&((l.getD i.toNat default).z==(l.getD i.toNat default).w&&true))))],[⟨[ag [vi (l.getD i.toNat default).x,vi (l.getD i.toNat default).y,vi (l.getD i.toNat default).z,vi (l.getD i.toNat default).u,vi (l.getD i.toNat default).v,vi (l.getD i.toNat default).w,vi (l.getD i.toNat default).r,vi (l.getD i.toNat default).t,vi (l.getD i.toNat default).b]],9,0,false,false⟩],_,[((List.map Mo.a l).get?Internal i.toNat=some (zCxR4 l i))],_⟩ (by kernel_rfl) (bc (Zam (Zae.2 d2)) (bc (Zae.2 k4) (bc (i6.2 k7) (bc rfl (bc rfl (bc rfl b0)))))) (qc (Zay k7) q0) c0 ?_
  rcases xq H with ⟨d9,H⟩|⟨d9,H⟩
  ·obtain ⟨k10,H⟩:=H
   have w11:wi (i+1)=i+1:=wI64 k10
   have w12:[ag [vi (l.getD i.toNat default).x,vi (l.getD i.toNat default).y,vi (l.getD i.toNat default).z,vi (l.getD i.toNat default).u,vi (l.getD i.toNat default).v,vi (l.getD i.toNat default).w,vi (l.getD i.toNat default).r,vi (l.getD i.toNat default).t,vi (l.getD i.toNat default).b]]=List.map Mo.a [l.getD i.toNat default]:=rfl
   exact Zac (G:=Zab kp20 [] []) 1000 [true] ⟨(atC (cd Try.f20) [1,1,0,1,0,0]),[(3,AV.row 1 0),(6,AV.vec f 9 (List.map Mo.a l)),(7,vi n),(8,vi (wi (i+1)))],[⟨[ag [vi (l.getD i.toNat default).x,vi (l.getD i.toNat default).y,vi (l.getD i.toNat default).z,vi (l.getD i.toNat default).u,vi (l.getD i.toNat default).v,vi (l.getD i.toNat default).w,vi (l.getD i.toNat default).r,vi (l.getD i.toNat default).t,vi (l.getD i.toNat default).b]],9,0,false,false⟩,⟨[ag [vi (l.getD i.toNat default).x,vi (l.getD i.toNat default).y,vi (l.getD i.toNat default).z,vi (l.getD i.toNat default).u,vi (l.getD i.toNat default).v,vi (l.getD i.toNat default).w,vi (l.getD i.toNat default).r,vi (l.getD i.toNat default).t,vi (l.getD i.toNat default).b]],9,0,false,true⟩],_,[],_⟩ (by kernel_rfl) (bc (Zam ((ZaO (ZaG i_eq (ZaG i_eq (i_at i_eq)))).2 d9)) (bc rfl (bc rfl b0))) q0 c0 (by (try rw [w11]);(try rw [w12]);all_goals exact Zar [1] (by kernel_rfl) H)
  ·obtain ⟨k13,H⟩:=H
   have w14:wi (i+1)=i+1:=wI64 k13
   exact Zac (G:=Zab kp20 [] []) 1000 [false] ⟨(atC (cd Try.f20) [1,1,0,1,0,0]),[(3,AV.vnil),(6,AV.vec f 9 (List.map Mo.a l)),(7,vi n),(8,vi (wi (i+1)))],[⟨[ag [vi (l.getD i.toNat default).x,vi (l.getD i.toNat default).y,vi (l.getD i.toNat default).z,vi (l.getD i.toNat default).u,vi (l.getD i.toNat default).v,vi (l.getD i.toNat default).w,vi (l.getD i.toNat default).r,vi (l.getD i.toNat default).t,vi (l.getD i.toNat default).b]],9,0,false,false⟩],_,[],_⟩ (by kernel_rfl) (bc (Zal (fun h=>d9 ((ZaO (ZaG i_eq (ZaG i_eq (i_at i_eq)))).1 h))) b0) q0 c0 (by (try rw [w14]);all_goals exact Zar [] (by kernel_rfl) H)
 ·exact Zbb (G:=Zab kp20 [] []) 1000 [false] (AV.vnil) (by kernel_rfl) (bc (Zal (fun h=>d2 (Zae.1 h))) b0) q0 c0 H
noncomputable abbrev zCxR5 (l:List Mo) (i:Int):=ag [vi (l.getD i.toNat default).x,vi (l.getD i.toNat default).y,vi (l.getD i.toNat default).z,vi (l.getD i.toNat default).u,vi (l.getD i.toNat default).v,vi (l.getD i.toNat default).w,vi (l.getD i.toNat default).r,vi (l.getD i.toNat default).t,vi (l.getD i.toNat default).b]
theorem lnR (f:Bool) (l:List Mo) (n i:Int) (o:List Mo) (w:Nat)  (dq:AV) (H :
  ((i<n)->(0<=i) /\
   (i.toNat<l.length) /\
   ((¬(((l.getD i.toNat default).x=(l.getD i.toNat default).u)/\(((l.getD i.toNat default).y=(l.getD i.toNat default).v)/\((l.getD i.toNat default).z=(l.getD i.toNat default).w))))->((o.length+1)*72<=1099511627776) /\
    (-9223372036854775808<=i+1/\i+1<=9223372036854775807) /\
    Zgz f l n (i+1) (o++[l.getD i.toNat default]) (w+1) (Zak dq)) /\
   (¬(¬(((l.getD i.toNat default).x=(l.getD i.toNat default).u)/\(((l.getD i.toNat default).y=(l.getD i.toNat default).v)/\((l.getD i.toNat default).z=(l.getD i.toNat default).w))))->(-9223372036854775808<=i+1/\i+1<=9223372036854775807) /\
    Zgz f l n (i+1) o w (Zak dq))) /\
  (¬(i<n)->Weak (AV.vec false 9 (List.map Mo.a o)) dq)) :
 Zgz f l n i o w (Zak dq):=by
 unfold Zgz
 rcases xq H with ⟨d2,H⟩|⟨d2,H⟩
 ·obtain ⟨k4,H⟩:=H
  have w5:(List.map Mo.a l).length=l.length:=List.length_map ..
  have i6:(decide (i.toNat<(List.map Mo.a l).length))=true ↔ (i.toNat<l.length):=(by (try rw [w5]);all_goals exact Zae)
  obtain ⟨k7,H⟩:=H
  refine Zac (G:=Zab kp20 [(4,1,.elem (zCxR5 l i))] []) 11 [true] ⟨(atC (cd Try.f20) [1,1,0,1,0,0,1,1,0,0,1,1]),[(3,AV.row 0 w),(5,AV.ptr 1 0 0 0),(6,AV.vec f 9 (List.map Mo.a l)),(7,vi n),(8,vi i),(16,vb !((l.getD i.toNat default).x==(l.getD i.toNat default).u&&((l.getD i.toNat default).y==(l.getD i.toNat default).v&&((l.getD i.toNat default).z==(l.getD i.toNat default).w&&true))))],[⟨List.map Mo.a o,9,w,false,true⟩,⟨[ag [vi (l.getD i.toNat default).x,vi (l.getD i.toNat default).y,vi (l.getD i.toNat default).z,vi (l.getD i.toNat default).u,vi (l.getD i.toNat default).v,vi (l.getD i.toNat default).w,vi (l.getD i.toNat default).r,vi (l.getD i.toNat default).t,vi (l.getD i.toNat default).b]],9,0,false,false⟩],_,[((List.map Mo.a l).get?Internal i.toNat=some (zCxR5 l i))],_⟩ (by kernel_rfl) (bc (Zam (Zae.2 d2)) (bc (Zae.2 k4) (bc (i6.2 k7) (bc rfl (bc rfl (bc rfl b0)))))) (qc (Zay k7) q0) c0 ?_
  rcases xq H with ⟨d9,H⟩|⟨d9,H⟩
  ·have w10:(List.map Mo.a o).length=o.length:=List.length_map ..
   have i11:(decide (((List.map Mo.a o).length+1)*72<=1099511627776))=true ↔ ((o.length+1)*72<=1099511627776):=(by (try rw [w10]);all_goals exact Zae)
   obtain ⟨k12,H⟩:=H
   have w13:List.map Mo.a o++[ag [vi (l.getD i.toNat default).x,vi (l.getD i.toNat default).y,vi (l.getD i.toNat default).z,vi (l.getD i.toNat default).u,vi (l.getD i.toNat default).v,vi (l.getD i.toNat default).w,vi (l.getD i.toNat default).r,vi (l.getD i.toNat default).t,vi (l.getD i.toNat default).b]]=List.map Mo.a (o++[l.getD i.toNat default]):=(ZeE rfl rfl)
   obtain ⟨k14,H⟩:=H
   have w15:wi (i+1)=i+1:=wI64 k14
   exact Zac (G:=Zab kp20 [] []) 1000 [true] ⟨(atC (cd Try.f20) [1,1,0,1,0,0]),[(3,AV.row 0 (w+1)),(6,AV.vec f 9 (List.map Mo.a l)),(7,vi n),(8,vi (wi (i+1)))],[⟨List.map Mo.a o++[ag [vi (l.getD i.toNat default).x,vi (l.getD i.toNat default).y,vi (l.getD i.toNat default).z,vi (l.getD i.toNat default).u,vi (l.getD i.toNat default).v,vi (l.getD i.toNat default).w,vi (l.getD i.toNat default).r,vi (l.getD i.toNat default).t,vi (l.getD i.toNat default).b]],9,w+1,false,true⟩,⟨[ag [vi (l.getD i.toNat default).x,vi (l.getD i.toNat default).y,vi (l.getD i.toNat default).z,vi (l.getD i.toNat default).u,vi (l.getD i.toNat default).v,vi (l.getD i.toNat default).w,vi (l.getD i.toNat default).r,vi (l.getD i.toNat default).t,vi (l.getD i.toNat default).b]],9,0,false,false⟩],[(!((l.getD i.toNat default).x==(l.getD i.toNat default).u&&((l.getD i.toNat default).y==(l.getD i.toNat default).v&&((l.getD i.toNat default).z==(l.getD i.toNat default).w&&true))))==true,true,w==w,decide (((List.map Mo.a o).length+1)*72<=1099511627776)],[],_⟩ (by kernel_rfl) (bc (Zam ((ZaO (ZaG i_eq (ZaG i_eq (i_at i_eq)))).2 d9)) (bc rfl (bc (beq_self_eq_true _) (bc (i11.2 k12) b0)))) q0 c0 (by (try rw [w13]);(try rw [w15]);all_goals exact Zar [0] (by kernel_rfl) H)
  ·obtain ⟨k16,H⟩:=H
   have w17:wi (i+1)=i+1:=wI64 k16
   exact Zac (G:=Zab kp20 [] []) 1000 [false] ⟨(atC (cd Try.f20) [1,1,0,1,0,0]),[(3,AV.row 0 w),(6,AV.vec f 9 (List.map Mo.a l)),(7,vi n),(8,vi (wi (i+1)))],[⟨List.map Mo.a o,9,w,false,true⟩,⟨[ag [vi (l.getD i.toNat default).x,vi (l.getD i.toNat default).y,vi (l.getD i.toNat default).z,vi (l.getD i.toNat default).u,vi (l.getD i.toNat default).v,vi (l.getD i.toNat default).w,vi (l.getD i.toNat default).r,vi (l.getD i.toNat default).t,vi (l.getD i.toNat default).b]],9,0,false,false⟩],_,[],_⟩ (by kernel_rfl) (bc (Zal (fun h=>d9 ((ZaO (ZaG i_eq (ZaG i_eq (i_at i_eq)))).1 h))) b0) q0 c0 (by (try rw [w17]);all_goals exact Zar [0] (by kernel_rfl) H)
 ·exact Zai (G:=Zab kp20 [] []) 1000 [false] (k:=((atC (cd Try.f20) [1,1,1,1])).tail) (env':=[(2,AV.row 0 w)]) (L':=[⟨List.map Mo.a o,9,w,false,true⟩]) (asm:=[(decide (i<n))==false]) (eqs:=[]) (calls:=[]) (AV.row 0 w) (by kernel_rfl) (by kernel_rfl) (Zaa (Zal (fun h=>d2 (Zae.1 h))) Zad) Zaf Zag (ZdD (d:=(AV.vec false 9 (List.map Mo.a o))) (bs:=[w==w]) (by kernel_rfl) (by kernel_rfl) (Zaa (beq_self_eq_true _) Zad) (by kernel_rfl) H)
theorem smP (f g:Bool) (l m:List Mo)  (dq:AV) (H :
  ((¬(↑l.length:Int)=(↑m.length:Int))->vb false=dq) /\
  (¬(¬(↑l.length:Int)=(↑m.length:Int))->smQ_at f g l m 0 (Zak dq))) :
 smP_at f g l m (Zak dq):=by
 unfold smP_at
 have w1:(List.map Mo.a l).length=l.length:=List.length_map ..
 have w2:(List.map Mo.a m).length=m.length:=List.length_map ..
 have i3:((↑(List.map Mo.a l).length:Int) != (↑(List.map Mo.a m).length:Int))=true ↔ (¬(↑l.length:Int)=(↑m.length:Int)):=(by (try rw [w1]);(try rw [w2]);all_goals exact i_ne)
 rcases xq H with ⟨d4,H⟩|⟨d4,H⟩
 ·exact Zao (G:=Zab kp17 [] []) 1000 [true] (vb false) (by kernel_rfl) (bc (Zam (i3.2 d4)) b0) q0 c0 H
 ·exact Zac (G:=Zab kp17 [] []) 1000 [false] ⟨(atC (cd Try.f17) [1,1,0,1,0,0]),[(0,AV.vec f 9 (List.map Mo.a l)),(1,AV.vec g 9 (List.map Mo.a m)),(5,vi 0)],[],_,[],_⟩ (by kernel_rfl) (bc (Zal (fun h=>d4 (i3.1 h))) b0) q0 c0 H
noncomputable abbrev zCxR6 (l:List Mo) (i:Int):=ag [vi (l.getD i.toNat default).x,vi (l.getD i.toNat default).y,vi (l.getD i.toNat default).z,vi (l.getD i.toNat default).u,vi (l.getD i.toNat default).v,vi (l.getD i.toNat default).w,vi (l.getD i.toNat default).r,vi (l.getD i.toNat default).t,vi (l.getD i.toNat default).b]
noncomputable abbrev zCxR7 (m:List Mo) (i:Int):=ag [vi (m.getD i.toNat default).x,vi (m.getD i.toNat default).y,vi (m.getD i.toNat default).z,vi (m.getD i.toNat default).u,vi (m.getD i.toNat default).v,vi (m.getD i.toNat default).w,vi (m.getD i.toNat default).r,vi (m.getD i.toNat default).t,vi (m.getD i.toNat default).b]
theorem smQ (f g:Bool) (l m:List Mo) (i:Int)  (dq:AV) (H :
  ((i<(↑l.length:Int))->(0<=i) /\
   (i.toNat<l.length) /\
   (i.toNat<m.length) /\
   ((¬((((l.getD i.toNat default).x=(m.getD i.toNat default).x)/\(((l.getD i.toNat default).y=(m.getD i.toNat default).y)/\((l.getD i.toNat default).z=(m.getD i.toNat default).z)))/\((((l.getD i.toNat default).u=(m.getD i.toNat default).u)/\(((l.getD i.toNat default).v=(m.getD i.toNat default).v)/\((l.getD i.toNat default).w=(m.getD i.toNat default).w)))/\(((l.getD i.toNat default).r=(m.getD i.toNat default).r)/\(((l.getD i.toNat default).t=(m.getD i.toNat default).t)/\((l.getD i.toNat default).b=(m.getD i.toNat default).b))))))->vb false=dq) /\
   (¬(¬((((l.getD i.toNat default).x=(m.getD i.toNat default).x)/\(((l.getD i.toNat default).y=(m.getD i.toNat default).y)/\((l.getD i.toNat default).z=(m.getD i.toNat default).z)))/\((((l.getD i.toNat default).u=(m.getD i.toNat default).u)/\(((l.getD i.toNat default).v=(m.getD i.toNat default).v)/\((l.getD i.toNat default).w=(m.getD i.toNat default).w)))/\(((l.getD i.toNat default).r=(m.getD i.toNat default).r)/\(((l.getD i.toNat default).t=(m.getD i.toNat default).t)/\((l.getD i.toNat default).b=(m.getD i.toNat default).b))))))->(-9223372036854775808<=i+1/\i+1<=9223372036854775807) /\
    smQ_at f g l m (i+1) (Zak dq))) /\
  (¬(i<(↑l.length:Int))->vb true=dq)) :
 smQ_at f g l m i (Zak dq):=by
 unfold smQ_at
 have w1:(List.map Mo.a l).length=l.length:=List.length_map ..
 have i2:(decide (i<(↑(List.map Mo.a l).length:Int)))=true ↔ (i<(↑l.length:Int)):=(by (try rw [w1]);all_goals exact Zae)
 rcases xq H with ⟨d3,H⟩|⟨d3,H⟩
 ·obtain ⟨k5,H⟩:=H
  have i6:(decide (i.toNat<(List.map Mo.a l).length))=true ↔ (i.toNat<l.length):=(by (try rw [w1]);all_goals exact Zae)
  obtain ⟨k7,H⟩:=H
  have w9:(List.map Mo.a m).length=m.length:=List.length_map ..
  have i10:(decide (i.toNat<(List.map Mo.a m).length))=true ↔ (i.toNat<m.length):=(by (try rw [w9]);all_goals exact Zae)
  obtain ⟨k11,H⟩:=H
  refine Zac (G:=Zab kp17 [(6,3,.elem (zCxR6 l i)),(6,7,.elem (zCxR7 m i))] []) 9 [true] ⟨(atC (cd Try.f17) [1,1,0,1,0,0,1,0,0,1]),[(0,AV.vec f 9 (List.map Mo.a l)),(1,AV.vec g 9 (List.map Mo.a m)),(5,vi i),(25,vb !((l.getD i.toNat default).x==(m.getD i.toNat default).x&&((l.getD i.toNat default).y==(m.getD i.toNat default).y&&((l.getD i.toNat default).z==(m.getD i.toNat default).z&&true))&&((l.getD i.toNat default).u==(m.getD i.toNat default).u&&((l.getD i.toNat default).v==(m.getD i.toNat default).v&&((l.getD i.toNat default).w==(m.getD i.toNat default).w&&true))&&((l.getD i.toNat default).r==(m.getD i.toNat default).r&&((l.getD i.toNat default).t==(m.getD i.toNat default).t&&((l.getD i.toNat default).b==(m.getD i.toNat default).b&&true))))))],[],_,[((List.map Mo.a l).get?Internal i.toNat=some (zCxR6 l i)),((List.map Mo.a m).get?Internal i.toNat=some (zCxR7 m i))],_⟩ (by kernel_rfl) (bc (Zam (i2.2 d3)) (bc (Zae.2 k5) (bc (i6.2 k7) (bc (Zae.2 k5) (bc (i10.2 k11) b0))))) (qc (Zay k7) (qc (Zay k11) q0)) c0 ?_
  rcases xq H with ⟨d13,H⟩|⟨d13,H⟩
  ·exact Zao (G:=Zab kp17 [] []) 1000 [true] (vb false) (by kernel_rfl) (bc (Zam ((ZaO (ZaG (ZaG i_eq (ZaG i_eq (i_at i_eq))) (ZaG (ZaG i_eq (ZaG i_eq (i_at i_eq))) (ZaG i_eq (ZaG i_eq (i_at i_eq)))))).2 d13)) b0) q0 c0 H
  ·obtain ⟨k14,H⟩:=H
   have w15:wi (i+1)=i+1:=wI64 k14
   exact Zac (G:=Zab kp17 [] []) 1000 [false] ⟨(atC (cd Try.f17) [1,1,0,1,0,0]),[(0,AV.vec f 9 (List.map Mo.a l)),(1,AV.vec g 9 (List.map Mo.a m)),(5,vi (wi (i+1)))],[],_,[],_⟩ (by kernel_rfl) (bc (Zal (fun h=>d13 ((ZaO (ZaG (ZaG i_eq (ZaG i_eq (i_at i_eq))) (ZaG (ZaG i_eq (ZaG i_eq (i_at i_eq))) (ZaG i_eq (ZaG i_eq (i_at i_eq)))))).1 h))) b0) q0 c0 (by (try rw [w15]);all_goals exact H)
 ·exact Zao (G:=Zab kp17 [] []) 1000 [false] (vb true) (by kernel_rfl) (bc (Zal (fun h=>d3 (i2.1 h))) b0) q0 c0 H
noncomputable abbrev zCxR8 (l:List Mo):=ag [vi (l.getD ((↑l.length:Int)-1).toNat default).x,vi (l.getD ((↑l.length:Int)-1).toNat default).y,vi (l.getD ((↑l.length:Int)-1).toNat default).z,vi (l.getD ((↑l.length:Int)-1).toNat default).u,vi (l.getD ((↑l.length:Int)-1).toNat default).v,vi (l.getD ((↑l.length:Int)-1).toNat default).w,vi (l.getD ((↑l.length:Int)-1).toNat default).r,vi (l.getD ((↑l.length:Int)-1).toNat default).t,vi (l.getD ((↑l.length:Int)-1).toNat default).b]
theorem enA (x y z:Int) (f:Bool) (l:List Mo)  (dq:AV) (H :
  (((↑l.length:Int)=0)->ag [vi x,vi y,vi z]=dq) /\
  (¬((↑l.length:Int)=0)->(-9223372036854775808<=(↑l.length:Int)-1/\(↑l.length:Int)-1<=9223372036854775807) /\
   (0<=(↑l.length:Int)-1) /\
   (((↑l.length:Int)-1).toNat<l.length) /\
   ag [vi (l.getD ((↑l.length:Int)-1).toNat default).u,vi (l.getD ((↑l.length:Int)-1).toNat default).v,vi (l.getD ((↑l.length:Int)-1).toNat default).w]=dq)) :
 enA_at x y z f l (Zak dq):=by
 unfold enA_at
 have w1:(List.map Mo.a l).length=l.length:=List.length_map ..
 have i2:((↑(List.map Mo.a l).length:Int)==0)=true ↔ ((↑l.length:Int)=0):=(by (try rw [w1]);all_goals exact i_eq)
 rcases xq H with ⟨d3,H⟩|⟨d3,H⟩
 ·exact Zao (G:=Zab kp21 [] []) 1000 [true] (ag [vi x,vi y,vi z]) (by kernel_rfl) (bc (Zam (i2.2 d3)) (bc rfl (bc rfl b0))) q0 c0 H
 ·obtain ⟨k4,H⟩:=H
  have w5:wi ((↑l.length:Int)-1)=(↑l.length:Int)-1:=wI64 k4
  have i6:(decide (0<=wi ((↑(List.map Mo.a l).length:Int)-1)))=true ↔ (0<=(↑l.length:Int)-1):=(by (try rw [w1]);(try rw [w5]);all_goals exact Zae)
  obtain ⟨k7,H⟩:=H
  have i8:(decide ((wi ((↑(List.map Mo.a l).length:Int)-1)).toNat<(List.map Mo.a l).length))=true ↔ (((↑l.length:Int)-1).toNat<l.length):=(by (try rw [w1]);(try rw [w5]);all_goals exact Zae)
  obtain ⟨k9,H⟩:=H
  exact Zao (G:=Zab kp21 [(3,6,.elem (zCxR8 l))] []) 1000 [false] (eqs:=[((List.map Mo.a l).get?Internal (wi ((↑(List.map Mo.a l).length:Int)-1)).toNat=some (zCxR8 l))]) (ag [vi (l.getD ((↑l.length:Int)-1).toNat default).u,vi (l.getD ((↑l.length:Int)-1).toNat default).v,vi (l.getD ((↑l.length:Int)-1).toNat default).w]) (by kernel_rfl) (bc (Zal (fun h=>d3 (i2.1 h))) (bc (i6.2 k7) (bc (i8.2 k9) (bc rfl b0)))) (qc (by (try rw [w1]);(try rw [w5]);all_goals exact (Zay k9)) q0) c0 H
end Go.Av

namespace Go.Av
open Go.Proofs
namespace O
noncomputable def enP (x y z:Int) (l:List Mo):Ps:=if (l.length:Int)=0 then ⟨x,y,z⟩ else (l.getD ((l.length:Int)-1).toNat default).dst
end O
theorem mo_sd (m:Mo):(m.x=m.u/\m.y=m.v/\m.z=m.w) ↔ m.src=m.dst:=by
 unfold Mo.src Mo.dst
 constructor
 ·rintro ⟨h1,h2,h3⟩;rw [h1,h2,h3]
 ·intro h;injection h with h1 h2 h3;exact ⟨h1,h2,h3⟩
theorem lng_len (l:List Mo):(O.lng l).length<=l.length:=List.length_filter_le ..
theorem ln_loop (f:Bool) {l:List Mo} (hl:O.ZeZ l):∀ (k i:Nat) (w:Nat),i+k=l.length->Zgz f l l.length i (O.lng (l.take i)) w (Zak (.vec false 9 ((O.lng l).map Mo.a))):=by
 unfold O.ZeZ at hl
 intro k
 induction k with
 | zero =>
  intro i w hi
  rw [List.take_of_length_le (by omega)]
  exact lnR _ _ _ _ _ _ _ ⟨fun z=>absurd z (by omega),fun _ => .refl _⟩
 | succ k ih =>
  intro i w hi
  have hs:=ZbT (L:=l) (i:=i) (by omega)
  have hlen:=lng_len (l.take i)
  rw [List.length_take] at hlen
  refine lnR _ _ _ _ _ _ _ ⟨fun _=>⟨by omega,by omega,fun hd=>⟨by omega,by omega,?_⟩,fun hd=>⟨by omega,?_⟩⟩,fun z=>absurd (by omega) z⟩
  ·have:=ih (i+1) (w+1) (by omega)
   rw [hs,Zdr,if_neg fun y=>hd ((mo_sd _).2 (by rw [Int.toNat_natCast];exact y))] at this
   rw [Int.toNat_natCast]
   exact this
  ·have:=ih (i+1) w (by omega)
   rw [hs,Zdr,if_pos (by have:=(mo_sd _).1 (Classical.not_not.1 hd);rw [Int.toNat_natCast] at this;exact this)] at this
   exact this
theorem ln_loopN (f:Bool) {l:List Mo} (hl:O.ZeZ l):∀ (k i:Nat),i+k=l.length->O.lng (l.take i)=[]->lnN_at f l l.length i (Zak (.vec false 9 ((O.lng l).map Mo.a))):=by
 intro k
 induction k with
 | zero =>
  intro i hi h0
  rw [List.take_of_length_le (by omega)] at h0
  rw [h0]
  exact lnN _ _ _ _ _ ⟨fun z=>absurd z (by omega),fun _ => .vnil 9⟩
 | succ k ih =>
  intro i hi h0
  have hs:=ZbT (L:=l) (i:=i) (by omega)
  have hl':=hl
  unfold O.ZeZ at hl'
  refine lnN _ _ _ _ _ ⟨fun _=>⟨by omega,by omega,fun hd=>⟨by omega,?_⟩,fun hd=>⟨by omega,?_⟩⟩,fun z=>absurd (by omega) z⟩
  ·have:=ln_loop f hl k (i+1) 0 (by omega)
   rw [hs,Zdr,if_neg fun y=>hd ((mo_sd _).2 (by rw [Int.toNat_natCast];exact y)),h0] at this
   rw [Int.toNat_natCast]
   exact this
  ·refine ih (i+1) (by omega) ?_
   rw [hs,Zdr,if_pos (by have:=(mo_sd _).1 (Classical.not_not.1 hd);rw [Int.toNat_natCast] at this;exact this)]
   exact h0
theorem ev20 (f:Bool) (l:List Mo) (h:O.ZeZ l):Ev M1 (.pure 20 [.vec f 9 (l.map Mo.a)]) (.vec false 9 ((O.lng l).map Mo.a)) []:=
 call20 (lnA f l _ (ln_loopN f h l.length 0 (by omega) rfl))
theorem ev21 (x y z:Int) (f:Bool) (l:List Mo) (h:O.ZeZ l):Ev M1 (.pure 21 [.agg [.int .i64 x,.int .i64 y,.int .i64 z],.vec f 9 (l.map Mo.a)]) (.agg [.int .i64 (O.enP x y z l).x,.int .i64 (O.enP x y z l).y,.int .i64 (O.enP x y z l).z]) []:=by
 unfold O.ZeZ at h
 refine call21 (enA x y z f l _ ⟨fun h0 => ?_,fun h0=>⟨by omega,by omega,by omega,?_⟩⟩)
 ·unfold O.enP;rw [if_pos h0]
 ·unfold O.enP;rw [if_neg h0];rfl
end Go.Av

namespace Go.Av
open Go.Proofs
namespace O
def smM (l m:List Mo):Bool:=decide (l=m)
def okSm (l m:List Mo):Prop:=l.length<=1000000000/\m.length<=1000000000
end O
theorem lastM (o:List Mo) (q:Mo):(o++[q]).getD (((o++[q]).length:Int)-1).toNat default=q:=by
 rw [List.length_append,List.length_singleton]
 have:(((o.length+1:Nat):Int)-1).toNat=o.length:=by omega
 rw [this,List.getD_eq_getElem?_getD,List.getElem?_append_right (Nat.le_refl _),Nat.sub_self];rfl
theorem setM (o:List Mo) (q z:Mo):(o++[q]).set (((o++[q]).length:Int)-1).toNat z=o++[z]:=by
 rw [List.length_append,List.length_singleton]
 have:(((o.length+1:Nat):Int)-1).toNat=o.length:=by omega
 rw [this,List.set_append_right (h:=Nat.le_refl _),Nat.sub_self];rfl
theorem wh_loop (f:Bool) {l:List Mo} (hl:O.ZeZ l):∀ (k i:Nat) (Y:List Mo) (q:Mo) (w:Nat),i+k=l.length->O.wh (l.take i)=Y++[q]->Y.length<i->Zgh f l l.length i (Y++[q]) w (Zak (.vec false 9 ((O.wh l).map Mo.a))):=by
 unfold O.ZeZ at hl
 intro k
 induction k with
 | zero =>
  intro i Y q w hi hY hlen
  rw [List.take_of_length_le (by omega)] at hY
  rw [hY]
  exact whR _ _ _ _ _ _ _ ⟨fun z=>absurd z (by omega),fun _ => .refl _⟩
 | succ k ih =>
  intro i Y q w hi hY hlen
  have hs:=ZbT (L:=l) (i:=i) (by omega)
  have hw:O.wh (l.take (i+1))=O.wstep (Y++[q]) (l.getD i default):=by rw [hs,wh_snoc,hY]
  rw [Zed] at hw
  have hL:=lastM Y q
  have hS:=setM Y q
  have hn:(Y++[q]).length=Y.length+1:=by rw [List.length_append,List.length_singleton]
  refine whR _ _ _ _ _ _ _ ⟨fun _ => ?_,fun z=>absurd (by omega) z⟩
  rw [hL,hS,Int.toNat_natCast]
  refine ⟨by omega,by omega,by omega,fun _=>by omega,fun _=>by omega,fun _=>by omega,fun _=>by omega,fun _=>by omega,fun _=>by omega,fun _=>by omega,fun _=>by omega,fun hc=>⟨by omega,by omega,by omega,?_⟩,fun hc=>⟨by omega,by omega,?_⟩⟩
  ·obtain ⟨⟨⟨⟨_,h1⟩,h2⟩,h3⟩,h4⟩:=hc
   have hd:q.dst=(l.getD i default).src:=by
    unfold Mo.dst Mo.src
    rw [h2.1,h2.2.1,h2.2.2]
   rw [if_pos ⟨h1,hd,h3,h4⟩] at hw
   exact ih (i+1) Y _ w (by omega) hw (by omega)
  ·have hne:¬(q.b=(l.getD i default).b/\q.dst=(l.getD i default).src/\q.r=(l.getD i default).r/\q.t=(l.getD i default).t):=by
    rintro ⟨h1,h2,h3,h4⟩
    unfold Mo.dst Mo.src at h2
    injection h2 with e1 e2 e3
    exact hc ⟨⟨⟨⟨by omega,h1⟩,e1,e2,e3⟩,h3⟩,h4⟩
   rw [if_neg hne] at hw
   exact ih (i+1) (Y++[q]) _ (w+1) (by omega) hw (by omega)
theorem ev18 (f:Bool) (l:List Mo) (h:O.ZeZ l):Ev M1 (.pure 18 [.vec f 9 (l.map Mo.a)]) (.vec false 9 ((O.wh l).map Mo.a)) []:=by
 refine call18 (whA f l _ ?_)
 cases hn:l.length with
 | zero =>
  have:l=[]:=List.eq_nil_of_length_eq_zero hn
  subst this
  exact whN _ _ _ _ _ ⟨fun z=>absurd z (by omega),fun _ => .vnil 9⟩
 | succ k =>
  have hw:O.wh (l.take 1)=[]++[l.getD 0 default]:=by rw [ZbT (L:=l) (i:=0) (by omega)];rfl
  have:=wh_loop f h k 1 [] (l.getD 0 default) 0 (by omega) hw (by simp)
  rw [hn] at this
  exact whN _ _ _ _ _ ⟨fun _=>⟨by omega,by omega,by omega,this⟩,fun z=>absurd (by omega) z⟩
theorem mo_eq (a b:Mo):((a.x=b.x/\a.y=b.y/\a.z=b.z)/\(a.u=b.u/\a.v=b.v/\a.w=b.w)/\a.r=b.r/\a.t=b.t/\a.b=b.b) ↔ a=b:=by
 obtain ⟨a1,a2,a3,a4,a5,a6,a7,a8,a9⟩:=a
 obtain ⟨b1,b2,b3,b4,b5,b6,b7,b8,b9⟩:=b
 constructor
 ·rintro ⟨⟨h1,h2,h3⟩,⟨h4,h5,h6⟩,h7,h8,h9⟩
  simp only at *
  subst h1;subst h2;subst h3;subst h4;subst h5;subst h6;subst h7;subst h8;subst h9;rfl
 ·intro h;cases h;exact ⟨⟨rfl,rfl,rfl⟩,⟨rfl,rfl,rfl⟩,rfl,rfl,rfl⟩
theorem sm_loop (f g:Bool) {l m:List Mo} (he:l.length=m.length) (hl:l.length<=1000000000):∀ (k i:Nat),i+k=l.length->l.take i=m.take i->smQ_at f g l m i (Zak (.bool (O.smM l m))):=by
 intro k
 induction k with
 | zero =>
  intro i hi ht
  rw [List.take_of_length_le (by omega),List.take_of_length_le (by omega)] at ht
  exact smQ _ _ _ _ _ _ ⟨fun z=>absurd z (by omega),fun _=>by unfold O.smM;rw [decide_eq_true ht]⟩
 | succ k ih =>
  intro i hi ht
  refine smQ _ _ _ _ _ _ ⟨fun _ => ?_,fun z=>absurd (by omega) z⟩
  rw [Int.toNat_natCast]
  refine ⟨by omega,by omega,by omega,fun hd => ?_,fun hd=>⟨by omega,?_⟩⟩
  ·have hne:¬l=m:=by
    intro e
    subst e
    exact hd ((mo_eq _ _).2 rfl)
   unfold O.smM;rw [decide_eq_false hne]
  ·have e:=(mo_eq _ _).1 (Classical.not_not.1 hd)
   refine ih (i+1) (by omega) ?_
   rw [ZbT (L:=l) (by omega),ZbT (L:=m) (by omega),ht,e]
theorem ev17 (f g:Bool) (l m:List Mo) (h:O.okSm l m):Ev M1 (.pure 17 [.vec f 9 (l.map Mo.a),.vec g 9 (m.map Mo.a)]) (.bool (O.smM l m)) []:=by
 refine call17 (smP f g l m _ ⟨fun hn => ?_,fun hn => ?_⟩)
 ·have hne:¬l=m:=fun e=>hn (by rw [e])
  unfold O.smM;rw [decide_eq_false hne]
 ·exact sm_loop f g (by omega) h.1 l.length 0 (by omega) rfl
end Go.Av

namespace Go.Av
open Go.Proofs
set_option maxRecDepth 100000
def fi29:Fi:=⟨21,[.cell 4 42]⟩
def kp29:List (Nat × List Nat):=[(0,[2,3,4]),(1,[4])]
def fi72:Fi:=⟨15,[.tmp 6]⟩
def kp72:List (Nat × List Nat):=[(0,[0,1,2]),(1,[6])]
def w9A_at (n l h:Int) (Q:AV->Heap->Prop):Prop:=Wp M1 (.run fi72 (atC (cd Try.f72) []) [(0,.int .i64 n),(1,.int .i64 l),(2,.int .i64 h)] []) Q
def p5A_at (ax ay az bx by_ bz:Int) (Q:AV->Heap->Prop):Prop:=Wp M1 (.run fi29 (atC (cd Try.f29) []) [(0,.agg [.int .i64 ax,.int .i64 ay,.int .i64 az]),(1,.agg [.int .i64 bx,.int .i64 by_,.int .i64 bz])] []) Q
theorem call29 {args:List AV} {d:AV} (h:wc M1 fi29 Try.f29 args d):Ev M1 (.pure 29 args) d []:=pcl _ _ (by kernel_rfl) h
theorem call72 {args:List AV} {d:AV} (h:wc M1 fi72 Try.f72 args d):Ev M1 (.pure 72 args) d []:=pcl _ _ (by kernel_rfl) h
theorem w9A (n l h:Int)  (dq:AV) (H :
  vb (bif decide (n>=l) then decide (n<=h) else false)=dq) :
 w9A_at n l h (Zak dq):=by
 unfold w9A_at
 exact Zao (G:=Zab kp72 [] []) 1000 [] (vb (bif decide (n>=l) then decide (n<=h) else false)) (by kernel_rfl) b0 q0 c0 H
theorem p5A (ax ay az bx by_ bz:Int)  (dq:AV) (H :
  (-9223372036854775808<=ax+bx/\ax+bx<=9223372036854775807) /\
  (-9223372036854775808<=ay+by_/\ay+by_<=9223372036854775807) /\
  (-9223372036854775808<=az+bz/\az+bz<=9223372036854775807) /\
  ag [vi (ax+bx),vi (ay+by_),vi (az+bz)]=dq) :
 p5A_at ax ay az bx by_ bz (Zak dq):=by
 unfold p5A_at
 obtain ⟨k1,H⟩:=H
 have w2:wi (ax+bx)=ax+bx:=wI64 k1
 obtain ⟨k3,H⟩:=H
 have w4:wi (ay+by_)=ay+by_:=wI64 k3
 obtain ⟨k5,H⟩:=H
 have w6:wi (az+bz)=az+bz:=wI64 k5
 exact Zao (G:=Zab kp29 [] []) 1000 [] (ag [vi (wi (ax+bx)),vi (wi (ay+by_)),vi (wi (az+bz))]) (by kernel_rfl) (bc rfl (bc rfl (bc rfl (bc rfl (bc rfl (bc rfl (bc rfl b0))))))) q0 c0 (by (try rw [w2]);(try rw [w4]);(try rw [w6]);all_goals exact H)
end Go.Av

namespace Go.Av
open Go.Proofs
namespace O
def okPl (ax ay az bx by_ bz:Int):Prop:=((-100000000<=ax/\ax<=100000000)/\(-100000000<=ay/\ay<=100000000) /\ -100000000<=az/\az<=100000000)/\(-100000000<=bx/\bx<=100000000)/\(-100000000<=by_/\by_<=100000000) /\ -100000000<=bz/\bz<=100000000
end O
theorem ev72 (n l h:Int):Ev M1 (.pure 72 [.int .i64 n,.int .i64 l,.int .i64 h]) (.bool (O.wi n l h)) []:=call72 (w9A n l h _ rfl)
theorem ev29 (ax ay az bx by_ bz:Int) (h:O.okPl ax ay az bx by_ bz):Ev M1 (.pure 29 [.agg [.int .i64 ax,.int .i64 ay,.int .i64 az],.agg [.int .i64 bx,.int .i64 by_,.int .i64 bz]]) (.agg [.int .i64 (ax+bx),.int .i64 (ay+by_),.int .i64 (az+bz)]) []:=by
 obtain ⟨⟨h1,h2,h3⟩,h4,h5,h6⟩:=h
 exact call29 (p5A _ _ _ _ _ _ _ ⟨by omega,by omega,by omega,rfl⟩)
end Go.Av

namespace Go.Av
open Go.Proofs
set_option maxRecDepth 100000
def fi39:Fi:=⟨19,[.tmp 2]⟩
def kp39:List (Nat × List Nat):=[(0,[1]),(1,[18]),(2,[2]),(3,[2])]
def v9A_at (S A j:Int) (Q:AV->Heap->Prop):Prop:=Wp M1 (.run fi39 (atC (cd Try.f39) []) [(0,.agg [.int .i64 S,.int .i64 A,.int .i64 j])] []) Q
theorem call39 {args:List AV} {d:AV} (h:wc M1 fi39 Try.f39 args d):Ev M1 (.pure 39 args) d []:=pcl _ _ (by kernel_rfl) h
noncomputable abbrev zCxT1 (S:Int) (A:Int) (j:Int):=bif bif !O.wi S 1 100000 then true else !O.wi A 1 100000 then true else !O.wi j 2 100000
theorem v9A (S A j:Int)  (dq:AV) (H :
  ((((¬(O.wi S 1 100000=true))\/(¬(O.wi A 1 100000=true)))\/(¬(O.wi j 2 100000=true)))->vi 1=dq) /\
  (¬(((¬(O.wi S 1 100000=true))\/(¬(O.wi A 1 100000=true)))\/(¬(O.wi j 2 100000=true)))->vi 0=dq)) :
 v9A_at S A j (Zak dq):=by
 unfold v9A_at
 refine Zac (G:=Zab kp39 [(1,2,.call (vb (O.wi S 1 100000)) none),(1,7,.call (vb (O.wi A 1 100000)) none),(1,13,.call (vb (O.wi j 2 100000)) none)] []) 5 [] ⟨(atC (cd Try.f39) [1,0,1]),[(18,vb (zCxT1 S A j))],[⟨[ag [vi S,vi A,vi j]],3,0,false,false⟩],[true,!((!O.wi S 1 100000)==false&&true)||true,!((bif !O.wi S 1 100000 then true else !O.wi A 1 100000)==false&&true)||true],[],[⟨true,false,72,[vi S,vi 1,vi 100000],[],vb (O.wi S 1 100000),[]⟩,⟨(!O.wi S 1 100000)==false&&true&&true,false,72,[vi A,vi 1,vi 100000],[],vb (O.wi A 1 100000),[]⟩,⟨(bif !O.wi S 1 100000 then true else !O.wi A 1 100000)==false&&true&&true,false,72,[vi j,vi 2,vi 100000],[],vb (O.wi j 2 100000),[]⟩]⟩ (by kernel_rfl) (bc rfl (bc (Bool.or_true _) (bc (Bool.or_true _) b0))) q0 (cc (fun _=>(@ev72 S 1 100000)) (cc (fun hc=>((@ev72 A 1 100000):Ev M1 (Conf.pure 72 [vi A,vi 1,vi 100000]) (vb (O.wi A 1 100000)) [])) (cc (fun hc=>((@ev72 j 2 100000):Ev M1 (Conf.pure 72 [vi j,vi 2,vi 100000]) (vb (O.wi j 2 100000)) [])) c0))) ?_
 rcases xq H with ⟨d4,H⟩|⟨d4,H⟩
 ·exact Zao (G:=Zab kp39 [] []) 1000 [true] (asm:=[(zCxT1 S A j)==true]) (vi 1) (by kernel_rfl) (bc (Zam ((ZaL (ZaL (ZaO (Zas _)) (ZaO (Zas _))) (ZaO (Zas _))).2 d4)) b0) q0 c0 H
 ·exact Zao (G:=Zab kp39 [] []) 1000 [false] (asm:=[(zCxT1 S A j)==false]) (vi 0) (by kernel_rfl) (bc (Zal (fun h=>d4 ((ZaL (ZaL (ZaO (Zas _)) (ZaO (Zas _))) (ZaO (Zas _))).1 h))) b0) q0 c0 H
end Go.Av

namespace Go.Av
open Go.Proofs
structure Wy where
 x:Int
 y:Int
 z:Int
 r:Int
 deriving DecidableEq,Inhabited
def Wy.a (w:Wy):AV:=.agg [.int .i16 w.x,.int .i16 w.y,.int .i16 w.z,.int .i16 w.r]
theorem ev39 (S A j:Int):Ev M1 (.pure 39 [.agg [.int .i64 S,.int .i64 A,.int .i64 j]]) (.int .i64 (O.vlE S A j)) []:=by
 refine call39 (v9A S A j _ ⟨fun h => ?_,fun h => ?_⟩)
 all_goals unfold O.vlE
 ·rw [if_neg]
  rintro ⟨h1,h2,h3⟩
  rcases h with (h | h) | h
  ·exact h h1
  ·exact h h2
  ·exact h h3
 ·rw [if_pos]
  exact ⟨Classical.byContradiction fun y=>h (.inl (.inl y)),Classical.byContradiction fun y=>h (.inl (.inr y)),Classical.byContradiction fun y=>h (.inr y)⟩
end Go.Av

namespace Go.Av
open Go.Proofs
set_option maxRecDepth 100000
def fi7:Fi:=⟨112,[.tmp 2,.cell 3 31,.tmp 4]⟩
def kp7:List (Nat × List Nat):=[(0,[1,3]),(1,[1,3,5]),(2,[1,3,5,6]),(3,[1,3,5,6,59]),(4,[2,3,4]),(5,[1,3,5,6,7]),(6,[3,5,6,7,62,63,64]),(7,[3,5,6,7,62,63,64,65]),(8,[3,5,6,7,8,9,62,63,64]),(9,[3,5,6,7,8,9,10,62,63,64]),(10,[3,5,6,7,11,62,63,64]),(11,[3,5,6,7,11,62,63,64,98]),(12,[3,5,6,7,11,62,63,64]),(13,[3,5,6,7,11,62,63,64]),(14,[3,5,6,7,62,63,64]),(15,[3,5,6,7,62,63,64]),(16,[2,3,4])]
def moA_at (fx fy fz:Int) (fw:Bool) (W:List Wy) (S A j:Int) (Q:AV->Heap->Prop):Prop:=Wp M1 (.run fi7 (atC (cd Try.f7) []) [(0,.agg [.int .i16 fx,.int .i16 fy,.int .i16 fz,.vec fw 4 (W.map Wy.a),.int .i64 S,.int .i64 A,.int .i64 j])] []) Q
def moN_at (fw:Bool) (W:List Wy) (S A j ax ay az n i:Int) (Q:AV->Heap->Prop):Prop:=Wp M1 (.run fi7 (atC (cd Try.f7) [1,1,1,1,1,0,1,0,0]) [(3,.ptr 0 0 0 0),(5,.ptr 1 0 0 0),(6,.ptr 2 0 0 0),(7,.vnil),(62,.vec fw 4 (W.map Wy.a)),(63,.int .i64 n),(64,.int .i64 i)] [⟨[.agg [.int .i64 0,.int .i64 0,.int .i64 0]],3,0,false,false⟩,⟨[.agg [.int .i64 ax,.int .i64 ay,.int .i64 az]],3,0,false,false⟩,⟨[.agg [.int .i64 S,.int .i64 A,.int .i64 j]],3,0,false,false⟩]) Q
def Zfv (fw:Bool) (W:List Wy) (S A j ax ay az n i:Int) (o:List Mo) (w:Nat) (Q:AV->Heap->Prop):Prop:=Wp M1 (.run fi7 (atC (cd Try.f7) [1,1,1,1,1,0,1,0,0]) [(3,.ptr 0 0 0 0),(5,.ptr 1 0 0 0),(6,.ptr 2 0 0 0),(7,.row 3 w),(62,.vec fw 4 (W.map Wy.a)),(63,.int .i64 n),(64,.int .i64 i)] [⟨[.agg [.int .i64 0,.int .i64 0,.int .i64 0]],3,0,false,false⟩,⟨[.agg [.int .i64 ax,.int .i64 ay,.int .i64 az]],3,0,false,false⟩,⟨[.agg [.int .i64 S,.int .i64 A,.int .i64 j]],3,0,false,false⟩,⟨o.map Mo.a,9,w,false,true⟩]) Q
theorem call7 {args:List AV} {d:AV} (h:wc M1 fi7 Try.f7 args d):Ev M1 (.pure 7 args) d []:=pcl _ _ (by kernel_rfl) h
noncomputable abbrev zCxU1 (S:Int) (A:Int) (j:Int):=ag [vi S,vi A,vi j]
theorem moA (fx fy fz:Int) (fw:Bool) (W:List Wy) (S A j:Int)  (dq:AV) (H :
  (-9223372036854775808<=fx/\fx<=9223372036854775807) /\
  (-9223372036854775808<=fy/\fy<=9223372036854775807) /\
  (-9223372036854775808<=fz/\fz<=9223372036854775807) /\
  (((((((↑W.length:Int)>6)\/(¬O.vlE S A j=0))\/(S<20))\/(A<20))\/(j<40))->Weak (tu [AV.vnil,ag [vi S,vi A,vi j],vb false]) dq) /\
  (¬((((((↑W.length:Int)>6)\/(¬O.vlE S A j=0))\/(S<20))\/(A<20))\/(j<40))->moN_at fw W S A j fx fy fz ((↑W.length:Int)) 0 (Zak dq))) :
 moA_at fx fy fz fw W S A j (Zak dq):=by
 unfold moA_at
 obtain ⟨k1,H⟩:=H
 have w2:wi fx=fx:=wI64 k1
 obtain ⟨k3,H⟩:=H
 have w4:wi fy=fy:=wI64 k3
 obtain ⟨k5,H⟩:=H
 have w6:wi fz=fz:=wI64 k5
 have w7:(List.map Wy.a W).length=W.length:=List.length_map ..
 have i8:(decide ((↑(List.map Wy.a W).length:Int)>6)==false&&true&&true)=true ↔ (¬((↑W.length:Int)>6)):=(by (try rw [w7]);all_goals exact (i_at (i_at (i_bf Zae))))
 have i9:(bif bif bif bif decide ((↑(List.map Wy.a W).length:Int)>6) then true else O.vlE S A j != 0 then true else decide (S<20) then true else decide (A<20) then true else decide (j<40))=true ↔ ((((((↑W.length:Int)>6)\/(¬O.vlE S A j=0))\/(S<20))\/(A<20))\/(j<40)):=(by (try rw [w7]);all_goals exact (ZaL (ZaL (ZaL (ZaL Zae i_ne) Zae) Zae) Zae))
 refine Zac (G:=Zab kp7 [(3,7,.call (vi (O.vlE S A j)) none)] []) 9 [] ⟨(atC (cd Try.f7) [1,1,1,0,1]),[(1,AV.ptr 0 0 0 0),(3,AV.ptr 1 0 0 0),(5,AV.ptr 2 0 0 0),(6,AV.ptr 3 0 0 0),(59,vb (bif bif bif bif decide ((↑(List.map Wy.a W).length:Int)>6) then true else O.vlE S A j != 0 then true else decide (S<20) then true else decide (A<20) then true else decide (j<40)))],[⟨[ag [AV.int IntKind.i16 fx,AV.int IntKind.i16 fy,AV.int IntKind.i16 fz,AV.vec fw 4 (List.map Wy.a W),vi S,vi A,vi j]],7,0,false,false⟩,⟨[ag [vi 0,vi 0,vi 0]],3,0,false,false⟩,⟨[ag [vi (wi fx),vi (wi fy),vi (wi fz)]],3,0,false,false⟩,⟨[(zCxU1 S A j)],3,0,false,false⟩],[true,true,true,true,true,true,true,true,true,true,true,true,true,true,true,!(decide ((↑(List.map Wy.a W).length:Int)>6)==false&&true)||true,!((bif decide ((↑(List.map Wy.a W).length:Int)>6) then true else O.vlE S A j != 0)==false&&true)||true,!((bif bif decide ((↑(List.map Wy.a W).length:Int)>6) then true else O.vlE S A j != 0 then true else decide (S<20))==false&&true)||true,!((bif bif bif decide ((↑(List.map Wy.a W).length:Int)>6) then true else O.vlE S A j != 0 then true else decide (S<20) then true else decide (A<20))==false&&true)||true],[],[⟨decide ((↑(List.map Wy.a W).length:Int)>6)==false&&true&&true,false,39,[(zCxU1 S A j)],[],vi (O.vlE S A j),[]⟩]⟩ (by kernel_rfl) (bc rfl (bc rfl (bc rfl (bc rfl (bc rfl (bc rfl (bc rfl (bc rfl (bc rfl (bc rfl (bc rfl (bc rfl (bc rfl (bc rfl (bc rfl (bc (Bool.or_true _) (bc (Bool.or_true _) (bc (Bool.or_true _) (bc (Bool.or_true _) b0))))))))))))))))))) q0 (cc (fun hc=>((@ev39 S A j):Ev M1 (Conf.pure 39 [(zCxU1 S A j)]) (vi (O.vlE S A j)) [])) c0) ?_
 rcases xq H with ⟨d10,H⟩|⟨d10,H⟩
 ·exact Zbb (G:=Zab kp7 [] []) 1000 [true] (tu [AV.vnil,(zCxU1 S A j),vb false]) (by kernel_rfl) (bc (Zam (i9.2 d10)) (bc rfl (bc rfl b0))) q0 c0 H
 ·exact Zac (G:=Zab kp7 [] []) 1000 [false] ⟨(atC (cd Try.f7) [1,1,1,1,1,0,1,0,0]),[(3,AV.ptr 1 0 0 0),(5,AV.ptr 2 0 0 0),(6,AV.ptr 3 0 0 0),(7,AV.vnil),(62,AV.vec fw 4 (List.map Wy.a W)),(63,vi (↑(List.map Wy.a W).length:Int)),(64,vi 0)],[⟨[ag [AV.int IntKind.i16 fx,AV.int IntKind.i16 fy,AV.int IntKind.i16 fz,AV.vec fw 4 (List.map Wy.a W),vi S,vi A,vi j]],7,0,false,false⟩,⟨[ag [vi 0,vi 0,vi 0]],3,0,false,false⟩,⟨[ag [vi (wi fx),vi (wi fy),vi (wi fz)]],3,0,false,false⟩,⟨[(zCxU1 S A j)],3,0,false,false⟩],_,[],_⟩ (by kernel_rfl) (bc (Zal (fun h=>d10 (i9.1 h))) (bc rfl b0)) q0 c0 (by (try rw [w2]);(try rw [w4]);(try rw [w6]);(try rw [w7]);all_goals exact Zar [1,2,3] (by kernel_rfl) H)
noncomputable abbrev zCxU2 (W:List Wy) (i:Int):=ag [AV.int IntKind.i16 (W.getD i.toNat default).x,AV.int IntKind.i16 (W.getD i.toNat default).y,AV.int IntKind.i16 (W.getD i.toNat default).z,AV.int IntKind.i16 (W.getD i.toNat default).r]
noncomputable abbrev zCxU3 (ax:Int) (W:List Wy) (i:Int) (ay:Int) (az:Int):=ag [vi (ax+(W.getD i.toNat default).x.tmod 600),vi (ay+(W.getD i.toNat default).y.tmod 600),vi (az+(W.getD i.toNat default).z.tmod 600)]
noncomputable abbrev zCxU4 (S:Int) (A:Int) (j:Int):=ag [vi S,vi A,vi j]
noncomputable abbrev zCxU5:=ag [vi 0,vi 0,vi 0]
theorem moN (fw:Bool) (W:List Wy) (S A j ax ay az n i:Int)  (dq:AV) (H :
  ((i<n)->(0<=i) /\
   (i.toNat<W.length) /\
   (-9223372036854775808<=(W.getD i.toNat default).x.tmod 600/\(W.getD i.toNat default).x.tmod 600<=9223372036854775807) /\
   (-9223372036854775808<=(W.getD i.toNat default).y.tmod 600/\(W.getD i.toNat default).y.tmod 600<=9223372036854775807) /\
   (-9223372036854775808<=(W.getD i.toNat default).z.tmod 600/\(W.getD i.toNat default).z.tmod 600<=9223372036854775807) /\
   (O.okPl ax ay az ((W.getD i.toNat default).x.tmod 600) ((W.getD i.toNat default).y.tmod 600) ((W.getD i.toNat default).z.tmod 600)) /\
   (-9223372036854775808<=(W.getD i.toNat default).r/\(W.getD i.toNat default).r<=9223372036854775807) /\
   (-9223372036854775808<=(1000*if (W.getD i.toNat default).r>0 then (W.getD i.toNat default).r else 0)/\(1000*if (W.getD i.toNat default).r>0 then (W.getD i.toNat default).r else 0)<=9223372036854775807) /\
   (-9223372036854775808<=i.tdiv 2/\i.tdiv 2<=9223372036854775807) /\
   (-9223372036854775808<=1+i.tdiv 2/\1+i.tdiv 2<=9223372036854775807) /\
   (((1000*if (W.getD i.toNat default).r>0 then (W.getD i.toNat default).r else 0)>0)->(-9223372036854775808<=i+1/\i+1<=9223372036854775807) /\
    Zfv fw W S A j (ax+(W.getD i.toNat default).x.tmod 600) (ay+(W.getD i.toNat default).y.tmod 600) (az+(W.getD i.toNat default).z.tmod 600) n (i+1) ([{ x:=ax,y:=ay,z:=az,u:=ax+(W.getD i.toNat default).x.tmod 600,v:=ay+(W.getD i.toNat default).y.tmod 600,w:=az+(W.getD i.toNat default).z.tmod 600,r:=if (1000*if (W.getD i.toNat default).r>0 then (W.getD i.toNat default).r else 0)>20000 then 1000*if (W.getD i.toNat default).r>0 then (W.getD i.toNat default).r else 0 else 20000,t:=1+i.tdiv 2,b:=i }]) 0 (Zak dq)) /\
   (¬((1000*if (W.getD i.toNat default).r>0 then (W.getD i.toNat default).r else 0)>0)->(-9223372036854775808<=i+1/\i+1<=9223372036854775807) /\
    Zfv fw W S A j (ax+(W.getD i.toNat default).x.tmod 600) (ay+(W.getD i.toNat default).y.tmod 600) (az+(W.getD i.toNat default).z.tmod 600) n (i+1) ([{ x:=ax,y:=ay,z:=az,u:=ax+(W.getD i.toNat default).x.tmod 600,v:=ay+(W.getD i.toNat default).y.tmod 600,w:=az+(W.getD i.toNat default).z.tmod 600,r:=1000*if (W.getD i.toNat default).r>0 then (W.getD i.toNat default).r else 0,t:=1+i.tdiv 2,b:=i }]) 0 (Zak dq))) /\
  (¬(i<n)->Weak (tu [AV.vnil,ag [vi S,vi A,vi j],vb true]) dq)) :
 moN_at fw W S A j ax ay az n i (Zak dq):=by
 unfold moN_at
 rcases xq H with ⟨d2,H⟩|⟨d2,H⟩
 ·obtain ⟨k4,H⟩:=H
  have w5:(List.map Wy.a W).length=W.length:=List.length_map ..
  have i6:(decide (i.toNat<(List.map Wy.a W).length))=true ↔ (i.toNat<W.length):=(by (try rw [w5]);all_goals exact Zae)
  obtain ⟨k7,k8,H⟩:=H
  have w9:wi ((W.getD i.toNat default).x.tmod 600)=(W.getD i.toNat default).x.tmod 600:=wI64 k8
  obtain ⟨k10,H⟩:=H
  have w11:wi ((W.getD i.toNat default).y.tmod 600)=(W.getD i.toNat default).y.tmod 600:=wI64 k10
  obtain ⟨k12,H⟩:=H
  have w13:wi ((W.getD i.toNat default).z.tmod 600)=(W.getD i.toNat default).z.tmod 600:=wI64 k12
  obtain ⟨k14,k15,H⟩:=H
  have w16:wi (W.getD i.toNat default).r=(W.getD i.toNat default).r:=wI64 k15
  obtain ⟨k17,H⟩:=H
  have w18:wi (1000*if (W.getD i.toNat default).r>0 then (W.getD i.toNat default).r else 0)=1000*if (W.getD i.toNat default).r>0 then (W.getD i.toNat default).r else 0:=wI64 k17
  obtain ⟨k19,H⟩:=H
  have w20:wi (i.tdiv 2)=i.tdiv 2:=wI64 k19
  obtain ⟨k21,H⟩:=H
  have w22:wi (1+i.tdiv 2)=1+i.tdiv 2:=wI64 k21
  have i23:(decide (wi (1000*if wi (W.getD i.toNat default).r>0 then wi (W.getD i.toNat default).r else 0)>0))=true ↔ ((1000*if (W.getD i.toNat default).r>0 then (W.getD i.toNat default).r else 0)>0):=(by (try rw [w16]);(try rw [w18]);all_goals exact Zae)
  refine Zac (G:=Zab kp7 [(8,2,.elem ((zCxU2 W i))),(10,3,.call ((zCxU3 ax W i ay az)) none)] []) 16 [true] ⟨(atC (cd Try.f7) [1,1,1,1,1,0,1,0,0,1,1,0,0,1,1,1,0,1]),[(3,AV.ptr 0 0 0 0),(5,AV.ptr 1 0 0 0),(6,AV.ptr 2 0 0 0),(7,AV.vnil),(11,AV.ptr 5 0 0 0),(62,AV.vec fw 4 (List.map Wy.a W)),(63,vi n),(64,vi i),(98,vb (decide (wi (1000*if wi (W.getD i.toNat default).r>0 then wi (W.getD i.toNat default).r else 0)>0)))],[⟨[zCxU5],3,0,false,false⟩,⟨[ag [vi ax,vi ay,vi az]],3,0,false,false⟩,⟨[(zCxU4 S A j)],3,0,false,false⟩,⟨[(zCxU2 W i)],4,0,false,false⟩,⟨[ag [vi (wi ((W.getD i.toNat default).x.tmod 600)),vi (wi ((W.getD i.toNat default).y.tmod 600)),vi (wi ((W.getD i.toNat default).z.tmod 600))]],3,0,false,false⟩,⟨[ag [vi ax,vi ay,vi az,vi (ax+(W.getD i.toNat default).x.tmod 600),vi (ay+(W.getD i.toNat default).y.tmod 600),vi (az+(W.getD i.toNat default).z.tmod 600),vi (wi (1000*if wi (W.getD i.toNat default).r>0 then wi (W.getD i.toNat default).r else 0)),vi (wi (1+wi (i.tdiv 2))),vi i]],9,0,false,false⟩],_,[((List.map Wy.a W).get?Internal i.toNat=some ((zCxU2 W i)))],[pc 29 [ag [vi ax,vi ay,vi az],ag [vi (wi ((W.getD i.toNat default).x.tmod 600)),vi (wi ((W.getD i.toNat default).y.tmod 600)),vi (wi ((W.getD i.toNat default).z.tmod 600))]] ((zCxU3 ax W i ay az))]⟩ (by kernel_rfl) (bc (Zam (Zae.2 d2)) (bc (Zae.2 k4) (bc (i6.2 k7) (bc rfl (bc rfl (bc rfl (bc rfl (bc rfl (bc rfl (bc rfl (bc rfl (bc rfl (bc rfl (bc rfl (bc rfl (bc rfl (bc rfl (bc rfl (bc rfl (bc rfl (bc rfl (bc rfl (bc rfl (bc rfl (bc rfl (bc rfl b0)))))))))))))))))))))))))) (qc (Zay k7) q0) (ce (by (try rw [w9]);(try rw [w11]);(try rw [w13]);all_goals exact (@ev29 ax ay az ((W.getD i.toNat default).x.tmod 600) ((W.getD i.toNat default).y.tmod 600) ((W.getD i.toNat default).z.tmod 600) k14)) c0) ?_
  rcases xq H with ⟨d24,H⟩|⟨d24,H⟩
  ·obtain ⟨k25,H⟩:=H
   have w26:wi (i+1)=i+1:=wI64 k25
   have w27:[ag [vi ax,vi ay,vi az,vi (ax+(W.getD i.toNat default).x.tmod 600),vi (ay+(W.getD i.toNat default).y.tmod 600),vi (az+(W.getD i.toNat default).z.tmod 600),vi (if (1000*if (W.getD i.toNat default).r>0 then (W.getD i.toNat default).r else 0)>20000 then 1000*if (W.getD i.toNat default).r>0 then (W.getD i.toNat default).r else 0 else 20000),vi (1+i.tdiv 2),vi i]]=List.map Mo.a [{ x:=ax,y:=ay,z:=az,u:=ax+(W.getD i.toNat default).x.tmod 600,v:=ay+(W.getD i.toNat default).y.tmod 600,w:=az+(W.getD i.toNat default).z.tmod 600,r:=if (1000*if (W.getD i.toNat default).r>0 then (W.getD i.toNat default).r else 0)>20000 then 1000*if (W.getD i.toNat default).r>0 then (W.getD i.toNat default).r else 0 else 20000,t:=1+i.tdiv 2,b:=i }]:=rfl
   exact Zac (G:=Zab kp7 [] []) 1000 [true] ⟨(atC (cd Try.f7) [1,1,1,1,1,0,1,0,0]),[(3,AV.ptr 0 0 0 0),(5,AV.ptr 1 0 0 0),(6,AV.ptr 2 0 0 0),(7,AV.row 6 0),(62,AV.vec fw 4 (List.map Wy.a W)),(63,vi n),(64,vi (wi (i+1)))],[⟨[zCxU5],3,0,false,false⟩,⟨[(zCxU3 ax W i ay az)],3,0,false,false⟩,⟨[(zCxU4 S A j)],3,0,false,false⟩,⟨[(zCxU2 W i)],4,0,false,false⟩,⟨[ag [vi (wi ((W.getD i.toNat default).x.tmod 600)),vi (wi ((W.getD i.toNat default).y.tmod 600)),vi (wi ((W.getD i.toNat default).z.tmod 600))]],3,0,false,false⟩,⟨[ag [vi ax,vi ay,vi az,vi (ax+(W.getD i.toNat default).x.tmod 600),vi (ay+(W.getD i.toNat default).y.tmod 600),vi (az+(W.getD i.toNat default).z.tmod 600),vi (if wi (1000*if wi (W.getD i.toNat default).r>0 then wi (W.getD i.toNat default).r else 0)>20000 then wi (1000*if wi (W.getD i.toNat default).r>0 then wi (W.getD i.toNat default).r else 0) else 20000),vi (wi (1+wi (i.tdiv 2))),vi i]],9,0,false,false⟩,⟨[ag [vi ax,vi ay,vi az,vi (ax+(W.getD i.toNat default).x.tmod 600),vi (ay+(W.getD i.toNat default).y.tmod 600),vi (az+(W.getD i.toNat default).z.tmod 600),vi (if wi (1000*if wi (W.getD i.toNat default).r>0 then wi (W.getD i.toNat default).r else 0)>20000 then wi (1000*if wi (W.getD i.toNat default).r>0 then wi (W.getD i.toNat default).r else 0) else 20000),vi (wi (1+wi (i.tdiv 2))),vi i]],9,0,false,true⟩],_,[],_⟩ (by kernel_rfl) (bc (Zam (i23.2 d24)) (bc rfl (bc rfl (bc rfl (bc rfl (bc rfl (bc rfl b0))))))) q0 c0 (by (try rw [w9]);(try rw [w11]);(try rw [w13]);(try rw [w16]);(try rw [w18]);(try rw [w20]);(try rw [w22]);(try rw [w26]);(try rw [w27]);all_goals exact Zar [0,1,2,6] (by kernel_rfl) H)
  ·obtain ⟨k28,H⟩:=H
   have w29:wi (i+1)=i+1:=wI64 k28
   have w30:[ag [vi ax,vi ay,vi az,vi (ax+(W.getD i.toNat default).x.tmod 600),vi (ay+(W.getD i.toNat default).y.tmod 600),vi (az+(W.getD i.toNat default).z.tmod 600),vi (1000*if (W.getD i.toNat default).r>0 then (W.getD i.toNat default).r else 0),vi (1+i.tdiv 2),vi i]]=List.map Mo.a [{ x:=ax,y:=ay,z:=az,u:=ax+(W.getD i.toNat default).x.tmod 600,v:=ay+(W.getD i.toNat default).y.tmod 600,w:=az+(W.getD i.toNat default).z.tmod 600,r:=1000*if (W.getD i.toNat default).r>0 then (W.getD i.toNat default).r else 0,t:=1+i.tdiv 2,b:=i }]:=rfl
   exact Zac (G:=Zab kp7 [] []) 1000 [false] ⟨(atC (cd Try.f7) [1,1,1,1,1,0,1,0,0]),[(3,AV.ptr 0 0 0 0),(5,AV.ptr 1 0 0 0),(6,AV.ptr 2 0 0 0),(7,AV.row 6 0),(62,AV.vec fw 4 (List.map Wy.a W)),(63,vi n),(64,vi (wi (i+1)))],[⟨[zCxU5],3,0,false,false⟩,⟨[(zCxU3 ax W i ay az)],3,0,false,false⟩,⟨[(zCxU4 S A j)],3,0,false,false⟩,⟨[(zCxU2 W i)],4,0,false,false⟩,⟨[ag [vi (wi ((W.getD i.toNat default).x.tmod 600)),vi (wi ((W.getD i.toNat default).y.tmod 600)),vi (wi ((W.getD i.toNat default).z.tmod 600))]],3,0,false,false⟩,⟨[ag [vi ax,vi ay,vi az,vi (ax+(W.getD i.toNat default).x.tmod 600),vi (ay+(W.getD i.toNat default).y.tmod 600),vi (az+(W.getD i.toNat default).z.tmod 600),vi (wi (1000*if wi (W.getD i.toNat default).r>0 then wi (W.getD i.toNat default).r else 0)),vi (wi (1+wi (i.tdiv 2))),vi i]],9,0,false,false⟩,⟨[ag [vi ax,vi ay,vi az,vi (ax+(W.getD i.toNat default).x.tmod 600),vi (ay+(W.getD i.toNat default).y.tmod 600),vi (az+(W.getD i.toNat default).z.tmod 600),vi (wi (1000*if wi (W.getD i.toNat default).r>0 then wi (W.getD i.toNat default).r else 0)),vi (wi (1+wi (i.tdiv 2))),vi i]],9,0,false,true⟩],_,[],_⟩ (by kernel_rfl) (bc (Zal (fun h=>d24 (i23.1 h))) (bc rfl (bc rfl (bc rfl (bc rfl b0))))) q0 c0 (by (try rw [w9]);(try rw [w11]);(try rw [w13]);(try rw [w16]);(try rw [w18]);(try rw [w20]);(try rw [w22]);(try rw [w29]);(try rw [w30]);all_goals exact Zar [0,1,2,6] (by kernel_rfl) H)
 ·exact Zbb (G:=Zab kp7 [] []) 1000 [false] (tu [AV.vnil,(zCxU4 S A j),vb true]) (by kernel_rfl) (bc (Zal (fun h=>d2 (Zae.1 h))) (bc rfl (bc rfl b0))) q0 c0 H
noncomputable abbrev zCxU6 (W:List Wy) (i:Int):=ag [AV.int IntKind.i16 (W.getD i.toNat default).x,AV.int IntKind.i16 (W.getD i.toNat default).y,AV.int IntKind.i16 (W.getD i.toNat default).z,AV.int IntKind.i16 (W.getD i.toNat default).r]
noncomputable abbrev zCxU7 (ax:Int) (W:List Wy) (i:Int) (ay:Int) (az:Int):=ag [vi (ax+(W.getD i.toNat default).x.tmod 600),vi (ay+(W.getD i.toNat default).y.tmod 600),vi (az+(W.getD i.toNat default).z.tmod 600)]
noncomputable abbrev zCxU8 (S:Int) (A:Int) (j:Int):=ag [vi S,vi A,vi j]
noncomputable abbrev zCxU9:=ag [vi 0,vi 0,vi 0]
theorem moR (fw:Bool) (W:List Wy) (S A j ax ay az n i:Int) (o:List Mo) (w:Nat)  (dq:AV) (H :
  ((i<n)->(0<=i) /\
   (i.toNat<W.length) /\
   (-9223372036854775808<=(W.getD i.toNat default).x.tmod 600/\(W.getD i.toNat default).x.tmod 600<=9223372036854775807) /\
   (-9223372036854775808<=(W.getD i.toNat default).y.tmod 600/\(W.getD i.toNat default).y.tmod 600<=9223372036854775807) /\
   (-9223372036854775808<=(W.getD i.toNat default).z.tmod 600/\(W.getD i.toNat default).z.tmod 600<=9223372036854775807) /\
   (O.okPl ax ay az ((W.getD i.toNat default).x.tmod 600) ((W.getD i.toNat default).y.tmod 600) ((W.getD i.toNat default).z.tmod 600)) /\
   (-9223372036854775808<=(W.getD i.toNat default).r/\(W.getD i.toNat default).r<=9223372036854775807) /\
   (-9223372036854775808<=(1000*if (W.getD i.toNat default).r>0 then (W.getD i.toNat default).r else 0)/\(1000*if (W.getD i.toNat default).r>0 then (W.getD i.toNat default).r else 0)<=9223372036854775807) /\
   (-9223372036854775808<=i.tdiv 2/\i.tdiv 2<=9223372036854775807) /\
   (-9223372036854775808<=1+i.tdiv 2/\1+i.tdiv 2<=9223372036854775807) /\
   (((1000*if (W.getD i.toNat default).r>0 then (W.getD i.toNat default).r else 0)>0)->((o.length+1)*72<=1099511627776) /\
    (-9223372036854775808<=i+1/\i+1<=9223372036854775807) /\
    Zfv fw W S A j (ax+(W.getD i.toNat default).x.tmod 600) (ay+(W.getD i.toNat default).y.tmod 600) (az+(W.getD i.toNat default).z.tmod 600) n (i+1) (o++[{ x:=ax,y:=ay,z:=az,u:=ax+(W.getD i.toNat default).x.tmod 600,v:=ay+(W.getD i.toNat default).y.tmod 600,w:=az+(W.getD i.toNat default).z.tmod 600,r:=if (1000*if (W.getD i.toNat default).r>0 then (W.getD i.toNat default).r else 0)>20000 then 1000*if (W.getD i.toNat default).r>0 then (W.getD i.toNat default).r else 0 else 20000,t:=1+i.tdiv 2,b:=i }]) (w+1) (Zak dq)) /\
   (¬((1000*if (W.getD i.toNat default).r>0 then (W.getD i.toNat default).r else 0)>0)->((o.length+1)*72<=1099511627776) /\
    (-9223372036854775808<=i+1/\i+1<=9223372036854775807) /\
    Zfv fw W S A j (ax+(W.getD i.toNat default).x.tmod 600) (ay+(W.getD i.toNat default).y.tmod 600) (az+(W.getD i.toNat default).z.tmod 600) n (i+1) (o++[{ x:=ax,y:=ay,z:=az,u:=ax+(W.getD i.toNat default).x.tmod 600,v:=ay+(W.getD i.toNat default).y.tmod 600,w:=az+(W.getD i.toNat default).z.tmod 600,r:=1000*if (W.getD i.toNat default).r>0 then (W.getD i.toNat default).r else 0,t:=1+i.tdiv 2,b:=i }]) (w+1) (Zak dq))) /\
  (¬(i<n)->Weak (tu [AV.vec false 9 (List.map Mo.a o),ag [vi S,vi A,vi j],vb true]) dq)) :
 Zfv fw W S A j ax ay az n i o w (Zak dq):=by
 unfold Zfv
 rcases xq H with ⟨d2,H⟩|⟨d2,H⟩
 ·obtain ⟨k4,H⟩:=H
  have w5:(List.map Wy.a W).length=W.length:=List.length_map ..
  have i6:(decide (i.toNat<(List.map Wy.a W).length))=true ↔ (i.toNat<W.length):=(by (try rw [w5]);all_goals exact Zae)
  obtain ⟨k7,k8,H⟩:=H
  have w9:wi ((W.getD i.toNat default).x.tmod 600)=(W.getD i.toNat default).x.tmod 600:=wI64 k8
  obtain ⟨k10,H⟩:=H
  have w11:wi ((W.getD i.toNat default).y.tmod 600)=(W.getD i.toNat default).y.tmod 600:=wI64 k10
  obtain ⟨k12,H⟩:=H
  have w13:wi ((W.getD i.toNat default).z.tmod 600)=(W.getD i.toNat default).z.tmod 600:=wI64 k12
  obtain ⟨k14,k15,H⟩:=H
  have w16:wi (W.getD i.toNat default).r=(W.getD i.toNat default).r:=wI64 k15
  obtain ⟨k17,H⟩:=H
  have w18:wi (1000*if (W.getD i.toNat default).r>0 then (W.getD i.toNat default).r else 0)=1000*if (W.getD i.toNat default).r>0 then (W.getD i.toNat default).r else 0:=wI64 k17
  obtain ⟨k19,H⟩:=H
  have w20:wi (i.tdiv 2)=i.tdiv 2:=wI64 k19
  obtain ⟨k21,H⟩:=H
  have w22:wi (1+i.tdiv 2)=1+i.tdiv 2:=wI64 k21
  have i23:(decide (wi (1000*if wi (W.getD i.toNat default).r>0 then wi (W.getD i.toNat default).r else 0)>0))=true ↔ ((1000*if (W.getD i.toNat default).r>0 then (W.getD i.toNat default).r else 0)>0):=(by (try rw [w16]);(try rw [w18]);all_goals exact Zae)
  refine Zac (G:=Zab kp7 [(8,2,.elem ((zCxU6 W i))),(10,3,.call ((zCxU7 ax W i ay az)) none)] []) 16 [true] ⟨(atC (cd Try.f7) [1,1,1,1,1,0,1,0,0,1,1,0,0,1,1,1,0,1]),[(3,AV.ptr 0 0 0 0),(5,AV.ptr 1 0 0 0),(6,AV.ptr 2 0 0 0),(7,AV.row 3 w),(11,AV.ptr 6 0 0 0),(62,AV.vec fw 4 (List.map Wy.a W)),(63,vi n),(64,vi i),(98,vb (decide (wi (1000*if wi (W.getD i.toNat default).r>0 then wi (W.getD i.toNat default).r else 0)>0)))],[⟨[zCxU9],3,0,false,false⟩,⟨[ag [vi ax,vi ay,vi az]],3,0,false,false⟩,⟨[(zCxU8 S A j)],3,0,false,false⟩,⟨List.map Mo.a o,9,w,false,true⟩,⟨[(zCxU6 W i)],4,0,false,false⟩,⟨[ag [vi (wi ((W.getD i.toNat default).x.tmod 600)),vi (wi ((W.getD i.toNat default).y.tmod 600)),vi (wi ((W.getD i.toNat default).z.tmod 600))]],3,0,false,false⟩,⟨[ag [vi ax,vi ay,vi az,vi (ax+(W.getD i.toNat default).x.tmod 600),vi (ay+(W.getD i.toNat default).y.tmod 600),vi (az+(W.getD i.toNat default).z.tmod 600),vi (wi (1000*if wi (W.getD i.toNat default).r>0 then wi (W.getD i.toNat default).r else 0)),vi (wi (1+wi (i.tdiv 2))),vi i]],9,0,false,false⟩],_,[((List.map Wy.a W).get?Internal i.toNat=some ((zCxU6 W i)))],[pc 29 [ag [vi ax,vi ay,vi az],ag [vi (wi ((W.getD i.toNat default).x.tmod 600)),vi (wi ((W.getD i.toNat default).y.tmod 600)),vi (wi ((W.getD i.toNat default).z.tmod 600))]] ((zCxU7 ax W i ay az))]⟩ (by kernel_rfl) (bc (Zam (Zae.2 d2)) (bc (Zae.2 k4) (bc (i6.2 k7) (bc rfl (bc rfl (bc rfl (bc rfl (bc rfl (bc rfl (bc rfl (bc rfl (bc rfl (bc rfl (bc rfl (bc rfl (bc rfl (bc rfl (bc rfl (bc rfl (bc rfl (bc rfl (bc rfl (bc rfl (bc rfl (bc rfl (bc rfl b0)))))))))))))))))))))))))) (qc (Zay k7) q0) (ce (by (try rw [w9]);(try rw [w11]);(try rw [w13]);all_goals exact (@ev29 ax ay az ((W.getD i.toNat default).x.tmod 600) ((W.getD i.toNat default).y.tmod 600) ((W.getD i.toNat default).z.tmod 600) k14)) c0) ?_
  rcases xq H with ⟨d24,H⟩|⟨d24,H⟩
  ·have w25:(List.map Mo.a o).length=o.length:=List.length_map ..
   have i26:(decide (((List.map Mo.a o).length+1)*72<=1099511627776))=true ↔ ((o.length+1)*72<=1099511627776):=(by (try rw [w16]);(try rw [w18]);(try rw [w20]);(try rw [w22]);(try rw [w25]);all_goals exact Zae)
   obtain ⟨k27,H⟩:=H
   have w28:List.map Mo.a o++[ag [vi ax,vi ay,vi az,vi (ax+(W.getD i.toNat default).x.tmod 600),vi (ay+(W.getD i.toNat default).y.tmod 600),vi (az+(W.getD i.toNat default).z.tmod 600),vi (if (1000*if (W.getD i.toNat default).r>0 then (W.getD i.toNat default).r else 0)>20000 then 1000*if (W.getD i.toNat default).r>0 then (W.getD i.toNat default).r else 0 else 20000),vi (1+i.tdiv 2),vi i]]=List.map Mo.a (o++[{ x:=ax,y:=ay,z:=az,u:=ax+(W.getD i.toNat default).x.tmod 600,v:=ay+(W.getD i.toNat default).y.tmod 600,w:=az+(W.getD i.toNat default).z.tmod 600,r:=if (1000*if (W.getD i.toNat default).r>0 then (W.getD i.toNat default).r else 0)>20000 then 1000*if (W.getD i.toNat default).r>0 then (W.getD i.toNat default).r else 0 else 20000,t:=1+i.tdiv 2,b:=i }]):=(ZeE rfl rfl)
   obtain ⟨k29,H⟩:=H
   have w30:wi (i+1)=i+1:=wI64 k29
   exact Zac (G:=Zab kp7 [] []) 1000 [true] ⟨(atC (cd Try.f7) [1,1,1,1,1,0,1,0,0]),[(3,AV.ptr 0 0 0 0),(5,AV.ptr 1 0 0 0),(6,AV.ptr 2 0 0 0),(7,AV.row 3 (w+1)),(62,AV.vec fw 4 (List.map Wy.a W)),(63,vi n),(64,vi (wi (i+1)))],[⟨[zCxU9],3,0,false,false⟩,⟨[(zCxU7 ax W i ay az)],3,0,false,false⟩,⟨[(zCxU8 S A j)],3,0,false,false⟩,⟨List.map Mo.a o++[ag [vi ax,vi ay,vi az,vi (ax+(W.getD i.toNat default).x.tmod 600),vi (ay+(W.getD i.toNat default).y.tmod 600),vi (az+(W.getD i.toNat default).z.tmod 600),vi (if wi (1000*if wi (W.getD i.toNat default).r>0 then wi (W.getD i.toNat default).r else 0)>20000 then wi (1000*if wi (W.getD i.toNat default).r>0 then wi (W.getD i.toNat default).r else 0) else 20000),vi (wi (1+wi (i.tdiv 2))),vi i]],9,w+1,false,true⟩,⟨[(zCxU6 W i)],4,0,false,false⟩,⟨[ag [vi (wi ((W.getD i.toNat default).x.tmod 600)),vi (wi ((W.getD i.toNat default).y.tmod 600)),vi (wi ((W.getD i.toNat default).z.tmod 600))]],3,0,false,false⟩,⟨[ag [vi ax,vi ay,vi az,vi (ax+(W.getD i.toNat default).x.tmod 600),vi (ay+(W.getD i.toNat default).y.tmod 600),vi (az+(W.getD i.toNat default).z.tmod 600),vi (if wi (1000*if wi (W.getD i.toNat default).r>0 then wi (W.getD i.toNat default).r else 0)>20000 then wi (1000*if wi (W.getD i.toNat default).r>0 then wi (W.getD i.toNat default).r else 0) else 20000),vi (wi (1+wi (i.tdiv 2))),vi i]],9,0,false,false⟩],[(decide (wi (1000*if wi (W.getD i.toNat default).r>0 then wi (W.getD i.toNat default).r else 0)>0))==true,true,true,true,w==w,decide (((List.map Mo.a o).length+1)*72<=1099511627776),true,true],[],_⟩ (by kernel_rfl) (bc (Zam (i23.2 d24)) (bc rfl (bc rfl (bc rfl (bc (beq_self_eq_true _) (bc (i26.2 k27) (bc rfl (bc rfl b0)))))))) q0 c0 (by (try rw [w9]);(try rw [w11]);(try rw [w13]);(try rw [w16]);(try rw [w18]);(try rw [w20]);(try rw [w22]);(try rw [w28]);(try rw [w30]);all_goals exact Zar [0,1,2,3] (by kernel_rfl) H)
  ·have w31:(List.map Mo.a o).length=o.length:=List.length_map ..
   have i32:(decide (((List.map Mo.a o).length+1)*72<=1099511627776))=true ↔ ((o.length+1)*72<=1099511627776):=(by (try rw [w16]);(try rw [w18]);(try rw [w20]);(try rw [w22]);(try rw [w31]);all_goals exact Zae)
   obtain ⟨k33,H⟩:=H
   have w34:List.map Mo.a o++[ag [vi ax,vi ay,vi az,vi (ax+(W.getD i.toNat default).x.tmod 600),vi (ay+(W.getD i.toNat default).y.tmod 600),vi (az+(W.getD i.toNat default).z.tmod 600),vi (1000*if (W.getD i.toNat default).r>0 then (W.getD i.toNat default).r else 0),vi (1+i.tdiv 2),vi i]]=List.map Mo.a (o++[{ x:=ax,y:=ay,z:=az,u:=ax+(W.getD i.toNat default).x.tmod 600,v:=ay+(W.getD i.toNat default).y.tmod 600,w:=az+(W.getD i.toNat default).z.tmod 600,r:=1000*if (W.getD i.toNat default).r>0 then (W.getD i.toNat default).r else 0,t:=1+i.tdiv 2,b:=i }]):=(ZeE rfl rfl)
   obtain ⟨k35,H⟩:=H
   have w36:wi (i+1)=i+1:=wI64 k35
   exact Zac (G:=Zab kp7 [] []) 1000 [false] ⟨(atC (cd Try.f7) [1,1,1,1,1,0,1,0,0]),[(3,AV.ptr 0 0 0 0),(5,AV.ptr 1 0 0 0),(6,AV.ptr 2 0 0 0),(7,AV.row 3 (w+1)),(62,AV.vec fw 4 (List.map Wy.a W)),(63,vi n),(64,vi (wi (i+1)))],[⟨[zCxU9],3,0,false,false⟩,⟨[(zCxU7 ax W i ay az)],3,0,false,false⟩,⟨[(zCxU8 S A j)],3,0,false,false⟩,⟨List.map Mo.a o++[ag [vi ax,vi ay,vi az,vi (ax+(W.getD i.toNat default).x.tmod 600),vi (ay+(W.getD i.toNat default).y.tmod 600),vi (az+(W.getD i.toNat default).z.tmod 600),vi (wi (1000*if wi (W.getD i.toNat default).r>0 then wi (W.getD i.toNat default).r else 0)),vi (wi (1+wi (i.tdiv 2))),vi i]],9,w+1,false,true⟩,⟨[(zCxU6 W i)],4,0,false,false⟩,⟨[ag [vi (wi ((W.getD i.toNat default).x.tmod 600)),vi (wi ((W.getD i.toNat default).y.tmod 600)),vi (wi ((W.getD i.toNat default).z.tmod 600))]],3,0,false,false⟩,⟨[ag [vi ax,vi ay,vi az,vi (ax+(W.getD i.toNat default).x.tmod 600),vi (ay+(W.getD i.toNat default).y.tmod 600),vi (az+(W.getD i.toNat default).z.tmod 600),vi (wi (1000*if wi (W.getD i.toNat default).r>0 then wi (W.getD i.toNat default).r else 0)),vi (wi (1+wi (i.tdiv 2))),vi i]],9,0,false,false⟩],[(decide (wi (1000*if wi (W.getD i.toNat default).r>0 then wi (W.getD i.toNat default).r else 0)>0))==false,true,w==w,decide (((List.map Mo.a o).length+1)*72<=1099511627776),true,true],[],_⟩ (by kernel_rfl) (bc (Zal (fun h=>d24 (i23.1 h))) (bc rfl (bc (beq_self_eq_true _) (bc (i32.2 k33) (bc rfl (bc rfl b0)))))) q0 c0 (by (try rw [w9]);(try rw [w11]);(try rw [w13]);(try rw [w16]);(try rw [w18]);(try rw [w20]);(try rw [w22]);(try rw [w34]);(try rw [w36]);all_goals exact Zar [0,1,2,3] (by kernel_rfl) H)
 ·exact Zai (G:=Zab kp7 [] []) 1000 [false] (k:=((atC (cd Try.f7) [1,1,1,1,1,1,1])).tail) (env':=[(2,AV.row 3 w),(3,AV.ptr 0 0 0 0),(4,vb true)]) (L':=[⟨[(zCxU8 S A j)],3,0,false,false⟩,⟨[ag [vi ax,vi ay,vi az]],3,0,false,false⟩,⟨[(zCxU8 S A j)],3,0,false,false⟩,⟨List.map Mo.a o,9,w,false,true⟩]) (asm:=[(decide (i<n))==false,true,true]) (eqs:=[]) (calls:=[]) (tu [AV.row 3 w,(zCxU8 S A j),vb true]) (by kernel_rfl) (by kernel_rfl) (Zaa (Zal (fun h=>d2 (Zae.1 h))) (Zaa rfl (Zaa rfl Zad))) Zaf Zag (ZdD (d:=(tu [AV.vec false 9 (List.map Mo.a o),(zCxU8 S A j),vb true])) (bs:=[w==w]) (by kernel_rfl) (by kernel_rfl) (Zaa (beq_self_eq_true _) Zad) (by kernel_rfl) H)
end Go.Av

namespace Go.Av
open Go.Proofs
set_option maxRecDepth 100000
end Go.Av

namespace Go.Av
open Go.Proofs
namespace O
end O
end Go.Av

namespace Go.Av
open Go.Proofs
namespace O
def s16 (x:Int):Prop:=-32768<=x/\x<=32767
def wyR (r:Int):Int:=if (1000*if r>0 then r else 0)>0 then (if (1000*if r>0 then r else 0)>20000 then 1000*if r>0 then r else 0 else 20000) else 1000*if r>0 then r else 0
def atW (p:Ps) (W:List Wy):Nat->Ps
 | 0=>p
 | i+1=>⟨(atW p W i).x+(W.getD i default).x.tmod 600,(atW p W i).y+(W.getD i default).y.tmod 600,(atW p W i).z+(W.getD i default).z.tmod 600⟩
def moW (p:Ps) (W:List Wy) (i:Nat):Mo:=⟨(atW p W i).x,(atW p W i).y,(atW p W i).z,(atW p W (i+1)).x,(atW p W (i+1)).y,(atW p W (i+1)).z,wyR (W.getD i default).r,1+(i:Int).tdiv 2,i⟩
def moL (p:Ps) (W:List Wy) (n:Nat):List Mo:=(List.range n).map (moW p W)
def trB (W:List Wy) (S A j:Int):Bool:=decide ¬(((((W.length:Int)>6\/¬vlE S A j=0)\/S<20)\/A<20)\/j<40)
def trL (x y z:Int) (W:List Wy) (S A j:Int):List Mo:=if trB W S A j=true then moL ⟨x,y,z⟩ W W.length else []
def okTr (x y z:Int) (W:List Wy):Prop:=(s16 x/\s16 y/\s16 z) /\ ∀ w ∈ W,s16 w.r
end O
theorem ZeL (x:Int):-599<=x.tmod 600/\x.tmod 600<=599:=by
 have h1:=Int.tmod_lt_of_pos x (show (0:Int)<600 by decide)
 have h2:=Int.lt_tmod_of_pos x (show (0:Int)<600 by decide)
 omega
theorem atW_bd {p:Ps} {W:List Wy} (h:O.s16 p.x/\O.s16 p.y/\O.s16 p.z):∀ i:Nat,i<=6->(-32768-599*(i:Int)<=(O.atW p W i).x/\(O.atW p W i).x<=32768+599*(i:Int))/\(-32768-599*(i:Int)<=(O.atW p W i).y/\(O.atW p W i).y<=32768+599*(i:Int)) /\ -32768-599*(i:Int)<=(O.atW p W i).z/\(O.atW p W i).z<=32768+599*(i:Int)
 | 0,_=>by
  obtain ⟨h1,h2,h3⟩:=h
  unfold O.s16 at h1 h2 h3
  unfold O.atW
  omega
 | i+1,hi=>by
  have:=atW_bd (W:=W) h i (by omega)
  have h1:=ZeL (W.getD i default).x
  have h2:=ZeL (W.getD i default).y
  have h3:=ZeL (W.getD i default).z
  unfold O.atW
  simp only
  omega
theorem moL_succ (p:Ps) (W:List Wy) (i:Nat):O.moL p W (i+1)=O.moL p W i++[O.moW p W i]:=by
 unfold O.moL
 rw [List.range_succ,List.map_append];rfl
theorem moL_len (p:Ps) (W:List Wy) (i:Nat):(O.moL p W i).length=i:=by unfold O.moL;rw [List.length_map,List.length_range]
theorem ZdF (p:Ps) (W:List Wy) {n i:Nat} (h:i<n):(O.moL p W n).getD i default=O.moW p W i:=by
 unfold O.moL
 rw [List.getD_eq_getElem?_getD,List.getElem?_map,List.getElem?_range h];rfl
theorem wyR_bd {r:Int} (h:O.s16 r):0<=O.wyR r/\O.wyR r<=32767000/\(O.wyR r=0\/20000<=O.wyR r):=by
 unfold O.s16 at h
 unfold O.wyR
 split <;> split <;> (try split) <;> omega
section
variable (fw:Bool) {W:List Wy} {p:Ps} {S A j:Int}
theorem moR_loop (h:O.s16 p.x/\O.s16 p.y/\O.s16 p.z) (hW:∀ w ∈ W,O.s16 w.r) (hn:W.length<=6):∀ (k i w:Nat),i+k=W.length ->
  Zfv fw W S A j (O.atW p W i).x (O.atW p W i).y (O.atW p W i).z W.length i (O.moL p W i) w (Zak (.tup [.vec false 9 ((O.moL p W W.length).map Mo.a),.agg [.int .i64 S,.int .i64 A,.int .i64 j],.bool true])):=by
 intro k
 induction k with
 | zero =>
  intro i w hi
  refine moR _ _ _ _ _ _ _ _ _ _ _ _ _ ⟨fun z=>absurd z (by omega),fun _ => ?_⟩
  rw [show i=W.length by omega];exact .refl _
 | succ k ih =>
  intro i w hi
  have hb:=atW_bd (W:=W) h i (by omega)
  have h1:=ZeL (W.getD i default).x
  have h2:=ZeL (W.getD i default).y
  have h3:=ZeL (W.getD i default).z
  have hr:O.s16 (W.getD i default).r:=hW _ (by
   rw [List.getD_eq_getElem?_getD,List.getElem?_eq_getElem (by omega)]
   exact List.getElem_mem _)
  have hr':=hr
  unfold O.s16 at hr'
  have e2:(i:Int).tdiv 2=(i:Int) / 2:=Int.tdiv_eq_ediv_of_nonneg (by omega)
  have hl:=moL_len p W i
  have hstep:=ih (i+1) (w+1) (by omega)
  rw [moL_succ] at hstep
  refine moR _ _ _ _ _ _ _ _ _ _ _ _ _ ⟨fun _ => ?_,fun z=>absurd (by omega) z⟩
  rw [Int.toNat_natCast]
  refine ⟨by omega,by omega,by omega,by omega,by omega,⟨⟨by omega,by omega,by omega⟩,by omega,by omega,by omega⟩,by omega,by split <;> omega,by omega,by omega,fun hc=>⟨by omega,by omega,?_⟩,fun hc=>⟨by omega,by omega,?_⟩⟩
  ·have e:O.wyR (W.getD i default).r=if (1000*if (W.getD i default).r>0 then (W.getD i default).r else 0)>20000 then 1000*if (W.getD i default).r>0 then (W.getD i default).r else 0 else 20000:=by unfold O.wyR;rw [if_pos hc]
   rw [<- e];exact hstep
  ·have e:O.wyR (W.getD i default).r=1000*if (W.getD i default).r>0 then (W.getD i default).r else 0:=by unfold O.wyR;rw [if_neg hc]
   rw [<- e];exact hstep
theorem moN_loop (h:O.s16 p.x/\O.s16 p.y/\O.s16 p.z) (hW:∀ w ∈ W,O.s16 w.r) (hn:W.length<=6) :
  moN_at fw W S A j p.x p.y p.z W.length 0 (Zak (.tup [.vec false 9 ((O.moL p W W.length).map Mo.a),.agg [.int .i64 S,.int .i64 A,.int .i64 j],.bool true])):=by
 cases hk:W.length with
 | zero =>
  refine moN _ _ _ _ _ _ _ _ _ _ _ ⟨fun z=>absurd z (by omega),fun _ => ?_⟩
  exact .tup _ _ rfl fun i x y hx hy=>by
   match i,hx,hy with
   | 0,hx,hy=>cases hx;cases hy;exact .vnil 9
   | 1,hx,hy=>cases hx;cases hy;exact .refl _
   | 2,hx,hy=>cases hx;cases hy;exact .refl _
 | succ k =>
  have hb:=atW_bd (W:=W) h 0 (by omega)
  unfold O.atW at hb
  have h1:=ZeL (W.getD 0 default).x
  have h2:=ZeL (W.getD 0 default).y
  have h3:=ZeL (W.getD 0 default).z
  have hr:O.s16 (W.getD 0 default).r:=hW _ (by
   rw [List.getD_eq_getElem?_getD,List.getElem?_eq_getElem (by omega)]
   exact List.getElem_mem _)
  have hr':=hr
  unfold O.s16 at hr'
  have hstep:=moR_loop fw (S:=S) (A:=A) (j:=j) h hW hn k 1 0 (by omega)
  rw [moL_succ] at hstep
  rw [hk] at hstep
  refine moN _ _ _ _ _ _ _ _ _ _ _ ⟨fun _ => ?_,fun z=>absurd (by omega) z⟩
  refine ⟨by omega,by rw [Int.toNat_zero];omega,by rw [Int.toNat_zero];omega,by rw [Int.toNat_zero];omega,by rw [Int.toNat_zero];omega,by rw [Int.toNat_zero];exact ⟨⟨by omega,by omega,by omega⟩,by omega,by omega,by omega⟩,by rw [Int.toNat_zero];omega,by rw [Int.toNat_zero];split <;> omega,by decide,by decide,fun hc=>⟨by omega,?_⟩,fun hc=>⟨by omega,?_⟩⟩
  ·have e:O.wyR (W.getD 0 default).r=if (1000*if (W.getD 0 default).r>0 then (W.getD 0 default).r else 0)>20000 then 1000*if (W.getD 0 default).r>0 then (W.getD 0 default).r else 0 else 20000:=by rw [Int.toNat_zero] at hc;unfold O.wyR;rw [if_pos hc]
   rw [Int.toNat_zero,<- e];exact hstep
  ·have e:O.wyR (W.getD 0 default).r=1000*if (W.getD 0 default).r>0 then (W.getD 0 default).r else 0:=by rw [Int.toNat_zero] at hc;unfold O.wyR;rw [if_neg hc]
   rw [Int.toNat_zero,<- e];exact hstep
end
theorem ev7 (fx fy fz:Int) (fw:Bool) (W:List Wy) (S A j:Int) (h:O.okTr fx fy fz W):Ev M1 (.pure 7 [.agg [.int .i16 fx,.int .i16 fy,.int .i16 fz,.vec fw 4 (W.map Wy.a),.int .i64 S,.int .i64 A,.int .i64 j]]) (.tup [.vec false 9 ((O.trL fx fy fz W S A j).map Mo.a),.agg [.int .i64 S,.int .i64 A,.int .i64 j],.bool (O.trB W S A j)]) []:=by
 obtain ⟨hp,hW⟩:=h
 have hp':=hp
 unfold O.s16 at hp'
 refine call7 (moA fx fy fz fw W S A j _ ⟨by omega,by omega,by omega,fun hb => ?_,fun hb => ?_⟩)
 ·have e:O.trB W S A j=false:=decide_eq_false fun y=>y hb
  unfold O.trL
  rw [e,if_neg (by decide)]
  exact .tup _ _ rfl fun i x y hx hy=>by
   match i,hx,hy with
   | 0,hx,hy=>cases hx;cases hy;exact .vnil 9
   | 1,hx,hy=>cases hx;cases hy;exact .refl _
   | 2,hx,hy=>cases hx;cases hy;exact .refl _
 ·have e:O.trB W S A j=true:=decide_eq_true hb
  unfold O.trL
  rw [if_pos e,e]
  exact moN_loop fw (p:=⟨fx,fy,fz⟩) hp hW (by omega)
end Go.Av

namespace Go.Av
open Go.Proofs
theorem pack96 (cs:List AV):Zc6 Try.prog 96 cs = .agg cs:=by
 simp [Zc6,aggT,Try.underlying96]
theorem pack28 (cs:List AV):Zc6 Try.prog 28 cs = .agg cs:=by
 simp [Zc6,aggT,Try.underlying28]
theorem pack5 (x:AV):Zc6 Try.prog 5 [x]=x:=by
 simp [Zc6,aggT,Try.underlying5]
theorem pack29 (x:AV):Zc6 Try.prog 29 [x]=x:=by
 simp [Zc6,aggT,Try.underlying29]
theorem cells96:Try.prog.cellsOf 96=4:=by kernel_rfl
theorem cells5:Try.prog.cellsOf 5=1:=by kernel_rfl
set_option maxRecDepth 100000 in
theorem ctthree_ty {n:Nat} {cs:List AV} (h:Ty Try.prog (n+1+1) 23 cs):∃ x y z:Int,cs=[.int .i16 x,.int .i16 y,.int .i16 z]/\O.s16 x/\O.s16 y/\O.s16 z:=by
 unfold Ty at h
 rw [Try.underlying23] at h
 obtain ⟨a0,b0,rfl,h0,a1,b1,rfl,h1,a2,b2,rfl,h2,rfl⟩:=h
 obtain ⟨x,rfl,p⟩:=ZcX Try.underlying22 h0
 obtain ⟨y,rfl,q⟩:=ZcX Try.underlying22 h1
 obtain ⟨z,rfl,r⟩:=ZcX Try.underlying22 h2
 exact ⟨x,y,z,rfl,p,q,r⟩
set_option maxRecDepth 100000 in
theorem ctfour_ty {n:Nat} {cs:List AV} (h:Ty Try.prog (n+1+1) 96 cs):∃ x y z r:Int,cs=[.int .i16 x,.int .i16 y,.int .i16 z,.int .i16 r]/\O.s16 r:=by
 unfold Ty at h
 rw [Try.underlying96] at h
 obtain ⟨a0,b0,rfl,h0,a1,b1,rfl,h1,a2,b2,rfl,h2,a3,b3,rfl,h3,rfl⟩:=h
 obtain ⟨x,rfl,_⟩:=ZcX Try.underlying22 h0
 obtain ⟨y,rfl,_⟩:=ZcX Try.underlying22 h1
 obtain ⟨z,rfl,_⟩:=ZcX Try.underlying22 h2
 obtain ⟨r,rfl,p⟩:=ZcX Try.underlying22 h3
 exact ⟨x,y,z,r,rfl,p⟩
set_option maxRecDepth 100000 in
theorem ctways_ty {n:Nat} {cs:List AV} (h:Ty Try.prog (n+1+1+1) 24 cs):∃ W:List Wy,cs=[.vec false 4 (W.map Wy.a)] /\ ∀ w ∈ W,O.s16 w.r:=by
 obtain ⟨o,rfl,_⟩:=ty_list (τ:={ w:Wy // O.s16 w.r }) (enc:=fun w=>w.1.a) Try.underlying24 (fun ys hy=>by
  obtain ⟨x,y,z,r,rfl,p⟩:=ctfour_ty hy
  exact ⟨⟨⟨x,y,z,r⟩,p⟩,by rw [pack96];rfl⟩) h
 rw [cells96]
 refine ⟨o.map (·.1),?_,fun w hw => ?_⟩
 ·rw [List.map_map];rfl
 ·obtain ⟨x,_,rfl⟩:=List.mem_map.1 hw
  exact x.2
set_option maxRecDepth 100000 in
theorem ctlims_ty {n:Nat} {cs:List AV} (h:Ty Try.prog (n+1+1) 26 cs):∃ x y z:Int,cs=[.int .i64 x,.int .i64 y,.int .i64 z]:=by
 have h:=ty_struct Try.underlying26 h
 obtain ⟨a0,b0,rfl,h0,a1,b1,rfl,h1,a2,b2,rfl,h2,rfl⟩:=h
 obtain ⟨x0,rfl,_⟩:=ZcX Try.underlying2 h0
 obtain ⟨x1,rfl,_⟩:=ZcX Try.underlying2 h1
 obtain ⟨x2,rfl,_⟩:=ZcX Try.underlying2 h2
 exact ⟨x0,x1,x2,rfl⟩
set_option maxRecDepth 100000 in
theorem cttrip_ty {n:Nat} {cs:List AV} (h:Ty Try.prog (n+1+1+1+1) 28 cs):∃ (x y z:Int) (W:List Wy) (S A j:Int),cs=[.int .i16 x,.int .i16 y,.int .i16 z,.vec false 4 (W.map Wy.a),.int .i64 S,.int .i64 A,.int .i64 j]/\O.okTr x y z W:=by
 have h:=ty_struct Try.underlying28 h
 obtain ⟨a0,b0,rfl,h0,a1,b1,rfl,h1,a2,b2,rfl,h2,rfl⟩:=h
 obtain ⟨x,y,z,rfl,p,q,r⟩:=ctthree_ty h0
 obtain ⟨W,rfl,hW⟩:=ctways_ty h1
 obtain ⟨S,A,j,rfl⟩:=ctlims_ty h2
 exact ⟨x,y,z,W,S,A,j,rfl,⟨p,q,r⟩,hW⟩
set_option maxRecDepth 100000 in
theorem ctbytes_ty {n:Nat} {cs:List AV} (h:Ty Try.prog (n+1+1) 29 cs):∃ U:List Int,cs=[.vec false 1 (U.map (.int .u8))] /\ ∀ h ∈ U,0<=h/\h<=255:=by
 obtain ⟨o,rfl,_⟩:=ty_list (τ:={ x:Int // 0<=x/\x<=255 }) (enc:=fun x => .int .u8 x.1) Try.underlying29 (fun ys hy=>by
  obtain ⟨x,rfl,p1,p2⟩:=ZcX Try.underlying5 hy
  exact ⟨⟨x,p1,p2⟩,by rw [pack5]⟩) h
 rw [cells5]
 refine ⟨o.map (·.1),?_,fun w hw => ?_⟩
 ·rw [List.map_map];rfl
 ·obtain ⟨x,_,rfl⟩:=List.mem_map.1 hw
  exact x.2
theorem laidOut:laidOutB Try.prog=true:=by kernel_rfl
theorem ownGo:ownKnob Try.prog.godebug=none:=by kernel_rfl
end Go.Av

namespace Go.Av
open Go.Proofs
namespace O
def big (S A j:Int):Prop:=Zbf S A j/\20<=S/\20<=A/\40<=j
def rtO (r:Int):Prop:=(0<=r/\r<=32767000)/\(r=0\/20000<=r)
def rts (l:List Mo):Prop:=∀ i,i<l.length->rtO (l.getD i default).r
def cd (c:Int) (p:Ps):Prop:=(-c<=p.x/\p.x<=c)/\(-c<=p.y/\p.y<=c) /\ -c<=p.z/\p.z<=c
end O
theorem lm_big {S A j r:Int} (h:O.big S A j) (hr:O.rtO r):O.Zbf (O.lm r S) A j/\20<=O.sim (O.lm r S) A j:=by
 obtain ⟨hl,h1,h2,h3⟩:=h
 obtain ⟨h4,h5⟩:=hr
 have hl':=hl
 unfold O.Zbf at hl'
 have hj:j.tdiv 2=j / 2:=Int.tdiv_eq_ediv_of_nonneg (by omega)
 have hlm:20<=O.lm r S/\O.lm r S<=S:=by
  unfold O.lm
  by_cases hp:r>0
  ·rw [if_pos hp,Int.tdiv_eq_ediv_of_nonneg (by omega)]
   split <;> omega
  ·rw [if_neg hp];omega
 refine ⟨by unfold O.Zbf;omega,?_⟩
 unfold O.sim
 omega
theorem tk_few {S A j r n:Int} (h:O.big S A j) (hr:O.rtO r) (hn:0<=n/\n<=400000):O.tkE (O.lm r S) A j n=0/\0<=O.tkV (O.lm r S) A j n/\O.tkV (O.lm r S) A j n<=(n+19) / 20:=by
 obtain ⟨h1,h2⟩:=lm_big h hr
 have hE:O.tkE (O.lm r S) A j n=0:=by
  unfold O.tkE
  rw [if_neg,if_neg (by omega)]
  rintro (y | y)
  ·exact y (ZcF.2 h1)
  ·omega
 obtain ⟨⟨h3,_⟩,_,h4⟩:=tkV_ok hE
 refine ⟨hE,h3,?_⟩
 by_cases h0:O.tkV (O.lm r S) A j n=0
 ·omega
 ·have:(O.tkV (O.lm r S) A j n-1)*20<=(O.tkV (O.lm r S) A j n-1)*O.sim (O.lm r S) A j:=Int.mul_le_mul_of_nonneg_left h2 (by omega)
  omega
theorem st_few {S A j r n:Int} (h:O.big S A j) (hr:O.rtO r) (hn:0<=n/\n<=400000):O.stE (O.lm r S) A j n=0:=by
 obtain ⟨h1,h2,h3⟩:=tk_few h hr hn
 unfold O.stE
 rw [if_neg fun y=>y h1,if_neg (by omega)]
theorem rts_good {l:List Mo} {S A j:Int} (h:O.big S A j) (hr:O.rts l):O.good l S A j:=fun i hi=>by
 have h1:=hr i hi
 refine ⟨?_,fun n h2 h3=>st_few h h1 ⟨h2,h3⟩⟩
 have:=h1.1
 unfold O.okR
 omega
theorem rts_ck {l:List Mo} {S A j:Int} (h:O.big S A j) (ht:O.okT l) (hn:l.length<=20000) (hr:O.rts l):O.okCk l S A j:=⟨⟨ht,hn⟩,h.1,rts_good h hr,fun i hi=>(hr i hi).1.1⟩
theorem trB_iff {W:List Wy} {S A j:Int}:O.trB W S A j=true ↔ W.length<=6/\O.big S A j:=by
 unfold O.trB O.big
 rw [decide_eq_true_iff]
 constructor
 ·intro h
  have h1:O.vlE S A j=0:=Classical.byContradiction fun y=>h (.inl (.inl (.inl (.inr y))))
  have h2:=ZcF.1 h1
  refine ⟨?_,h2,?_,?_,?_⟩
  ·exact Classical.byContradiction fun y=>h (.inl (.inl (.inl (.inl (by omega)))))
  ·exact Int.not_lt.1 fun y=>h (.inl (.inl (.inr y)))
  ·exact Int.not_lt.1 fun y=>h (.inl (.inr y))
  ·exact Int.not_lt.1 fun y=>h (.inr y)
 ·rintro ⟨h1,h2,h3,h4,h5⟩
  rintro ((((y | y) | y) | y) | y)
  ·omega
  ·exact y (ZcF.2 h2)
  ·omega
  ·omega
  ·omega
structure TrOk (l:List Mo):Prop where
 t:O.okT l
 n:l.length<=6
 r:O.rts l
 b:O.hasB l
 m:∀ i,i<l.length->O.ml (l.getD i default)<=1200
 c:∀ i,i<l.length->O.cd 36400 (l.getD i default).src/\O.cd 36400 (l.getD i default).dst
theorem trL_ok {x y z:Int} {W:List Wy} {S A j:Int} (h:O.okTr x y z W) (hb:O.trB W S A j=true):TrOk (O.trL x y z W S A j):=by
 obtain ⟨hp,hW⟩:=h
 obtain ⟨hn,_⟩:=trB_iff.1 hb
 unfold O.trL
 rw [if_pos hb]
 have hlen:=moL_len ⟨x,y,z⟩ W W.length
 have hc:∀ i,i<=6->_:=fun i=>atW_bd (p:=⟨x,y,z⟩) (W:=W) hp i
 have hcd:∀ i,i<W.length->O.cd 36400 (O.moW ⟨x,y,z⟩ W i).src/\O.cd 36400 (O.moW ⟨x,y,z⟩ W i).dst:=fun i hi=>by
  have h1:=hc i (by omega)
  have h2:=hc (i+1) (by omega)
  unfold O.cd O.moW Mo.src Mo.dst
  simp only
  omega
 have hm:∀ i,i<W.length->O.ml (O.moW ⟨x,y,z⟩ W i)<=1200:=fun i hi=>by
  have h1:=ZeL (W.getD i default).x
  have h2:=ZeL (W.getD i default).y
  have h3:=ZeL (W.getD i default).z
  refine Int.le_trans (ml_bd (B:=599) (by omega) ?_ ?_ ?_) (by omega)
  ·show -599<=((O.atW ⟨x,y,z⟩ W i).x+(W.getD i default).x.tmod 600)-(O.atW ⟨x,y,z⟩ W i).x/\((O.atW ⟨x,y,z⟩ W i).x+(W.getD i default).x.tmod 600)-(O.atW ⟨x,y,z⟩ W i).x<=599
   omega
  ·show -599<=((O.atW ⟨x,y,z⟩ W i).y+(W.getD i default).y.tmod 600)-(O.atW ⟨x,y,z⟩ W i).y/\((O.atW ⟨x,y,z⟩ W i).y+(W.getD i default).y.tmod 600)-(O.atW ⟨x,y,z⟩ W i).y<=599
   omega
  ·show -599<=((O.atW ⟨x,y,z⟩ W i).z+(W.getD i default).z.tmod 600)-(O.atW ⟨x,y,z⟩ W i).z/\((O.atW ⟨x,y,z⟩ W i).z+(W.getD i default).z.tmod 600)-(O.atW ⟨x,y,z⟩ W i).z<=599
   omega
 refine ⟨⟨⟨by omega,fun i hi => ?_⟩,fun i hi => ?_⟩,by omega,fun i hi => ?_,fun i hi => ?_,fun i hi => ?_,fun i hi => ?_⟩
 ·rw [ZdF _ _ (by omega)]
  obtain ⟨h1,h2⟩:=hcd i (by omega)
  unfold O.cd Mo.src at h1
  unfold O.cd Mo.dst at h2
  simp only at h1 h2
  unfold O.okM
  omega
 ·rw [ZdF _ _ (by omega),ZdF _ _ (by omega)];rfl
 ·rw [ZdF _ _ (by omega)]
  have:=wyR_bd (r:=(W.getD i default).r) (hW _ (by
   rw [List.getD_eq_getElem?_getD,List.getElem?_eq_getElem (by omega)]
   exact List.getElem_mem _))
  exact ⟨⟨this.1,this.2.1⟩,this.2.2⟩
 ·rw [ZdF _ _ (by omega)];rfl
 ·rw [ZdF _ _ (by omega)];exact hm i (by omega)
 ·rw [ZdF _ _ (by omega)];exact hcd i (by omega)
theorem sum_le {l:List Mo} {c:Int}:(∀ i,i<l.length->O.ml (l.getD i default)<=c)->(l.map O.ml).sum<=c*l.length:=by
 induction l with
 | nil=>intro _;simp
 | cons m l ih =>
  intro h
  have h1:=h 0 (by simp)
  have h2:=ih fun i hi=>by have:=h (i+1) (by simp;omega);simpa using this
  rw [List.map_cons,List.sum_cons,List.length_cons]
  have:c*((l.length+1:Nat):Int)=c+c*l.length:=by rw [Int.natCast_add,Int.mul_add];omega
  rw [this]
  have h3:O.ml m<=c:=by simpa using h1
  omega
theorem tr_D {l:List Mo} (h:TrOk l):O.D l 0 0<=7200:=by
 have h1:=sum_le h.m
 have h2:=h.n
 unfold O.D
 rw [Int.toNat_zero,List.drop_zero]
 omega
end Go.Av

namespace Go.Av
structure EG where
 keep:List (Nat × List (Nat × List Nat))
 hot:List (Nat × List (Nat × List Nat))
 known:List (Nat × List AV × AV):=[]
 rows:List (Nat × List (Nat × List Nat)):=[]
mutual
def beqA:AV->AV->Bool
 | .bool a,.bool b=>a==b
 | .int k n,.int j m=>decide (k=j)&&n==m
 | .str a,.str b=>a==b
 | .flt a,.flt b=>a==b
 | .agg a,.agg b=>beqAL a b
 | .tup a,.tup b=>beqAL a b
 | .vec f es a,.vec g fs b=>f==g&&(es==fs&&beqAL a b)
 | .nilp,.nilp=>true
 | .vnil,.vnil=>true
 | _,_=>false
def beqAL:List AV->List AV->Bool
 | [],[]=>true
 | a::l,b::m=>beqA a b&&beqAL l m
 | _,_=>false
end
mutual
theorem beqA_eq:∀ (a b:AV),beqA a b=true->a=b
 | .bool a,b,h=>by cases b <;> simp [beqA] at h;rw [h]
 | .int k n,b,h=>by cases b <;> simp [beqA] at h;rw [h.1,h.2]
 | .str a,b,h=>by cases b <;> simp [beqA] at h;rw [h]
 | .flt a,b,h=>by cases b <;> simp [beqA] at h;rw [h]
 | .agg a,b,h=>by cases b <;> simp [beqA] at h;rw [beqAL_eq a _ h]
 | .tup a,b,h=>by cases b <;> simp [beqA] at h;rw [beqAL_eq a _ h]
 | .vec f es a,b,h=>by cases b <;> simp [beqA] at h;rw [h.1,h.2.1,beqAL_eq a _ h.2.2]
 | .nilp,b,h=>by cases b <;> simp [beqA] at h;rfl
 | .vnil,b,h=>by cases b <;> simp [beqA] at h;rfl
 | .any,b,h=>by cases b <;> simp [beqA] at h
 | .ptr ..,b,h=>by cases b <;> simp [beqA] at h
 | .eptr ..,b,h=>by cases b <;> simp [beqA] at h
 | .row ..,b,h=>by cases b <;> simp [beqA] at h
 | .ref ..,b,h=>by cases b <;> simp [beqA] at h
 | .func ..,b,h=>by cases b <;> simp [beqA] at h
 | .nilf,b,h=>by cases b <;> simp [beqA] at h
 | .mapr ..,b,h=>by cases b <;> simp [beqA] at h
 | .nilm,b,h=>by cases b <;> simp [beqA] at h
theorem beqAL_eq:∀ (a b:List AV),beqAL a b=true->a=b
 | [],b,h=>by cases b <;> simp [beqAL] at h;rfl
 | a::l,b,h=>by
  cases b with
  | nil=>simp [beqAL] at h
  | cons b m=>simp [beqAL] at h;rw [beqA_eq a b h.1,beqAL_eq l m h.2]
end
def Zek (f:Nat) (args:List AV):List (Nat × List AV × AV)->Option AV
 | []=>none
 | (g,bs,v)::l=>bif Nat.beq f g&&beqAL args bs then some v else Zek f args l
theorem known_in {f:Nat} {args:List AV} {v:AV}:∀ {l:List (Nat × List AV × AV)},Zek f args l=some v->(f,args,v) ∈ l
 | [],h=>by simp [Zek] at h
 | (g,bs,u)::l,h=>by
  unfold Zek at h
  cases hb:(Nat.beq f g&&beqAL args bs) with
  | true =>
   rw [hb] at h
   simp only [cond_true,Option.some.injEq] at h
   simp only [Bool.and_eq_true,Nat.beq_eq] at hb
   rw [h,hb.1,beqAL_eq _ _ hb.2];exact .head _
  | false=>rw [hb] at h;exact .tail _ (known_in h)
def ofFn:List (Nat × List (Nat × List Nat))->Nat->List (Nat × List Nat)
 | [],_=>[]
 | (f,l)::t,g=>bif Nat.beq f g then l else ofFn t g
def Zdc (l:List Nat) (i:Nat):Option Ans:=bif l.contains i then some .keep else none
def runX (M:Mach) (fi:Fi) (kp ht kr:List (Nat × List Nat)) (call:Zax):Nat->List Item->Vars->Heap->Option (AV × Heap)
 | 0,_,_,_=>none
 | n+1,todo,env,L =>
  match todo with
  | []=>match finish M.P fi env L with
   | some v=>some (v,L)
   | none=>none
  | .inBlock _::k=>runX M fi kp ht kr call n k env L
  | .inLoop b::k=>runX M fi kp ht kr call n (.code b :: .inLoop b::k) env L
  | .code c::k =>
   match c with
   | .skip=>runX M fi kp ht kr call n k env L
   | .seq a b=>runX M fi kp ht kr call n (.code a :: .code b::k) env L
   | .cond c a b=>match evV env c with
    | .bool t=>runX M fi kp ht kr call n (.code (bif t then a else b)::k) env L
    | _=>none
   | .block id b=>runX M fi kp ht kr call n (.code b :: .inBlock id::k) env L
   | .loop b=>runX M fi kp ht kr call n (.code b :: .inLoop b::k) env L
   | .exit id=>match exitTo id k with
    | some k'=>runX M fi kp ht kr call n k' env L
    | none=>none
   | .region id ops draw =>
    match (bif draw then ZgQ (hotOf ops (ZaE ht id)) ops else true) with
    | false=>none
    | true =>
     match Zau M.P M.inl call fi.n ops (Zdc (ZaE kr id)) (bif draw then hotOf ops (ZaE ht id) else fun _=>2) (List.range ops.size) ⟨lift env,L,[],[],[]⟩ with
     | some s=>match s.asm.all (fun b=>b),s.eqs with
      | true,[]=>runX M fi kp ht kr call n k (Zbu (ZaE kp id) s.env) s.L
      | _,_=>none
     | none=>none
   | .ret=>match finish M.P fi env L with
    | some v=>some (v,L)
    | none=>none
   | _=>none
  | _=>none
def ansX (M:Mach) (K:List (Nat × List AV × AV)) (ex:FuncId->List AV->Heap->Option (AV × Heap)):Zax:=fun g args L =>
 match M.inl g with
 | true=>match ex g args L with
  | some (v,L')=>some (v,some L')
  | none=>none
 | false=>match Zek g args K with
  | some d=>some (d,none)
  | none=>match ex g args [] with
   | some (v,L')=>match pureA L' v with
    | some d=>bif (versA L' v).all (fun b=>b)&&d.clean then some (d,none) else none
    | none=>none
   | none=>none
def execX (M:Mach) (G:EG):Nat->FuncId->List AV->Heap->Option (AV × Heap)
 | 0=>fun _ _ _=>none
 | n+1=>fun f args L =>
  match (M.P ()).funcs[f]? with
  | some fn=>match fn.body,fn.name == "runtime.NumGoroutine" with
   | some c,false=>runX M ⟨fn.ntmps,fn.results.toList⟩ (ofFn G.keep f) (ofFn G.hot f) (ofFn G.rows f) (ansX M G.known (execX M G n)) 100000 [.code c] (ZaM 0 args) L
   | _,_=>none
  | none=>none
def Zf5 (inl:FuncId->Bool) (call:Zax) (c:CF):Prop:=
 (c.own=true/\inl c.f=true /\ ∃ o,call c.f c.args c.L=some (c.v,o)/\c.L'=o.getD c.L) \/
 (inl c.f=false /\ ∃ L1,call c.f c.args []=some (c.v,some L1)) \/
 (c.own=false/\inl c.f=false/\call c.f c.args []=some (c.v,none))
section
variable {P:Unit->Program}
theorem Zbo {x:Option AV} {r:SR} (h:ZbG x=some r):r.calls=[]:=by
 unfold ZbG at h;split at h
 ·simp only [Option.some.injEq] at h;subst h;rfl
 ·simp at h
theorem convS_no {src dst:TypeId} {x:AV} {r:SR} (h:convS P src dst x=some r):r.calls=[]:=by
 unfold convS at h
 repeat' split at h
 all_goals first | (simp only [Option.some.injEq] at h;subst h;rfl) | simp at h
theorem intBin_no {op:BinOp} {k:IntKind} {x y:Int} {r:SR} (h:ZgH op k x y=some r):r.calls=[]:=by
 unfold ZgH at h
 split at h <;> first | (simp only [Option.some.injEq] at h;subst h;rfl) | (simp at h)
theorem strBin_no {op:BinOp} {x y:List UInt8} {r:SR} (h:Zgi op x y=some r):r.calls=[]:=by
 unfold Zgi at h
 split at h <;> first | (simp only [Option.some.injEq] at h;subst h;rfl) | (simp at h)
theorem binA_no {op:BinOp} {T:TypeId} {x y:AV} {r:SR} (h:binA P op T x y=some r):r.calls=[]:=by
 unfold binA at h
 split at h
 ·simp only [Option.some.injEq] at h;subst h;rfl
 ·simp only [Option.some.injEq] at h;subst h;rfl
 ·split at h
  ·exact intBin_no h
  ·simp at h
 ·exact strBin_no h
 ·split at h
  ·exact Zbo h
  ·simp at h
 ·split at h
  ·exact Zbo h
  ·simp at h
 ·simp at h
theorem boxA_no {L:Heap} {x:AV} {r:SR} (h:boxA L x=some r):r.calls=[]:=by
 unfold boxA at h;split at h
 ·simp only [Option.some.injEq] at h;subst h;rfl
 ·simp at h
theorem loadA_no {el:Option AV} {L:Heap} {T:TypeId} {p:AV} {r:SR} (h:loadA P el L T p=some r):r.calls=[]:=by
 unfold loadA at h
 repeat' split at h
 all_goals first | (simp only [Option.some.injEq] at h;subst h;rfl) | (simp at h)
theorem storeA_no {el:Option AV} {L:Heap} {T:TypeId} {p v:AV} {r:SR} (h:Zgj P el L T p v=some r):r.calls=[]:=by
 unfold Zgj at h
 repeat' split at h
 all_goals first | (simp only [Option.some.injEq] at h;subst h;rfl) | (simp at h)
theorem Zf4 {keep:Bool} {L:Heap} {T:TypeId} {len:Nat} {parts:List (Nat × AV)} {r:SR} (h:Zbd P keep L T len parts=some r):r.calls=[]:=by
 unfold Zbd at h
 cases keep <;> simp only [cond_true,cond_false] at h <;> (repeat' split at h) <;> first | (simp only [Option.some.injEq] at h;subst h;rfl) | (simp at h)
theorem indexAddrA_no {L:Heap} {T:TypeId} {x i:AV} {r:SR} (h:ZbI P L T x i=some r):r.calls=[]:=by
 unfold ZbI at h
 repeat' split at h
 all_goals first | (simp only [Option.some.injEq] at h;subst h;rfl) | (simp at h)
theorem indexA_no {T:TypeId} {x i:AV} {r:SR} (h:ZgI P T x i=some r):r.calls=[]:=by
 unfold ZgI at h
 repeat' split at h
 all_goals first | (simp only [Option.some.injEq] at h;subst h;rfl) | (simp at h)
theorem sliceA_no {L:Heap} {T:TypeId} {x:AV} {lo hi mx:Option AV} {r:SR} (h:Zgm P L T x lo hi mx=some r):r.calls=[]:=by
 unfold Zgm at h
 repeat' split at h
 all_goals first | (simp only [Option.some.injEq] at h;subst h;rfl) | (simp at h)
theorem ZgV {L:Heap} {T:TypeId} {s x:AV} {r:SR} (h:Zcq P L T s x=some r):r.calls=[]:=by
 unfold Zcq at h
 repeat' split at h
 all_goals first | (simp only [Option.some.injEq] at h;subst h;rfl) | (simp at h)
theorem clearA_no {L:Heap} {T:TypeId} {d:AV} {r:SR} (h:clearA P L T d=some r):r.calls=[]:=by
 unfold clearA at h
 repeat' split at h
 all_goals first | (simp only [Option.some.injEq] at h;subst h;rfl) | (simp at h)
theorem lenA_no {L:Heap} {T:TypeId} {x:AV} {r:SR} (h:lenA P L T x=some r):r.calls=[]:=by
 unfold lenA at h
 repeat' split at h
 all_goals first | (simp only [Option.some.injEq] at h;subst h;rfl) | (simp at h)
theorem makeSliceA_no {L:Heap} {T:TypeId} {a b:AV} {r:SR} (h:Zb8 P L T a b=some r):r.calls=[]:=by
 unfold Zb8 at h
 repeat' split at h
 all_goals first | (simp only [Option.some.injEq] at h;subst h;rfl) | (simp at h)
theorem sliceArrA_no {L:Heap} {n:Nat} {e:TypeId} {x:AV} {r:SR} (h:Zby P L n e x=some r):r.calls=[]:=by
 unfold Zby at h
 repeat' split at h
 all_goals first | (simp only [Option.some.injEq] at h;subst h;rfl) | (simp at h)
theorem appendZ_no {L:Heap} {T:TypeId} {s x:AV} {r:SR} (h:ZdQ P L T s x=some r):r.calls=[]:=by
 unfold ZdQ at h
 repeat' split at h
 all_goals first | (simp only [Option.some.injEq] at h;subst h;rfl) | (simp at h)
theorem makeMapA_no {L:Heap} {T:TypeId} {r:SR} (h:Zd5 P L T=some r):r.calls=[]:=by
 unfold Zd5 at h
 repeat' split at h
 all_goals first | (simp only [Option.some.injEq] at h;subst h;rfl) | (simp at h)
theorem lookupA_no {el:Option AV} {L:Heap} {T:TypeId} {m k:AV} {ok:Bool} {r:SR} (h:Zfx P el L T m k ok=some r):r.calls=[]:=by
 unfold Zfx at h
 repeat' split at h
 all_goals first | (simp only [Option.some.injEq] at h;subst h;rfl) | (simp at h)
theorem mapUpdateA_no {L:Heap} {T:TypeId} {m k v:AV} {r:SR} (h:ZcA P L T m k v=some r):r.calls=[]:=by
 unfold ZcA at h
 repeat' split at h
 all_goals first | (simp only [Option.some.injEq] at h;subst h;rfl) | (simp at h)
theorem mapEntryA_no {el:Option AV} {L:Heap} {T:TypeId} {m k:AV} {r:SR} (h:Zdb P el L T m k=some r):r.calls=[]:=by
 unfold Zdb at h
 repeat' split at h
 all_goals first | (simp only [Option.some.injEq] at h;subst h;rfl) | (simp at h)
theorem Zf3 {L:Heap} {m i v:AV} {r:SR} (h:Zcf L m i v=some r):r.calls=[]:=by
 unfold Zcf at h
 repeat' split at h
 all_goals first | (simp only [Option.some.injEq] at h;subst h;rfl) | (simp at h)
theorem callF_good {inl:FuncId->Bool} {call:Zax} {L:Heap} {g:FuncId} {args:List AV} {r:SR} (h:Zet inl call L g args=some r):∀ c ∈ r.calls,Zf5 inl call c:=by
 unfold Zet at h
 cases hi:inl g with
 | true =>
  rw [hi] at h
  simp only [cond_true] at h
  split at h
  ·rename_i rs args' Lc hin
   split at h
   ·rename_i v o hc
    split at h
    ·simp only [Option.some.injEq] at h
     subst h
     intro c hm
     simp only [List.mem_singleton] at hm
     subst hm
     exact .inl ⟨rfl,hi,o,hc,rfl⟩
    ·simp at h
   ·simp at h
  ·simp at h
 | false =>
  rw [hi] at h
  simp only [cond_false] at h
  split at h
  ·rename_i ds hds
   split at h
   ·rename_i d hc
    split at h
    ·split at h
     all_goals
      simp only [Option.some.injEq] at h
      subst h
      intro c hm
      simp only [List.mem_singleton] at hm
      subst hm
      exact .inr (.inr ⟨rfl,hi,hc⟩)
    ·simp at h
   ·rename_i v L1 hc
    split at h
    ·split at h
     ·split at h
      ·simp only [Option.some.injEq] at h
       subst h
       intro c hm
       simp only [List.mem_singleton] at hm
       subst hm
       exact .inr (.inl ⟨hi,L1,hc⟩)
      ·simp at h
     ·simp at h
    ·simp at h
   ·simp at h
  ·simp at h
theorem ZaK {inl:FuncId->Bool} {call:Zax} {r:SR} (h:r.calls=[]):∀ c ∈ r.calls,Zf5 inl call c:=by
 rw [h];intro c hc;cases hc
theorem callA_good {inl:FuncId->Bool} {call:Zax} {ρ:Operand->AV} {L:Heap} {c:Call} {r:SR} (h:Zbx P inl call ρ L c=some r):∀ c ∈ r.calls,Zf5 inl call c:=by
 unfold Zbx at h
 split at h
 ·apply ZaK
  split at h
  ·split at h
   ·exact ZgV h
   ·exact ZgV h
   ·exact appendZ_no h
   ·simp at h
  ·exact clearA_no h
  ·exact lenA_no h
  ·exact Zbo h
  ·exact Zbo h
  ·exact Zbo h
  ·simp at h
 ·split at h
  ·exact callF_good h
  ·simp at h
 ·simp at h
theorem stepA_good {inl:FuncId->Bool} {call:Zax} {ρ:Za4->Operand->AV} {L:Heap} {o:Oper} {r:SR} {an:Option Ans} (han:an=none\/an=some .keep) (h:ZaX P inl call an ρ L o=some r):∀ c ∈ r.calls,Zf5 inl call c:=by
 unfold ZaX at h
 simp only at h
 split at h
 ·simp only [Option.some.injEq] at h;subst h;exact ZaK rfl
 ·simp only [Option.some.injEq] at h;subst h;exact ZaK rfl
 ·split at h
  ·exact ZaK (Zbo h)
  ·exact ZaK (Zbo h)
 ·split at h
  ·exact ZaK (boxA_no h)
  ·simp at h
 ·exact ZaK (boxA_no h)
 ·exact ZaK (Zbo h)
 ·exact ZaK (Zf4 h)
 ·exact ZaK (loadA_no h)
 ·exact ZaK (storeA_no h)
 ·split at h
  ·simp only [Option.some.injEq] at h;subst h;exact ZaK rfl
  ·simp only [Option.some.injEq] at h;subst h;exact ZaK rfl
  ·simp at h
 ·exact ZaK (binA_no h)
 ·exact ZaK (Zbo h)
 ·exact ZaK (convS_no h)
 ·simp only [Option.some.injEq] at h;subst h;exact ZaK rfl
 ·exact ZaK (makeSliceA_no h)
 ·split at h
  ·split at h
   ·exact ZaK (sliceArrA_no h)
   ·simp at h
  ·exact ZaK (sliceA_no h)
 ·exact ZaK (Zbo h)
 ·exact ZaK (Zbo h)
 ·exact ZaK (indexAddrA_no h)
 ·exact ZaK (indexA_no h)
 ·split at h
  ·exact ZaK (makeMapA_no h)
  ·simp at h
 ·exact ZaK (lookupA_no h)
 ·exact ZaK (mapUpdateA_no h)
 ·exact ZaK (mapEntryA_no h)
 ·exact ZaK (Zf3 h)
 ·split at h
  ·exact ZaK (Zbo h)
  ·simp at h
 ·rcases han with rfl | rfl <;> exact callA_good h
 ·simp at h
theorem runOp_good {inl:FuncId->Bool} {call:Zax} {n:Nat} {ops:Array Oper} {hot:Nat} {o:Oper} {s s':RS} {an:Option Ans} (han:an=none\/an=some .keep) (h:Zbk P inl call n ops an hot o s=some s') (hs:∀ c ∈ s.calls,Zf5 inl call c) :
  ∀ c ∈ s'.calls,Zf5 inl call c:=by
 unfold Zbk at h
 split at h
 ·simp at h
 ·split at h
  ·simp only [Option.some.injEq] at h;subst h;exact hs
  ·simp at h
 ·split at h
  ·split at h
   ·simp at h
   ·split at h
    ·simp only [Option.some.injEq] at h;subst h;exact hs
    ·simp at h
  ·rename_i r hr
   have hg:=stepA_good han hr
   split at h
   ·simp at h
   ·split at h
    ·simp at h
    ·split at h
     ·simp only [Option.some.injEq] at h;subst h
      intro c hc
      rcases List.mem_append.1 hc with hc | hc
      ·exact hs c hc
      ·exact hg c hc
     ·simp only [Option.some.injEq] at h;subst h
      intro c hc
      rcases List.mem_append.1 hc with hc | hc
      ·exact hs c hc
      ·obtain ⟨c0,h1,rfl⟩:=List.mem_map.1 hc
       exact hg c0 h1
theorem Zdv (l:List Nat) (i:Nat):Zdc l i=none\/Zdc l i=some .keep:=by
 unfold Zdc
 cases l.contains i with
 | true=>exact .inr rfl
 | false=>exact .inl rfl
theorem ZdA {inl:FuncId->Bool} {call:Zax} {n:Nat} {ops:Array Oper} {hot:Nat->Nat} {ans:Nat->Option Ans} (hans:∀ i,ans i=none\/ans i=some .keep):∀ (l:List Nat) {s s':RS},Zau P inl call n ops ans hot l s=some s'->(∀ c ∈ s.calls,Zf5 inl call c) ->
  ∀ c ∈ s'.calls,Zf5 inl call c:=by
 intro l
 induction l with
 | nil=>intro s s' h hs;simp only [Zau,Option.some.injEq] at h;subst h;exact hs
 | cons i rest ih =>
  intro s s' h hs
  simp only [Zau] at h
  split at h
  ·exact ih h hs
  ·split at h
   ·rename_i s1 h1
    exact ih h (runOp_good (hans _) h1 hs)
   ·simp at h
end
def AnsOk (M:Mach) (call:Zax):Prop:=∀ f args L v o,call f args L=some (v,o) ->
 (M.inl f=true->Ev M (.own f args L) v (o.getD L))/\(M.inl f=false->o=none/\Ev M (.pure f args) v [])
theorem runX_sound {M:Mach} {fi:Fi} {kp ht kr:List (Nat × List Nat)} {call:Zax} (hc:AnsOk M call):∀ (n:Nat) {todo:List Item} {env:Vars} {L L':Heap} {v:AV},runX M fi kp ht kr call n todo env L=some (v,L') ->
  Ev M (.run fi todo env L) v L':=by
 intro n
 induction n with
 | zero=>intro todo env L L' v h;simp [runX] at h
 | succ n ih =>
  intro todo env L L' v h
  unfold runX at h
  split at h
  ·split at h
   ·rename_i w hf
    simp only [Option.some.injEq,Prod.mk.injEq] at h
    obtain ⟨rfl,rfl⟩:=h
    exact .done hf ⟨rfl,rfl⟩
   ·simp at h
  ·exact .inBlock (ih h)
  ·exact .inLoop (ih h)
  ·split at h
   ·exact .skip (ih h)
   ·exact .seq (ih h)
   ·split at h
    ·rename_i t ht
     exact .cond t ht (ih h)
    ·simp at h
   ·exact .block (ih h)
   ·exact .loop (ih h)
   ·split at h
    ·rename_i k' hk
     exact .exit hk (ih h)
    ·simp at h
   ·split at h
    ·simp at h
    ·rename_i id ops draw _ hd
     split at h
     ·rename_i s hr
      split at h
      ·rename_i ha he
       have hg:=ZdA (Zdv _) _ hr (by intro c hc;cases hc)
       refine .region call (Zdc (ZaE kr id)) _ _ s (fun h1 => ?_) hr (fun b hb => ?_) (fun p hp => ?_) (fun c hcm _ ho => ?_) (fun c hcm _ ho => ?_) (ih h)
       ·subst h1;exact hd
       ·exact (List.all_eq_true.1 ha) b hb
       ·rw [he] at hp;cases hp
       ·rcases hg c hcm with ⟨_,h2,o,h3,h4⟩ | ⟨h2,L1,h3⟩ | ⟨h2,_⟩
        ·rw [h4];exact (hc _ _ _ _ _ h3).1 h2
        ·have:=((hc _ _ _ _ _ h3).2 h2).1;simp at this
        ·rw [ho] at h2;simp at h2
       ·rcases hg c hcm with ⟨h2,_⟩ | ⟨h2,L1,h3⟩ | ⟨_,h2,h3⟩
        ·rw [ho] at h2;simp at h2
        ·have:=((hc _ _ _ _ _ h3).2 h2).1;simp at this
        ·exact ((hc _ _ _ _ _ h3).2 h2).2
      ·simp at h
     ·simp at h
   ·split at h
    ·rename_i w hf
     simp only [Option.some.injEq,Prod.mk.injEq] at h
     obtain ⟨rfl,rfl⟩:=h
     exact .ret hf ⟨rfl,rfl⟩
    ·simp at h
   ·simp at h
  ·simp at h
def Zcr (M:Mach) (G:EG):Prop:=∀ k ∈ G.known,Ev M (.pure k.1 k.2.1) k.2.2 []
theorem ZaY {M:Mach} {a b c:List (Nat × List (Nat × List Nat))}:Zcr M ⟨a,b,[],c⟩:=fun _ hk=>nomatch hk
theorem ansX_ok {M:Mach} {G:EG} (hK:Zcr M G) {ex:FuncId->List AV->Heap->Option (AV × Heap)} (h:∀ f args L v L',ex f args L=some (v,L')->Ev M (.own f args L) v L'):AnsOk M (ansX M G.known ex):=by
 intro f args L v o hc
 unfold ansX at hc
 split at hc
 ·rename_i hi
  refine ⟨fun _ => ?_,fun h2=>by rw [hi] at h2;simp at h2⟩
  split at hc
  ·rename_i w L' he
   simp only [Option.some.injEq,Prod.mk.injEq] at hc
   obtain ⟨rfl,rfl⟩:=hc
   exact h _ _ _ _ _ he
  ·simp at hc
 ·rename_i hi
  refine ⟨fun h2=>by rw [hi] at h2;simp at h2,fun _ => ?_⟩
  split at hc
  ·rename_i d hd
   simp only [Option.some.injEq,Prod.mk.injEq] at hc
   obtain ⟨rfl,rfl⟩:=hc
   exact ⟨rfl,hK _ (known_in hd)⟩
  split at hc
  ·rename_i w L' he
   split at hc
   ·rename_i d hd
    cases hb:((versA L' w).all (fun b=>b)&&d.clean) with
    | false=>rw [hb] at hc;simp at hc
    | true =>
     rw [hb] at hc
     simp only [cond_true,Option.some.injEq,Prod.mk.injEq] at hc
     obtain ⟨rfl,rfl⟩:=hc
     simp only [Bool.and_eq_true,List.all_eq_true] at hb
     exact ⟨rfl,.pure (.mono (h _ _ _ _ _ he) fun x K ⟨e1,e2⟩=>by subst e1;subst e2;exact ⟨d,d,hd,hb.1,hb.2,.refl d,rfl,rfl⟩)⟩
   ·simp at hc
  ·simp at hc
theorem execX_sound {M:Mach} {G:EG} (hK:Zcr M G):∀ (n:Nat) (f:FuncId) (args:List AV) (L:Heap) (v:AV) (L':Heap),execX M G n f args L=some (v,L')->Ev M (.own f args L) v L':=by
 intro n
 induction n with
 | zero=>intro f args L v L' h;simp [execX] at h
 | succ n ih =>
  intro f args L v L' h
  unfold execX at h
  split at h
  ·rename_i fn hf
   split at h
   ·rename_i c hb hn
    exact .own fn c hf hb hn (runX_sound (ansX_ok hK fun f args L v L' h=>ih f args L v L' h) _ h)
   ·simp at h
  ·simp at h
def execP (M:Mach) (G:EG) (n:Nat) (f:FuncId) (args:List AV):Option AV:=
 match execX M G n f args [] with
 | some (v,L')=>match pureA L' v with
  | some d=>bif (versA L' v).all (fun b=>b)&&d.clean then some d else none
  | none=>none
 | none=>none
theorem Zbr {M:Mach} {G:EG} (hK:Zcr M G) (n:Nat) {f:FuncId} {args:List AV} {d:AV} (h:execP M G n f args=some d):Ev M (.pure f args) d []:=by
 unfold execP at h
 split at h
 ·rename_i v L' he
  split at h
  ·rename_i d0 hd
   cases hb:((versA L' v).all (fun b=>b)&&d0.clean) with
   | false=>rw [hb] at h;simp at h
   | true =>
    rw [hb] at h
    simp only [cond_true,Option.some.injEq] at h
    subst h
    simp only [Bool.and_eq_true,List.all_eq_true] at hb
    exact .pure (.mono (execX_sound hK n _ _ _ _ _ he) fun x K ⟨e1,e2⟩=>by subst e1;subst e2;exact ⟨d0,d0,hd,hb.1,hb.2,.refl d0,rfl,rfl⟩)
  ·simp at h
 ·simp at h
end Go.Av

namespace Go.Av
open Go.RowKit
mutual
def deepA (L:Heap):AV->Option AV
 | .row r v=>match L[r]? with
  | some row=>bif row.clean then some (.vec false row.es row.elems) else match pureL L row.elems with
   | some ys=>some (.vec false row.es ys)
   | none=>none
  | none=>none
 | .agg cs=>match deepL L cs with
  | some ds=>some (.agg ds)
  | none=>none
 | .tup cs=>match deepL L cs with
  | some ds=>some (.tup ds)
  | none=>none
 | a=>pureA L a
def deepL (L:Heap):List AV->Option (List AV)
 | []=>some []
 | c::r=>match deepA L c,deepL L r with
  | some d,some ds=>some (d::ds)
  | _,_=>none
end
mutual
def deepV (L:Heap):AV->List Bool
 | .row r v=>ZbS L r v::(match L[r]? with
  | some row=>bif row.clean then [] else versL L row.elems
  | none=>[])
 | .agg cs=>deepVL L cs
 | .tup cs=>deepVL L cs
 | a=>versA L a
def deepVL (L:Heap):List AV->List Bool
 | []=>[]
 | c::r=>deepV L c++deepVL L r
end
theorem deep_get {L:Heap}:∀ {l ds:List AV},pureL L l=some ds->ds.length=l.length /\ ∀ (i:Nat) d,ds[i]? = some d -> ∃ c,l[i]? = some c/\pureA L c=some d
 | [],ds,h=>by simp only [pureL,Option.some.injEq] at h;subst h;exact ⟨rfl,by simp⟩
 | c::l,ds,h=>by
  simp only [pureL] at h
  split at h
  ·rename_i d ds' hd hds
   simp only [Option.some.injEq] at h;subst h
   obtain ⟨h1,h2⟩:=deep_get hds
   refine ⟨by simp [h1],fun i x hx => ?_⟩
   cases i with
   | zero=>simp at hx;subst hx;exact ⟨c,rfl,hd⟩
   | succ i=>obtain ⟨y,q1,q2⟩:=h2 i x (by simpa using hx);exact ⟨y,by simpa using q1,q2⟩
  ·simp at h
theorem ZgR {L:Heap} {c d:AV} (h:pureA L c=some d) (hp:c.plain=true):d.plain=true:=by
 cases c with
 | any=>simp [AV.plain] at hp
 | agg cs=>simp [AV.plain] at hp
 | tup cs=>simp [AV.plain] at hp
 | row r v =>
  simp only [pureA] at h
  repeat' split at h
  all_goals first | (simp only [Option.some.injEq] at h;subst h;rfl) | (simp at h)
 | ref r v lo len =>
  simp only [pureA] at h
  repeat' split at h
  all_goals first | (simp only [Option.some.injEq] at h;subst h;rfl) | (simp at h)
 | ptr r v i j =>
  simp only [pureA] at h
  repeat' split at h
  all_goals first | (simp only [Option.some.injEq] at h;subst h;rfl) | (simp at h)
 | func fn a b =>
  simp only [pureA] at h
  repeat' split at h
  all_goals first | (simp only [Option.some.injEq] at h;subst h;rfl) | (simp at h)
 | mapr r=>simp [pureA] at h
 | _=>simp only [pureA,Option.some.injEq] at h;subst h;rfl
theorem cells_one {c:AV} (hp:c.plain=true):c.cells=[c]:=by
 cases c <;> first | rfl | (simp [AV.plain] at hp)
theorem Ze7 {L:Heap}:∀ {l:List AV} {i:Nat} {c:AV} {b:Bool},l[i]? = some c->b ∈ versA L c->b ∈ versL L l
 | [],i,c,b,h,_=>by simp at h
 | x::l,i,c,b,h,hb=>by
  simp only [versL,List.mem_append]
  cases i with
  | zero=>simp at h;subst h;exact .inl hb
  | succ i=>exact .inr (Ze7 (by simpa using h) hb)
theorem Zeq {L:Heap} {x y:AV} (h:pureA L x=some y) (hp:x.cells.all AV.plain=true) :
  y.cells.length=x.cells.length/\y.cells.all AV.plain=true /\ ∀ (k:Nat) c,y.cells[k]? = some c -> ∃ c0,x.cells[k]? = some c0/\pureA L c0=some c /\ ∀ b ∈ versA L c0,b ∈ versA L x:=by
 have single:x.plain=true->y.cells.length=x.cells.length/\y.cells.all AV.plain=true /\ ∀ (k:Nat) c,y.cells[k]? = some c -> ∃ c0,x.cells[k]? = some c0/\pureA L c0=some c /\ ∀ b ∈ versA L c0,b ∈ versA L x:=by
  intro hx
  have hy:=ZgR h hx
  rw [cells_one hx,cells_one hy]
  refine ⟨rfl,by simp [hy],fun k c hk => ?_⟩
  cases k with
  | zero=>simp at hk;subst hk;exact ⟨x,rfl,h,fun b hb=>hb⟩
  | succ k=>simp at hk
 cases x with
 | agg cs =>
  simp only [pureA] at h
  split at h
  ·rename_i ds hd
   simp only [Option.some.injEq] at h;subst h
   obtain ⟨h1,h2⟩:=deep_get hd
   simp only [AV.cells] at hp ⊢
   refine ⟨h1,List.all_eq_true.2 fun d hdm => ?_,fun k c hk => ?_⟩
   ·obtain ⟨i,hi⟩:=List.getElem?_of_mem hdm
    obtain ⟨c,q1,q2⟩:=h2 i d hi
    exact ZgR q2 (List.all_eq_true.1 hp c (List.mem_of_getElem? q1))
   ·obtain ⟨c0,q1,q2⟩:=h2 k c hk
    exact ⟨c0,q1,q2,fun b hb=>by simp only [versA];exact Ze7 q1 hb⟩
  ·simp at h
 | any=>simp [pureA] at h
 | tup cs=>simp [AV.cells,AV.plain] at hp
 | _=>exact single (by simpa [AV.cells] using hp)
theorem row_deep {S S':St} (hS:HeapOk S) (hw:S'.w=S.w) (hi:∀ b off,Imm S b off->b<S.w.heap.size->Imm S' b off) {r:Nat} {row:Row} {info:BI} (hr:S.L[r]? = some row) (hb:S.β[r]? = some info) (hmp:info.mp=false)
  (hh:∀ rs,Zez S S' rs) {ys:List AV} (hy:pureL S.L row.elems=some ys) (hv:∀ b ∈ versL S.L row.elems,b=true) (cap:Nat) (hc:row.elems.length<=cap) :
  DRel S' (.vec false row.es ys) (.slice (some ⟨info.blk,info.off,none⟩) row.elems.length cap):=by
 have hes:=(hS.cells r row info hr hb hmp).1
 obtain ⟨hlen,hget⟩:=deep_get hy
 have:=DRel.vec (S:=S') false row.es ys info.blk info.off cap
  (fun i y hyi=>by
   obtain ⟨x,q1,q2⟩:=hget i y hyi
   obtain ⟨o1,o2⟩:=hS.elems r row hr i x q1
   obtain ⟨p1,p2,_⟩:=Zeq q2 o2
   exact ⟨p1.trans o1,p2⟩) (by simp) (by rw [hlen];exact hc)
  (fun i y k c hyi hk=>by
   obtain ⟨x,q1,q2⟩:=hget i y hyi
   obtain ⟨o1,o2⟩:=hS.elems r row hr i x q1
   obtain ⟨p1,p2,_⟩:=Zeq q2 o2
   have hk2:k<info.es:=by rw [hes,<- o1,<- p1];exact Zah hk
   obtain ⟨cv,h3⟩:=ZdW hS hr hb hmp q1 hk2
   rw [hes] at h3
   refine ⟨⟨cv,by rw [hw];exact h3⟩,hh [r] r (by simp) row info hr hb _ (by omega) ?_⟩
   have:=Zb1 (Zah q1) (Nat.le_refl row.elems.length) hk2
   rw [hes] at this ⊢
   omega)
  (fun i y k c cv hyi hk hcv=>by
   obtain ⟨x,q1,q2⟩:=hget i y hyi
   obtain ⟨o1,o2⟩:=hS.elems r row hr i x q1
   obtain ⟨p1,p2,p3⟩:=Zeq q2 o2
   obtain ⟨c0,z1,z2,z3⟩:=p3 k c hk
   rw [hw,<- hes] at hcv
   exact pure_rel hS hw hi c0 (hS.rel r row info i x k c0 cv hr hb q1 z1 hcv) z2 (fun b hb=>hv b (Ze7 q1 (z3 b hb))) (hh _))
 rw [hlen] at this
 exact this
mutual
theorem deep_rel {S S':St} (hS:HeapOk S) (hw:S'.w=S.w) (hi:∀ b off,Imm S b off->b<S.w.heap.size->Imm S' b off) (hh:∀ rs,Zez S S' rs):∀ (a:AV) {d:AV} {v:Value},Rel S a v->deepA S.L a=some d ->
  (∀ b ∈ deepV S.L a,b=true)->DRel S' d v
 | .any,_,_,hr,h,hv=>pure_rel hS hw hi _ hr h hv (hh _)
 | .bool b,_,_,hr,h,hv=>pure_rel hS hw hi _ hr h hv (hh _)
 | .int k n,_,_,hr,h,hv=>pure_rel hS hw hi _ hr h hv (hh _)
 | .str s,_,_,hr,h,hv=>pure_rel hS hw hi _ hr h hv (hh _)
 | .flt s,_,_,hr,h,hv=>pure_rel hS hw hi _ hr h hv (hh _)
 | .nilp,_,_,hr,h,hv=>pure_rel hS hw hi _ hr h hv (hh _)
 | .nilf,_,_,hr,h,hv=>pure_rel hS hw hi _ hr h hv (hh _)
 | .nilm,_,_,hr,h,hv=>pure_rel hS hw hi _ hr h hv (hh _)
 | .mapr _,_,_,hr,h,hv=>pure_rel hS hw hi _ hr h hv (hh _)
 | .vnil,_,_,hr,h,hv=>pure_rel hS hw hi _ hr h hv (hh _)
 | .vec f es xs,_,_,hr,h,hv=>pure_rel hS hw hi _ hr h hv (hh _)
 | .eptr es xs i j,_,_,hr,h,hv=>pure_rel hS hw hi _ hr h hv (hh _)
 | .func fn a b,_,_,hr,h,hv=>pure_rel hS hw hi _ hr h hv (hh _)
 | .ptr r ver i j,_,_,hr,h,hv=>pure_rel hS hw hi _ hr h hv (hh _)
 | .ref r ver lo len,_,_,hr,h,hv=>pure_rel hS hw hi _ hr h hv (hh _)
 | .agg cs,_,_,hr,h,hv=>by
  simp only [deepA] at h
  split at h
  ·rename_i ds hd
   simp only [Option.some.injEq] at h;subst h
   obtain ⟨vs,rfl,l1,r1⟩:=ZbX hr
   obtain ⟨l2,r2⟩:=deep_relL hS hw hi hh cs ⟨l1,r1⟩ hd (by simpa [deepV] using hv)
   exact .agg ds vs l2 r2
  ·simp at h
 | .tup cs,_,_,hr,h,hv=>by
  simp only [deepA] at h
  split at h
  ·rename_i ds hd
   simp only [Option.some.injEq] at h;subst h
   obtain ⟨vs,rfl,l1,r1⟩:=rel_tup hr
   obtain ⟨l2,r2⟩:=deep_relL hS hw hi hh cs ⟨l1,r1⟩ hd (by simpa [deepV] using hv)
   exact .tup ds vs l2 r2
  ·simp at h
 | .row r ver,_,_,hr,h,hv=>by
  simp only [deepA] at h
  split at h
  ·rename_i row hrow
   cases hcl:row.clean with
   | true =>
    rw [hcl] at h
    exact pure_rel hS hw hi (.row r ver) hr (by simpa [pureA,hrow,hcl] using h) (fun b hb=>hv b (by simp only [versA,List.mem_singleton] at hb;simp [deepV,hb])) (hh _)
   | false =>
    rw [hcl] at h
    simp only [cond_false] at h
    split at h
    ·rename_i ys hys
     simp only [Option.some.injEq] at h;subst h
     obtain ⟨row',info,a1,a2,a3,hmp⟩:=Zc3 hr
     rw [hrow] at a1
     simp only [Option.some.injEq] at a1;subst a1
     have hver:row.ver=ver:=by
      have:=hv (ZbS S.L r ver) (by simp [deepV])
      simpa [ZbS,hrow] using this
     rw [a3 hver]
     exact row_deep hS hw hi hrow a2 hmp hh hys (fun b hb=>hv b (by simp [deepV,hrow,hcl,hb])) info.cap (hS.cells r row info hrow a2 hmp).2.1
    ·simp at h
  ·simp at h
theorem deep_relL {S S':St} (hS:HeapOk S) (hw:S'.w=S.w) (hi:∀ b off,Imm S b off->b<S.w.heap.size->Imm S' b off) (hh:∀ rs,Zez S S' rs):∀ (l:List AV) {ds:List AV} {vs:List Value},RelL S l vs->deepL S.L l=some ds ->
  (∀ b ∈ deepVL S.L l,b=true)->ds.length=vs.length /\ ∀ (i:Nat) c v,ds[i]? = some c->vs[i]? = some v->DRel S' c v
 | [],_,vs,hr,h,_=>by
  simp only [deepL,Option.some.injEq] at h;subst h
  exact ⟨by simpa using hr.1,by simp⟩
 | c::l,_,[],hr,h,_=>by have:=hr.1;simp at this
 | c::l,_,u::vs,hr,h,hv=>by
  simp only [deepL] at h
  split at h
  ·rename_i d ds hd hds
   simp only [Option.some.injEq] at h;subst h
   have h1:=deep_rel hS hw hi hh c hr.head hd (fun b hb=>hv b (by simp [deepVL,hb]))
   obtain ⟨l2,r2⟩:=deep_relL hS hw hi hh l hr.tail hds (fun b hb=>hv b (by simp [deepVL,hb]))
   refine ⟨by simp [l2],fun i a b ha hb => ?_⟩
   cases i with
   | zero=>simp at ha hb;subst ha;subst hb;exact h1
   | succ i=>exact r2 i a b (by simpa using ha) (by simpa using hb)
  ·simp at h
end
def DeepQ (d:AV):AV->Heap->Prop:=fun v L => ∃ d0,deepA L v=some d0/\allB (deepV L v)/\Weak d0 d
theorem deep_of {L:Heap} {v d:AV} (h1:deepA L v=some d) (h2:allB (deepV L v)):DeepQ d v L:=⟨d,h1,h2,.refl _⟩
theorem deep_pure {M:Mach} (hm:(M.P ()).follows .mixedOrders=true) {f:FuncId} {args:List AV} {d:AV} (h:Wp M (.own f args []) (DeepQ d)):Ev M (.pure f args) d []:=by
 refine .sem ?_
 have h':OwnQ M f args [] (DeepQ d):=Zbn hm h
 intro base acc w cargs hb hac hr
 have hS:HeapOk ⟨base,acc,[],[],w⟩:=⟨hb,rfl,by simp,by simp,by simp,by simp,by simp,by simp,by simp,by simp,fun b off h=>hac b off (Nat.le_trans hb h)⟩
 obtain ⟨k1,k2⟩:=h' ⟨base,acc,[],[],w⟩ cargs hS rfl hr
 refine ⟨k1,Calls.mono k2 fun e w' he => ?_⟩
 cases e with
 | returned cv =>
  obtain ⟨v,L',β',⟨d0,hd,hv,hwk⟩,m1,m2,m3⟩:=he
  exact ⟨d,⟨rfl,rfl⟩,m2.below,ZeP hwk (deep_rel (S:=⟨base,acc,L',β',w'⟩) (S':=⟨base,acc,[],[],w'⟩) m1 rfl (fun b off hi _=>⟨hi.1,by simp⟩)
   (fun rs r hr row info q1 q2 off _ _=>⟨m1.acq r info off q2,by simp⟩) v m3 hd ((Zb6 _).1 hv))⟩
 | panicked c=>exact he.elim
 | outgrown=>exact he.elim
def ansY (M:Mach) (K:List (Nat × List AV × AV)) (ex:FuncId->List AV->Heap->Option (AV × Heap)):Zax:=fun g args L =>
 match M.inl g with
 | true=>match ex g args L with
  | some (v,L')=>some (v,some L')
  | none=>none
 | false=>match Zek g args K with
  | some d=>some (d,none)
  | none=>match ex g args [] with
   | some (v,L')=>match deepA L' v with
    | some d=>bif (deepV L' v).all (fun b=>b) then some (d,none) else none
    | none=>none
   | none=>none
theorem ansY_ok {M:Mach} (hm:(M.P ()).follows .mixedOrders=true) {G:EG} (hK:Zcr M G) {ex:FuncId->List AV->Heap->Option (AV × Heap)} (h:∀ f args L v L',ex f args L=some (v,L')->Ev M (.own f args L) v L'):AnsOk M (ansY M G.known ex):=by
 intro f args L v o hc
 unfold ansY at hc
 split at hc
 ·rename_i hi
  refine ⟨fun _ => ?_,fun h2=>by rw [hi] at h2;simp at h2⟩
  split at hc
  ·rename_i w L' he
   simp only [Option.some.injEq,Prod.mk.injEq] at hc
   obtain ⟨rfl,rfl⟩:=hc
   exact h _ _ _ _ _ he
  ·simp at hc
 ·rename_i hi
  refine ⟨fun h2=>by rw [hi] at h2;simp at h2,fun _ => ?_⟩
  split at hc
  ·rename_i d hd
   simp only [Option.some.injEq,Prod.mk.injEq] at hc
   obtain ⟨rfl,rfl⟩:=hc
   exact ⟨rfl,hK _ (known_in hd)⟩
  split at hc
  ·rename_i w L' he
   split at hc
   ·rename_i d hd
    cases hb:(deepV L' w).all (fun b=>b) with
    | false=>rw [hb] at hc;simp at hc
    | true =>
     rw [hb] at hc
     simp only [cond_true,Option.some.injEq,Prod.mk.injEq] at hc
     obtain ⟨rfl,rfl⟩:=hc
     exact ⟨rfl,deep_pure hm (.mono (h _ _ _ _ _ he) fun x K ⟨e1,e2⟩=>by subst e1;subst e2;exact deep_of hd ((Zb6 _).2 fun b hbm=>(List.all_eq_true.1 hb) b hbm))⟩
   ·simp at hc
  ·simp at hc
end Go.Av

namespace Go.Av
mutual
theorem deepA_ren {L K:Heap} {f:Nat->Nat} (hb:∀ (r:Nat) row,L[r]? = some row->K[f r]? = some (Zaj f row)):∀ (a:AV) {d:AV},deepA L a=some d->deepA K (renA f a)=some d/\deepV K (renA f a)=deepV L a
 | .any,_,h=>by simp [deepA,pureA] at h
 | .bool b,_,h=>⟨h,rfl⟩
 | .int k n,_,h=>⟨h,rfl⟩
 | .str s,_,h=>⟨h,rfl⟩
 | .flt s,_,h=>⟨h,rfl⟩
 | .nilp,_,h=>⟨h,rfl⟩
 | .nilf,_,h=>⟨h,rfl⟩
 | .nilm,_,h=>⟨h,rfl⟩
 | .vnil,_,h=>⟨h,rfl⟩
 | .eptr ..,_,h=>⟨h,rfl⟩
 | .vec ..,_,h=>⟨h,rfl⟩
 | .mapr r,_,h=>pureA_ren hb (.mapr r) h
 | .ref r v lo len,_,h=>pureA_ren hb (.ref r v lo len) h
 | .ptr r v i j,_,h=>pureA_ren hb (.ptr r v i j) h
 | .func fn a b,_,h=>pureA_ren hb (.func fn a b) h
 | .row r v,_,h=>by
  cases hr:L[r]? with
  | none=>simp [deepA,hr] at h
  | some row =>
   have h2:=hb r row hr
   obtain ⟨s1,s2,_,s4,_⟩:=ZaI f row
   cases hc:row.clean with
   | true =>
    have e:Zaj f row=row:=by simp [Zaj,hc]
    simp only [deepA,hr,hc,cond_true] at h
    exact ⟨by simp only [renA,deepA,h2,e,hc,cond_true];exact h,by simp only [renA,deepV,ZbS,h2,hr,e,hc,cond_true]⟩
   | false =>
    have e:Zaj f row = { row with elems:=renL f row.elems }:=by simp [Zaj,hc]
    simp only [deepA,hr,hc,cond_false] at h
    cases hp:pureL L row.elems with
    | none=>simp [hp] at h
    | some ys =>
     obtain ⟨p1,p2⟩:=pureL_ren hb row.elems hp
     rw [hp] at h
     exact ⟨by simp only [renA,deepA,h2,e,hc,cond_false,p1];exact h,by simp only [renA,deepV,ZbS,h2,hr,e,hc,cond_false,p2]⟩
 | .agg cs,_,h=>by
  cases hr:deepL L cs with
  | none=>simp [deepA,hr] at h
  | some ds =>
   obtain ⟨h1,h2⟩:=deepL_ren hb cs hr
   exact ⟨by simpa only [renA,deepA,h1,hr] using h,by simp only [renA,deepV,h2]⟩
 | .tup cs,_,h=>by
  cases hr:deepL L cs with
  | none=>simp [deepA,hr] at h
  | some ds =>
   obtain ⟨h1,h2⟩:=deepL_ren hb cs hr
   exact ⟨by simpa only [renA,deepA,h1,hr] using h,by simp only [renA,deepV,h2]⟩
theorem deepL_ren {L K:Heap} {f:Nat->Nat} (hb:∀ (r:Nat) row,L[r]? = some row->K[f r]? = some (Zaj f row)):∀ (l:List AV) {ds:List AV},deepL L l=some ds->deepL K (renL f l)=some ds/\deepVL K (renL f l)=deepVL L l
 | [],_,h=>⟨h,rfl⟩
 | c::l,_,h=>by
  cases hr:deepA L c with
  | none=>simp [deepL,hr] at h
  | some d =>
   cases hr2:deepL L l with
   | none=>simp [deepL,hr,hr2] at h
   | some ds2 =>
    obtain ⟨h1,h2⟩:=deepA_ren hb c hr
    obtain ⟨h3,h4⟩:=deepL_ren hb l hr2
    exact ⟨by simpa only [renL,deepL,h1,h3,hr,hr2] using h,by simp only [renL,deepVL,h2,h4]⟩
end
def swp (p q r:Nat):Nat:=if r=p then q else if r=q then p else r
theorem swp_swp (p q r:Nat):swp p q (swp p q r)=r:=by unfold swp;split <;> (try split) <;> (try split) <;> omega
theorem swp_lt {p q n r:Nat} (hp:p<n) (hq:q<n) (h:r<n):swp p q r<n:=by unfold swp;split <;> (try split) <;> omega
theorem swp_other {p q r:Nat} (h1:r ≠ p) (h2:r ≠ q):swp p q r=r:=by unfold swp;rw [if_neg h1,if_neg h2]
theorem swp_inj {p q a b:Nat} (h:swp p q a=swp p q b):a=b:=by have:=congrArg (swp p q) h;rwa [swp_swp,swp_swp] at this
def swH (p q:Nat) (L:Heap):Heap:=(List.range L.length).map fun j=>Zaj (swp p q) (L.getD (swp p q j) ⟨[],0,0,false,true⟩)
theorem swH_len (p q:Nat) (L:Heap):(swH p q L).length=L.length:=by simp [swH]
theorem swH_at {p q:Nat} {L:Heap} (hp:p<L.length) (hq:q<L.length) {r:Nat} {row:Row} (h:L[r]? = some row):(swH p q L)[swp p q r]? = some (Zaj (swp p q) row):=by
 have hr:=(List.getElem?_eq_some_iff.1 h).1
 have:=swp_lt hp hq hr
 unfold swH
 rw [List.getElem?_map,List.getElem?_range this]
 simp only [Option.map_some,swp_swp]
 rw [List.getD_eq_getElem?_getD,h];rfl
theorem Zgp {f g:Nat->Nat} {row:Row} (h:∀ r ∈ Zat row,f r=g r):Zaj f row=Zaj g row:=by
 unfold Zaj
 cases hc:row.clean with
 | true=>rfl
 | false =>
  simp only [cond_false]
  rw [renL_ext row.elems fun r hr=>h r (by unfold Zat;rw [hc];exact hr)]
end Go.Av

namespace Go.Av
structure Mx (U:Nat) (os:List Nat) (L:Heap) (C:Nat->List AV) (cv:Nat->Nat) (M:Nat->List (Option Row)) (ρ:Nat->Nat->Nat):Prop where
 len:U<=L.length
 osU:∀ u ∈ os,u<U
 out:∀ u ∈ os,L[u]? = some ⟨C u,1,cv u,false,false⟩/\(C u).length=(M u).length
 fix:∀ (r:Nat) (row:Row),r<U->r ∉ os->L[r]? = some row -> ∀ s ∈ Zat row,s<U
 cln:∀ (r:Nat) (row:Row),U<=r->L[r]? = some row->Zat row=[]
 hit:∀ u ∈ os,∀ (j:Nat) (row:Row),(M u)[j]? = some (some row)->(C u)[j]? = some (.row (ρ u j) row.ver)/\L[ρ u j]? = some row/\U<=ρ u j
 nil:∀ u ∈ os,∀ (j:Nat),(M u)[j]? = some none->(C u)[j]? = some AV.vnil
 inj:∀ u ∈ os,∀ w ∈ os,∀ (i j:Nat) (r s:Row),(M u)[i]? = some (some r)->(M w)[j]? = some (some s)->ρ u i=ρ w j->u=w/\i=j
 hcl:∀ u ∈ os,∀ (j:Nat) (row:Row),(M u)[j]? = some (some row)->row.clean=true
theorem swp_fix {p q U r:Nat} (hp:U<=p) (hq:U<=q) (h:r<U):swp p q r=r:=swp_other (by omega) (by omega)
theorem ren_fix {p q U:Nat} {row:Row} (hp:U<=p) (hq:U<=q) (h:∀ s ∈ Zat row,s<U):Zaj (swp p q) row=row:=by
 have:=Zgp (f:=swp p q) (g:=fun r=>r) fun r hr=>swp_fix hp hq (h r hr)
 rw [this]
 unfold Zaj
 cases hc:row.clean with
 | true=>rfl
 | false=>simp only [cond_false];rw [renL_id,<- hc]
theorem refs_clean {row:Row} (h:row.clean=true):Zat row=[]:=by unfold Zat;rw [h];rfl
theorem ren_none {f:Nat->Nat} {row:Row} (h:Zat row=[]):Zaj f row=row:=by
 have:=Zgp (f:=f) (g:=fun r=>r) (row:=row) fun r hr=>by rw [h] at hr;cases hr
 rw [this]
 unfold Zaj
 cases hc:row.clean with
 | true=>rfl
 | false=>simp only [cond_false];rw [renL_id,<- hc]
theorem swH_get {p q:Nat} {L:Heap} (hp:p<L.length) (hq:q<L.length) {r:Nat} {row:Row} (h:(swH p q L)[r]? = some row):∃ row0,L[swp p q r]? = some row0/\row=Zaj (swp p q) row0:=by
 have hr:r<L.length:=by have:=(List.getElem?_eq_some_iff.1 h).1;rwa [swH_len] at this
 have hs:=swp_lt (p:=p) (q:=q) hp hq hr
 have:=swH_at hp hq (List.getElem?_eq_getElem hs)
 rw [swp_swp,h] at this
 exact ⟨_,List.getElem?_eq_getElem hs,Option.some.inj this⟩
theorem Mx.swap {U:Nat} {os:List Nat} {L:Heap} {C:Nat->List AV} {cv:Nat->Nat} {M:Nat->List (Option Row)} {ρ:Nat->Nat->Nat} (h:Mx U os L C cv M ρ) {p q:Nat} (hp:U<=p) (hq:U<=q) (hpl:p<L.length) (hql:q<L.length) :
  Mx U os (swH p q L) (fun u=>(C u).map (renA (swp p q))) cv M (fun u j=>swp p q (ρ u j)):=by
 have hge:∀ r,U<=r->U<=swp p q r:=fun r hr=>by unfold swp;split <;> (try split) <;> omega
 have hlt:∀ r,r<U->swp p q r=r:=fun r hr=>swp_fix hp hq hr
 refine ⟨by rw [swH_len];exact h.len,h.osU,fun u hu => ?_,fun r row hr hno hrow => ?_,fun r row hr hrow => ?_,fun u hu j row hm => ?_,fun u hu j hm => ?_,fun u hu w hw i j r s h1 h2 e=>h.inj u hu w hw i j r s h1 h2 (swp_inj e),h.hcl⟩
 ·obtain ⟨o1,o2⟩:=h.out u hu
  have:=swH_at hpl hql o1
  rw [hlt u (h.osU u hu)] at this
  refine ⟨?_,by rw [List.length_map];exact o2⟩
  rw [this]
  unfold Zaj
  simp only [cond_false]
  rw [Zbc]
 ·obtain ⟨row0,e1,rfl⟩:=swH_get hpl hql hrow
  rw [hlt r hr] at e1
  rw [ren_fix hp hq (h.fix r row0 hr hno e1)]
  exact h.fix r row0 hr hno e1
 ·obtain ⟨row0,e1,rfl⟩:=swH_get hpl hql hrow
  have hc:=h.cln _ row0 (hge r hr) e1
  rw [ren_none hc];exact hc
 ·obtain ⟨e1,e2,e3⟩:=h.hit u hu j row hm
  refine ⟨by rw [List.getElem?_map,e1];rfl,?_,hge _ e3⟩
  have:=swH_at hpl hql e2
  rw [ren_none (h.cln _ row e3 e2)] at this
  exact this
 ·rw [List.getElem?_map,h.nil u hu j hm];rfl
theorem Mx.cell {U:Nat} {os:List Nat} {L:Heap} {C:Nat->List AV} {cv:Nat->Nat} {M:Nat->List (Option Row)} {ρ:Nat->Nat->Nat} (h:Mx U os L C cv M ρ) {u a:Nat} (hu:u ∈ os) (ha:a<(M u).length) {rb:Row} (hc:rb.clean=true) :
  Mx U os ((L.set u ⟨(C u).set a (.row L.length rb.ver),1,cv u,false,false⟩)++[rb]) (fun w=>if w=u then (C u).set a (.row L.length rb.ver) else C w) cv (fun w=>if w=u then (M u).set a (some rb) else M w) (fun w j=>if w=u/\j=a then L.length else ρ w j):=by
 have huU:=h.osU u hu
 have hlen:=h.len
 have hget:∀ (r:Nat),r<L.length->r ≠ u->((L.set u ⟨(C u).set a (.row L.length rb.ver),1,cv u,false,false⟩)++[rb])[r]? = L[r]?:=fun r hr hne=>by
  rw [List.getElem?_append_left (by rw [List.length_set];exact hr),List.getElem?_set,if_neg fun e=>hne e.symm]
 have hgu:((L.set u ⟨(C u).set a (.row L.length rb.ver),1,cv u,false,false⟩)++[rb])[u]? = some ⟨(C u).set a (.row L.length rb.ver),1,cv u,false,false⟩:=by
  rw [List.getElem?_append_left (by rw [List.length_set];omega),List.getElem?_set,if_pos rfl,if_pos (by omega)]
 have hgl:((L.set u ⟨(C u).set a (.row L.length rb.ver),1,cv u,false,false⟩)++[rb])[L.length]? = some rb:=by
  rw [List.getElem?_append_right (by rw [List.length_set];exact Nat.le_refl _),List.length_set,Nat.sub_self];rfl
 have hgt:∀ (r:Nat) row,((L.set u ⟨(C u).set a (.row L.length rb.ver),1,cv u,false,false⟩)++[rb])[r]? = some row->r<L.length\/(r=L.length/\row=rb):=fun r row hr=>by
  have:=(List.getElem?_eq_some_iff.1 hr).1
  rw [List.length_append,List.length_set,List.length_singleton] at this
  by_cases e:r=L.length
  ·subst e;rw [hgl] at hr;exact .inr ⟨rfl,(Option.some.inj hr).symm⟩
  ·exact .inl (by omega)
 have hM:∀ (w j:Nat) x,(if w=u then (M u).set a (some rb) else M w)[j]? = some x->(w=u/\j=a/\x=some rb)\/(¬(w=u/\j=a)/\(M w)[j]? = some x):=fun w j x hx=>by
  by_cases hw:w=u
  ·rw [if_pos hw,List.getElem?_set] at hx
   by_cases hj:a=j
   ·rw [if_pos hj,if_pos ha] at hx
    exact .inl ⟨hw,hj.symm,(Option.some.inj hx).symm⟩
   ·rw [if_neg hj] at hx
    exact .inr ⟨fun e=>hj e.2.symm,by rw [hw];exact hx⟩
  ·rw [if_neg hw] at hx
   exact .inr ⟨fun e=>hw e.1,hx⟩
 have hC:∀ (w j:Nat),¬(w=u/\j=a)->(if w=u then (C u).set a (.row L.length rb.ver) else C w)[j]? = (C w)[j]?:=fun w j hne=>by
  by_cases hw:w=u
  ·rw [if_pos hw,List.getElem?_set,if_neg fun e=>hne ⟨hw,e.symm⟩,hw]
  ·rw [if_neg hw]
 have hCa:(if u=u then (C u).set a (.row L.length rb.ver) else C u)[a]? = some (.row L.length rb.ver):=by
  rw [if_pos rfl,List.getElem?_set,if_pos rfl,if_pos (by rw [(h.out u hu).2];exact ha)]
 refine ⟨by rw [List.length_append,List.length_set];omega,h.osU,fun w hw => ?_,fun r row hr hno hrow => ?_,fun r row hr hrow => ?_,fun w hw j row hm => ?_,fun w hw j hm => ?_,fun w hw x hx i j r s h1 h2 e => ?_,fun w hw j row hm => ?_⟩
 ·by_cases e:w=u
  ·subst e
   refine ⟨by rw [hgu,if_pos rfl],?_⟩
   rw [if_pos rfl,if_pos rfl,List.length_set,List.length_set];exact (h.out w hw).2
  ·have:=h.osU w hw
   rw [hget w (by omega) e,if_neg e,if_neg e];exact h.out w hw
 ·rw [hget r (by omega) fun e=>hno (by rw [e];exact hu)] at hrow
  exact h.fix r row hr hno hrow
 ·rcases hgt r row hrow with hl | ⟨_,rfl⟩
  ·rw [hget r hl (by omega)] at hrow;exact h.cln r row hr hrow
  ·exact refs_clean hc
 ·rcases hM w j _ hm with ⟨rfl,rfl,hx⟩ | ⟨hne,hx⟩
  ·have hx:=Option.some.inj hx
   subst hx
   have e:(if w=w/\j=j then L.length else ρ w j)=L.length:=if_pos ⟨rfl,rfl⟩
   rw [e]
   exact ⟨hCa,hgl,hlen⟩
  ·obtain ⟨d1,d2,d3⟩:=h.hit w hw j row hx
   have hlt:=(List.getElem?_eq_some_iff.1 d2).1
   rw [if_neg hne,hC w j hne,hget _ hlt (by omega)]
   exact ⟨d1,d2,d3⟩
 ·rcases hM w j _ hm with ⟨rfl,rfl,hx⟩ | ⟨hne,hx⟩
  ·cases hx
  ·rw [hC w j hne];exact h.nil w hw j hx
 ·rcases hM w i _ h1 with ⟨rfl,rfl,_⟩ | ⟨n1,x1⟩ <;> rcases hM x j _ h2 with ⟨rfl,rfl,_⟩ | ⟨n2,x2⟩
  ·exact ⟨rfl,rfl⟩
  ·rw [if_pos ⟨rfl,rfl⟩,if_neg n2] at e
   have:=(List.getElem?_eq_some_iff.1 (h.hit x hx j s x2).2.1).1
   omega
  ·rw [if_neg n1,if_pos ⟨rfl,rfl⟩] at e
   have:=(List.getElem?_eq_some_iff.1 (h.hit w hw i r x1).2.1).1
   omega
  ·rw [if_neg n1,if_neg n2] at e
   exact h.inj w hw x hx i j r s x1 x2 e
 ·rcases hM w j _ hm with ⟨_,_,hx⟩ | ⟨_,hx⟩
  ·rw [Option.some.inj hx];exact hc
  ·exact h.hcl w hw j row hx
theorem Mx.push {U:Nat} {os:List Nat} {L:Heap} {C:Nat->List AV} {cv:Nat->Nat} {M:Nat->List (Option Row)} {ρ:Nat->Nat->Nat} (h:Mx U os L C cv M ρ) {z:Row} (hz:Zat z=[]):Mx U os (L++[z]) C cv M ρ:=by
 have hg:∀ (r:Nat) (row:Row),L[r]? = some row->(L++[z])[r]? = some row:=fun r row hr=>by
  rw [List.getElem?_append_left (List.getElem?_eq_some_iff.1 hr).1];exact hr
 have hgt:∀ (r:Nat) (row:Row),(L++[z])[r]? = some row->L[r]? = some row\/row=z:=fun r row hr=>by
  have:=(List.getElem?_eq_some_iff.1 hr).1
  rw [List.length_append,List.length_singleton] at this
  by_cases e:r=L.length
  ·subst e
   rw [List.getElem?_append_right (Nat.le_refl _),Nat.sub_self] at hr
   exact .inr (Option.some.inj hr).symm
  ·rw [List.getElem?_append_left (by omega)] at hr;exact .inl hr
 refine ⟨by rw [List.length_append];have:=h.len;omega,h.osU,fun u hu=>⟨hg _ _ (h.out u hu).1,(h.out u hu).2⟩,fun r row hr hno hrow s hs => ?_,fun r row hr hrow => ?_,fun u hu j row hm => ?_,h.nil,h.inj,h.hcl⟩
 ·rcases hgt r row hrow with e | rfl
  ·exact h.fix r row hr hno e s hs
  ·rw [hz] at hs;cases hs
 ·rcases hgt r row hrow with e | rfl
  ·exact h.cln r row hr e
  ·exact hz
 ·obtain ⟨e1,e2,e3⟩:=h.hit u hu j row hm
  exact ⟨e1,hg _ _ e2,e3⟩
theorem Mx.up {U:Nat} {os:List Nat} {L:Heap} {C:Nat->List AV} {cv:Nat->Nat} {M:Nat->List (Option Row)} {ρ:Nat->Nat->Nat} (h:Mx U os L C cv M ρ) (hl:U<L.length) (hn:∀ u ∈ os,∀ (j:Nat) (row:Row),(M u)[j]? = some (some row)->ρ u j ≠ U):Mx (U+1) os L C cv M ρ:=by
 refine ⟨hl,fun u hu=>by have:=h.osU u hu;omega,h.out,fun r row hr hno hrow s hs => ?_,fun r row hr hrow=>h.cln r row (by omega) hrow,fun u hu j row hm => ?_,h.nil,h.inj,h.hcl⟩
 ·by_cases e:r=U
  ·rw [h.cln r row (by omega) hrow] at hs;cases hs
  ·have:=h.fix r row (by omega) hno hrow s hs;omega
 ·obtain ⟨e1,e2,e3⟩:=h.hit u hu j row hm
  have:=hn u hu j row hm
  exact ⟨e1,e2,by omega⟩
end Go.Av

namespace Go.Av
theorem Mx.congr {U:Nat} {os:List Nat} {L:Heap} {C C':Nat->List AV} {cv cv':Nat->Nat} {M M':Nat->List (Option Row)} {ρ ρ':Nat->Nat->Nat} (h:Mx U os L C cv M ρ) (e:∀ u ∈ os,C u=C' u/\cv u=cv' u/\M u=M' u /\ ∀ j,ρ u j=ρ' u j):Mx U os L C' cv' M' ρ':=by
 refine ⟨h.len,h.osU,fun u hu => ?_,h.fix,h.cln,fun u hu j row hm => ?_,fun u hu j hm => ?_,fun u hu w hw i j r s h1 h2 h3 => ?_,fun u hu j row hm => ?_⟩
 ·obtain ⟨e1,e2,e3,_⟩:=e u hu
  rw [<- e1,<- e2,<- e3];exact h.out u hu
 ·obtain ⟨e1,e2,e3,e4⟩:=e u hu
  rw [<- e3] at hm
  rw [<- e1,<- e4];exact h.hit u hu j row hm
 ·obtain ⟨e1,_,e3,_⟩:=e u hu
  rw [<- e3] at hm
  rw [<- e1];exact h.nil u hu j hm
 ·obtain ⟨_,_,e3,e4⟩:=e u hu
  obtain ⟨_,_,f3,f4⟩:=e w hw
  rw [<- e3] at h1
  rw [<- f3] at h2
  rw [<- e4,<- f4] at h3
  exact h.inj u hu w hw i j r s h1 h2 h3
 ·rw [<- (e u hu).2.2.1] at hm;exact h.hcl u hu j row hm
def Mx1 (L:Heap) (C:List AV) (cv:Nat) (M:List (Option Row)) (ρ:Nat->Nat):Prop:=Mx 1 [0] L (fun _=>C) (fun _=>cv) (fun _=>M) (fun _=>ρ)
theorem Mx1.cell {C:List AV} {cv:Nat} {R:Heap} {M:List (Option Row)} {ρ:Nat->Nat} (h:Mx1 (⟨C,1,cv,false,false⟩::R) C cv M ρ) {a:Nat} (ha:a<M.length) {rb:Row} (hc:rb.clean=true) :
  ∃ ρ',Mx1 (⟨C.set a (.row (R.length+1) rb.ver),1,cv,false,false⟩::(R++[rb])) (C.set a (.row (R.length+1) rb.ver)) cv (M.set a (some rb)) ρ':=by
 have:=Mx.cell h (u:=0) (a:=a) (by simp) ha hc
 exact ⟨fun j=>if j=a then R.length+1 else ρ j,this.congr fun u hu=>by
  rw [List.mem_singleton] at hu;subst hu
  refine ⟨by rw [if_pos rfl];rfl,rfl,by rw [if_pos rfl],fun j => ?_⟩
  by_cases e:j=a
  ·rw [if_pos ⟨rfl,e⟩,if_pos e];rfl
  ·rw [if_neg fun x=>e x.2,if_neg e]⟩
end Go.Av

namespace Go.Av
open Go.RowKit
def ZfY (M:Mach) (it:FuncId) (A:AV) (xs:List (AV × AV)):Prop:=
 ∀ (l:Nat) (J:Nat->St->Prop),(∀ j T,J j T->HeapOk T)->(∀ j T T',J j T->HeapOk T'->Ext T T'->T'.L=T.L->J j T') ->
  (∀ j T v1 v2 (hj:j<xs.length),J j T->Rel T (xs[j]).1 v1->Rel T (xs[j]).2 v2 -> ∃ fid tmps asg bd,(Instr.yield l #[v1,v2]).run (M.P ()) T.w = .ok (.round l fid tmps asg bd) T.w /\
   ∀ c cs,∃ T',J (j+1) T'/\(∀ a v,Rel T a v->Rel T' a v)/\Steps (M.P ()) (lone (Frame.round l fid tmps asg bd .normal) (c::cs) T.w) (lone (c.finish (.bool true)) cs T'.w)) ->
  ∀ T cA,J 0 T->Rel T A cA -> ∀ cs,∃ cv fr T',J xs.length T'/\(∀ a v,Rel T a v->Rel T' a v) /\
   Steps (M.P ()) (lone (Frame.enter (M.P ()) it #[.func (.yield l) #[] #[],cA] .normal) cs T.w) (lone fr cs T'.w)/\fr.leaving (M.P ()) T'.w (.returned cv)
theorem Zce {T T':St} (hT:HeapOk T) (he:Ext T T') {l:Nat} {o:Obj} (ho:T.w.heap[l]? = some o) (hk:ZbB o=true) (hl:T.base<=l):T'.w.heap[l]? = some o:=
 (he.other l hl (Array.getElem?_eq_some_iff.1 ho).1 (other_blk hT ho hk)).trans ho
theorem vrel_mono {S S':St} (he:Ext S S') {env:Vars} {tm:Array Value} (h:VRel S env tm):VRel S' env tm:=fun t=>(h t).mono he
theorem vrel_set {S:St} {env:Vars} {tm:Array Value} (h:VRel S env tm) {p:Nat} (hp:p<tm.size) {x:AV} {v:Value} (hx:Rel S x v):VRel S ((p,x)::env) (tm.setIfInBounds p v):=by
 intro t
 simp only [Vars.get]
 by_cases e:p=t
 ·subst e
  have:(p==p)=true:=by simp
  rw [this]
  simpa [hp] using hx
 ·have:(p==t)=false:=by simpa using e
  rw [this]
  simpa [e] using h t
theorem fold_two {p0 p1:Tmp} {v1 v2:Value} (f:Array Value->Tmp × Value->Array Value) (a:Array Value):(#[p0,p1].zip #[v1,v2]).foldl f a=f (f a (p0,v1)) (p1,v2):=by
 have:(#[p0,p1].zip #[v1,v2]) = #[(p0,v1),(p1,v2)]:=by
  show [p0,p1].toArray.zip [v1,v2].toArray=_
  rw [List.zip_toArray];rfl
 rw [this];rfl
theorem range_sound {M:Mach} {fi:Fi} {g:Operand} {p0 p1:Tmp} {ida:Nat} {opsA:Array Oper} {body:Code} {k:List Item} {env:Vars} {L:Heap} {Q:AV->Heap->Prop} {it:FuncId} {A:AV} {xs:List (AV × AV)} {keepA:List Nat}
  (hg:evV env g = .func (.func it) [] [A]) (hit:∀ args w,(callFunc it args).run (M.P ()) w = .ok (.enter it args) w) (hI:ZfY M it A xs) (hna:Zc7 opsA=true) (hnb:Zca body=true) (hp0:p0<fi.n) (hp1:p1<fi.n)
  (Ls:Nat->Heap) (h0:Ls 0=L) (eA:Nat->Env)
  (hasg:∀ j (hj:j<xs.length),Zau M.P M.inl (fun _ _ _=>none) fi.n opsA (fun _=>none) (fun _=>2) (List.range opsA.size) ⟨lift ((p1,(xs[j]).2)::(p0,(xs[j]).1)::env),Ls j,[],[],[]⟩=some ⟨eA j,Ls j,[],[],[]⟩)
  (hbody:∀ j,j<xs.length->ZaV M fi [.code body] (Zbu keepA (eA j)) (Ls j) (fun _ L'=>L'=Ls (j+1)))
  (hk:ZaV M fi k env (Ls xs.length) Q):ZaV M fi (.code (.rangeFunc g #[p0,p1] (.region ida opsA false) body)::k) env L Q:=by
 intro S b a cs fn h1 h2 h3 h4 h5 h6 h7 h8
 have hb:b.roundOf=none:=by
  rcases h4 with h | h
  ·exact h
  ·simp [Zcu,ZdS,Zca] at h
 obtain ⟨R,hR⟩:∃ R:Loop,R = { state:=.ready,pending:=none,fn:=b.fn,tmps:=a.tmps,params:=#[p0,p1],assign:=.region ida opsA false,body,defers:=S.w.heap.size }:=⟨_,rfl⟩
 obtain ⟨B,hB⟩:∃ B:Loop,B = { R with state:=.busy }:=⟨_,rfl⟩
 obtain ⟨X,hX⟩:∃ X:Loop,X = { R with state:=.exhausted }:=⟨_,rfl⟩
 obtain ⟨W1,hW1⟩:∃ W1,(S.w.alloc (.deferred (some []))).alloc (.loop R)=W1:=⟨_,rfl⟩
 have hl1:W1.heap[S.w.heap.size+1]? = some (.loop R):=by
  rw [<- hW1];have:=World.alloc_heap_new (S.w.alloc (.deferred (some []))) (.loop R);rwa [World.size_alloc] at this
 have hd1:W1.heap[S.w.heap.size]? = some (.deferred (some [])):=by
  rw [<- hW1];exact (Below.heap_alloc _ _ _ (by simp)).trans (World.alloc_heap_new S.w _)
 have hbelow:Below S.base S.w W1:=by
  rw [<- hW1];exact (((Below.refl _ S.w).alloc h5.base _).alloc (by simp;have:=h5.base;omega) _)
 have hsame:∀ q,q<S.w.heap.size->W1.heap[q]? = S.w.heap[q]?:=fun q hq=>by
  rw [<- hW1];exact (Below.heap_alloc _ _ q (by simp;omega)).trans (Below.heap_alloc _ _ q hq)
 obtain ⟨o1,e1⟩:=Zcb h5 hbelow hsame
 obtain ⟨cg,hcg⟩:∃ cg,a.eval g=cg:=⟨_,rfl⟩
 have hrg:=ZeQ (a:=a) h7 g
 rw [hg,hcg] at hrg
 obtain ⟨va,vb,rfl,l1,l2,r1,r2⟩:=Zcj hrg
 have hva:va=[]:=List.length_eq_zero_iff.1 l1.symm
 subst hva
 obtain ⟨cA,rfl⟩:=List.length_eq_one_iff.1 l2.symm
 have hcA:Rel S A cA:=r2 0 A cA rfl rfl
 let J:Nat->St->Prop:=fun j T=>HeapOk T/\Ext S T/\T.L=Ls j/\T.w.heap[S.w.heap.size+1]? = some (.loop R)/\T.w.heap[S.w.heap.size]? = some (.deferred (some []))
 have hbase:∀ {T:St},Ext S T->T.base<=S.w.heap.size:=fun he=>by rw [he.base];exact h5.base
 have hJ:∀ j T T',J j T->HeapOk T'->Ext T T'->T'.L=T.L->J j T':=fun j T T' ⟨q1,q2,q3,q4,q5⟩ hT' he hL =>
  ⟨hT',q2.trans he,hL.trans q3,Zce q1 he q4 rfl (by have:=hbase q2;omega),Zce q1 he q5 rfl (hbase q2)⟩
 have hround:∀ j T v1 v2 (hj:j<xs.length),J j T->Rel T (xs[j]).1 v1->Rel T (xs[j]).2 v2 -> ∃ fid tmps asg bd,(Instr.yield (S.w.heap.size+1) #[v1,v2]).run (M.P ()) T.w = .ok (.round (S.w.heap.size+1) fid tmps asg bd) T.w /\
   ∀ c cs,∃ T',J (j+1) T'/\(∀ a v,Rel T a v->Rel T' a v)/\Steps (M.P ()) (lone (Frame.round (S.w.heap.size+1) fid tmps asg bd .normal) (c::cs) T.w) (lone (c.finish (.bool true)) cs T'.w):=by
  intro j T v1 v2 hj ⟨q1,q2,q3,q4,q5⟩ hv1 hv2
  obtain ⟨tm,htm⟩:∃ tm:Array Value,tm=(a.tmps.setIfInBounds p0 v1).setIfInBounds p1 v2:=⟨_,rfl⟩
  have hy:(Instr.yield (S.w.heap.size+1) #[v1,v2]).run (M.P ()) T.w = .ok (.round (S.w.heap.size+1) b.fn tm (.region ida opsA false) body) T.w:=by
   have:=run_yield (P:=M.P ()) (args:=#[v1,v2]) q4 (by rw [hR];rfl)
   rw [hR] at this
   simp only [fold_two] at this
   rw [this,htm]
  refine ⟨b.fn,tm,.region ida opsA false,body,hy,fun c cs => ?_⟩
  have hV:VRel T ((p1,(xs[j]).2)::(p0,(xs[j]).1)::env) tm:=by
   rw [htm]
   exact vrel_set (vrel_set (vrel_mono q2 h7) (Nat.lt_of_lt_of_le hp0 h8) hv1) (by rw [Array.size_setIfInBounds];exact Nat.lt_of_lt_of_le hp1 h8) hv2
  let bR:Frame:={ (default:Frame) with fn:=b.fn,kind:=.normal,roundOf:=some (S.w.heap.size+1) }
  have hfr:Frame.round (S.w.heap.size+1) b.fn tm (.region ida opsA false) body .normal=bR.atR { tmps:=tm,defers:=[] } [.code (.region ida opsA false),.beginRound,.code body]:=by
   simp [Frame.round,Frame.atR,bR]
  have hsz:fi.n<=tm.size:=by rw [htm,Array.size_setIfInBounds,Array.size_setIfInBounds];exact h8
  rw [hfr]
  have hA:RegR (M.P ()) ida opsA false (fun a' w' => ∃ T2:St,T2.w=w'/\HeapOk T2/\Ext T T2/\T2.L=Ls j/\VRel T2 (Zbu keepA (eA j)) a'.tmps/\a'.tmps.size=tm.size/\a'.defers=[]) { tmps:=tm,defers:=[] } T.w:=
   ZdY (Zct _ (hasg j hj) (by simp) (by simp) (by simp) q1 q3 (Zcm hV) hsz fun S' a' k1 k2 k3 k4 k5 k6=>⟨S',rfl,k1,k2,k3,ZbK k4 keepA,k5,k6⟩)
  obtain ⟨a2,_,⟨T2,rfl,u1,u2,u3,u4,u5,u6⟩,st1⟩:=hA bR [.beginRound,.code body] (c::cs) (.inr hna)
  have hl2:=Zce q1 u2 q4 rfl (by have:=hbase q2;omega)
  have hd2:=Zce q1 u2 q5 rfl (hbase q2)
  have hbr:=run_beginRound (P:=M.P ()) hl2 (by rw [hR])
  rw [<- hB] at hbr
  obtain ⟨v1',v2'⟩:=ZdZ (o':=.loop B) u1 hl2 rfl rfl
  have x3:Ext S ⟨T2.base,T2.acc,T2.L,T2.β,T2.w.putObj (S.w.heap.size+1) (.loop B)⟩:=
   put_ext hl2 rfl rfl h5.base (by omega) (q2.trans u2)
  have hl3:(T2.w.putObj (S.w.heap.size+1) (.loop B)).heap[S.w.heap.size+1]? = some (.loop B):=World.putObj_heap_same (Array.getElem?_eq_some_iff.1 hl2).1
  have hd3:(T2.w.putObj (S.w.heap.size+1) (.loop B)).heap[S.w.heap.size]? = some (.deferred (some [])):=(World.putObj_heap_other (by omega)).trans hd2
  obtain ⟨a4,todo4,Ds4,w4,β4,v4,L4,hq4,g1,g2,s4,d4,m4,r4,o4,x4⟩:=hbody j hj ⟨T2.base,T2.acc,T2.L,T2.β,T2.w.putObj (S.w.heap.size+1) (.loop B)⟩ bR a2 (c::cs) fn h1 h2 rfl
   (.inr (by simp [Zcu,ZdS,hnb])) v1' u3 (fun t=>v2' _ _ (u4 t)) (by rw [u5];exact hsz)
  obtain ⟨rfl,rfl⟩:todo4=[]/\Ds4=[]:=by
   rcases g2 with g | g
   ·simp [bR] at g
   ·exact g
  subst hq4
  have hb3:T2.base<=S.w.heap.size:=hbase (q2.trans u2)
  have hl4:=Zce v1' x4 hl3 rfl (by show T2.base<=_;omega)
  have hd4:=Zce v1' x4 hd3 rfl hb3
  have her:=run_endRound (P:=M.P ()) none hl4
  have hrr:({ B with state:=if (none:Option Code).isNone then .ready else .done,pending:=none }:Loop)=R:=by rw [hB,hR];rfl
  rw [hrr] at her
  obtain ⟨y1,y2⟩:=ZdZ (o':=.loop R) o4 hl4 rfl rfl
  have x5:=put_ext (o':=.loop R) hl4 rfl rfl h5.base (by omega) (x3.trans x4)
  refine ⟨_,⟨y1,x5,rfl,World.putObj_heap_same (Array.getElem?_eq_some_iff.1 hl4).1,(World.putObj_heap_other (by omega)).trans hd4⟩,fun a v h=>y2 _ _ ((v2' _ _ (h.mono u2)).mono x4),?_⟩
  exact Steps.trans st1 (.head (stepR_beginRound rfl hbr) (Steps.trans s4 (.one (stepR_round_end rfl rfl her))))
 have hmono:∀ a v,Rel S a v->Rel ⟨S.base,S.acc,S.L,S.β,W1⟩ a v:=fun a v h=>h.mono e1
 obtain ⟨cv,fr,T,⟨q1,q2,q3,q4,q5⟩,t2,t3,t4⟩:=hI (S.w.heap.size+1) J (fun j T h=>h.1) hJ hround ⟨S.base,S.acc,S.L,S.β,W1⟩ cA ⟨o1,e1,h6.trans h0.symm,hl1,hd1⟩ (hmono _ _ hcA)
  (b.atR { a with defers:=[ZeC S.w.heap.size]++a.defers } (.inRangeFunc (S.w.heap.size+1)::k)::cs)
 have he:=run_enterLoop_outer (P:=M.P ()) (w:=S.w) b.fn a.tmps #[p0,p1] (.region ida opsA false) body
 have hW1':(S.w.alloc (.deferred (some []))).alloc (.loop { state:=.ready,pending:=none,fn:=b.fn,tmps:=a.tmps,params:=#[p0,p1],assign:=.region ida opsA false,body,defers:=S.w.heap.size })=W1:=by rw [<- hW1,hR]
 rw [hW1',<- hb] at he
 have henter:=stepR_rangeFunc (P:=M.P ()) (b:=b) (a:=a) (k:=k) (cs:=cs) (w:=S.w) (g:=g) (d:={ target:=.fn (.func it) #[cA],args:=#[.func (.yield (S.w.heap.size+1)) #[] #[]] }) (w₁':=W1) (w₂:=W1) (f:=it) (args:=#[.func (.yield (S.w.heap.size+1)) #[] #[]] ++ #[cA]) he
  (by simp only [resolve,rangeCall,hcg];simp [go_sem]) (by simp [invoke,go_sem,hit])
 have hend:=run_endLoop (P:=M.P ()) q4 (by rw [hR];simp)
 rw [<- hX,(show R.pending=none by rw [hR])] at hend
 obtain ⟨z1,z2⟩:=ZdZ (o':=.loop X) q1 q4 rfl rfl
 have x6:=put_ext (o':=.loop X) q4 rfl rfl h5.base (by omega) q2
 have hd6:(T.w.putObj (S.w.heap.size+1) (.loop X)).heap[S.w.heap.size]? = some (.deferred (some [])):=(World.putObj_heap_other (by omega)).trans q5
 have hb6:=hbase q2
 obtain ⟨a7,todo7,Ds7,w7,β7,v7,L7,hq7,g1,g2,s7,d7,m7,r7,o7,x7⟩:=hk ⟨T.base,T.acc,T.L,T.β,T.w.putObj (S.w.heap.size+1) (.loop X)⟩ b { a with defers:=[ZeC S.w.heap.size]++a.defers } cs fn h1 h2 h3 (.inl hb) z1 q3
  (fun t=>z2 _ _ ((h7 t).mono q2)) h8
 have hd7:=Zce z1 x7 hd6 rfl hb6
 have hsz7:S.w.heap.size<(T.w.putObj (S.w.heap.size+1) (.loop X)).heap.size:=(Array.getElem?_eq_some_iff.1 hd6).1
 have hb7:T.base=S.base:=q2.base
 have ha7:T.acc=S.acc:=q2.acc
 refine ⟨a7,todo7,Ds7++[S.w.heap.size],w7,β7,v7,L7,hq7,g1,.inl hb,?_,by rw [d7];simp,⟨?_,fun D hD => ?_⟩,?_,?_,?_⟩
 ·refine .head henter (Steps.trans t3 (.head ?_ (.head (stepR_endRangeFunc hend) s7)))
  rw [<- finish_atR_inRangeFunc (S.w.heap.size+1) cv]
  exact step_leave_returned t4
 ·rw [List.nodup_append]
  refine ⟨m7.1,by simp,fun x hx y hy => ?_⟩
  simp only [List.mem_singleton] at hy
  have:=(m7.2 x hx).1
  simp only at this
  omega
 ·rcases List.mem_append.1 hD with h | h
  ·obtain ⟨n1,n2⟩:=m7.2 D h
   simp only at n1
   exact ⟨by omega,n2⟩
  ·simp only [List.mem_singleton] at h;subst h
   exact ⟨Nat.le_refl _,hd7⟩
 ·intro w'' hn
  obtain ⟨cv',n1,n2⟩:=r7 w'' hn
  simp only [hb7,ha7] at n2
  exact ⟨cv',n1,n2⟩
 ·simpa only [hb7,ha7] using o7
 ·have:=x6.trans x7
  simpa only [hb7,ha7] using this
def bkX (X:List Int):List (AV × AV):=(List.range X.length).map fun j=>(.int .i64 ((X.length-1-j:Nat):Int),.int .i64 (X.getD (X.length-1-j) 0))
inductive Rounds (M:Mach) (fi:Fi) (p0 p1:Tmp) (opsA:Array Oper) (body:Code) (env:Vars) (keepA:List Nat):List (AV × AV)->Heap->Heap->Prop
 | nil (L:Heap):Rounds M fi p0 p1 opsA body env keepA [] L L
 | cons {x:AV × AV} {xs:List (AV × AV)} {L L1 L2:Heap} (e:Env):Zau M.P M.inl (fun _ _ _=>none) fi.n opsA (fun _=>none) (fun _=>2) (List.range opsA.size) ⟨lift ((p1,x.2)::(p0,x.1)::env),L,[],[],[]⟩=some ⟨e,L,[],[],[]⟩ ->
   ZaV M fi [.code body] (Zbu keepA e) L (fun _ L'=>L'=L1)->Rounds M fi p0 p1 opsA body env keepA xs L1 L2->Rounds M fi p0 p1 opsA body env keepA (x::xs) L L2
theorem Rounds.to {M:Mach} {fi:Fi} {p0 p1:Tmp} {opsA:Array Oper} {body:Code} {env:Vars} {keepA:List Nat} {xs:List (AV × AV)} {L L2:Heap} (h:Rounds M fi p0 p1 opsA body env keepA xs L L2) :
  ∃ (Ls:Nat->Heap) (eA:Nat->Env),Ls 0=L/\Ls xs.length=L2 /\
   (∀ j (hj:j<xs.length),Zau M.P M.inl (fun _ _ _=>none) fi.n opsA (fun _=>none) (fun _=>2) (List.range opsA.size) ⟨lift ((p1,(xs[j]).2)::(p0,(xs[j]).1)::env),Ls j,[],[],[]⟩=some ⟨eA j,Ls j,[],[],[]⟩) /\
   (∀ j,j<xs.length->ZaV M fi [.code body] (Zbu keepA (eA j)) (Ls j) (fun _ L'=>L'=Ls (j+1))):=by
 induction h with
 | nil L=>exact ⟨fun _=>L,fun _=>[],rfl,rfl,fun j hj=>absurd hj (Nat.not_lt_zero _),fun j hj=>absurd hj (Nat.not_lt_zero _)⟩
 | @cons x xs L L1 L2 e h1 h2 _ ih =>
  obtain ⟨Ls,eA,g1,g2,g3,g4⟩:=ih
  refine ⟨fun j=>match j with | 0=>L | j+1=>Ls j,fun j=>match j with | 0=>e | j+1=>eA j,rfl,g2,fun j hj => ?_,fun j hj => ?_⟩
  ·cases j with
   | zero=>exact h1
   | succ j=>exact g3 j (by simpa using hj)
  ·cases j with
   | zero=>subst g1;exact h2
   | succ j=>exact g4 j (by simpa using hj)
theorem range_rounds {M:Mach} {fi:Fi} {g:Operand} {p0 p1:Tmp} {ida:Nat} {opsA:Array Oper} {body:Code} {k:List Item} {env:Vars} {L L2:Heap} {Q:AV->Heap->Prop} {it:FuncId} {A:AV} {xs:List (AV × AV)} {keepA:List Nat}
  (hg:evV env g = .func (.func it) [] [A]) (hit:∀ args w,(callFunc it args).run (M.P ()) w = .ok (.enter it args) w) (hI:ZfY M it A xs) (hna:Zc7 opsA=true) (hnb:Zca body=true) (hp0:p0<fi.n) (hp1:p1<fi.n)
  (hr:Rounds M fi p0 p1 opsA body env keepA xs L L2) (hk:ZaV M fi k env L2 Q):ZaV M fi (.code (.rangeFunc g #[p0,p1] (.region ida opsA false) body)::k) env L Q:=by
 obtain ⟨Ls,eA,g1,g2,g3,g4⟩:=hr.to
 subst g2
 exact range_sound hg hit hI hna hnb hp0 hp1 Ls g1 eA g3 g4 hk
end Go.Av
