/- PART 3 of the texts of a claim, joined by a program: what each part shows stands at its head. -/
import Derived.Test.YtabdlpimphgfiaaPart7129bb0424
import Derived.ProofKit
import Derived.OpenShut
import Derived.Test.YtabdlpimphgfiaaRows
import Derived.Test.YtabdlpimphgfiaaProg

namespace Go.Av
open Go.RowKit Go.WideShapes Go.ChangeShapes
def TyL (R:TypeId->List AV->Prop):List TypeId->List AV->Prop
 | [],cs=>cs=[]
 | t::ts,cs => ∃ a b,cs=a++b/\R t a/\TyL R ts b
def aggT (P:Program) (t:TypeId):Bool:=
 match P.underlying t with
 | some (.struct _) | some (.array _ _)=>true
 | _=>false
def ZdG (P:Program) (t:TypeId) (cs:List AV):AV:=if aggT P t=true then .agg cs else cs.headD .any
def Ty (P:Program):Nat->TypeId->List AV->Prop
 | 0,_,_=>False
 | n+1,t,cs =>
  match P.underlying t with
  | some .bool => ∃ b,cs=[.bool b]
  | some (.int k) => ∃ m,cs=[.int k m]/\k.min<=m/\m<=k.max
  | some .string => ∃ s,cs=[.str s]/\s.length<=maxLen
  | some (.slice e) => ∃ xs,cs=[.vec false (P.cellsOf e) xs]/\xs.length<=maxLen /\ ∀ x ∈ xs,∃ ys,Ty P n e ys/\x=ZdG P e ys
  | some (.struct fs)=>TyL (Ty P n) (fs.toList.map (·.type)) cs
  | some (.array m e)=>TyL (Ty P n) (List.replicate m e) cs
  | _=>False
def ZeI (P:Program):Nat->List Field->Nat->Bool
 | off,[],n=>off==n
 | off,f::fs,n=>f.offset==off&&ZeI P (off+P.cellsOf f.type) fs n
def ZdA (P:Program):Nat->TypeId->Bool
 | 0,_=>false
 | n+1,t =>
  match P.underlying t with
  | some .bool | some (.int _) | some .string=>P.cellsOf t==1
  | some (.slice e)=>P.cellsOf t==1&&ZdA P n e&&Nat.blt 0 (P.cellsOf e)
  | some (.struct fs)=>(fs.toList.all fun f=>ZdA P n f.type)&&ZeI P 0 fs.toList (P.cellsOf t)
  | some (.array m e)=>ZdA P n e&&P.cellsOf t==m*P.cellsOf e
  | _=>false
def S0 (w:World):St:=⟨w.heap.size,fun _ _=>True,[],[],w⟩
structure RelD (w:World) (axs:List AV) (cs:List Value):Prop where
 len:axs.length=cs.length
 plain:axs.all AV.plain=true
 rel:∀ (i:Nat) a c,axs[i]? = some a->cs[i]? = some c->DRel (S0 w) a c
theorem RelD.append {w:World} {axs bs:List AV} {cs ds:List Value} (h:RelD w axs cs) (k:RelD w bs ds):RelD w (axs++bs) (cs++ds):=by
 refine ⟨by simp [h.len,k.len],by simp [List.all_append,h.plain,k.plain],fun i a c ha hc => ?_⟩
 by_cases hi:i<axs.length
 ·rw [List.getElem?_append_left hi] at ha
  rw [List.getElem?_append_left (by rw [<- h.len];exact hi)] at hc
  exact h.rel i a c ha hc
 ·rw [List.getElem?_append_right (by omega)] at ha
  rw [List.getElem?_append_right (by have:=h.len;omega),<- h.len] at hc
  exact k.rel _ a c ha hc
theorem RelD.one {w:World} {a:AV} {c:Value} (hp:a.plain=true) (h:DRel (S0 w) a c):RelD w [a] [c]:=
 ⟨rfl,by simp [hp],fun i x y hx hy=>by cases i with
  | zero=>simp at hx hy;subst hx;subst hy;exact h
  | succ i=>simp at hx⟩
theorem list_of {α:Type} {R:Nat->α->Prop}:∀ (n:Nat),(∀ i,i<n -> ∃ x,R i x) -> ∃ xs:List α,xs.length=n /\ ∀ (i:Nat) x,xs[i]? = some x->R i x
 | 0,_=>⟨[],rfl,by simp⟩
 | n+1,h=>by
  obtain ⟨xs,h1,h2⟩:=list_of n (fun i hi=>h i (by omega))
  obtain ⟨x,hx⟩:=h n (by omega)
  refine ⟨xs++[x],by simp [h1],fun i y hy => ?_⟩
  by_cases hi:i<xs.length
  ·rw [List.getElem?_append_left hi] at hy;exact h2 i y hy
  ·rw [List.getElem?_append_right (by omega)] at hy
   have:i=n:=by
    have:=(List.getElem?_eq_some_iff.1 hy).1
    simp at this;omega
   subst this
   rw [h1] at hy
   simp at hy;subst hy;exact hx
section
variable {H:Type} {enc:TypeId × Value->H} {P:Program} {w:World} {sp:Nat->Bool} {held:Bool}
theorem Zhk {R:TypeId->List AV->Prop}:∀ (fs:List Field) (off:Nat) (cs:List Value),ZeI P off fs cs.length=true ->
  (∀ f ∈ fs,∃ axs,R f.type axs/\RelD w axs ((cs.drop f.offset).take (P.cellsOf f.type))/\((cs.drop f.offset).take (P.cellsOf f.type)).length=P.cellsOf f.type) ->
  ∃ axs,TyL R (fs.map (·.type)) axs/\RelD w axs (cs.drop off)
 | [],off,cs,hl,_=>by
  simp only [ZeI,beq_iff_eq] at hl
  refine ⟨[],rfl,?_⟩
  rw [List.drop_eq_nil_of_le (by omega)]
  exact ⟨rfl,rfl,by simp⟩
 | f::fs,off,cs,hl,h=>by
  simp only [ZeI,Bool.and_eq_true,beq_iff_eq] at hl
  obtain ⟨rfl,hl⟩:=hl
  obtain ⟨axs,h1,h2,h3⟩:=h f (List.mem_cons_self ..)
  obtain ⟨bs,k1,k2⟩:=Zhk fs _ cs hl (fun g hg=>h g (List.mem_cons_of_mem _ hg))
  refine ⟨axs++bs,⟨axs,bs,rfl,h1,k1⟩,?_⟩
  have:=h2.append k2
  rwa [<- List.drop_drop,List.take_append_drop] at this
theorem read_same {R:TypeId->List AV->Prop} {e:TypeId} {z:Nat}:∀ (m:Nat) (cs:List Value),cs.length=m*z ->
  (∀ i,i<m -> ∃ axs,R e axs/\RelD w axs ((cs.drop (i*z)).take z)) -> ∃ axs,TyL R (List.replicate m e) axs/\RelD w axs cs
 | 0,cs,hl,_=>by
  have:cs=[]:=List.length_eq_zero_iff.1 (by simpa using hl)
  subst this
  exact ⟨[],rfl,rfl,rfl,by simp⟩
 | m+1,cs,hl,h=>by
  obtain ⟨axs,h1,h2⟩:=h 0 (by omega)
  simp only [Nat.zero_mul,List.drop_zero] at h2
  obtain ⟨bs,k1,k2⟩:=read_same (R:=R) (e:=e) (z:=z) m (cs.drop z) (by simp [hl,Nat.add_mul]) fun i hi=>by
   obtain ⟨axs,q1,q2⟩:=h (i+1) (by omega)
   refine ⟨axs,q1,?_⟩
   rw [List.drop_drop]
   have:z+i*z=(i+1)*z:=by rw [Nat.add_mul];omega
   rw [this];exact q2
  refine ⟨axs++bs,⟨axs,bs,rfl,h1,k1⟩,?_⟩
  have:=h2.append k2
  rwa [List.take_append_drop] at this
theorem ZdU:∀ (n:Nat) (t:TypeId) (cs:List Value) (x:DataW H × List MemPlace) (fuel:Nat),ZdA P n t=true->DataW.trod enc P w 0 sp held fuel t cs=some x ->
  ∃ axs,Ty P n t axs/\RelD w axs cs/\cs.length=P.cellsOf t
 | 0,t,cs,x,fuel,hs,_=>by simp [ZdA] at hs
 | n+1,t,cs,x,fuel,hs,hx=>by
  unfold ZdA at hs
  unfold Ty
  split at hs
  ·rename_i hu
   try simp only [hu]
   obtain ⟨b,rfl,_⟩:=DataW.trod_bool hu hx
   exact ⟨[.bool b],⟨b,rfl⟩,.one rfl (.bool b),by simp only [beq_iff_eq] at hs;exact hs.symm⟩
  ·rename_i k hu
   try simp only [hu]
   obtain ⟨m,rfl,_,hw⟩:=DataW.trod_int hu hx
   simp only [Lit.wf,Bool.and_eq_true,decide_eq_true_eq] at hw
   exact ⟨[.int k m],⟨m,rfl,hw.1,hw.2⟩,.one rfl (.int k m),by simp only [beq_iff_eq] at hs;exact hs.symm⟩
  ·rename_i hu
   try simp only [hu]
   obtain ⟨s,rfl,_,hw⟩:=DataW.trod_string hu hx
   obtain ⟨⟨l⟩⟩:=s
   exact ⟨[.str l],⟨l,rfl,hw⟩,.one rfl (.str l),by simp only [beq_iff_eq] at hs;exact hs.symm⟩
  ·rename_i e hu
   try simp only [hu]
   simp only [Bool.and_eq_true,beq_iff_eq,Nat.blt_eq] at hs
   obtain ⟨⟨hs1,hs2⟩,hs3⟩:=hs
   rcases DataW.trod_slice hu hx with ⟨rfl,_⟩ | ⟨a,len,cap,elems,rest,m,_,rfl,_,_,hlc,hcm,hel,hall,_,_⟩
   ·exact ⟨[.vec false (P.cellsOf e) []],⟨[],rfl,by simp,by simp⟩,.one rfl (.vecE _ _ _ _ (by simp)),hs1.symm⟩
   ·have hget:∀ i,i<len -> ∃ x:AV,∃ ys cs',Ty P n e ys/\x=ZdG P e ys/\RelD w ys cs'/\cs'.length=P.cellsOf e/\w.cells? 0 (a.add (i*P.cellsOf e)) (P.cellsOf e)=some cs':=by
     intro i hi
     have h1:=hall i hi
     rw [List.getElem?_eq_getElem (by omega)] at h1
     obtain ⟨cs',h2,h3⟩:=Option.bind_eq_some_iff.1 h1
     obtain ⟨ys,k1,k2,k3⟩:=ZdU n e cs' _ m hs2 h3
     exact ⟨_,ys,cs',k1,rfl,k2,k3,h2⟩
    obtain ⟨xs,hxl,hxs⟩:=list_of len hget
    have hpack:∀ {ys:List AV} {cs':List Value},Ty P n e ys->RelD w ys cs'->cs'.length=P.cellsOf e->(ZdG P e ys).cells=ys:=by
     intro ys cs' hty hrd hl
     unfold ZdG
     split
     ·rfl
     ·rename_i hagg
      have h1:∃ y,ys=[y]:=by
       cases n with
       | zero=>simp [ZdA] at hs2
       | succ n =>
        unfold Ty at hty
        unfold aggT at hagg
        split at hty
        ·obtain ⟨b,rfl⟩:=hty;exact ⟨_,rfl⟩
        ·obtain ⟨b,rfl,_⟩:=hty;exact ⟨_,rfl⟩
        ·obtain ⟨b,rfl,_⟩:=hty;exact ⟨_,rfl⟩
        ·obtain ⟨b,rfl,_⟩:=hty;exact ⟨_,rfl⟩
        ·rename_i hu';simp [hu'] at hagg
        ·rename_i hu';simp [hu'] at hagg
        ·exact hty.elim
      obtain ⟨y,rfl⟩:=h1
      have:=hrd.plain
      simp only [List.all_cons,List.all_nil,Bool.and_true] at this
      simp only [List.headD_cons]
      cases y <;> first | rfl | simp [AV.plain] at this
    have hok:Zbf (P.cellsOf e) xs:=by
     intro i x hix
     obtain ⟨ys,cs',k1,rfl,k3,k4,_⟩:=hxs i x hix
     rw [hpack k1 k3 k4]
     exact ⟨k3.len.trans k4,k3.plain⟩
    refine ⟨[.vec false (P.cellsOf e) xs],⟨xs,rfl,by omega,fun x hx => ?_⟩,.one rfl ?_,hs1.symm⟩
    ·obtain ⟨i,hi⟩:=List.getElem?_of_mem hx
     obtain ⟨ys,cs',k1,k2,_⟩:=hxs i x hi
     exact ⟨ys,k1,k2⟩
    ·subst hxl
     cases hxe:xs with
     | nil=>exact .vecE _ _ _ _ (by simp)
     | cons x0 xs0 =>
      obtain ⟨b,off,spot⟩:=a
      have hlen0:0<xs.length:=by rw [hxe];simp
      obtain ⟨ys0,cs0,_,_,_,z4,z5⟩:=hxs 0 xs[0] (List.getElem?_eq_getElem hlen0)
      obtain ⟨_,_,z6⟩:=World.cells?_some z5
      have z7:=z6 0 hs3
      rw [List.getElem?_eq_getElem (by omega)] at z7
      have hspot:spot=none:=by simpa [Addr.add] using World.cell?_spot z7
      subst hspot
      have hcell:∀ (i:Nat) x (k:Nat) c,xs[i]? = some x->x.cells[k]? = some c -> ∃ cv,w.cell? ⟨b,off+i*P.cellsOf e+k,none⟩=some cv/\DRel (S0 w) c cv:=by
       intro i x k c hix hk
       obtain ⟨ys,cs',k1,rfl,k3,k4,k5⟩:=hxs i x hix
       rw [hpack k1 k3 k4] at hk
       obtain ⟨_,_,k6⟩:=World.cells?_some k5
       have hkl:k<ys.length:=(List.getElem?_eq_some_iff.1 hk).1
       have hkc:k<cs'.length:=by rw [<- k3.len];exact hkl
       have h1:=k6 k (by omega)
       rw [List.getElem?_eq_getElem hkc] at h1
       rw [Zbh,Zbh] at h1
       exact ⟨_,h1,k3.rel k c _ hk (List.getElem?_eq_getElem hkc)⟩
      rw [<- hxe]
      refine .vec false (P.cellsOf e) xs b off cap hok (by simp) hlc (fun i x k c hix hk => ?_) (fun i x k c cv hix hk hcv => ?_)
      ·obtain ⟨cv,h1,_⟩:=hcell i x k c hix hk
       exact ⟨⟨cv,h1⟩,⟨trivial,by simp [S0]⟩⟩
      ·obtain ⟨cv',h1,h2⟩:=hcell i x k c hix hk
       have:cv'=cv:=by
        have h3:w.cell? ⟨b,off+i*P.cellsOf e+k,none⟩=some cv:=hcv
        rw [h1] at h3;exact Option.some.inj h3
       subst this;exact h2
  ·rename_i fs hu
   try simp only [hu]
   simp only [Bool.and_eq_true,List.all_eq_true] at hs
   obtain ⟨hs1,hs2⟩:=hs
   obtain ⟨xs,m,_,_,hl,hxl,hf⟩:=DataW.trod_struct hu hx
   obtain ⟨axs,k1,k2⟩:=Zhk (P:=P) (w:=w) (R:=Ty P n) fs.toList 0 cs (by rw [hl];exact hs2) fun f hfm=>by
    obtain ⟨i,hi⟩:=List.getElem?_of_mem hfm
    have hi':fs[i]? = some f:=by simpa using hi
    have h1:=hf i f hi'
    have hilt:i<xs.length:=by rw [hxl];exact (Array.getElem?_eq_some_iff.1 hi').1
    rw [List.getElem?_eq_getElem hilt] at h1
    obtain ⟨axs,q1,q2,q3⟩:=ZdU n f.type _ _ m (hs1 f hfm) h1
    exact ⟨axs,q1,q2,q3⟩
   exact ⟨axs,k1,by simpa using k2,hl⟩
  ·rename_i m e hu
   try simp only [hu]
   simp only [Bool.and_eq_true,beq_iff_eq] at hs
   obtain ⟨hs1,hs2⟩:=hs
   obtain ⟨xs,q,_,_,hl,hxl,hf⟩:=DataW.trod_array hu hx
   obtain ⟨axs,k1,k2⟩:=read_same (w:=w) (R:=Ty P n) (e:=e) (z:=P.cellsOf e) m cs (by rw [hl,hs2]) fun i hi=>by
    have h1:=hf i hi
    rw [List.getElem?_eq_getElem (by omega)] at h1
    obtain ⟨axs,q1,q2,_⟩:=ZdU n e _ _ q hs1 h1
    exact ⟨axs,q1,q2⟩
   exact ⟨axs,k1,k2,hl⟩
  ·simp at hs
theorem read_arg {n:Nat} {t:TypeId} {v:Value} {d:DataW H} {ps:List MemPlace} {r:Reach} {b0:Nat} (hs:ZdA P n t=true) (hval:Value.okWide P w r b0 t v) (hd:DataW.Trod enc P w 0 sp held t v d ps) :
  ∃ axs,Ty P n t axs/\DRel (S0 w) (ZdG P t axs) v:=by
 obtain ⟨fuel,hf⟩:=hd
 obtain ⟨axs,h1,h2,h3⟩:=ZdU n t _ _ fuel hs hf
 refine ⟨axs,h1,?_⟩
 unfold ZdG
 cases n with
 | zero=>simp [ZdA] at hs
 | succ n =>
  have one:v.cells = #[v]->(∃ a,axs=[a])->DRel (S0 w) (axs.headD .any) v:=by
   rintro hc ⟨a,rfl⟩
   exact h2.rel 0 a v rfl (by rw [hc];rfl)
  unfold Ty at h1
  unfold aggT
  split at h1
  ·rename_i hu
   obtain ⟨b,rfl⟩:=h1
   obtain ⟨b',rfl⟩:=okWide_bool hu hval
   simp only [hu,Bool.false_eq_true,if_false]
   exact one rfl ⟨_,rfl⟩
  ·rename_i hu
   obtain ⟨b,rfl,_⟩:=h1
   obtain ⟨b',rfl⟩:=okWide_int hu hval
   simp only [hu,Bool.false_eq_true,if_false]
   exact one rfl ⟨_,rfl⟩
  ·rename_i hu
   obtain ⟨b,rfl,_⟩:=h1
   obtain ⟨b',rfl⟩:=okWide_string hu hval
   simp only [hu,Bool.false_eq_true,if_false]
   exact one rfl ⟨_,rfl⟩
  ·rename_i hu
   obtain ⟨b,rfl,_⟩:=h1
   obtain ⟨b1,b2,b3,rfl⟩:=okWide_slice hu hval
   simp only [hu,Bool.false_eq_true,if_false]
   exact one rfl ⟨_,rfl⟩
  ·rename_i fs hu
   obtain ⟨cs,rfl,_⟩:=okWide_struct hu hval
   simp only [hu,if_true]
   obtain ⟨cs⟩:=cs
   exact .agg axs cs h2.len h2.rel
  ·rename_i m e hu
   have:∃ cs,v = .agg cs:=by
    unfold Value.okWide at hval
    rw [hu] at hval
    obtain ⟨cs,rfl,_⟩:=hval
    exact ⟨cs,rfl⟩
   obtain ⟨⟨cs⟩,rfl⟩:=this
   simp only [hu,if_true]
   exact .agg axs cs h2.len h2.rel
  ·exact h1.elim
end
theorem Zes {P:Program} {n:Nat} {t:TypeId} {fs:Array Field} {cs:List AV} (hu:P.underlying t=some (.struct fs)) (h:Ty P (n+1) t cs):TyL (Ty P n) (fs.toList.map (·.type)) cs:=by
 unfold Ty at h;rw [hu] at h;exact h
theorem Zeb {P:Program} {n:Nat} {t:TypeId} {k:IntKind} {cs:List AV} (hu:P.underlying t=some (.int k)) (h:Ty P (n+1) t cs):∃ m,cs=[.int k m]/\k.min<=m/\m<=k.max:=by
 unfold Ty at h;rw [hu] at h;exact h
theorem ty_bool {P:Program} {n:Nat} {t:TypeId} {cs:List AV} (hu:P.underlying t=some .bool) (h:Ty P (n+1) t cs):∃ b,cs=[.bool b]:=by
 unfold Ty at h;rw [hu] at h;exact h
theorem list_form {τ:Type} {enc:τ->AV}:∀ (xs:List AV),(∀ x ∈ xs,∃ a,x=enc a) -> ∃ X:List τ,xs=X.map enc
 | [],_=>⟨[],rfl⟩
 | x::xs,h=>by
  obtain ⟨a,rfl⟩:=h x (List.mem_cons_self ..)
  obtain ⟨X,rfl⟩:=list_form xs fun y hy=>h y (List.mem_cons_of_mem _ hy)
  exact ⟨a::X,rfl⟩
theorem ty_list {P:Program} {τ:Type} {enc:τ->AV} {n:Nat} {t e:TypeId} {cs:List AV} (hu:P.underlying t=some (.slice e)) (he:∀ ys,Ty P n e ys -> ∃ a,ZdG P e ys=enc a) (h:Ty P (n+1) t cs) :
  ∃ X:List τ,cs=[.vec false (P.cellsOf e) (X.map enc)]/\X.length<=maxLen:=by
 simp only [Ty,hu] at h
 obtain ⟨xs,rfl,hl,hx⟩:=h
 obtain ⟨X,rfl⟩:=list_form (enc:=enc) xs fun x hxm=>by
  obtain ⟨ys,h1,rfl⟩:=hx x hxm
  obtain ⟨a,ha⟩:=he ys h1
  exact ⟨a,ha⟩
 exact ⟨X,rfl,by simpa using hl⟩
end Go.Av

namespace Go.Av
open Go.RowKit Go.WideShapes Go.ChangeShapes
section
variable {H:Type} {enc:TypeId × Value->H} {P:Program}
theorem all_stays (hl:laidOutB P=true) {W W':World} {sp:Nat->Bool} (hb:Below W.heap.size W W'):∀ (ts:List TypeId) (vs:List Value) (ds:List (DataW H)) (ps:List MemPlace),
  (∀ t ∈ ts,P.readableRec t=true/\t<P.types.size)->(∀ x ∈ ps,x.block<W.heap.size)->(∀ x ∈ ps,sp x.block=true)->DataW.TrodAll enc P W 0 (fun _=>true) true ts vs ds ps->DataW.TrodAll enc P W' 0 sp true ts vs ds ps
 | [],vs,ds,ps,_,_,_,h=>by
  obtain ⟨rfl,rfl,rfl⟩:=trodAll_nil h
  rfl
 | t::ts,vs,ds,ps,ht,hlt,hsp,h=>by
  obtain ⟨v,vs,d,ds,p,q,rfl,rfl,rfl,h1,h2⟩:=trodAll_cons h
  obtain ⟨r1,r2⟩:=ht t (List.mem_cons_self ..)
  exact ⟨p,q,WideElems.Trod_stays hl r1 r2 h1 (fun x hx=>hb.same (hlt x (by simp [hx]))) (fun x hx=>hsp x (by simp [hx])),
   all_stays hl hb ts vs ds q (fun t ht'=>ht t (List.mem_cons_of_mem _ ht')) (fun x hx=>hlt x (by simp [hx])) (fun x hx=>hsp x (by simp [hx])) h2,rfl⟩
theorem args_read {W:World} {n base:Nat}:∀ (ts:List TypeId) (vs:List Value) (ds:List (DataW H)) (ps:List MemPlace),(∀ t ∈ ts,ZdA P n t=true) ->
  (∀ (j:Nat) t v,ts[j]? = some t->vs[j]? = some v->Value.okWide P W .any base t v)->DataW.TrodAll enc P W 0 (fun _=>true) true ts vs ds ps ->
  ∃ ass:List (List AV),ass.length=ts.length/\(∀ (j:Nat) t bs,ts[j]? = some t->ass[j]? = some bs->Ty P n t bs)/\RelL (S0 W) ((ts.zip ass).map fun x=>ZdG P x.1 x.2) vs/\ds.length=ts.length
 | [],vs,ds,ps,_,_,h=>by
  obtain ⟨rfl,rfl,rfl⟩:=trodAll_nil h
  exact ⟨[],rfl,by simp,.nil _,rfl⟩
 | t::ts,vs,ds,ps,hs,hv,h=>by
  obtain ⟨v,vs,d,ds,p,q,rfl,rfl,rfl,h1,h2⟩:=trodAll_cons h
  obtain ⟨bs,k1,k2⟩:=read_arg (hs t (List.mem_cons_self ..)) (hv 0 t v rfl rfl) h1
  obtain ⟨ass,m1,m2,m3,m4⟩:=args_read ts vs ds q (fun t ht=>hs t (List.mem_cons_of_mem _ ht)) (fun j t v hj hv'=>hv (j+1) t v (by simpa using hj) (by simpa using hv')) h2
  refine ⟨bs::ass,by simp [m1],fun j t' bs' hj ha => ?_,.cons (.data _ _ k2) m3,by simp [m4]⟩
  cases j with
  | zero=>simp at hj ha;subst hj;subst ha;exact k1
  | succ j=>exact m2 j t' bs' (by simpa using hj) (by simpa using ha)
theorem law_post {M:Mach} (hP:M.P ()=P) (hm:P.follows .mixedOrders=true) (hl:laidOutB P=true) {f:FuncId} {F:Func} {s:ChangeSpec} {n:Nat} {tb:TypeId} (hvars:s.vars=[]) (hrt:F.resultTypes = #[tb]) (htb:P.underlying tb=some .bool)
  (hserved:∀ t ∈ F.params.toList,ZdA P n t=true/\P.readableRec t=true/\t<P.types.size)
  (hs:∀ (ds:List (DataW H)),ds.length=F.params.toList.length->s.fn H ds = { results:=[.lit (.bool true)],args:=ds })
  (hev:∀ ass:List (List AV),ass.length=F.params.toList.length->(∀ (j:Nat) t bs,F.params.toList[j]? = some t->ass[j]? = some bs->Ty P n t bs) ->
   Ev M (.pure f ((F.params.toList.zip ass).map fun x=>ZdG P x.1 x.2)) (.bool true) [])
  {apart handsOn:Bool} {W:World} {base:Nat} {args:Array Value} {ds gs:List (DataW H)} {before:List MemPlace}
  (hval:∀ (j:Nat) t v,F.params[j]? = some t->args[j]? = some v->Value.okWide P W .any base t v) (hW:DataW.Whole enc P F.params.toList s.vars apart W args.toList ds gs before) :
  Calls P f args W fun e W' => ∃ v,e = .returned v/\s.post enc P F apart true handsOn false W args v W':=by
 have hW':=hW
 obtain ⟨p,q,hA,hV,rfl,hfz,hnd⟩:=hW
 rw [hvars] at hV
 obtain ⟨rfl,rfl⟩:=trodVars_none hV
 obtain ⟨ass,k1,k2,k3,k4⟩:=args_read F.params.toList args.toList ds p (fun t ht=>(hserved t ht).1) (fun j t v hj hv=>hval j t v (by simpa using hj) (by simpa using hv)) hA
 have hlt:∀ x ∈ p,x.block<W.heap.size:=fun x hx=>by simpa using hW'.lt x (by simpa using hx)
 obtain ⟨_,h2⟩:=(ev_sound (M:=M) (by rw [hP];exact hm) (hev ass k1 k2):ZgY M f _ _) W.heap.size (fun _ _=>True) W args.toList (Nat.le_refl _) (fun _ _ _=>trivial) k3
 rw [hP] at h2
 refine Calls.mono h2 fun e W' he => ?_
 cases e with
 | returned cv =>
  obtain ⟨hb,hd⟩:=he
  cases hd
  have hpl:∀ x ∈ p,decide (x.block<W.heap.size)=true:=fun x hx=>by simpa using hlt x hx
  refine ⟨_,rfl,ds,[],p++[],[],p,[],hW',?_,?_,?_,hb.frame _,fun h=>by simp at h⟩
  ·rw [List.append_nil,hs ds k4,hrt]
   exact trodAll_mk1 (shut_bool htb true)
  ·rw [List.append_nil,hs ds k4]
   exact all_stays hl hb _ _ _ _ (fun t ht=>(hserved t ht).2) hlt hpl hA
  ·rw [List.append_nil,hs ds k4,hvars];rfl
 | panicked c=>exact he.elim
 | outgrown=>exact he.elim
end
end Go.Av

namespace Go.Av
def Zad (d:AV):AV->Heap->Prop:=fun v L => ∃ d0,pureA L v=some d0/\allB (versA L v)/\d0.clean=true/\Weak d0 d
theorem ZdE {L:Heap} {v d dq:AV} {bs:List Bool} (h1:pureA L v=some d) (h2:versA L v=bs) (h3:allB bs) (h4:d.clean=true) (h:Weak d dq):Zad dq v L:=⟨d,h1,by rw [h2];exact h3,h4,h⟩
theorem pure_pq {M:Mach} {f:FuncId} {args:List AV} {d:AV} (fn:Func) (fi:Fi) (hf:(M.P ()).funcs[f]? = some fn) (hb:fn.body=some (cd fn)) (hn:(fn.name == "runtime.NumGoroutine")=false)
  (hi:(⟨fn.ntmps,fn.results.toList⟩:Fi)=fi) (h:Wp M (.run fi [.code (cd fn)] (ZbG 0 args) []) (Zad d)):Ev M (.pure f args) d []:=
 .pure (.mono (own_wp fn fi hf hb hn hi h) fun _ _ ⟨d0,h1,h2,h3,h4⟩=>⟨d0,d,h1,(Zd7 _).1 h2,h3,h4,rfl,rfl⟩)
mutual
theorem clean_ren (f:Nat->Nat):∀ (a:AV),a.clean=true->renA f a=a
 | .any,h=>by simp [AV.clean] at h
 | .bool _,_=>rfl
 | .int _ _,_=>rfl
 | .str _,_=>rfl
 | .nilp,_=>rfl
 | .nilf,_=>rfl
 | .nilm,_=>rfl
 | .mapr _,h=>by simp [AV.clean] at h
 | .vnil,_=>rfl
 | .eptr ..,_=>rfl
 | .vec ..,_=>rfl
 | .ptr ..,h=>by simp [AV.clean] at h
 | .row ..,h=>by simp [AV.clean] at h
 | .ref ..,h=>by simp [AV.clean] at h
 | .agg cs,h=>by simp only [renA,cleanL_ren f cs (by simpa [AV.clean] using h)]
 | .tup cs,h=>by simp only [renA,cleanL_ren f cs (by simpa [AV.clean] using h)]
 | .func fn a b,h=>by
  simp only [AV.clean,Bool.and_eq_true] at h
  simp only [renA,cleanL_ren f a h.1,cleanL_ren f b h.2]
theorem cleanL_ren (f:Nat->Nat):∀ (l:List AV),cleanL l=true->renL f l=l
 | [],_=>rfl
 | c::l,h=>by
  simp only [cleanL,Bool.and_eq_true] at h
  simp only [renL,clean_ren f c h.1,cleanL_ren f l h.2]
end
mutual
theorem pureA_ren {L K:Heap} {f:Nat->Nat} (hb:∀ (r:Nat) row,L[r]? = some row->K[f r]? = some (Zao f row)):∀ (a:AV) {d:AV},pureA L a=some d->pureA K (renA f a)=some d/\versA K (renA f a)=versA L a
 | .any,_,h=>by simp [pureA] at h
 | .bool b,_,h=>⟨h,rfl⟩
 | .int k n,_,h=>⟨h,rfl⟩
 | .str s,_,h=>⟨h,rfl⟩
 | .nilp,_,h=>⟨h,rfl⟩
 | .nilf,_,h=>⟨h,rfl⟩
 | .nilm,_,h=>⟨h,rfl⟩
 | .mapr _,_,h=>by simp [pureA] at h
 | .vnil,_,h=>⟨h,rfl⟩
 | .eptr ..,_,h=>⟨h,rfl⟩
 | .vec ..,_,h=>⟨h,rfl⟩
 | .row r v,_,h=>by
  cases hr:L[r]? with
  | none=>simp [pureA,hr] at h
  | some row =>
   have h2:=hb r row hr
   obtain ⟨_,s2,_,_,_⟩:=ZaM f row
   simp only [pureA,hr] at h
   split at h
   ·rename_i hc
    have e:Zao f row=row:=by simp [Zao,hc]
    exact ⟨by simp only [renA,pureA,h2,e,hc,if_true];exact h,by simp only [renA,versA,ZcN,h2,hr,s2]⟩
   ·simp at h
 | .ref r v lo len,_,h=>by
  cases hr:L[r]? with
  | none=>simp [pureA,hr] at h
  | some row =>
   have h2:=hb r row hr
   obtain ⟨_,s2,_,_,_⟩:=ZaM f row
   simp only [pureA,hr] at h
   split at h
   ·rename_i hc
    have e:Zao f row=row:=by simp [Zao,hc]
    exact ⟨by simp only [renA,pureA,h2,e,hc,if_true];exact h,by simp only [renA,versA,ZcN,h2,hr,s2]⟩
   ·simp at h
 | .ptr r v i j,_,h=>by
  cases hr:L[r]? with
  | none=>simp [pureA,hr] at h
  | some row =>
   have h2:=hb r row hr
   obtain ⟨s1,s2,_,_,_⟩:=ZaM f row
   simp only [pureA,hr] at h
   split at h
   ·rename_i x hx
    split at h
    ·rename_i hcx
     have e:(Zao f row).elems=[x]:=by
      unfold Zao
      cases hc:row.clean with
      | true=>simpa using hx
      | false=>simp only [cond_false,hx,renL,clean_ren f x hcx]
     exact ⟨by simp only [renA,pureA,h2,e,hcx,s1,if_true];exact h,by simp only [renA,versA,ZcN,h2,hr,s2]⟩
    ·simp at h
   ·simp at h
 | .agg cs,_,h=>by
  cases hr:pureL L cs with
  | none=>simp [pureA,hr] at h
  | some ds =>
   obtain ⟨h1,h2⟩:=pureL_ren hb cs hr
   exact ⟨by simpa only [renA,pureA,h1,hr] using h,by simp only [renA,versA,h2]⟩
 | .tup cs,_,h=>by
  cases hr:pureL L cs with
  | none=>simp [pureA,hr] at h
  | some ds =>
   obtain ⟨h1,h2⟩:=pureL_ren hb cs hr
   exact ⟨by simpa only [renA,pureA,h1,hr] using h,by simp only [renA,versA,h2]⟩
 | .func fn a b,_,h=>by
  cases hr:pureL L a with
  | none=>simp [pureA,hr] at h
  | some ds =>
   cases hr2:pureL L b with
   | none=>simp [pureA,hr,hr2] at h
   | some ds2 =>
    obtain ⟨h1,h2⟩:=pureL_ren hb a hr
    obtain ⟨h3,h4⟩:=pureL_ren hb b hr2
    exact ⟨by simpa only [renA,pureA,h1,h3,hr,hr2] using h,by simp only [renA,versA,h2,h4]⟩
theorem pureL_ren {L K:Heap} {f:Nat->Nat} (hb:∀ (r:Nat) row,L[r]? = some row->K[f r]? = some (Zao f row)):∀ (l:List AV) {ds:List AV},pureL L l=some ds->pureL K (renL f l)=some ds/\versL K (renL f l)=versL L l
 | [],_,h=>⟨h,rfl⟩
 | c::l,_,h=>by
  cases hr:pureA L c with
  | none=>simp [pureL,hr] at h
  | some d =>
   cases hr2:pureL L l with
   | none=>simp [pureL,hr,hr2] at h
   | some ds2 =>
    obtain ⟨h1,h2⟩:=pureA_ren hb c hr
    obtain ⟨h3,h4⟩:=pureL_ren hb l hr2
    exact ⟨by simpa only [renL,pureL,h1,h3,hr,hr2] using h,by simp only [renL,versL,h2,h4]⟩
end
theorem back_at {L L1:Heap} {rs:List Nat} {rows:List Row} (hrows:ZaL L rs=some rows) (hnd:rs.Nodup) (r:Nat) (row:Row) (h:L1[r]? = some row) :
  (Zfe L rs L1)[Zc6 L.length rs r]? = some (Zao (Zc6 L.length rs) row):=by
 obtain ⟨g1,g2⟩:=ZaH hrows
 unfold Zfe
 by_cases hlt:r<rs.length
 ·have hb:Nat.blt r rs.length=true:=Nat.blt_eq.mpr hlt
  have e:Zc6 L.length rs r=rs[r]:=by simp [Zc6,hb,hlt]
  obtain ⟨row0,k1,_⟩:=g2 r _ (List.getElem?_eq_getElem hlt)
  have hin:rs[r]<L.length:=(List.getElem?_eq_some_iff.1 k1).1
  rw [e,List.getElem?_append_left (by rw [ZaK];exact hin)]
  exact Zez rs _ _ hnd r _ _ (List.getElem?_eq_getElem hlt) (by rw [List.getElem?_map,List.getElem?_take_of_lt hlt,h];rfl) hin
 ·have hb:Nat.blt r rs.length=false:=by
   cases hb:Nat.blt r rs.length with
   | false=>rfl
   | true=>have:=Nat.blt_eq.mp hb;omega
  have e:Zc6 L.length rs r=L.length+(r-rs.length):=by simp [Zc6,hb]
  rw [e,List.getElem?_append_right (by rw [ZaK];omega),ZaK,List.getElem?_map,List.getElem?_drop]
  have e2:rs.length+(L.length+(r-rs.length)-L.length)=r:=by omega
  rw [e2,h];rfl
theorem ZaV {M:Mach} {fi:Fi} {k:List Item} {env env':Vars} {L Lc:Heap} {d:AV} (rs:List Nat) (hn:Zdc L rs env=some (env',Lc)) (h:Wp M (.run fi k env' Lc) (Zad d)):Wp M (.run fi k env L) (Zad d):=by
 refine .narrow rs env' Lc hn (.mono h fun v L1 ⟨d0,hq1,hq2,hq3,hq4⟩ => ?_)
 unfold Zdc at hn
 split at hn
 ·rename_i rows hrows
  split at hn
  ·rename_i hc
   simp only [Bool.and_eq_true] at hc
   obtain ⟨p1,p2⟩:=pureA_ren (back_at (L1:=L1) hrows ((Zc1 rs).1 hc.1)) v hq1
   exact ⟨d0,p1,by rw [p2];exact hq2,hq3,hq4⟩
  ·simp at hn
 ·simp at hn
theorem own_keep {M:Mach} {f:FuncId} {args:List AV} {L:Heap} {v:AV} {K:Heap} (fn:Func) (fi:Fi) (hf:(M.P ()).funcs[f]? = some fn) (hb:fn.body=some (cd fn)) (hn:(fn.name == "runtime.NumGoroutine")=false)
  (hi:(⟨fn.ntmps,fn.results.toList⟩:Fi)=fi) (hk:Zfn L.length v K=true) (h:Wp M (.run fi [.code (cd fn)] (ZbG 0 args) L) (Zg5 v K)):Ev M (.own f args L) v K:=
 .drop hk (own_wp fn fi hf hb hn hi h)
end Go.Av

namespace Go.Av
namespace Sp
def Zaq:Nat->Nat->List Int
 | 0,_=>[]
 | n+1,v=>((v % 1000000000:Nat):Int)::Zaq n (v / 1000000000)
def cnt (v:Nat):Nat:=if h:v=0 then 0 else cnt (v / 1000000000)+1
termination_by v
decreasing_by omega
def lim (v:Nat):List Int:=Zaq (cnt v) v
def fits (n v:Nat):Prop:=v<1000000000 ^ n
end Sp
theorem Zbw:Sp.cnt 0=0:=by rw [Sp.cnt];rfl
theorem cnt_pos {v:Nat} (h:v ≠ 0):Sp.cnt v=Sp.cnt (v / 1000000000)+1:=by
 conv=>lhs;rw [Sp.cnt]
 rw [dif_neg h]
theorem Zal (n:Nat):∀ v,(Sp.Zaq n v).length=n:=by
 induction n with
 | zero=>intro v;rfl
 | succ n ih=>intro v;simp [Sp.Zaq,ih]
theorem Zaz (n v:Nat):Sp.Zaq (n+1) v=((v % 1000000000:Nat):Int)::Sp.Zaq n (v / 1000000000):=rfl
theorem limN_ok (n:Nat):∀ v,∀ x ∈ Sp.Zaq n v,0<=x/\x<1000000000:=by
 induction n with
 | zero=>intro v x h;simp [Sp.Zaq] at h
 | succ n ih =>
  intro v x h
  rcases List.mem_cons.1 h with rfl | h
  ·omega
  ·exact ih _ x h
theorem ZaG (v:Nat):(Sp.lim v).length=Sp.cnt v:=Zal _ _
theorem Za6 {v:Nat}:Sp.fits 0 v ↔ v=0:=by unfold Sp.fits;simp
theorem ZbN {n v:Nat}:Sp.fits (n+1) v ↔ Sp.fits n (v / 1000000000):=by
 unfold Sp.fits
 rw [Nat.pow_succ,Nat.div_lt_iff_lt_mul (by omega)]
theorem Zav:∀ {n v:Nat},Sp.fits n v ↔ Sp.cnt v<=n
 | 0,v=>by
  rw [Za6]
  by_cases h:v=0
  ·subst h;simp [Zbw]
  ·rw [cnt_pos h];omega
 | n+1,v=>by
  rw [ZbN,Zav]
  by_cases h:v=0
  ·subst h;simp [Zbw]
  ·rw [cnt_pos h];omega
theorem Zag (v:Nat):Sp.fits (Sp.cnt v) v:=Zav.2 (Nat.le_refl _)
theorem ZaW {n m v:Nat} (h:Sp.fits n v) (hm:n<=m):Sp.fits m v:=Zav.2 (Nat.le_trans (Zav.1 h) hm)
theorem ZcG {n v w:Nat} (h:Sp.fits n v) (hw:w<=v):Sp.fits n w:=Nat.lt_of_le_of_lt hw h
theorem ZaQ {v w:Nat} (h:v<=w):Sp.cnt v<=Sp.cnt w:=Zav.1 (ZcG (Zag w) h)
theorem ZaC {v:Nat}:Sp.cnt v=0 ↔ v=0:=by
 constructor
 ·intro h
  have:=Zav.2 (show Sp.cnt v<=0 by omega)
  exact Za6.1 this
 ·rintro rfl;exact Zbw
theorem Zco:Sp.lim 0=[]:=by unfold Sp.lim;rw [Zbw];rfl
def valL:List Int->Nat
 | []=>0
 | x::l=>x.toNat+1000000000*valL l
theorem val_limN:∀ (n v:Nat),Sp.fits n v->valL (Sp.Zaq n v)=v
 | 0,v,h=>(Za6.1 h).symm
 | n+1,v,h=>by
  rw [Zaz,valL,val_limN n _ (ZbN.1 h)];omega
theorem ZfL:∀ (l:List Int),(∀ x ∈ l,0<=x/\x<1000000000)->l=Sp.Zaq l.length (valL l)/\Sp.fits l.length (valL l)
 | [],_=>⟨rfl,Za6.2 rfl⟩
 | x::l,h=>by
  obtain ⟨h1,h2⟩:=ZfL l fun y hy=>h y (List.mem_cons_of_mem _ hy)
  have hx:=h x (by simp)
  have e1:valL (x::l) / 1000000000=valL l:=by rw [valL];omega
  have e2:((valL (x::l) % 1000000000:Nat):Int)=x:=by rw [valL];omega
  refine ⟨?_,?_⟩
  ·rw [List.length_cons,Zaz,e1,e2,<- h1]
  ·rw [List.length_cons,ZbN,e1];exact h2
theorem ZeH:∀ (i n v:Nat),i<=n->(Sp.Zaq n v).drop i=Sp.Zaq (n-i) (v / 1000000000 ^ i)
 | 0,n,v,_=>by simp
 | i+1,0,v,h=>by omega
 | i+1,n+1,v,h=>by
  rw [Zaz,List.drop_succ_cons,ZeH i n _ (by omega),Nat.div_div_eq_div_mul,Nat.pow_succ,Nat.mul_comm]
  congr 1;omega
theorem Zaw {i n:Nat} (v:Nat) (h:i<n):(Sp.Zaq n v).getD i default=((v / 1000000000 ^ i % 1000000000:Nat):Int):=by
 have h1:=ZeH i n v (by omega)
 rw [ZbA (by rw [Zal];exact h)] at h1
 have e:n-i=(n-i-1)+1:=by omega
 rw [e,Zaz] at h1
 exact (List.cons.inj h1).1
theorem ZgA (n:Nat):Sp.Zaq n 0=List.replicate n 0:=by
 induction n with
 | zero=>rfl
 | succ n ih=>rw [Zaz,List.replicate_succ,<- ih];rfl
theorem ZdK:∀ (n v:Nat),Sp.Zaq (n+1) v=Sp.Zaq n v++[((v / 1000000000 ^ n % 1000000000:Nat):Int)]
 | 0,v=>by simp [Sp.Zaq]
 | n+1,v=>by
  rw [Zaz,ZdK n,Zaz,List.cons_append,Nat.div_div_eq_div_mul,Nat.pow_succ,Nat.mul_comm (1000000000 ^ n)]
theorem ZbB {n v:Nat} (h:Sp.fits (n+1) v):v / 1000000000 ^ n<1000000000:=by
 unfold Sp.fits at h
 rw [Nat.pow_succ] at h
 exact Nat.div_lt_of_lt_mul h
theorem Zc4 {n v:Nat}:Sp.fits n v ↔ v / 1000000000 ^ n=0:=by
 unfold Sp.fits
 rw [Nat.div_eq_zero_iff]
 have:0<1000000000 ^ n:=Nat.pow_pos (by omega)
 omega
theorem limN_take (n v:Nat):(Sp.Zaq (n+1) v).take n=Sp.Zaq n v:=by
 rw [ZdK,List.take_append_of_le_length (by rw [Zal];omega),List.take_of_length_le (by rw [Zal];omega)]
theorem lim_of {n v:Nat} (h:Sp.fits n v) (h2:n=0\/¬Sp.fits (n-1) v):Sp.Zaq n v=Sp.lim v:=by
 have:Sp.cnt v=n:=by
  have h1:=Zav.1 h
  rcases h2 with h2 | h2
  ·omega
  ·have h3:¬Sp.cnt v<=n-1:=fun k=>h2 (Zav.2 k)
   omega
 unfold Sp.lim;rw [this]
end Go.Av

namespace Go.Av
theorem plus_step (k V W c:Nat):Sp.Zaq (k+1) (V+W+c)=(((V % 1000000000+W % 1000000000+c) % 1000000000:Nat):Int)::Sp.Zaq k (V / 1000000000+W / 1000000000+(V % 1000000000+W % 1000000000+c) / 1000000000):=by
 rw [Zaz]
 have e1:(V+W+c) % 1000000000=(V % 1000000000+W % 1000000000+c) % 1000000000:=by omega
 have e2:(V+W+c) / 1000000000=V / 1000000000+W / 1000000000+(V % 1000000000+W % 1000000000+c) / 1000000000:=by omega
 rw [e1,e2]
theorem Zhv (k V W c:Nat) (h:W+c<=V) (hc:c<=1) :
  (V % 1000000000<W % 1000000000+c->Sp.Zaq (k+1) (V-W-c)=((V % 1000000000+1000000000-(W % 1000000000+c):Nat):Int)::Sp.Zaq k (V / 1000000000-W / 1000000000-1)/\W / 1000000000+1<=V / 1000000000) /\
  (¬V % 1000000000<W % 1000000000+c->Sp.Zaq (k+1) (V-W-c)=((V % 1000000000-(W % 1000000000+c):Nat):Int)::Sp.Zaq k (V / 1000000000-W / 1000000000-0)/\W / 1000000000+0<=V / 1000000000):=by
 refine ⟨fun hl=>⟨?_,by omega⟩,fun hl=>⟨?_,by omega⟩⟩
 ·rw [Zaz]
  have e1:(V-W-c) % 1000000000=V % 1000000000+1000000000-(W % 1000000000+c):=by omega
  have e2:(V-W-c) / 1000000000=V / 1000000000-W / 1000000000-1:=by omega
  rw [e1,e2]
 ·rw [Zaz]
  have e1:(V-W-c) % 1000000000=V % 1000000000-(W % 1000000000+c):=by omega
  have e2:(V-W-c) / 1000000000=V / 1000000000-W / 1000000000-0:=by omega
  rw [e1,e2]
theorem ZeD (x Y:Nat):x*Y=1000000000*(x*(Y / 1000000000))+x*(Y % 1000000000):=by
 conv=>lhs;rw [<- Nat.div_add_mod Y 1000000000]
 rw [Nat.mul_add,Nat.mul_left_comm]
theorem Zhf (k U x Y c:Nat):Sp.Zaq (k+1) (U+x*Y+c)=(((U % 1000000000+x*(Y % 1000000000)+c) % 1000000000:Nat):Int)::Sp.Zaq k (U / 1000000000+x*(Y / 1000000000)+(U % 1000000000+x*(Y % 1000000000)+c) / 1000000000):=by
 rw [Zaz]
 have h:=ZeD x Y
 generalize x*Y=p at h
 generalize x*(Y / 1000000000)=q at h
 generalize x*(Y % 1000000000)=r at h
 have e1:(U+p+c) % 1000000000=(U % 1000000000+r+c) % 1000000000:=by omega
 have e2:(U+p+c) / 1000000000=U / 1000000000+q+(U % 1000000000+r+c) / 1000000000:=by omega
 rw [e1,e2]
theorem Zhe {u x y c:Nat} (hu:u<1000000000) (hx:x<1000000000) (hy:y<1000000000) (hc:c<1000000000):u+x*y+c<1000000000000000000/\(u+x*y+c) / 1000000000<1000000000:=by
 have h1:x*y<=999999999*y:=Nat.mul_le_mul_right _ (by omega)
 omega
theorem fits_mul {m P U w x:Nat} (hP:P=1000000000 ^ m) (hU:U<P) (hw:w<P) (hx:x<1000000000):Sp.fits (m+1) (U+x*w):=by
 unfold Sp.fits
 rw [Nat.pow_succ,<- hP]
 have h1:x*w<=999999999*w:=Nat.mul_le_mul_right _ (by omega)
 omega
theorem ZcI (U x b:Nat) (hx:x<1000000000) (hb:0<b):(x+1000000000*U) / b=1000000000*(U / b)+(U % b*1000000000+x) / b/\(x+1000000000*U) % b=(U % b*1000000000+x) % b/\(U % b*1000000000+x) / b<1000000000:=by
 have h:=Nat.div_add_mod U b
 have hm:=Nat.mod_lt U hb
 generalize U / b=q at h
 generalize U % b=r at h hm
 have e:x+1000000000*U=r*1000000000+x+b*(1000000000*q):=by
  rw [<- h];grind
 refine ⟨?_,?_,?_⟩
 ·rw [e,Nat.add_mul_div_left _ _ hb];omega
 ·rw [e,Nat.add_mul_mod_self_left]
 ·apply Nat.div_lt_of_lt_mul
  have:r*1000000000+1000000000<=b*1000000000:=by
   have:(r+1)*1000000000<=b*1000000000:=Nat.mul_le_mul_right _ (by omega)
   omega
  omega
theorem lim_limN {n v:Nat} (h:Sp.fits n v):(Sp.Zaq n v).take (Sp.cnt v)=Sp.lim v:=by
 have hc:=Zav.1 h
 obtain ⟨d,hd⟩:∃ d,n=Sp.cnt v+d:=⟨n-Sp.cnt v,by omega⟩
 subst hd
 clear h hc
 unfold Sp.lim
 induction d with
 | zero=>rw [Nat.add_zero,List.take_of_length_le (by rw [Zal];omega)]
 | succ d ih=>rw [<- Nat.add_assoc,ZdK,List.take_append_of_le_length (by rw [Zal];omega),ih]
def sgnI (n:Int):Int:=if n<0 then -1 else if n>0 then 1 else 0
theorem cmp_len {v w:Nat} (h:Sp.cnt v<Sp.cnt w):v<w:=by
 rcases Nat.lt_or_ge v w with h1 | h1
 ·exact h1
 ·have:=ZaQ h1;omega
theorem ZaN (v i:Nat):v / 1000000000 ^ i=1000000000*(v / 1000000000 ^ (i+1))+v / 1000000000 ^ i % 1000000000:=by
 rw [Nat.pow_succ,<- Nat.div_div_eq_div_mul];omega
theorem ZfO {v w i:Nat} (h:v / 1000000000 ^ i<w / 1000000000 ^ i):v<w:=by
 rcases Nat.lt_or_ge v w with h1 | h1
 ·exact h1
 ·have:=Nat.div_le_div_right (c:=1000000000 ^ i) h1;omega
end Go.Av

namespace Go.Av
def Sp.flo (a b:Int):Int:=if 0<b then a / b else (-a) / (-b)
def Sp.flr (a b:Int):Int:=a-b*Sp.flo a b
theorem Zd4 {a b q r:Int} (h:a=b*q+r) (hr:(0<=r/\r<b)\/(b<r/\r<=0)):Sp.flo a b=q/\Sp.flr a b=r:=by
 have h1:Sp.flo a b=q:=by
  unfold Sp.flo
  rcases hr with hr | hr
  ·rw [if_pos (by omega)]
   exact ((Int.ediv_emod_unique (by omega)).2 ⟨by omega,hr.1,hr.2⟩).1
  ·rw [if_neg (by omega)]
   refine ((Int.ediv_emod_unique (r:=-r) (by omega)).2 ⟨?_,by omega,by omega⟩).1
   rw [h,Int.neg_mul];omega
 refine ⟨h1,?_⟩
 unfold Sp.flr
 rw [h1];omega
end Go.Av

namespace Go.Av
structure Est (P W V:Nat):Prop where
 P0:0<P
 hV:1000000000<=V / P
 hW:W<V*1000000000
theorem Est.V0 {P W V:Nat} (h:Est P W V):0<V:=by
 rcases Nat.eq_zero_or_pos V with e | e
 ·have:=h.hW;subst e;omega
 ·exact e
theorem Est.q_lt {P W V:Nat} (h:Est P W V):W / V<1000000000:=Nat.div_lt_of_lt_mul h.hW
theorem Est.v1 {P W V:Nat} (h:Est P W V):0<V / P / 1000000000:=by have:=h.hV;omega
theorem Est.start {P W V:Nat} (h:Est P W V):W / V<=W / P / 1000000000 / (V / P / 1000000000):=by
 rw [Nat.le_div_iff_mul_le h.v1]
 have e1:W / V*V<=W:=Nat.div_mul_le_self W V
 have e2:V / P*P<=V:=Nat.div_mul_le_self V P
 have e3:W / V*(V / P)*P<=W:=by
  rw [Nat.mul_assoc]
  exact Nat.le_trans (Nat.mul_le_mul_left _ e2) e1
 have e4:W / V*(V / P)<=W / P:=(Nat.le_div_iff_mul_le h.P0).2 e3
 have e5:W / V*(V / P / 1000000000)*1000000000<=W / P:=by
  rw [Nat.mul_assoc]
  exact Nat.le_trans (Nat.mul_le_mul_left _ (Nat.div_mul_le_self _ _)) e4
 exact (Nat.le_div_iff_mul_le (by omega)).2 e5
theorem Est.more {P W V g r:Nat} (h:Est P W V) (hg:g*(V / P / 1000000000)+r=W / P / 1000000000) (ht:g>=1000000000\/g*(V / P % 1000000000)>r*1000000000+W / P % 1000000000):W / V<g:=by
 rcases ht with ht | ht
 ·have:=h.q_lt;omega
 ·have e1:g*(V / P)>W / P:=by
   have k:=ZeD g (V / P)
   have k2:=Nat.div_add_mod (W / P) 1000000000
   rw [<- hg] at k2
   generalize g*(V / P)=x at k
   generalize g*(V / P / 1000000000)=y at k k2
   generalize g*(V / P % 1000000000)=z at k ht
   omega
  have e2:W<g*(V / P)*P:=by
   have:W / P+1<=g*(V / P):=e1
   have k:=Nat.mul_le_mul_right P this
   have k2:=Nat.lt_mul_div_succ W h.P0
   rw [Nat.mul_comm] at k2
   omega
  have e3:g*(V / P)*P<=g*V:=by
   rw [Nat.mul_assoc];exact Nat.mul_le_mul_left _ (Nat.div_mul_le_self V P)
  exact Nat.div_lt_of_lt_mul (by rw [Nat.mul_comm];omega)
theorem Est.less {P W V g r:Nat} (h:Est P W V) (hg:g*(V / P / 1000000000)+r=W / P / 1000000000) (ht:g*(V / P % 1000000000)<=r*1000000000+W / P % 1000000000):g<=W / V+1:=by
 have e1:g*(V / P)<=W / P:=by
  have k:=ZeD g (V / P)
  have k2:=Nat.div_add_mod (W / P) 1000000000
  rw [<- hg] at k2
  generalize g*(V / P)=x at k
  generalize g*(V / P / 1000000000)=y at k k2
  generalize g*(V / P % 1000000000)=z at k ht
  omega
 have e2:g*(V / P)*P<=W:=Nat.le_trans (Nat.mul_le_mul_right P e1) (Nat.div_mul_le_self W P)
 have e3:W<(W / V+1)*V:=by
  have:=Nat.lt_mul_div_succ W h.V0
  rwa [Nat.mul_comm] at this
 have e4:V<(V / P+1)*P:=by
  have:=Nat.lt_mul_div_succ V h.P0
  rwa [Nat.mul_comm] at this
 have hq:=h.q_lt
 have hV:=h.hV
 generalize W / V=q at e3 hq
 generalize V / P=d at e1 e2 e4 hV
 have e5:g*d*P<(q+1)*(d+1)*P:=by
  have:(q+1)*V<=(q+1)*((d+1)*P):=Nat.mul_le_mul_left _ (by omega)
  rw [<- Nat.mul_assoc] at this
  omega
 have e6:g*d<(q+1)*(d+1):=Nat.lt_of_mul_lt_mul_right e5
 rcases Nat.lt_or_ge g (q+2) with k | k
 ·omega
 ·have e7:(q+2)*d<=g*d:=Nat.mul_le_mul_right _ k
  have e8:(q+1)*(d+1)=(q+1)*d+(q+1):=by rw [Nat.mul_succ]
  have e9:(q+2)*d=(q+1)*d+d:=Nat.succ_mul _ _
  omega
theorem Est.small {P W V g r:Nat} (h:Est P W V) (hg:g*(V / P / 1000000000)+r=W / P / 1000000000) (hr:r>=1000000000):g<1000000000:=by
 have hv:=h.v1
 have e1:W / P / 1000000000<(V / P / 1000000000)*1000000000+1000000000:=by
  have e4:V<(V / P+1)*P:=by
   have:=Nat.lt_mul_div_succ V h.P0
   rwa [Nat.mul_comm] at this
  have e5:W / P<(V / P+1)*1000000000:=by
   apply Nat.div_lt_of_lt_mul
   have:=h.hW
   have k:V*1000000000<=(V / P+1)*P*1000000000:=Nat.mul_le_mul_right _ (by omega)
   have k2:(V / P+1)*P*1000000000=P*((V / P+1)*1000000000):=by grind
   omega
  omega
 rw [<- hg] at e1
 rcases Nat.lt_or_ge g 1000000000 with k | k
 ·exact k
 ·have:1000000000*(V / P / 1000000000)<=g*(V / P / 1000000000):=Nat.mul_le_mul_right _ k
  omega
end Go.Av

namespace Go.Av
open Go.Proofs
noncomputable def M1:Mach:=⟨fun _=>Try.prog,fun f=>[119,120,37,999999,999999,999999,999999,999999,999999,999999,999999].contains f⟩
abbrev usA (f:Bool) (l:List Int):AV:=.vec f 1 (l.map (.int .u32))
namespace Sp
def Zaf (v:Int):Bool:=decide (v<0)
def Zau (v:Int):List Int:=lim v.natAbs
end Sp
abbrev bigA (f:Bool) (v:Int):AV:=.agg [.bool (Sp.Zaf v),.vec f 1 ((Sp.Zau v).map (.int .u32))]
end Go.Av

namespace Go.Av
open Go.Proofs
theorem pack2 (x:AV):ZdG Try.prog 2 [x]=x:=by
 simp [ZdG,aggT,Try.underlying2]
set_option maxRecDepth 100000 in
theorem Zho {n:Nat} {cs:List AV} (h:Ty Try.prog (n+1+1) 23 cs):∃ x0 x1 x2:Int,cs=[.int .i64 x0,.int .i64 x1,.int .i64 x2]:=by
 have h:=Zes Try.underlying23 h
 obtain ⟨a0,b0,rfl,h0,a1,b1,rfl,h1,a2,b2,rfl,h2,rfl⟩:=h
 obtain ⟨x0,rfl,_⟩:=Zeb Try.underlying2 h0
 obtain ⟨x1,rfl,_⟩:=Zeb Try.underlying2 h1
 obtain ⟨x2,rfl,_⟩:=Zeb Try.underlying2 h2
 exact ⟨x0,x1,x2,rfl⟩
theorem laidOut:laidOutB Try.prog=true:=by kernel_rfl
theorem ownGo:ownKnob Try.prog.godebug=none:=by kernel_rfl
end Go.Av

namespace Go.Av
abbrev vi:Int->AV:=AV.int .i64
abbrev vw:Int->AV:=AV.int .u64
abbrev vu:Int->AV:=AV.int .u32
abbrev us (l:List Int):List AV:=List.map (AV.int .u32) l
abbrev wi (x:Int):Int:=IntKind.i64.wrap x
abbrev wu (x:Int):Int:=IntKind.u64.wrap x
abbrev wv (x:Int):Int:=IntKind.u32.wrap x
abbrev vf (l:List AV):AV:=.vec false 1 l
abbrev ag (l:List AV):AV:=.agg l
abbrev tu (l:List AV):AV:=.tup l
abbrev vb (b:Bool):AV:=.bool b
abbrev gi {α:Type} (l:List α) (i:Nat):Option α:=l.get?Internal i
theorem b0:allB []:=trivial
theorem bc {b:Bool} {l:List Bool} (h:b=true) (r:allB l):allB (b::l):=⟨h,r⟩
theorem q0:allP []:=trivial
theorem qc {p:Prop} {l:List Prop} (h:p) (r:allP l):allP (p::l):=⟨h,r⟩
theorem c0 {M:Mach}:allC M []:=trivial
theorem cc {M:Mach} {c:CF} {l:List CF} (h:c.cond=true->c.ok M) (r:allC M l):allC M (c::l):=⟨h,r⟩
theorem xq {P A B : Prop} (H : (P -> A) /\ (¬P -> B)) : (P /\ A) \/ (¬P /\ B) := (Classical.em P).elim (fun k => .inl ⟨k, H.1 k⟩) fun k => .inr ⟨k, H.2 k⟩
theorem xm (p:Prop):p\/¬p:=Classical.em p
abbrev pc (f:Nat) (args:List AV) (v:AV):CF:=⟨true,false,f,args,[],v,[]⟩
theorem ce {M:Mach} {f:Nat} {args:List AV} {v:AV} {l:List CF} (h:Ev M (.pure f args) v []) (r:allC M l):allC M (pc f args v::l):=⟨fun _=>h,r⟩
def retP (M:Mach) (fi:Fi) (G:Given) (n:Nat) (ds:List Bool) (todo:List Item) (env:Vars) (L:Heap):Option (AV × List Bool × List Prop × List CF):=
 match path M fi G n ds ⟨todo,env,L,[],[],[]⟩ with
 | some ⟨.code .ret::_,env',L',asm,eqs,calls⟩=>match finish M.P fi env' L' with
  | some v=>match pureA L' v with
   | some d=>bif (versA L' v).all id&&d.clean then some (d,asm,eqs,calls) else none
   | none=>none
  | none=>none
 | _=>none
theorem Zai {M:Mach} {fi:Fi} {G:Given} (n:Nat) (ds:List Bool) {todo:List Item} {env:Vars} {L:Heap} {asm:List Bool} {eqs:List Prop} {calls:List CF} (d:AV) {dq:AV}
  (h:retP M fi G n ds todo env L=some (d,asm,eqs,calls)) (hA:allB asm) (hQ:allP eqs) (hC:allC M calls) (w:Weak d dq):Wp M (.run fi todo env L) (Zad dq):=by
 unfold retP at h
 split at h
 ·rename_i k env' L' asm' eqs' calls' hp
  split at h
  ·rename_i v hf
   split at h
   ·rename_i d' hd
    cases hb:((versA L' v).all id&&d'.clean) with
    | false=>rw [hb] at h;simp at h
    | true =>
     rw [hb] at h
     simp only [cond_true,Option.some.injEq,Prod.mk.injEq] at h
     obtain ⟨rfl,rfl,rfl,rfl⟩:=h
     rw [Bool.and_eq_true,List.all_eq_true] at hb
     exact Zac n ds _ hp hA hQ hC (.ret hf ⟨_,hd,(Zd7 _).2 hb.1,hb.2,w⟩)
   ·simp at h
  ·simp at h
 ·simp at h
theorem Zae {M:Mach} {fi:Fi} {G:Given} (n:Nat) (ds:List Bool) {todo:List Item} {env:Vars} {L:Heap} {asm:List Bool} {eqs:List Prop} {calls:List CF} (d:AV) {dq:AV}
  (h:retP M fi G n ds todo env L=some (d,asm,eqs,calls)) (hA:allB asm) (hQ:allP eqs) (hC:allC M calls) (w:d=dq):Wp M (.run fi todo env L) (Zad dq):=
 Zai n ds d h hA hQ hC (by rw [w];exact .refl _)
theorem pcl {M:Mach} {f:FuncId} {args:List AV} {d:AV} (fn:Func) (fi:Fi) (h0:((M.P ()).funcs[f]?,fn.body,fn.name == "runtime.NumGoroutine",(⟨fn.ntmps,fn.results.toList⟩:Fi))=(some fn,some (cd fn),false,fi)) (h:Wp M (.run fi [.code (cd fn)] (ZbG 0 args) []) (Zad d)):Ev M (.pure f args) d []:=
 pure_pq fn fi (congrArg (fun x=>x.1) h0) (congrArg (fun x=>x.2.1) h0) (congrArg (fun x=>x.2.2.1) h0) (congrArg (fun x=>x.2.2.2) h0) h
abbrev wc (M:Mach) (fi:Fi) (fn:Func) (args:List AV) (d:AV):Prop:=Wp M (.run fi [.code (cd fn)] (ZbG 0 args) []) (Zad d)
end Go.Av

namespace Go.Av
open Go.Proofs
set_option maxRecDepth 100000
def fi34:Fi:=⟨29,[.tmp 6]⟩
def kp34:List (Nat × List Nat):=[(0,[0,1,2]),(1,[28]),(2,[6]),(3,[6])]
def fi37:Fi:=⟨18,[.tmp 4]⟩
def kp37:List (Nat × List Nat):=[(0,[0,1]),(1,[4])]
def fi40:Fi:=⟨8,[.tmp 4]⟩
def kp40:List (Nat × List Nat):=[(0,[0,1]),(1,[1,6]),(2,[4]),(3,[4])]
def fi49:Fi:=⟨9,[.tmp 2]⟩
def kp49:List (Nat × List Nat):=[(0,[0]),(1,[2])]
def pIn_at (n:Int) (Q:AV->Heap->Prop):Prop:=Wp M1 (.run fi49 (atC (cd Try.f49) []) [(0,.int .i64 n)] []) Q
def Zgi (a s r:Int) (Q:AV->Heap->Prop):Prop:=Wp M1 (.run fi34 (atC (cd Try.f34) []) [(0,.int .i64 a),(1,.int .i64 s),(2,.int .i64 r)] []) Q
def pReach_at (a r:Int) (Q:AV->Heap->Prop):Prop:=Wp M1 (.run fi40 (atC (cd Try.f40) []) [(0,.int .i64 a),(1,.int .i64 r)] []) Q
def pCo0_at (x y z:Int) (Q:AV->Heap->Prop):Prop:=Wp M1 (.run fi37 (atC (cd Try.f37) []) [(0,.ptr 0 0 0 0),(1,.int .i64 0)] [⟨[.agg [.int .i64 x,.int .i64 y,.int .i64 z]],3,0,false,false⟩]) Q
def pCo1_at (x y z:Int) (Q:AV->Heap->Prop):Prop:=Wp M1 (.run fi37 (atC (cd Try.f37) []) [(0,.ptr 0 0 0 0),(1,.int .i64 1)] [⟨[.agg [.int .i64 x,.int .i64 y,.int .i64 z]],3,0,false,false⟩]) Q
def pCo2_at (x y z:Int) (Q:AV->Heap->Prop):Prop:=Wp M1 (.run fi37 (atC (cd Try.f37) []) [(0,.ptr 0 0 0 0),(1,.int .i64 2)] [⟨[.agg [.int .i64 x,.int .i64 y,.int .i64 z]],3,0,false,false⟩]) Q
theorem call34 {args:List AV} {d:AV} (h:wc M1 fi34 Try.f34 args d):Ev M1 (.pure 34 args) d []:=pcl _ _ (by kernel_rfl) h
theorem Ze9 {args:List AV} {L:Heap} {v:AV} {K:Heap} (hk:Zfn L.length v K=true) (h:Wp M1 (.run fi37 [.code (cd Try.f37)] (ZbG 0 args) L) (Zg5 v K)):Ev M1 (.own 37 args L) v K:=
 own_keep Try.f37 fi37 (by kernel_rfl) (by kernel_rfl) (by kernel_rfl) (by kernel_rfl) hk h
theorem call40 {args:List AV} {d:AV} (h:wc M1 fi40 Try.f40 args d):Ev M1 (.pure 40 args) d []:=pcl _ _ (by kernel_rfl) h
theorem call49 {args:List AV} {d:AV} (h:wc M1 fi49 Try.f49 args d):Ev M1 (.pure 49 args) d []:=pcl _ _ (by kernel_rfl) h
theorem pIn (n:Int)  (dq:AV) (H :
  vb (bif decide (n >= -10000000) then decide (n<=10000000) else false)=dq) :
 pIn_at n (Zad dq):=by
 unfold pIn_at
 exact Zae (G:=Zab kp49 [] []) 1000 [] (vb (bif decide (n >= -10000000) then decide (n<=10000000) else false)) (by kernel_rfl) b0 q0 c0 H
theorem pChecked (a s r:Int)  (dq:AV) (H :
  ((((((a<0)\/(a>2))\/((¬s=1)/\(¬s = -1)))\/(r<1))\/(r>10000000))->vi 1=dq) /\
  (¬(((((a<0)\/(a>2))\/((¬s=1)/\(¬s = -1)))\/(r<1))\/(r>10000000))->vi 0=dq)) :
 Zgi a s r (Zad dq):=by
 unfold Zgi
 rcases xq H with ⟨d2,H⟩|⟨d2,H⟩
 ·exact Zae (G:=Zab kp34 [] []) 1000 [true] (vi 1) (by kernel_rfl) (bc (Zak ((Zar (Zar (Zar (Zar Zaa Zaa) (Zck i_ne i_ne)) Zaa) Zaa).2 d2)) b0) q0 c0 H
 ·exact Zae (G:=Zab kp34 [] []) 1000 [false] (vi 0) (by kernel_rfl) (bc (Zah (fun h=>d2 ((Zar (Zar (Zar (Zar Zaa Zaa) (Zck i_ne i_ne)) Zaa) Zaa).1 h))) b0) q0 c0 H
theorem pReach (a r:Int)  (dq:AV) (H :
  ((a=2)->vi 0=dq) /\
  (¬(a=2)->vi r=dq)) :
 pReach_at a r (Zad dq):=by
 unfold pReach_at
 rcases xq H with ⟨d2,H⟩|⟨d2,H⟩
 ·exact Zae (G:=Zab kp40 [] []) 1000 [true] (vi 0) (by kernel_rfl) (bc (Zak (i_eq.2 d2)) b0) q0 c0 H
 ·exact Zae (G:=Zab kp40 [] []) 1000 [false] (vi r) (by kernel_rfl) (bc (Zah (fun h=>d2 (i_eq.1 h))) b0) q0 c0 H
theorem pCo0 (x y z:Int)  (dv:AV) (dK:Heap) (hk:Zfn 1 dv dK=true) (H :
  (Zg5 dv dK) (AV.ptr 0 0 0 0) [{ elems:=[ag [vi x,vi y,vi z]],es:=3,ver:=0,frozen:=false,clean:=false },{ elems:=[AV.ptr 0 0 0 0,AV.ptr 0 0 0 1,AV.ptr 0 0 0 2],es:=1,ver:=0,frozen:=false,clean:=false }]) :
 pCo0_at x y z (Zg5 dv dK):=by
 unfold pCo0_at
 exact Zbu (G:=Zab kp37 [(1,9,(.keep:Ans))] [(1,[9])]) 1000 [] (k:=((atC (cd Try.f37) [1,1])).tail) (env':=[(4,AV.ptr 0 0 0 0)]) (L':=[⟨[ag [vi x,vi y,vi z]],3,0,false,false⟩,⟨[AV.ptr 0 0 0 0,AV.ptr 0 0 0 1,AV.ptr 0 0 0 2],1,0,false,false⟩]) (asm:=[true,true,true,true]) (eqs:=[]) (calls:=[]) (AV.ptr 0 0 0 0) (by kernel_rfl) (by kernel_rfl) (Zam rfl (Zam rfl (Zam rfl (Zam rfl ZaF)))) Za7 Za9 H
theorem pCo1 (x y z:Int)  (dv:AV) (dK:Heap) (hk:Zfn 1 dv dK=true) (H :
  (Zg5 dv dK) (AV.ptr 0 0 0 1) [{ elems:=[ag [vi x,vi y,vi z]],es:=3,ver:=0,frozen:=false,clean:=false },{ elems:=[AV.ptr 0 0 0 0,AV.ptr 0 0 0 1,AV.ptr 0 0 0 2],es:=1,ver:=0,frozen:=false,clean:=false }]) :
 pCo1_at x y z (Zg5 dv dK):=by
 unfold pCo1_at
 exact Zbu (G:=Zab kp37 [(1,9,(.keep:Ans))] [(1,[9])]) 1000 [] (k:=((atC (cd Try.f37) [1,1])).tail) (env':=[(4,AV.ptr 0 0 0 1)]) (L':=[⟨[ag [vi x,vi y,vi z]],3,0,false,false⟩,⟨[AV.ptr 0 0 0 0,AV.ptr 0 0 0 1,AV.ptr 0 0 0 2],1,0,false,false⟩]) (asm:=[true,true,true,true]) (eqs:=[]) (calls:=[]) (AV.ptr 0 0 0 1) (by kernel_rfl) (by kernel_rfl) (Zam rfl (Zam rfl (Zam rfl (Zam rfl ZaF)))) Za7 Za9 H
theorem pCo2 (x y z:Int)  (dv:AV) (dK:Heap) (hk:Zfn 1 dv dK=true) (H :
  (Zg5 dv dK) (AV.ptr 0 0 0 2) [{ elems:=[ag [vi x,vi y,vi z]],es:=3,ver:=0,frozen:=false,clean:=false },{ elems:=[AV.ptr 0 0 0 0,AV.ptr 0 0 0 1,AV.ptr 0 0 0 2],es:=1,ver:=0,frozen:=false,clean:=false }]) :
 pCo2_at x y z (Zg5 dv dK):=by
 unfold pCo2_at
 exact Zbu (G:=Zab kp37 [(1,9,(.keep:Ans))] [(1,[9])]) 1000 [] (k:=((atC (cd Try.f37) [1,1])).tail) (env':=[(4,AV.ptr 0 0 0 2)]) (L':=[⟨[ag [vi x,vi y,vi z]],3,0,false,false⟩,⟨[AV.ptr 0 0 0 0,AV.ptr 0 0 0 1,AV.ptr 0 0 0 2],1,0,false,false⟩]) (asm:=[true,true,true,true]) (eqs:=[]) (calls:=[]) (AV.ptr 0 0 0 2) (by kernel_rfl) (by kernel_rfl) (Zam rfl (Zam rfl (Zam rfl (Zam rfl ZaF)))) Za7 Za9 H
end Go.Av

namespace Go.Av
open Go.Proofs
namespace Sp
def pM (n:Int):Prop:=-10000000<=n/\n<=10000000
def pP (x y z:Int):Prop:=pM x/\pM y/\pM z
def pW (a s r:Int):Prop:=(0<=a/\a<=2)/\(s=1\/s = -1)/\1<=r/\r<=10000000
end Sp
instance (n:Int):Decidable (Sp.pM n):=by unfold Sp.pM;infer_instance
instance (x y z:Int):Decidable (Sp.pP x y z):=by unfold Sp.pP;infer_instance
instance (a s r:Int):Decidable (Sp.pW a s r):=by unfold Sp.pW;infer_instance
namespace Sp
def chk (a s r:Int):Int:=if pW a s r then 0 else 1
def rea (a r:Int):Int:=if a=2 then 0 else r
def alg (x y z a:Int):Int:=if a=0 then x else if a=1 then y else z
def putX (x a n:Int):Int:=if a=0 then n else x
def putY (y a n:Int):Int:=if a=0 then y else if a=1 then n else y
def putZ (z a n:Int):Int:=if a=0 then z else if a=1 then z else n
end Sp
theorem Zdk {p q:Prop} [Decidable p] [Decidable q]:(bif decide p then decide q else false)=decide (p/\q):=by
 by_cases h:p
 ·by_cases k:q
  ·rw [decide_eq_true h,decide_eq_true k,decide_eq_true ⟨h,k⟩];rfl
  ·rw [decide_eq_true h,decide_eq_false k,decide_eq_false (show ¬(p/\q) from fun x=>k x.2)];rfl
 ·rw [decide_eq_false h,decide_eq_false (show ¬(p/\q) from fun x=>h x.1)];rfl
theorem ZcH {p q:Prop} [Decidable p] [Decidable q] (h:p ↔ q):decide p=decide q:=by
 by_cases k:q
 ·rw [decide_eq_true k,decide_eq_true (h.2 k)]
 ·rw [decide_eq_false k,decide_eq_false fun x=>k (h.1 x)]
theorem ev49 (n:Int):Ev M1 (.pure 49 [.int .i64 n]) (.bool (decide (Sp.pM n))) []:=
 call49 (pIn _ _ (by rw [Zdk];exact congrArg AV.bool (ZcH Iff.rfl)))
theorem ev34 (a s r:Int):Ev M1 (.pure 34 [.int .i64 a,.int .i64 s,.int .i64 r]) (.int .i64 (Sp.chk a s r)) []:=by
 refine call34 (pChecked _ _ _ _ ⟨fun x => ?_,fun x => ?_⟩)
 ·unfold Sp.chk;rw [if_neg (by unfold Sp.pW;omega)]
 ·unfold Sp.chk;rw [if_pos (by unfold Sp.pW;omega)]
theorem ev40 (a r:Int):Ev M1 (.pure 40 [.int .i64 a,.int .i64 r]) (.int .i64 (Sp.rea a r)) []:=
 call40 (pReach _ _ _ ⟨fun x=>by unfold Sp.rea;rw [if_pos x],fun x=>by unfold Sp.rea;rw [if_neg x]⟩)
theorem evo37_a (x y z:Int):Ev M1 (.own 37 [.ptr 0 0 0 0,.int .i64 0] [⟨[.agg [.int .i64 x,.int .i64 y,.int .i64 z]],3,0,false,false⟩]) (.ptr 0 0 0 0) [⟨[.agg [.int .i64 x,.int .i64 y,.int .i64 z]],3,0,false,false⟩]:=
 Ze9 rfl (pCo0 x y z _ _ rfl ⟨rfl,rfl⟩)
theorem evo37_b (x y z:Int):Ev M1 (.own 37 [.ptr 0 0 0 0,.int .i64 1] [⟨[.agg [.int .i64 x,.int .i64 y,.int .i64 z]],3,0,false,false⟩]) (.ptr 0 0 0 1) [⟨[.agg [.int .i64 x,.int .i64 y,.int .i64 z]],3,0,false,false⟩]:=
 Ze9 rfl (pCo1 x y z _ _ rfl ⟨rfl,rfl⟩)
theorem evo37_c (x y z:Int):Ev M1 (.own 37 [.ptr 0 0 0 0,.int .i64 2] [⟨[.agg [.int .i64 x,.int .i64 y,.int .i64 z]],3,0,false,false⟩]) (.ptr 0 0 0 2) [⟨[.agg [.int .i64 x,.int .i64 y,.int .i64 z]],3,0,false,false⟩]:=
 Ze9 rfl (pCo2 x y z _ _ rfl ⟨rfl,rfl⟩)
end Go.Av

namespace Go.Av
open Go.Proofs
set_option maxRecDepth 100000
def fi35:Fi:=⟨16,[.tmp 2]⟩
def kp35:List (Nat × List Nat):=[(0,[1]),(1,[2])]
def Zhs (x y z:Int) (Q:AV->Heap->Prop):Prop:=Wp M1 (.run fi35 (atC (cd Try.f35) []) [(0,.agg [.int .i64 x,.int .i64 y,.int .i64 z])] []) Q
theorem call35 {args:List AV} {d:AV} (h:wc M1 fi35 Try.f35 args d):Ev M1 (.pure 35 args) d []:=pcl _ _ (by kernel_rfl) h
theorem pInside (x y z:Int)  (dq:AV) (H :
  vb (bif bif decide (Sp.pM x) then decide (Sp.pM y) else false then decide (Sp.pM z) else false)=dq) :
 Zhs x y z (Zad dq):=by
 unfold Zhs
 exact Zae (G:=Zab kp35 [(1,2,.call (vb (decide (Sp.pM x))) none),(1,6,.call (vb (decide (Sp.pM y))) none),(1,11,.call (vb (decide (Sp.pM z))) none)] []) 1000 [] (asm:=[true,!(decide (Sp.pM x)==true&&true)||true,!((bif decide (Sp.pM x) then decide (Sp.pM y) else false)==true&&true)||true]) (calls:=[⟨true,false,49,[vi x],[],vb (decide (Sp.pM x)),[]⟩,⟨decide (Sp.pM x)==true&&true&&true,false,49,[vi y],[],vb (decide (Sp.pM y)),[]⟩,⟨(bif decide (Sp.pM x) then decide (Sp.pM y) else false)==true&&true&&true,false,49,[vi z],[],vb (decide (Sp.pM z)),[]⟩]) (vb (bif bif decide (Sp.pM x) then decide (Sp.pM y) else false then decide (Sp.pM z) else false)) (by kernel_rfl) (bc rfl (bc (Bool.or_true _) (bc (Bool.or_true _) b0))) q0 (cc (fun _=>(@ev49 x)) (cc (fun hc=>((@ev49 y):Ev M1 (Conf.pure 49 [vi y]) (vb (decide (Sp.pM y))) [])) (cc (fun hc=>((@ev49 z):Ev M1 (Conf.pure 49 [vi z]) (vb (decide (Sp.pM z))) [])) c0))) H
end Go.Av

namespace Go.Av
open Go.Proofs
theorem bif3 {p q r:Prop} [Decidable p] [Decidable q] [Decidable r]:(bif bif decide p then decide q else false then decide r else false)=decide (p/\q/\r):=by
 rw [Zdk,Zdk];exact ZcH and_assoc
theorem ev35 (x y z:Int):Ev M1 (.pure 35 [.agg [.int .i64 x,.int .i64 y,.int .i64 z]]) (.bool (decide (Sp.pP x y z))) []:=
 call35 (pInside _ _ _ _ (by rw [bif3];exact congrArg AV.bool (ZcH Iff.rfl)))
end Go.Av

namespace Go.Av
open Go.Proofs
set_option maxRecDepth 100000
def fi12:Fi:=⟨36,[.tmp 8,.tmp 9]⟩
def kp12:List (Nat × List Nat):=[(0,[1,2,3,4]),(1,[1,2,3,4,10]),(2,[1,2,3,4,10,17]),(3,[8,9]),(4,[1,2,3,4,21]),(5,[8,9]),(6,[11]),(7,[11,34]),(8,[8,9]),(9,[8,9])]
def pWallX_at (x y z a s r:Int) (Q:AV->Heap->Prop):Prop:=Wp M1 (.run fi12 (atC (cd Try.f12) []) [(0,.agg [.int .i64 x,.int .i64 y,.int .i64 z]),(1,.int .i64 a),(2,.int .i64 s),(3,.int .i64 r)] []) Q
def pWall0_at (x y z s r:Int) (Q:AV->Heap->Prop):Prop:=Wp M1 (.run fi12 (atC (cd Try.f12) []) [(0,.agg [.int .i64 x,.int .i64 y,.int .i64 z]),(1,.int .i64 0),(2,.int .i64 s),(3,.int .i64 r)] []) Q
def pWall1_at (x y z s r:Int) (Q:AV->Heap->Prop):Prop:=Wp M1 (.run fi12 (atC (cd Try.f12) []) [(0,.agg [.int .i64 x,.int .i64 y,.int .i64 z]),(1,.int .i64 1),(2,.int .i64 s),(3,.int .i64 r)] []) Q
def pWall2_at (x y z s r:Int) (Q:AV->Heap->Prop):Prop:=Wp M1 (.run fi12 (atC (cd Try.f12) []) [(0,.agg [.int .i64 x,.int .i64 y,.int .i64 z]),(1,.int .i64 2),(2,.int .i64 s),(3,.int .i64 r)] []) Q
theorem call12 {args:List AV} {d:AV} (h:wc M1 fi12 Try.f12 args d):Ev M1 (.pure 12 args) d []:=pcl _ _ (by kernel_rfl) h
theorem pWallX (x y z a s r:Int)  (dq:AV) (H :
  ((¬Sp.chk a s r=0)->tu [vi 0,vi (Sp.chk a s r)]=dq) /\
  (¬(¬Sp.chk a s r=0)->((¬(Sp.pP x y z))->tu [vi 0,vi 11]=dq) /\
   (¬(¬(Sp.pP x y z))->False))) :
 pWallX_at x y z a s r (Zad dq):=by
 unfold pWallX_at
 refine Zac (G:=Zab kp12 [(1,3,.call (vi (Sp.chk a s r)) none)] []) 7 [] ⟨(atC (cd Try.f12) [1,0,1,1]),[(1,vi a),(2,vi s),(3,vi r),(4,AV.ptr 0 0 0 0),(10,vi (Sp.chk a s r)),(17,vb (Sp.chk a s r != 0))],[⟨[ag [vi x,vi y,vi z]],3,0,false,false⟩],_,[],_⟩ (by kernel_rfl) b0 q0 (ce (@ev34 a s r) c0) ?_
 rcases xq H with ⟨d2,H⟩|⟨d2,H⟩
 ·exact Zae (G:=Zab kp12 [] []) 1000 [true] (tu [vi 0,vi (Sp.chk a s r)]) (by kernel_rfl) (bc (Zak (i_ne.2 d2)) b0) q0 c0 H
 ·refine Zac (G:=Zab kp12 [(4,1,.call (vb (decide (Sp.pP x y z))) none)] []) 5 [false] ⟨(atC (cd Try.f12) [1,1,0,1]),[(1,vi a),(2,vi s),(3,vi r),(4,AV.ptr 0 0 0 0),(21,vb !decide (Sp.pP x y z))],[⟨[ag [vi x,vi y,vi z]],3,0,false,false⟩],_,[],_⟩ (by kernel_rfl) (bc (Zah (fun h=>d2 (i_ne.1 h))) (bc rfl b0)) q0 (ce (@ev35 x y z) c0) ?_
  rcases xq H with ⟨d4,H⟩|⟨d4,H⟩
  ·exact Zae (G:=Zab kp12 [] []) 1000 [true] (tu [vi 0,vi 11]) (by kernel_rfl) (bc (Zak ((Zas Zaa).2 d4)) b0) q0 c0 H
  ·exact False.elim H
noncomputable abbrev zNpC1 (x:Int) (y:Int) (z:Int):=ag [vi x,vi y,vi z]
theorem pWall0 (x y z s r:Int)  (dq:AV) (H :
  ((¬Sp.chk 0 s r=0)->tu [vi 0,vi (Sp.chk 0 s r)]=dq) /\
  (¬(¬Sp.chk 0 s r=0)->((¬(Sp.pP x y z))->tu [vi 0,vi 11]=dq) /\
   (¬(¬(Sp.pP x y z))->(-9223372036854775808<=s*Sp.rea 0 r/\s*Sp.rea 0 r<=9223372036854775807) /\
    (-9223372036854775808<=x+s*Sp.rea 0 r/\x+s*Sp.rea 0 r<=9223372036854775807) /\
    ((¬(Sp.pM (x+s*Sp.rea 0 r)))->tu [vi 0,vi 11]=dq) /\
    (¬(¬(Sp.pM (x+s*Sp.rea 0 r)))->tu [vi (x+s*Sp.rea 0 r),vi 0]=dq)))) :
 pWall0_at x y z s r (Zad dq):=by
 unfold pWall0_at
 refine Zac (G:=Zab kp12 [(1,3,.call (vi (Sp.chk 0 s r)) none)] []) 7 [] ⟨(atC (cd Try.f12) [1,0,1,1]),[(1,vi 0),(2,vi s),(3,vi r),(4,AV.ptr 0 0 0 0),(10,vi (Sp.chk 0 s r)),(17,vb (Sp.chk 0 s r != 0))],[⟨[(zNpC1 x y z)],3,0,false,false⟩],_,[],_⟩ (by kernel_rfl) b0 q0 (ce (@ev34 0 s r) c0) ?_
 rcases xq H with ⟨d2,H⟩|⟨d2,H⟩
 ·exact Zae (G:=Zab kp12 [] []) 1000 [true] (tu [vi 0,vi (Sp.chk 0 s r)]) (by kernel_rfl) (bc (Zak (i_ne.2 d2)) b0) q0 c0 H
 ·refine Zac (G:=Zab kp12 [(4,1,.call (vb (decide (Sp.pP x y z))) none)] []) 5 [false] ⟨(atC (cd Try.f12) [1,1,0,1]),[(1,vi 0),(2,vi s),(3,vi r),(4,AV.ptr 0 0 0 0),(21,vb !decide (Sp.pP x y z))],[⟨[(zNpC1 x y z)],3,0,false,false⟩],_,[],_⟩ (by kernel_rfl) (bc (Zah (fun h=>d2 (i_ne.1 h))) (bc rfl b0)) q0 (ce (@ev35 x y z) c0) ?_
  rcases xq H with ⟨d4,H⟩|⟨d4,H⟩
  ·exact Zae (G:=Zab kp12 [] []) 1000 [true] (tu [vi 0,vi 11]) (by kernel_rfl) (bc (Zak ((Zas Zaa).2 d4)) b0) q0 c0 H
  ·obtain ⟨k5,H⟩:=H
   have w6:wi (s*Sp.rea 0 r)=s*Sp.rea 0 r:=wI64 k5
   obtain ⟨k7,H⟩:=H
   have w8:wi (x+s*Sp.rea 0 r)=x+s*Sp.rea 0 r:=wI64 k7
   refine Zac (G:=Zab kp12 [(6,1,.call (AV.ptr 0 0 0 0) none),(6,7,.call (vi (Sp.rea 0 r)) none),(7,1,.call (vb (decide (Sp.pM (x+s*Sp.rea 0 r)))) none)] [(6,[1001])]) 7 [false] ⟨(atC (cd Try.f12) [1,1,1,1,0,1]),[(11,vi (wi (x+wi (s*Sp.rea 0 r)))),(34,vb !decide (Sp.pM (x+s*Sp.rea 0 r)))],[⟨[(zNpC1 x y z)],3,0,false,false⟩],_,[],[⟨true,true,37,[AV.ptr 0 0 0 0,vi 0],[⟨[(zNpC1 x y z)],3,0,false,false⟩],AV.ptr 0 0 0 0,[⟨[(zNpC1 x y z)],3,0,false,false⟩]⟩,⟨true,false,40,[vi 0,vi r],[],vi (Sp.rea 0 r),[]⟩,⟨true,false,49,[vi (wi (x+wi (s*Sp.rea 0 r)))],[],vb (decide (Sp.pM (x+s*Sp.rea 0 r))),[]⟩]⟩ (by kernel_rfl) (bc (Zah (fun h=>d4 ((Zas Zaa).1 h))) (bc rfl b0)) q0 (cc (fun _=>(@evo37_a x y z)) (cc (fun _=>(@ev40 0 r)) (cc (fun _=>(by (try rw [w6]);(try rw [w8]);all_goals exact (@ev49 (x+s*Sp.rea 0 r)))) c0))) ?_
   rcases xq H with ⟨d10,H⟩|⟨d10,H⟩
   ·exact Zae (G:=Zab kp12 [] []) 1000 [true] (tu [vi 0,vi 11]) (by kernel_rfl) (bc (Zak ((Zas Zaa).2 d10)) b0) q0 c0 H
   ·exact Zae (G:=Zab kp12 [] []) 1000 [false] (tu [vi (wi (x+wi (s*Sp.rea 0 r))),vi 0]) (by kernel_rfl) (bc (Zah (fun h=>d10 ((Zas Zaa).1 h))) b0) q0 c0 (by (try rw [w6]);(try rw [w8]);all_goals exact H)
noncomputable abbrev zNpC2 (x:Int) (y:Int) (z:Int):=ag [vi x,vi y,vi z]
theorem pWall1 (x y z s r:Int)  (dq:AV) (H :
  ((¬Sp.chk 1 s r=0)->tu [vi 0,vi (Sp.chk 1 s r)]=dq) /\
  (¬(¬Sp.chk 1 s r=0)->((¬(Sp.pP x y z))->tu [vi 0,vi 11]=dq) /\
   (¬(¬(Sp.pP x y z))->(-9223372036854775808<=s*Sp.rea 1 r/\s*Sp.rea 1 r<=9223372036854775807) /\
    (-9223372036854775808<=y+s*Sp.rea 1 r/\y+s*Sp.rea 1 r<=9223372036854775807) /\
    ((¬(Sp.pM (y+s*Sp.rea 1 r)))->tu [vi 0,vi 11]=dq) /\
    (¬(¬(Sp.pM (y+s*Sp.rea 1 r)))->tu [vi (y+s*Sp.rea 1 r),vi 0]=dq)))) :
 pWall1_at x y z s r (Zad dq):=by
 unfold pWall1_at
 refine Zac (G:=Zab kp12 [(1,3,.call (vi (Sp.chk 1 s r)) none)] []) 7 [] ⟨(atC (cd Try.f12) [1,0,1,1]),[(1,vi 1),(2,vi s),(3,vi r),(4,AV.ptr 0 0 0 0),(10,vi (Sp.chk 1 s r)),(17,vb (Sp.chk 1 s r != 0))],[⟨[(zNpC2 x y z)],3,0,false,false⟩],_,[],_⟩ (by kernel_rfl) b0 q0 (ce (@ev34 1 s r) c0) ?_
 rcases xq H with ⟨d2,H⟩|⟨d2,H⟩
 ·exact Zae (G:=Zab kp12 [] []) 1000 [true] (tu [vi 0,vi (Sp.chk 1 s r)]) (by kernel_rfl) (bc (Zak (i_ne.2 d2)) b0) q0 c0 H
 ·refine Zac (G:=Zab kp12 [(4,1,.call (vb (decide (Sp.pP x y z))) none)] []) 5 [false] ⟨(atC (cd Try.f12) [1,1,0,1]),[(1,vi 1),(2,vi s),(3,vi r),(4,AV.ptr 0 0 0 0),(21,vb !decide (Sp.pP x y z))],[⟨[(zNpC2 x y z)],3,0,false,false⟩],_,[],_⟩ (by kernel_rfl) (bc (Zah (fun h=>d2 (i_ne.1 h))) (bc rfl b0)) q0 (ce (@ev35 x y z) c0) ?_
  rcases xq H with ⟨d4,H⟩|⟨d4,H⟩
  ·exact Zae (G:=Zab kp12 [] []) 1000 [true] (tu [vi 0,vi 11]) (by kernel_rfl) (bc (Zak ((Zas Zaa).2 d4)) b0) q0 c0 H
  ·obtain ⟨k5,H⟩:=H
   have w6:wi (s*Sp.rea 1 r)=s*Sp.rea 1 r:=wI64 k5
   obtain ⟨k7,H⟩:=H
   have w8:wi (y+s*Sp.rea 1 r)=y+s*Sp.rea 1 r:=wI64 k7
   refine Zac (G:=Zab kp12 [(6,1,.call (AV.ptr 0 0 0 1) none),(6,7,.call (vi (Sp.rea 1 r)) none),(7,1,.call (vb (decide (Sp.pM (y+s*Sp.rea 1 r)))) none)] [(6,[1001])]) 7 [false] ⟨(atC (cd Try.f12) [1,1,1,1,0,1]),[(11,vi (wi (y+wi (s*Sp.rea 1 r)))),(34,vb !decide (Sp.pM (y+s*Sp.rea 1 r)))],[⟨[(zNpC2 x y z)],3,0,false,false⟩],_,[],[⟨true,true,37,[AV.ptr 0 0 0 0,vi 1],[⟨[(zNpC2 x y z)],3,0,false,false⟩],AV.ptr 0 0 0 1,[⟨[(zNpC2 x y z)],3,0,false,false⟩]⟩,⟨true,false,40,[vi 1,vi r],[],vi (Sp.rea 1 r),[]⟩,⟨true,false,49,[vi (wi (y+wi (s*Sp.rea 1 r)))],[],vb (decide (Sp.pM (y+s*Sp.rea 1 r))),[]⟩]⟩ (by kernel_rfl) (bc (Zah (fun h=>d4 ((Zas Zaa).1 h))) (bc rfl b0)) q0 (cc (fun _=>(@evo37_b x y z)) (cc (fun _=>(@ev40 1 r)) (cc (fun _=>(by (try rw [w6]);(try rw [w8]);all_goals exact (@ev49 (y+s*Sp.rea 1 r)))) c0))) ?_
   rcases xq H with ⟨d10,H⟩|⟨d10,H⟩
   ·exact Zae (G:=Zab kp12 [] []) 1000 [true] (tu [vi 0,vi 11]) (by kernel_rfl) (bc (Zak ((Zas Zaa).2 d10)) b0) q0 c0 H
   ·exact Zae (G:=Zab kp12 [] []) 1000 [false] (tu [vi (wi (y+wi (s*Sp.rea 1 r))),vi 0]) (by kernel_rfl) (bc (Zah (fun h=>d10 ((Zas Zaa).1 h))) b0) q0 c0 (by (try rw [w6]);(try rw [w8]);all_goals exact H)
noncomputable abbrev zNpC3 (x:Int) (y:Int) (z:Int):=ag [vi x,vi y,vi z]
theorem pWall2 (x y z s r:Int)  (dq:AV) (H :
  ((¬Sp.chk 2 s r=0)->tu [vi 0,vi (Sp.chk 2 s r)]=dq) /\
  (¬(¬Sp.chk 2 s r=0)->((¬(Sp.pP x y z))->tu [vi 0,vi 11]=dq) /\
   (¬(¬(Sp.pP x y z))->(-9223372036854775808<=s*Sp.rea 2 r/\s*Sp.rea 2 r<=9223372036854775807) /\
    (-9223372036854775808<=z+s*Sp.rea 2 r/\z+s*Sp.rea 2 r<=9223372036854775807) /\
    ((¬(Sp.pM (z+s*Sp.rea 2 r)))->tu [vi 0,vi 11]=dq) /\
    (¬(¬(Sp.pM (z+s*Sp.rea 2 r)))->tu [vi (z+s*Sp.rea 2 r),vi 0]=dq)))) :
 pWall2_at x y z s r (Zad dq):=by
 unfold pWall2_at
 refine Zac (G:=Zab kp12 [(1,3,.call (vi (Sp.chk 2 s r)) none)] []) 7 [] ⟨(atC (cd Try.f12) [1,0,1,1]),[(1,vi 2),(2,vi s),(3,vi r),(4,AV.ptr 0 0 0 0),(10,vi (Sp.chk 2 s r)),(17,vb (Sp.chk 2 s r != 0))],[⟨[(zNpC3 x y z)],3,0,false,false⟩],_,[],_⟩ (by kernel_rfl) b0 q0 (ce (@ev34 2 s r) c0) ?_
 rcases xq H with ⟨d2,H⟩|⟨d2,H⟩
 ·exact Zae (G:=Zab kp12 [] []) 1000 [true] (tu [vi 0,vi (Sp.chk 2 s r)]) (by kernel_rfl) (bc (Zak (i_ne.2 d2)) b0) q0 c0 H
 ·refine Zac (G:=Zab kp12 [(4,1,.call (vb (decide (Sp.pP x y z))) none)] []) 5 [false] ⟨(atC (cd Try.f12) [1,1,0,1]),[(1,vi 2),(2,vi s),(3,vi r),(4,AV.ptr 0 0 0 0),(21,vb !decide (Sp.pP x y z))],[⟨[(zNpC3 x y z)],3,0,false,false⟩],_,[],_⟩ (by kernel_rfl) (bc (Zah (fun h=>d2 (i_ne.1 h))) (bc rfl b0)) q0 (ce (@ev35 x y z) c0) ?_
  rcases xq H with ⟨d4,H⟩|⟨d4,H⟩
  ·exact Zae (G:=Zab kp12 [] []) 1000 [true] (tu [vi 0,vi 11]) (by kernel_rfl) (bc (Zak ((Zas Zaa).2 d4)) b0) q0 c0 H
  ·obtain ⟨k5,H⟩:=H
   have w6:wi (s*Sp.rea 2 r)=s*Sp.rea 2 r:=wI64 k5
   obtain ⟨k7,H⟩:=H
   have w8:wi (z+s*Sp.rea 2 r)=z+s*Sp.rea 2 r:=wI64 k7
   refine Zac (G:=Zab kp12 [(6,1,.call (AV.ptr 0 0 0 2) none),(6,7,.call (vi (Sp.rea 2 r)) none),(7,1,.call (vb (decide (Sp.pM (z+s*Sp.rea 2 r)))) none)] [(6,[1001])]) 7 [false] ⟨(atC (cd Try.f12) [1,1,1,1,0,1]),[(11,vi (wi (z+wi (s*Sp.rea 2 r)))),(34,vb !decide (Sp.pM (z+s*Sp.rea 2 r)))],[⟨[(zNpC3 x y z)],3,0,false,false⟩],_,[],[⟨true,true,37,[AV.ptr 0 0 0 0,vi 2],[⟨[(zNpC3 x y z)],3,0,false,false⟩],AV.ptr 0 0 0 2,[⟨[(zNpC3 x y z)],3,0,false,false⟩]⟩,⟨true,false,40,[vi 2,vi r],[],vi (Sp.rea 2 r),[]⟩,⟨true,false,49,[vi (wi (z+wi (s*Sp.rea 2 r)))],[],vb (decide (Sp.pM (z+s*Sp.rea 2 r))),[]⟩]⟩ (by kernel_rfl) (bc (Zah (fun h=>d4 ((Zas Zaa).1 h))) (bc rfl b0)) q0 (cc (fun _=>(@evo37_c x y z)) (cc (fun _=>(@ev40 2 r)) (cc (fun _=>(by (try rw [w6]);(try rw [w8]);all_goals exact (@ev49 (z+s*Sp.rea 2 r)))) c0))) ?_
   rcases xq H with ⟨d10,H⟩|⟨d10,H⟩
   ·exact Zae (G:=Zab kp12 [] []) 1000 [true] (tu [vi 0,vi 11]) (by kernel_rfl) (bc (Zak ((Zas Zaa).2 d10)) b0) q0 c0 H
   ·exact Zae (G:=Zab kp12 [] []) 1000 [false] (tu [vi (wi (z+wi (s*Sp.rea 2 r))),vi 0]) (by kernel_rfl) (bc (Zah (fun h=>d10 ((Zas Zaa).1 h))) b0) q0 c0 (by (try rw [w6]);(try rw [w8]);all_goals exact H)
end Go.Av

namespace Go.Av
open Go.Proofs
namespace Sp
def wal (x y z a s r:Int):Int:=alg x y z a+s*rea a r
def Zba (x y z a s r:Int):Int:=if pW a s r then (if pP x y z then (if pM (wal x y z a s r) then 0 else 11) else 11) else 1
def ZbP (x y z a s r:Int):Int:=if Zba x y z a s r=0 then wal x y z a s r else 0
end Sp
theorem alg_in {x y z:Int} (h:Sp.pP x y z) (a:Int):Sp.pM (Sp.alg x y z a):=by
 unfold Sp.alg
 split
 ·exact h.1
 ·split
  ·exact h.2.1
  ·exact h.2.2
theorem sr_in {a s r:Int} (h:Sp.pW a s r):(-10000000<=s*Sp.rea a r/\s*Sp.rea a r<=10000000) /\ -10000000<=s*r/\s*r<=10000000:=by
 obtain ⟨h1,h2,h3⟩:=h
 unfold Sp.rea
 rcases h2 with rfl | rfl <;> split <;> omega
theorem wall_end {x y z a s r c d:Int} {dq:AV} (hw:Sp.pW a s r) (hp:Sp.pP x y z) (hc:c=Sp.alg x y z a) (hd:d=s*Sp.rea a r) (hq:AV.tup [.int .i64 (Sp.ZbP x y z a s r),.int .i64 (Sp.Zba x y z a s r)]=dq) :
  (-9223372036854775808<=d/\d<=9223372036854775807)/\(-9223372036854775808<=c+d/\c+d<=9223372036854775807)/\((¬Sp.pM (c+d))->AV.tup [.int .i64 0,.int .i64 11]=dq)/\(¬(¬Sp.pM (c+d))->AV.tup [.int .i64 (c+d),.int .i64 0]=dq):=by
 have b1:=alg_in hp a
 have b2:=(sr_in hw).1
 have e:c+d=Sp.wal x y z a s r:=by unfold Sp.wal;rw [hc,hd]
 rw [e]
 unfold Sp.pM at b1
 refine ⟨by omega,by unfold Sp.wal;omega,fun k => ?_,fun k => ?_⟩
 ·have e:Sp.Zba x y z a s r=11:=by unfold Sp.Zba;rw [if_pos hw,if_pos hp,if_neg k]
  unfold Sp.ZbP at hq;rw [e] at hq;exact hq
 ·have e:Sp.Zba x y z a s r=0:=by unfold Sp.Zba;rw [if_pos hw,if_pos hp,if_pos (Classical.not_not.1 k)]
  unfold Sp.ZbP at hq;rw [e,if_pos rfl] at hq;exact hq
theorem wall_no {x y z a s r:Int} (h:¬Sp.pW a s r):Sp.ZbP x y z a s r=0/\Sp.Zba x y z a s r=1:=by
 have e:Sp.Zba x y z a s r=1:=if_neg h
 unfold Sp.ZbP;rw [e];exact ⟨rfl,rfl⟩
theorem wall_out {x y z a s r:Int} (h:Sp.pW a s r) (k:¬Sp.pP x y z):Sp.ZbP x y z a s r=0/\Sp.Zba x y z a s r=11:=by
 have e:Sp.Zba x y z a s r=11:=by unfold Sp.Zba;rw [if_pos h,if_neg k]
 unfold Sp.ZbP;rw [e];exact ⟨rfl,rfl⟩
theorem Zdn {a s r:Int}:Sp.chk a s r=0 ↔ Sp.pW a s r:=by
 unfold Sp.chk
 by_cases h:Sp.pW a s r
 ·rw [if_pos h];exact ⟨fun _=>h,fun _=>rfl⟩
 ·rw [if_neg h];exact ⟨fun k=>absurd k (by decide),fun k=>absurd k h⟩
theorem ev12 (x y z a s r:Int):Ev M1 (.pure 12 [.agg [.int .i64 x,.int .i64 y,.int .i64 z],.int .i64 a,.int .i64 s,.int .i64 r]) (.tup [.int .i64 (Sp.ZbP x y z a s r),.int .i64 (Sp.Zba x y z a s r)]) []:=by
 by_cases h:Sp.pW a s r
 ·have c:=Zdn.2 h
  have o:¬Sp.pP x y z->AV.tup [.int .i64 0,.int .i64 11]=AV.tup [.int .i64 (Sp.ZbP x y z a s r),.int .i64 (Sp.Zba x y z a s r)]:=fun k=>by
   rw [(wall_out h k).1,(wall_out h k).2]
  have ha:a=0\/a=1\/a=2:=by have:=h.1;omega
  rcases ha with rfl | rfl | rfl
  ·exact call12 (pWall0 _ _ _ _ _ _ ⟨fun k=>absurd c k,fun _=>⟨o,fun k=>wall_end h (Classical.not_not.1 k) rfl rfl rfl⟩⟩)
  ·exact call12 (pWall1 _ _ _ _ _ _ ⟨fun k=>absurd c k,fun _=>⟨o,fun k=>wall_end h (Classical.not_not.1 k) rfl rfl rfl⟩⟩)
  ·exact call12 (pWall2 _ _ _ _ _ _ ⟨fun k=>absurd c k,fun _=>⟨o,fun k=>wall_end h (Classical.not_not.1 k) rfl rfl rfl⟩⟩)
 ·have c:¬Sp.chk a s r=0:=fun k=>h (Zdn.1 k)
  refine call12 (pWallX _ _ _ _ _ _ _ ⟨fun _ => ?_,fun k=>absurd c k⟩)
  rw [(wall_no h).1,(wall_no h).2,show Sp.chk a s r=1 from if_neg h]
end Go.Av

namespace Go.Av
open Go.Proofs
set_option maxRecDepth 100000
def fi23:Fi:=⟨51,[.cell 10 48,.tmp 11]⟩
def kp23:List (Nat × List Nat):=[(0,[2,3,4,5,6,10]),(1,[2,3,4,5,6,10,25]),(2,[10,11]),(3,[3,4,6,10,12,13]),(4,[10,12,13,14,15]),(5,[10,12,14,46]),(6,[10,11]),(7,[10,11])]
def Zht (x y z u v w s t r:Int) (Q:AV->Heap->Prop):Prop:=Wp M1 (.run fi23 (atC (cd Try.f23) []) [(0,.agg [.int .i64 x,.int .i64 y,.int .i64 z]),(1,.agg [.int .i64 u,.int .i64 v,.int .i64 w]),(2,.int .i64 s),(3,.int .i64 t),(4,.int .i64 r)] []) Q
theorem call23 {args:List AV} {d:AV} (h:wc M1 fi23 Try.f23 args d):Ev M1 (.pure 23 args) d []:=pcl _ _ (by kernel_rfl) h
noncomputable abbrev zNpD1:=ag [vi 0,vi 0]
theorem pCorner (x y z u v w s t r:Int)  (dq:AV) (H :
  (((¬Sp.chk 0 s r=0)\/(¬Sp.chk 1 t r=0))->tu [ag [vi 0,vi 0],vi 1]=dq) /\
  (¬((¬Sp.chk 0 s r=0)\/(¬Sp.chk 1 t r=0))->(((¬Sp.Zba x y z 0 s r=0)\/(¬Sp.Zba u v w 1 t r=0))->tu [ag [vi 0,vi 0],vi 11]=dq) /\
   (¬((¬Sp.Zba x y z 0 s r=0)\/(¬Sp.Zba u v w 1 t r=0))->tu [ag [vi (Sp.ZbP x y z 0 s r),vi (Sp.ZbP u v w 1 t r)],vi 0]=dq))) :
 Zht x y z u v w s t r (Zad dq):=by
 unfold Zht
 refine Zac (G:=Zab kp23 [(1,2,.call (vi (Sp.chk 0 s r)) none),(1,7,.call (vi (Sp.chk 1 t r)) none)] []) 5 [] ⟨(atC (cd Try.f23) [1,0,1]),[(2,vi s),(3,vi t),(4,vi r),(5,AV.ptr 0 0 0 0),(6,AV.ptr 1 0 0 0),(10,AV.ptr 2 0 0 0),(25,vb (bif Sp.chk 0 s r != 0 then true else Sp.chk 1 t r != 0))],[⟨[ag [vi x,vi y,vi z]],3,0,false,false⟩,⟨[ag [vi u,vi v,vi w]],3,0,false,false⟩,⟨[zNpD1],2,0,false,false⟩],_,[],[⟨true,false,34,[vi 0,vi s,vi r],[],vi (Sp.chk 0 s r),[]⟩,⟨(Sp.chk 0 s r != 0)==false&&true&&true,false,34,[vi 1,vi t,vi r],[],vi (Sp.chk 1 t r),[]⟩]⟩ (by kernel_rfl) b0 q0 (cc (fun _=>(@ev34 0 s r)) (cc (fun hc=>((@ev34 1 t r):Ev M1 (Conf.pure 34 [vi 1,vi t,vi r]) (vi (Sp.chk 1 t r)) [])) c0)) ?_
 rcases xq H with ⟨d3,H⟩|⟨d3,H⟩
 ·exact Zae (G:=Zab kp23 [] []) 1000 [true] (tu [zNpD1,vi 1]) (by kernel_rfl) (bc (Zak ((Zar i_ne i_ne).2 d3)) (bc rfl b0)) q0 c0 H
 ·refine Zac (G:=Zab kp23 [(3,3,.call (tu [vi (Sp.ZbP x y z 0 s r),vi (Sp.Zba x y z 0 s r)]) none),(4,3,.call (tu [vi (Sp.ZbP u v w 1 t r),vi (Sp.Zba u v w 1 t r)]) none)] []) 9 [false] ⟨(atC (cd Try.f23) [1,1,1,1,0,1]),[(10,AV.ptr 2 0 0 0),(12,vi (Sp.ZbP x y z 0 s r)),(14,vi (Sp.ZbP u v w 1 t r)),(46,vb (bif Sp.Zba x y z 0 s r != 0 then true else Sp.Zba u v w 1 t r != 0))],[⟨[ag [vi x,vi y,vi z]],3,0,false,false⟩,⟨[ag [vi u,vi v,vi w]],3,0,false,false⟩,⟨[zNpD1],2,0,false,false⟩],_,[],_⟩ (by kernel_rfl) (bc (Zah (fun h=>d3 ((Zar i_ne i_ne).1 h))) (bc rfl (bc rfl b0))) q0 (ce (@ev12 x y z 0 s r) (ce (@ev12 u v w 1 t r) c0)) ?_
  rcases xq H with ⟨d5,H⟩|⟨d5,H⟩
  ·exact Zae (G:=Zab kp23 [] []) 1000 [true] (tu [zNpD1,vi 11]) (by kernel_rfl) (bc (Zak ((Zar i_ne i_ne).2 d5)) (bc rfl b0)) q0 c0 H
  ·exact Zae (G:=Zab kp23 [] []) 1000 [false] (tu [ag [vi (Sp.ZbP x y z 0 s r),vi (Sp.ZbP u v w 1 t r)],vi 0]) (by kernel_rfl) (bc (Zah (fun h=>d5 ((Zar i_ne i_ne).1 h))) (bc rfl b0)) q0 c0 H
end Go.Av

namespace Go.Av
open Go.Proofs
namespace Sp
def cnrE (x y z u v w s t r:Int):Int:=if pW 0 s r/\pW 1 t r then (if Zba x y z 0 s r=0/\Zba u v w 1 t r=0 then 0 else 11) else 1
def cnrX (x y z u v w s t r:Int):Int:=if cnrE x y z u v w s t r=0 then ZbP x y z 0 s r else 0
def cnrY (x y z u v w s t r:Int):Int:=if cnrE x y z u v w s t r=0 then ZbP u v w 1 t r else 0
end Sp
theorem cnr_1 {x y z u v w s t r:Int} (h:¬(Sp.pW 0 s r/\Sp.pW 1 t r)):AV.tup [.agg [.int .i64 0,.int .i64 0],.int .i64 1]=AV.tup [.agg [.int .i64 (Sp.cnrX x y z u v w s t r),.int .i64 (Sp.cnrY x y z u v w s t r)],.int .i64 (Sp.cnrE x y z u v w s t r)]:=by
 have e:Sp.cnrE x y z u v w s t r=1:=if_neg h
 unfold Sp.cnrX Sp.cnrY;rw [e];rfl
theorem cnr_2 {x y z u v w s t r:Int} (h:Sp.pW 0 s r/\Sp.pW 1 t r) (k:¬(Sp.Zba x y z 0 s r=0/\Sp.Zba u v w 1 t r=0)):AV.tup [.agg [.int .i64 0,.int .i64 0],.int .i64 11]=AV.tup [.agg [.int .i64 (Sp.cnrX x y z u v w s t r),.int .i64 (Sp.cnrY x y z u v w s t r)],.int .i64 (Sp.cnrE x y z u v w s t r)]:=by
 have e:Sp.cnrE x y z u v w s t r=11:=by unfold Sp.cnrE;rw [if_pos h,if_neg k]
 unfold Sp.cnrX Sp.cnrY;rw [e];rfl
theorem cnr_3 {x y z u v w s t r:Int} (h:Sp.pW 0 s r/\Sp.pW 1 t r) (k:Sp.Zba x y z 0 s r=0/\Sp.Zba u v w 1 t r=0):AV.tup [.agg [.int .i64 (Sp.ZbP x y z 0 s r),.int .i64 (Sp.ZbP u v w 1 t r)],.int .i64 0]=AV.tup [.agg [.int .i64 (Sp.cnrX x y z u v w s t r),.int .i64 (Sp.cnrY x y z u v w s t r)],.int .i64 (Sp.cnrE x y z u v w s t r)]:=by
 have e:Sp.cnrE x y z u v w s t r=0:=by unfold Sp.cnrE;rw [if_pos h,if_pos k]
 unfold Sp.cnrX Sp.cnrY;rw [e,if_pos rfl,if_pos rfl]
theorem both_not {p q:Prop} (h:¬((¬p)\/(¬q))):p/\q:=⟨Classical.not_not.1 fun m=>h (.inl m),Classical.not_not.1 fun m=>h (.inr m)⟩
theorem not_both {p q:Prop} (h:(¬p)\/(¬q)):¬(p/\q):=fun k=>h.elim (fun m=>m k.1) fun m=>m k.2
theorem ev23 (x y z u v w s t r:Int):Ev M1 (.pure 23 [.agg [.int .i64 x,.int .i64 y,.int .i64 z],.agg [.int .i64 u,.int .i64 v,.int .i64 w],.int .i64 s,.int .i64 t,.int .i64 r]) (.tup [.agg [.int .i64 (Sp.cnrX x y z u v w s t r),.int .i64 (Sp.cnrY x y z u v w s t r)],.int .i64 (Sp.cnrE x y z u v w s t r)]) []:=by
 refine call23 (pCorner _ _ _ _ _ _ _ _ _ _ ⟨fun h=>cnr_1 ?_,fun h=>⟨fun k=>cnr_2 ?_ (not_both k),fun k=>cnr_3 ?_ (both_not k)⟩⟩)
 ·rw [Zdn,Zdn] at h;exact not_both h
 ·rw [Zdn,Zdn] at h;exact both_not h
 ·rw [Zdn,Zdn] at h;exact both_not h
end Go.Av

namespace Go.Av
open Go.Proofs
set_option maxRecDepth 100000
def fi81:Fi:=⟨30,[.cell 4 28]⟩
def kp81:List (Nat × List Nat):=[(0,[0,1,4]),(1,[0,1,4,5]),(2,[0,1,4,5,17]),(3,[0,1,4,5]),(4,[4])]
def fi84:Fi:=⟨15,[.tmp 2]⟩
def kp84:List (Nat × List Nat):=[(0,[0]),(1,[2])]
def fi102:Fi:=⟨11,[.tmp 2]⟩
def kp102:List (Nat × List Nat):=[(0,[1]),(1,[1,3]),(2,[2]),(3,[6]),(4,[2]),(5,[2])]
def fi110:Fi:=⟨21,[.tmp 2]⟩
def kp110:List (Nat × List Nat):=[(0,[0]),(1,[0,14]),(2,[0]),(3,[2])]
def vTrim_at (fa:Bool) (a:List Int) (Q:AV->Heap->Prop):Prop:=Wp M1 (.run fi110 (atC (cd Try.f110) []) [(0,.vec fa 1 (a.map (.int .u32)))] []) Q
def Zdx (fa:Bool) (a:List Int) (Q:AV->Heap->Prop):Prop:=Wp M1 (.run fi110 (atC (cd Try.f110) [1,0,0,0]) [(0,.vec fa 1 (a.map (.int .u32)))] []) Q
def Zg8 (s fa:Bool) (a:List Int) (Q:AV->Heap->Prop):Prop:=Wp M1 (.run fi81 (atC (cd Try.f81) []) [(0,.bool s),(1,.vec fa 1 (a.map (.int .u32)))] []) Q
def Zcz (s fa:Bool) (a:List Int) (n:Int) (Q:AV->Heap->Prop):Prop:=Wp M1 (.run fi81 (atC (cd Try.f81) [1,1,0,0,0]) [(0,.bool s),(1,.vec fa 1 (a.map (.int .u32))),(4,.ptr 0 0 0 0),(5,.int .i64 n)] [⟨[.agg [.bool false,.vnil]],2,0,false,false⟩]) Q
def ZfW (s:Bool) (Q:AV->Heap->Prop):Prop:=Wp M1 (.run fi81 (atC (cd Try.f81) []) [(0,.bool s),(1,.vnil)] []) Q
def Zdy (s:Bool) (Q:AV->Heap->Prop):Prop:=Wp M1 (.run fi81 (atC (cd Try.f81) [1,1,0,0,0]) [(0,.bool s),(1,.vnil),(4,.ptr 0 0 0 0),(5,.int .i64 0)] [⟨[.agg [.bool false,.vnil]],2,0,false,false⟩]) Q
def vSplit_at (u:Int) (Q:AV->Heap->Prop):Prop:=Wp M1 (.run fi84 (atC (cd Try.f84) []) [(0,.int .u64 u)] []) Q
def vSign_at (fa:Bool) (v:Int) (Q:AV->Heap->Prop):Prop:=Wp M1 (.run fi102 (atC (cd Try.f102) []) [(0,bigA fa v)] []) Q
theorem call81 {args:List AV} {d:AV} (h:wc M1 fi81 Try.f81 args d):Ev M1 (.pure 81 args) d []:=pcl _ _ (by kernel_rfl) h
theorem call84 {args:List AV} {d:AV} (h:wc M1 fi84 Try.f84 args d):Ev M1 (.pure 84 args) d []:=pcl _ _ (by kernel_rfl) h
theorem call102 {args:List AV} {d:AV} (h:wc M1 fi102 Try.f102 args d):Ev M1 (.pure 102 args) d []:=pcl _ _ (by kernel_rfl) h
theorem call110 {args:List AV} {d:AV} (h:wc M1 fi110 Try.f110 args d):Ev M1 (.pure 110 args) d []:=pcl _ _ (by kernel_rfl) h
theorem vTrim (fa:Bool) (a:List Int)  (dq:AV) (H :
  Zdx fa a (Zad dq)) :
 vTrim_at fa a (Zad dq):=by
 unfold vTrim_at
 exact Zac (G:=Zab kp110 [] []) 1000 [] ⟨(atC (cd Try.f110) [1,0,0,0]),[(0,AV.vec fa 1 (us a))],[],_,[],_⟩ (by kernel_rfl) b0 q0 c0 H
theorem vTrimA (fa:Bool) (a:List Int)  (dq:AV) (H :
  (-9223372036854775808<=(↑a.length:Int)-1/\(↑a.length:Int)-1<=9223372036854775807) /\
  (((↑a.length:Int)>0)->(0<=(↑a.length:Int)-1)) /\
  (((↑a.length:Int)>0)->(((↑a.length:Int)-1).toNat<a.length)) /\
  ((((↑a.length:Int)>0)/\(a.getD ((↑a.length:Int)-1).toNat default=0))->(0<=(↑a.length:Int)-1) /\
   (0<=((↑a.length:Int)-1).toNat) /\
   (((↑a.length:Int)-1).toNat<=a.length) /\
   Zdx (fa&&false) (List.drop 0 (List.take ((↑a.length:Int)-1).toNat a)) (Zad dq)) /\
  (¬(((↑a.length:Int)>0)/\(a.getD ((↑a.length:Int)-1).toNat default=0))->Weak (AV.vec fa 1 (us a)) dq)) :
 Zdx fa a (Zad dq):=by
 unfold Zdx
 have w1:(us a).length=a.length:=List.length_map ..
 obtain ⟨k2,H⟩:=H
 have w3:wi ((↑a.length:Int)-1)=(↑a.length:Int)-1:=wI64 k2
 have i4:(!(decide ((↑(us a).length:Int)>0)==true&&true)||decide (0<=wi ((↑(us a).length:Int)-1)))=true ↔ (((↑a.length:Int)>0)->(0<=(↑a.length:Int)-1)):=(by (try rw [w1]);(try rw [w3]);all_goals exact (Zdt (i_at (i_bt Zaa)) Zaa))
 obtain ⟨k5,H⟩:=H
 have i6:(!(decide ((↑(us a).length:Int)>0)==true&&true)||decide ((wi ((↑(us a).length:Int)-1)).toNat<(us a).length))=true ↔ (((↑a.length:Int)>0)->(((↑a.length:Int)-1).toNat<a.length)):=(by (try rw [w1]);(try rw [w3]);all_goals exact (Zdt (i_at (i_bt Zaa)) Zaa))
 obtain ⟨k7,H⟩:=H
 have i9:(bif decide ((↑(us a).length:Int)>0) then a.getD ((↑a.length:Int)-1).toNat default==0 else false)=true ↔ (((↑a.length:Int)>0)/\(a.getD ((↑a.length:Int)-1).toNat default=0)):=(by (try rw [w1]);all_goals exact (Zck Zaa i_eq))
 refine Zac (G:=Zab kp110 [(1,9,.elem (vu (a.getD ((↑a.length:Int)-1).toNat default)))] []) 3 [] ⟨(atC (cd Try.f110) [1,0,0,0,0,1]),[(0,AV.vec fa 1 (us a)),(14,vb (bif decide ((↑(us a).length:Int)>0) then a.getD ((↑a.length:Int)-1).toNat default==0 else false))],[],_,[((decide ((↑(us a).length:Int)>0)==true&&true)=true->(us a).get?Internal (wi ((↑(us a).length:Int)-1)).toNat=some (vu (a.getD ((↑a.length:Int)-1).toNat default)))],_⟩ (by kernel_rfl) (bc (i4.2 k5) (bc (i6.2 k7) b0)) (qc (by (try rw [w1]);(try rw [w3]);all_goals exact (fun h=>Zap (k7 ((i_at (i_bt Zaa)).1 h)))) q0) c0 ?_
 rcases xq H with ⟨d10,H⟩|⟨d10,H⟩
 ·have i11:(decide (0<=wi ((↑(us a).length:Int)-1)))=true ↔ (0<=(↑a.length:Int)-1):=(by (try rw [w1]);(try rw [w3]);all_goals exact Zaa)
  obtain ⟨k12,H⟩:=H
  have i13:(decide (0<=(wi ((↑(us a).length:Int)-1)).toNat))=true ↔ (0<=((↑a.length:Int)-1).toNat):=(by (try rw [w1]);(try rw [w3]);all_goals exact Zaa)
  obtain ⟨k14,H⟩:=H
  have i15:(decide ((wi ((↑(us a).length:Int)-1)).toNat<=(us a).length))=true ↔ (((↑a.length:Int)-1).toNat<=a.length):=(by (try rw [w1]);(try rw [w3]);all_goals exact Zaa)
  obtain ⟨k16,H⟩:=H
  have w17:List.take ((↑a.length:Int)-1).toNat (us a)=us (List.take ((↑a.length:Int)-1).toNat a):=(Ze6 rfl)
  have w18:List.drop 0 (us (List.take ((↑a.length:Int)-1).toNat a))=us (List.drop 0 (List.take ((↑a.length:Int)-1).toNat a)):=(Ze7 rfl)
  exact Zac (G:=Zab kp110 [] []) 1000 [true] ⟨(atC (cd Try.f110) [1,0,0,0]),[(0,AV.vec (fa&&false) 1 (List.drop 0 (List.take (wi ((↑(us a).length:Int)-1)).toNat (us a))))],[],_,[],_⟩ (by kernel_rfl) (bc (Zak (i9.2 d10)) (bc (i11.2 k12) (bc (i13.2 k14) (bc (i15.2 k16) b0)))) q0 c0 (by (try rw [w1]);(try rw [w3]);(try rw [w17]);(try rw [w18]);all_goals exact H)
 ·exact Zai (G:=Zab kp110 [] []) 1000 [false] (AV.vec fa 1 (us a)) (by kernel_rfl) (bc (Zah (fun h=>d10 (i9.1 h))) b0) q0 c0 H
theorem vSigned (s fa:Bool) (a:List Int)  (dq:AV) (H :
  Zcz s fa a ((↑a.length:Int)) (Zad dq)) :
 Zg8 s fa a (Zad dq):=by
 unfold Zg8
 have w1:(us a).length=a.length:=List.length_map ..
 exact Zac (G:=Zab kp81 [] []) 1000 [] ⟨(atC (cd Try.f81) [1,1,0,0,0]),[(0,vb s),(1,AV.vec fa 1 (us a)),(4,AV.ptr 0 0 0 0),(5,vi (↑(us a).length:Int))],[⟨[ag [vb false,AV.vnil]],2,0,false,false⟩],_,[],_⟩ (by kernel_rfl) b0 q0 c0 (by (try rw [w1]);all_goals exact H)
theorem vSignedA (s fa:Bool) (a:List Int) (n:Int)  (dq:AV) (H :
  (-9223372036854775808<=n-1/\n-1<=9223372036854775807) /\
  ((n>0)->(0<=n-1)) /\
  ((n>0)->((n-1).toNat<a.length)) /\
  (((n>0)/\(a.getD (n-1).toNat default=0))->Zcz s fa a (n-1) (Zad dq)) /\
  (¬((n>0)/\(a.getD (n-1).toNat default=0))->(0<=n) /\
   (0<=n.toNat) /\
   (n.toNat<=a.length) /\
   (n=(↑n.toNat:Int)) /\
   Weak (ag [vb (bif s then decide (n>0) else false),AV.vec true 1 (us (List.drop 0 (List.take n.toNat a)))]) dq)) :
 Zcz s fa a n (Zad dq):=by
 unfold Zcz
 obtain ⟨k1,H⟩:=H
 have w2:wi (n-1)=n-1:=wI64 k1
 have i3:(!(decide (n>0)==true&&true)||decide (0<=wi (n-1)))=true ↔ ((n>0)->(0<=n-1)):=(by (try rw [w2]);all_goals exact (Zdt (i_at (i_bt Zaa)) Zaa))
 obtain ⟨k4,H⟩:=H
 have w5:(us a).length=a.length:=List.length_map ..
 have i6:(!(decide (n>0)==true&&true)||decide ((wi (n-1)).toNat<(us a).length))=true ↔ ((n>0)->((n-1).toNat<a.length)):=(by (try rw [w2]);(try rw [w5]);all_goals exact (Zdt (i_at (i_bt Zaa)) Zaa))
 obtain ⟨k7,H⟩:=H
 refine Zac (G:=Zab kp81 [(2,7,.elem (vu (a.getD (n-1).toNat default)))] []) 3 [] ⟨(atC (cd Try.f81) [1,1,0,0,0,0,1]),[(0,vb s),(1,AV.vec fa 1 (us a)),(4,AV.ptr 0 0 0 0),(5,vi n),(17,vb (bif decide (n>0) then a.getD (n-1).toNat default==0 else false))],[⟨[ag [vb false,AV.vnil]],2,0,false,false⟩],_,[((decide (n>0)==true&&true)=true->(us a).get?Internal (wi (n-1)).toNat=some (vu (a.getD (n-1).toNat default)))],_⟩ (by kernel_rfl) (bc (i3.2 k4) (bc (i6.2 k7) b0)) (qc (by (try rw [w2]);all_goals exact (fun h=>Zap (k7 ((i_at (i_bt Zaa)).1 h)))) q0) c0 ?_
 rcases xq H with ⟨d10,H⟩|⟨d10,H⟩
 ·exact Zac (G:=Zab kp81 [] []) 1000 [true] ⟨(atC (cd Try.f81) [1,1,0,0,0]),[(0,vb s),(1,AV.vec fa 1 (us a)),(4,AV.ptr 0 0 0 0),(5,vi (wi (n-1)))],[⟨[ag [vb false,AV.vnil]],2,0,false,false⟩],_,[],_⟩ (by kernel_rfl) (bc (Zak ((Zck Zaa i_eq).2 d10)) b0) q0 c0 (by (try rw [w2]);all_goals exact H)
 ·obtain ⟨k12,k14,H⟩:=H
  have i15:(decide (n.toNat<=(us a).length))=true ↔ (n.toNat<=a.length):=(by (try rw [w5]);all_goals exact Zaa)
  obtain ⟨k16,k18,H⟩:=H
  have w19:List.take n.toNat (us a)=us (List.take n.toNat a):=(Ze6 rfl)
  have w20:List.drop 0 (us (List.take n.toNat a))=us (List.drop 0 (List.take n.toNat a)):=(Ze7 rfl)
  exact Zai (G:=Zab kp81 [] []) 1000 [false] (ag [vb (bif s then decide (n>0) else false),AV.vec true 1 (List.drop 0 (List.take n.toNat (us a)))]) (by kernel_rfl) (bc (Zah (fun h=>d10 ((Zck Zaa i_eq).1 h))) (bc (Zaa.2 k12) (bc (Zaa.2 k14) (bc (i15.2 k16) (bc (i_eq.2 k18) (bc rfl (bc rfl b0))))))) q0 c0 (by (try rw [w19]);(try rw [w20]);all_goals exact H)
theorem vSigned0 (s:Bool)  (dq:AV) (H :
  Zdy s (Zad dq)) :
 ZfW s (Zad dq):=by
 unfold ZfW
 exact Zac (G:=Zab kp81 [] []) 1000 [] ⟨(atC (cd Try.f81) [1,1,0,0,0]),[(0,vb s),(1,AV.vnil),(4,AV.ptr 0 0 0 0),(5,vi 0)],[⟨[ag [vb false,AV.vnil]],2,0,false,false⟩],_,[],_⟩ (by kernel_rfl) b0 q0 c0 H
theorem vSigned0A (s:Bool)  (dq:AV) (H :
  Weak (ag [vb (bif s then false else false),AV.vnil]) dq) :
 Zdy s (Zad dq):=by
 unfold Zdy
 exact Zai (G:=Zab kp81 [] []) 1000 [false] (ag [vb (bif s then false else false),AV.vnil]) (by kernel_rfl) (bc rfl (bc rfl (bc rfl (bc rfl (bc rfl (bc rfl (bc rfl (bc rfl b0)))))))) q0 c0 H
theorem vSplit (u:Int)  (dq:AV) (H :
  (0<=u.tmod 1000000000/\u.tmod 1000000000<=4294967295) /\
  (0<=u.tdiv 1000000000/\u.tdiv 1000000000<=18446744073709551615) /\
  (0<=(u.tdiv 1000000000).tmod 1000000000/\(u.tdiv 1000000000).tmod 1000000000<=4294967295) /\
  (0<=(u.tdiv 1000000000).tdiv 1000000000/\(u.tdiv 1000000000).tdiv 1000000000<=18446744073709551615) /\
  (0<=(u.tdiv 1000000000).tdiv 1000000000/\(u.tdiv 1000000000).tdiv 1000000000<=4294967295) /\
  Weak (AV.vec true 1 [vu (u.tmod 1000000000),vu ((u.tdiv 1000000000).tmod 1000000000),vu ((u.tdiv 1000000000).tdiv 1000000000)]) dq) :
 vSplit_at u (Zad dq):=by
 unfold vSplit_at
 obtain ⟨k1,H⟩:=H
 have w2:wv (u.tmod 1000000000)=u.tmod 1000000000:=wU32 k1
 obtain ⟨k3,H⟩:=H
 have w4:wu (u.tdiv 1000000000)=u.tdiv 1000000000:=wU64 k3
 obtain ⟨k5,H⟩:=H
 have w6:wv ((u.tdiv 1000000000).tmod 1000000000)=(u.tdiv 1000000000).tmod 1000000000:=wU32 k5
 obtain ⟨k7,H⟩:=H
 have w8:wu ((u.tdiv 1000000000).tdiv 1000000000)=(u.tdiv 1000000000).tdiv 1000000000:=wU64 k7
 obtain ⟨k9,H⟩:=H
 have w10:wv ((u.tdiv 1000000000).tdiv 1000000000)=(u.tdiv 1000000000).tdiv 1000000000:=wU32 k9
 exact Zai (G:=Zab kp84 [] []) 1000 [] (AV.vec true 1 [vu (wv (u.tmod 1000000000)),vu (wv ((wu (u.tdiv 1000000000)).tmod 1000000000)),vu (wv (wu ((wu (u.tdiv 1000000000)).tdiv 1000000000)))]) (by kernel_rfl) (bc rfl (bc rfl (bc rfl (bc rfl (bc rfl b0))))) q0 c0 (by (try rw [w2]);(try rw [w4]);(try rw [w6]);(try rw [w8]);(try rw [w10]);all_goals exact H)
theorem vSign (fa:Bool) (v:Int)  (dq:AV) (H :
  ((Sp.Zaf v=true)->vi (-1)=dq) /\
  (¬(Sp.Zaf v=true)->(((↑(Sp.Zau v).length:Int)>0)->vi 1=dq) /\
   (¬((↑(Sp.Zau v).length:Int)>0)->vi 0=dq))) :
 vSign_at fa v (Zad dq):=by
 unfold vSign_at
 rcases xq H with ⟨d2,H⟩|⟨d2,H⟩
 ·exact Zae (G:=Zab kp102 [] []) 1000 [true] (asm:=[true,(Sp.Zaf v)==true]) (vi (-1)) (by kernel_rfl) (bc rfl (bc (Zak ((ZbE _).2 d2)) b0)) q0 c0 H
 ·have w3:(us (Sp.Zau v)).length=(Sp.Zau v).length:=List.length_map ..
  have i4:(decide ((↑(us (Sp.Zau v)).length:Int)>0))=true ↔ ((↑(Sp.Zau v).length:Int)>0):=(by (try rw [w3]);all_goals exact Zaa)
  rcases xq H with ⟨d5,H⟩|⟨d5,H⟩
  ·exact Zae (G:=Zab kp102 [] []) 1000 [false,true] (asm:=[true,(Sp.Zaf v)==false,true,(decide ((↑(us (Sp.Zau v)).length:Int)>0))==true]) (vi 1) (by kernel_rfl) (bc rfl (bc (Zah (fun h=>d2 ((ZbE _).1 h))) (bc rfl (bc (Zak (i4.2 d5)) b0)))) q0 c0 H
  ·exact Zae (G:=Zab kp102 [] []) 1000 [false,false] (asm:=[true,(Sp.Zaf v)==false,true,(decide ((↑(us (Sp.Zau v)).length:Int)>0))==false]) (vi 0) (by kernel_rfl) (bc rfl (bc (Zah (fun h=>d2 ((ZbE _).1 h))) (bc rfl (bc (Zah (fun h=>d5 (i4.1 h))) b0)))) q0 c0 H
end Go.Av

namespace Go.Av
open Go.Proofs
namespace Sp
def sg (s:Bool) (v:Nat):Int:=if s=true then -(v:Int) else v
def sgnI (v:Int):Int:=if v<0 then -1 else if v>0 then 1 else 0
def Zay (k:Nat):Prop:=k<=1000000
def ok (v:Int):Prop:=cnt v.natAbs<=1000000
end Sp
theorem Zcm (f:Bool) (es:Nat) (xs:List AV):Weak (.vec f es xs) (.vec false es xs):=by
 cases f with
 | true=>exact .full es xs
 | false=>exact .refl _
theorem weak_big (b f:Bool) (xs:List AV):Weak (.agg [.bool b,.vec f 1 xs]) (.agg [.bool b,.vec false 1 xs]):=by
 refine .agg _ _ rfl fun i x y hx hy => ?_
 match i with
 | 0=>simp at hx hy;subst hx;subst hy;exact .refl _
 | 1=>simp at hx hy;subst hx;subst hy;exact Zcm _ _ _
 | i+2=>simp at hx
theorem Zbp (v:Int):(Sp.Zau v).length=Sp.cnt v.natAbs:=ZaG _
theorem Zan {v:Int}:Sp.Zaf v=true ↔ v<0:=decide_eq_true_iff
theorem sg_limI (s:Bool) (v:Nat):Sp.Zau (Sp.sg s v)=Sp.lim v:=by
 unfold Sp.Zau Sp.sg
 cases s <;> simp
theorem sg_neg (s:Bool) (v:Nat):Sp.Zaf (Sp.sg s v)=(bif s then decide (v ≠ 0) else false):=by
 unfold Sp.Zaf Sp.sg
 cases s with
 | true =>
  rw [if_pos rfl,cond_true,decide_eq_decide];omega
 | false =>
  rw [if_neg (by simp),cond_false];simp
theorem big_sg (f s:Bool) (v:Nat):bigA f (Sp.sg s v) = .agg [.bool (bif s then decide (v ≠ 0) else false),.vec f 1 ((Sp.lim v).map (.int .u32))]:=by
 show AV.agg [.bool (Sp.Zaf (Sp.sg s v)),.vec f 1 ((Sp.Zau (Sp.sg s v)).map (.int .u32))]=_
 rw [sg_limI,sg_neg]
theorem ZfM {k v:Nat} (h:Sp.fits (k+1) v):(Sp.Zaq (k+1) v).getD k default=0 ↔ Sp.fits k v:=by
 rw [Zaw v (by omega),Zc4]
 have:=ZbB h
 generalize v / 1000000000 ^ k=t at this
 omega
theorem loopTrim:∀ (k:Nat) (fa:Bool) (v:Nat),k<=1000000->Sp.fits k v->Zdx fa (Sp.Zaq k v) (Zad (usA false (Sp.lim v)))
 | 0,fa,v,hk,hf=>by
  have h0:=Za6.1 hf
  subst h0
  rw [Zco]
  have hl:=Zal 0 0
  exact vTrimA _ _ _ ⟨by omega,fun h=>by omega,fun h=>by omega,fun h=>by omega,fun _=>Zcm _ _ _⟩
 | k+1,fa,v,hk,hf=>by
  have hl:=Zal (k+1) v
  have e1:(((Sp.Zaq (k+1) v).length:Int)-1).toNat=k:=by omega
  refine vTrimA _ _ _ ⟨by omega,fun _=>by omega,fun _=>by omega,fun h => ?_,fun h => ?_⟩
  ·rw [e1] at h ⊢
   have h2:=(ZfM hf).1 h.2
   refine ⟨by omega,by omega,by omega,?_⟩
   rw [List.drop_zero,limN_take]
   exact loopTrim k _ v (by omega) h2
  ·rw [e1] at h
   have h2:¬Sp.fits k v:=fun x=>h ⟨by omega,(ZfM hf).2 x⟩
   rw [lim_of hf (.inr (by simpa using h2))]
   exact Zcm _ _ _
theorem trimN (fa:Bool) (k v:Nat) (h:Sp.Zay k/\Sp.fits k v):Ev M1 (.pure 110 [usA fa (Sp.Zaq k v)]) (usA false (Sp.lim v)) []:=
 call110 (vTrim _ _ _ (loopTrim k fa v h.1 h.2))
theorem Zhy (s fa:Bool) (k v:Nat) (hk:k<=1000000):∀ (n:Nat),n<=k->Sp.fits n v->Zcz s fa (Sp.Zaq k v) n (Zad (bigA false (Sp.sg s v)))
 | 0,hn,hf=>by
  have h0:=Za6.1 hf
  subst h0
  refine vSignedA _ _ _ _ _ ⟨by omega,fun h=>by omega,fun h=>by omega,fun h=>by omega,fun _=>⟨by omega,by omega,by omega,by omega,?_⟩⟩
  rw [big_sg,Zco]
  have e:(bif s then decide ((0:Int)>0) else false)=(bif s then decide (0 ≠ 0) else false):=by cases s <;> simp
  rw [show ((0:Nat):Int)=0 from rfl,e]
  exact weak_big _ _ _
 | n+1,hn,hf=>by
  have hl:=Zal k v
  have e1:(((n+1:Nat):Int)-1).toNat=n:=by omega
  have e2:((n+1:Nat):Int)-1=(n:Nat):=by omega
  have top:(Sp.Zaq k v).getD n default=0 ↔ Sp.fits n v:=by
   rw [Zaw v (by omega),Zc4]
   have:=ZbB hf
   generalize v / 1000000000 ^ n=t at this
   omega
  refine vSignedA _ _ _ _ _ ⟨by omega,fun _=>by omega,fun _=>by omega,fun h => ?_,fun h => ?_⟩
  ·rw [e1] at h
   rw [e2]
   exact Zhy s fa k v hk n (by omega) (top.1 h.2)
  ·rw [e1] at h
   have h2:¬Sp.fits n v:=fun x=>h ⟨by omega,top.2 x⟩
   have hv:v ≠ 0:=by rintro rfl;exact h2 (Zav.2 (by rw [Zbw];omega))
   refine ⟨by omega,by omega,by omega,by omega,?_⟩
   have hc:Sp.cnt v=n+1:=by
    have a:=Zav.1 hf
    have b:¬Sp.cnt v<=n:=fun x=>h2 (Zav.2 x)
    omega
   rw [big_sg,Int.toNat_natCast,List.drop_zero,<- hc,lim_limN (ZaW hf hn),hc]
   have e:(bif s then decide (((n+1:Nat):Int)>0) else false)=(bif s then decide (v ≠ 0) else false):=by
    have:((n+1:Nat):Int)>0:=by omega
    cases s <;> simp [hv]
   rw [e]
   exact weak_big _ _ _
theorem signedN (s fa:Bool) (k v:Nat) (h:Sp.Zay k/\Sp.fits k v):Ev M1 (.pure 81 [.bool s,usA fa (Sp.Zaq k v)]) (bigA false (Sp.sg s v)) []:=by
 refine call81 (vSigned _ _ _ _ ?_)
 rw [Zal]
 exact Zhy s fa k v h.1 k (Nat.le_refl _) h.2
theorem ev81 (s fa:Bool) (k v:Nat) (h:Sp.Zay k/\Sp.fits k v):Ev M1 (.pure 81 [.bool s,usA fa (Sp.Zaq k v)]) (bigA false (Sp.sg s v)) []:=signedN s fa k v h
theorem ev81_a (s fa:Bool) (v:Int) (h:Sp.ok v):Ev M1 (.pure 81 [.bool s,usA fa (Sp.Zau v)]) (bigA false (Sp.sg s v.natAbs)) []:=signedN s fa _ _ ⟨h,Zag _⟩
theorem ev84 (u:Int) (h:0<=u/\u<=18446744073709551615):Ev M1 (.pure 84 [.int .u64 u]) (usA false (Sp.Zaq 3 u.toNat)) []:=by
 have e1:u.tmod 1000000000=u % 1000000000:=Int.tmod_eq_emod_of_nonneg h.1
 have e2:u.tdiv 1000000000=u / 1000000000:=Int.tdiv_eq_ediv_of_nonneg h.1
 have e3:(u / 1000000000).tmod 1000000000=(u / 1000000000) % 1000000000:=Int.tmod_eq_emod_of_nonneg (by omega)
 have e4:(u / 1000000000).tdiv 1000000000=(u / 1000000000) / 1000000000:=Int.tdiv_eq_ediv_of_nonneg (by omega)
 refine call84 (vSplit u _ ?_)
 rw [e1,e2,e3,e4]
 refine ⟨by omega,by omega,by omega,by omega,by omega,?_⟩
 have e:[AV.int .u32 (u % 1000000000),AV.int .u32 (u / 1000000000 % 1000000000),AV.int .u32 (u / 1000000000 / 1000000000)]=(Sp.Zaq 3 u.toNat).map (.int .u32):=by
  simp only [Sp.Zaq,List.map_cons,List.map_nil]
  have a1:((u.toNat % 1000000000:Nat):Int)=u % 1000000000:=by omega
  have a2:((u.toNat / 1000000000 % 1000000000:Nat):Int)=u / 1000000000 % 1000000000:=by omega
  have a3:((u.toNat / 1000000000 / 1000000000 % 1000000000:Nat):Int)=u / 1000000000 / 1000000000:=by omega
  rw [a1,a2,a3]
 rw [e]
 exact Zcm _ _ _
theorem ev102 (fa:Bool) (v:Int):Ev M1 (.pure 102 [bigA fa v]) (.int .i64 (Sp.sgnI v)) []:=by
 have hl:=Zbp v
 refine call102 (vSign fa v _ ⟨fun h => ?_,fun h=>⟨fun k => ?_,fun k => ?_⟩⟩)
 ·rw [Zan] at h
  rw [Sp.sgnI,if_pos h]
 ·rw [Zan] at h
  have:v.natAbs ≠ 0:=fun e=>by rw [hl,e,Zbw] at k;omega
  rw [Sp.sgnI,if_neg h,if_pos (by omega)]
 ·rw [Zan] at h
  have:v.natAbs=0:=ZaC.1 (by omega)
  rw [Sp.sgnI,if_neg h,if_neg (by omega)]
end Go.Av

namespace Go.Av
open Go.Proofs
set_option maxRecDepth 100000
def fi105:Fi:=⟨68,[.tmp 4]⟩
def kp105:List (Nat × List Nat):=[(0,[0,1]),(1,[0,1,5]),(2,[1,5,18,19,20]),(3,[1,5,18,19,20,21]),(4,[1,5,6,7,18,19,20]),(5,[1,5,6,7,8,18,19,20]),(6,[1,5,6,7,8,18,19,20,25,26,27]),(7,[1,5,6,7,8,18,19,20,25,26,27,28]),(8,[1,5,6,7,8,9,10,18,19,20,25,26,27]),(9,[1,5,6,7,9,11,18,19,20,25,26,27]),(10,[1,5,6,7,8,18,19,20,25,26,27]),(11,[1,5,6,7,8,18,19,20,25,26,27]),(12,[1,5,18,19,20]),(13,[1,5,18,19,20]),(14,[4])]
def ZfV (fa fb:Bool) (a b:List Int) (Q:AV->Heap->Prop):Prop:=Wp M1 (.run fi105 (atC (cd Try.f105) []) [(0,.vec fa 1 (a.map (.int .u32))),(1,.vec fb 1 (b.map (.int .u32)))] []) Q
def Zcs (fb fx:Bool) (b x o:List Int) (n i:Int) (Q:AV->Heap->Prop):Prop:=Wp M1 (.run fi105 (atC (cd Try.f105) [1,1,0,1,0,0]) [(1,.vec fb 1 (b.map (.int .u32))),(5,.row 0 0),(18,.vec fx 1 (x.map (.int .u32))),(19,.int .i64 n),(20,.int .i64 i)] [⟨o.map (.int .u32),1,0,false,true⟩]) Q
def Zcr (fb fx fy:Bool) (b x y o:List Int) (i0 x0 c n i m k:Int) (Q:AV->Heap->Prop):Prop:=Wp M1 (.run fi105 (atC (cd Try.f105) [1,1,0,1,0,0,1,1,0,0,1,1,0,1,0,0]) [(1,.vec fb 1 (b.map (.int .u32))),(5,.row 0 0),(6,.int .i64 i0),(7,.int .u32 x0),(8,.int .u64 c),(18,.vec fx 1 (x.map (.int .u32))),(19,.int .i64 n),(20,.int .i64 i),(25,.vec fy 1 (y.map (.int .u32))),(26,.int .i64 m),(27,.int .i64 k)] [⟨o.map (.int .u32),1,0,false,true⟩]) Q
theorem call105 {args:List AV} {d:AV} (h:wc M1 fi105 Try.f105 args d):Ev M1 (.pure 105 args) d []:=pcl _ _ (by kernel_rfl) h
theorem owncall105 {args:List AV} {L:Heap} {Q:AV->Heap->Prop} (h:Wp M1 (.run fi105 [.code (cd Try.f105)] (ZbG 0 args) L) Q):Wp M1 (.own 105 args L) Q:=
 own_wp Try.f105 fi105 (by kernel_rfl) (by kernel_rfl) (by kernel_rfl) (by kernel_rfl) h
theorem vTimes (fa fb:Bool) (a b:List Int)  (Q:AV->Heap->Prop) (H :
  (-9223372036854775808<=(↑a.length:Int)+(↑b.length:Int)/\(↑a.length:Int)+(↑b.length:Int)<=9223372036854775807) /\
  (0<=(↑a.length:Int)+(↑b.length:Int)) /\
  (((↑a.length:Int)+(↑b.length:Int))*4<=1099511627776) /\
  ((↑a.length:Int)+(↑b.length:Int)<=1099511627776) /\
  Zcs fb fa b a (List.replicate ((↑a.length:Int)+(↑b.length:Int)).toNat (0:Int)) ((↑a.length:Int)) 0 Q) :
 ZfV fa fb a b Q:=by
 unfold ZfV
 have w1:(us a).length=a.length:=List.length_map ..
 have w2:(us b).length=b.length:=List.length_map ..
 obtain ⟨k3,H⟩:=H
 have w4:wi ((↑a.length:Int)+(↑b.length:Int))=(↑a.length:Int)+(↑b.length:Int):=wI64 k3
 have i5:(decide (0<=wi ((↑(us a).length:Int)+(↑(us b).length:Int))))=true ↔ (0<=(↑a.length:Int)+(↑b.length:Int)):=(by (try rw [w1]);(try rw [w2]);(try rw [w4]);all_goals exact Zaa)
 obtain ⟨k6,H⟩:=H
 have i7:(decide (wi ((↑(us a).length:Int)+(↑(us b).length:Int))<=wi ((↑(us a).length:Int)+(↑(us b).length:Int))))=true ↔ ((↑a.length:Int)+(↑b.length:Int)<=(↑a.length:Int)+(↑b.length:Int)):=(by (try rw [w1]);(try rw [w2]);(try rw [w4]);all_goals exact Zaa)
 have i8:(decide (wi ((↑(us a).length:Int)+(↑(us b).length:Int))*4<=1099511627776))=true ↔ (((↑a.length:Int)+(↑b.length:Int))*4<=1099511627776):=(by (try rw [w1]);(try rw [w2]);(try rw [w4]);all_goals exact Zaa)
 obtain ⟨k9,H⟩:=H
 have i10:(decide (wi ((↑(us a).length:Int)+(↑(us b).length:Int))<=1099511627776))=true ↔ ((↑a.length:Int)+(↑b.length:Int)<=1099511627776):=(by (try rw [w1]);(try rw [w2]);(try rw [w4]);all_goals exact Zaa)
 obtain ⟨k11,H⟩:=H
 have w12:List.replicate ((↑a.length:Int)+(↑b.length:Int)).toNat (vu 0)=us (List.replicate ((↑a.length:Int)+(↑b.length:Int)).toNat (0:Int)):=(ZdJ rfl)
 exact Zac (G:=Zab kp105 [] []) 1000 [] ⟨(atC (cd Try.f105) [1,1,0,1,0,0]),[(1,AV.vec fb 1 (us b)),(5,AV.row 0 0),(18,AV.vec fa 1 (us a)),(19,vi (↑(us a).length:Int)),(20,vi 0)],[⟨List.replicate (wi ((↑(us a).length:Int)+(↑(us b).length:Int))).toNat (vu 0),1,0,false,true⟩],[decide (0<=wi ((↑(us a).length:Int)+(↑(us b).length:Int))),decide (wi ((↑(us a).length:Int)+(↑(us b).length:Int))<=wi ((↑(us a).length:Int)+(↑(us b).length:Int))),decide (wi ((↑(us a).length:Int)+(↑(us b).length:Int))*4<=1099511627776),decide (wi ((↑(us a).length:Int)+(↑(us b).length:Int))<=1099511627776)],[],_⟩ (by kernel_rfl) (bc (i5.2 k6) (bc (i7.2 (by omega)) (bc (i8.2 k9) (bc (i10.2 k11) b0)))) q0 c0 (by (try rw [w1]);(try rw [w2]);(try rw [w4]);(try rw [w12]);all_goals exact H)
theorem vTimesA (fb fx:Bool) (b x o:List Int) (n i:Int)  (Q:AV->Heap->Prop) (H :
  ((i<n)->(0<=i) /\
   (i.toNat<x.length) /\
   Zcr fb fx fb b x b o i (x.getD i.toNat default) 0 n i ((↑b.length:Int)) 0 Q) /\
  (¬(i<n)->Q (AV.row 0 0) [{ elems:=us o,es:=1,ver:=0,frozen:=false,clean:=true }])) :
 Zcs fb fx b x o n i Q:=by
 unfold Zcs
 rcases xq H with ⟨d2,H⟩|⟨d2,H⟩
 ·obtain ⟨k4,H⟩:=H
  have w5:(us x).length=x.length:=List.length_map ..
  have i6:(decide (i.toNat<(us x).length))=true ↔ (i.toNat<x.length):=(by (try rw [w5]);all_goals exact Zaa)
  obtain ⟨k7,H⟩:=H
  have w8:(us b).length=b.length:=List.length_map ..
  exact Zac (G:=Zab kp105 [(4,2,.elem (vu (x.getD i.toNat default)))] []) 1000 [true] ⟨(atC (cd Try.f105) [1,1,0,1,0,0,1,1,0,0,1,1,0,1,0,0]),[(1,AV.vec fb 1 (us b)),(5,AV.row 0 0),(6,vi i),(7,vu (x.getD i.toNat default)),(8,vw 0),(18,AV.vec fx 1 (us x)),(19,vi n),(20,vi i),(25,AV.vec fb 1 (us b)),(26,vi (↑(us b).length:Int)),(27,vi 0)],[⟨us o,1,0,false,true⟩],_,[((us x).get?Internal i.toNat=some (vu (x.getD i.toNat default)))],_⟩ (by kernel_rfl) (bc (Zak (Zaa.2 d2)) (bc (Zaa.2 k4) (bc (i6.2 k7) b0))) (qc (Zap k7) q0) c0 (by (try rw [w8]);all_goals exact H)
 ·exact Zbu (G:=Zab kp105 [] []) 1000 [false] (k:=((atC (cd Try.f105) [1,1,1,1])).tail) (env':=[(4,AV.row 0 0)]) (L':=[⟨us o,1,0,false,true⟩]) (asm:=[(decide (i<n))==false]) (eqs:=[]) (calls:=[]) (AV.row 0 0) (by kernel_rfl) (by kernel_rfl) (Zam (Zah (fun h=>d2 (Zaa.1 h))) ZaF) Za7 Za9 H
theorem vTimesB (fb fx fy:Bool) (b x y o:List Int) (i0 x0 c n i m k:Int)  (Q:AV->Heap->Prop) (H :
  ((k<m)->(0<=k) /\
   (k.toNat<y.length) /\
   (-9223372036854775808<=i0+k/\i0+k<=9223372036854775807) /\
   (0<=i0+k) /\
   ((i0+k).toNat<o.length) /\
   (0<=o.getD (i0+k).toNat default/\o.getD (i0+k).toNat default<=18446744073709551615) /\
   (0<=x0/\x0<=18446744073709551615) /\
   (0<=y.getD k.toNat default/\y.getD k.toNat default<=18446744073709551615) /\
   (0<=x0*y.getD k.toNat default/\x0*y.getD k.toNat default<=18446744073709551615) /\
   (0<=o.getD (i0+k).toNat default+x0*y.getD k.toNat default/\o.getD (i0+k).toNat default+x0*y.getD k.toNat default<=18446744073709551615) /\
   (0<=o.getD (i0+k).toNat default+x0*y.getD k.toNat default+c/\o.getD (i0+k).toNat default+x0*y.getD k.toNat default+c<=18446744073709551615) /\
   (0<=(o.getD (i0+k).toNat default+x0*y.getD k.toNat default+c).tdiv 1000000000/\(o.getD (i0+k).toNat default+x0*y.getD k.toNat default+c).tdiv 1000000000<=18446744073709551615) /\
   (0<=(o.getD (i0+k).toNat default+x0*y.getD k.toNat default+c).tmod 1000000000/\(o.getD (i0+k).toNat default+x0*y.getD k.toNat default+c).tmod 1000000000<=4294967295) /\
   (-9223372036854775808<=k+1/\k+1<=9223372036854775807) /\
   Zcr fb fx fy b x y (o.set (i0+k).toNat ((o.getD (i0+k).toNat default+x0*y.getD k.toNat default+c).tmod 1000000000)) i0 x0 ((o.getD (i0+k).toNat default+x0*y.getD k.toNat default+c).tdiv 1000000000) n i m (k+1) Q) /\
  (¬(k<m)->(-9223372036854775808<=i0+(↑b.length:Int)/\i0+(↑b.length:Int)<=9223372036854775807) /\
   (0<=i0+(↑b.length:Int)) /\
   ((i0+(↑b.length:Int)).toNat<o.length) /\
   (0<=c/\c<=4294967295) /\
   (-9223372036854775808<=i+1/\i+1<=9223372036854775807) /\
   Zcs fb fx b x (o.set (i0+(↑b.length:Int)).toNat c) n (i+1) Q)) :
 Zcr fb fx fy b x y o i0 x0 c n i m k Q:=by
 unfold Zcr
 rcases xq H with ⟨d2,H⟩|⟨d2,H⟩
 ·obtain ⟨k4,H⟩:=H
  have w5:(us y).length=y.length:=List.length_map ..
  have i6:(decide (k.toNat<(us y).length))=true ↔ (k.toNat<y.length):=(by (try rw [w5]);all_goals exact Zaa)
  obtain ⟨k7,k8,H⟩:=H
  have w9:wi (i0+k)=i0+k:=wI64 k8
  have i10:(decide (0<=wi (i0+k)))=true ↔ (0<=i0+k):=(by (try rw [w9]);all_goals exact Zaa)
  obtain ⟨k11,H⟩:=H
  have w12:(us o).length=o.length:=List.length_map ..
  have i13:(decide ((wi (i0+k)).toNat<(us o).length))=true ↔ ((i0+k).toNat<o.length):=(by (try rw [w9]);(try rw [w12]);all_goals exact Zaa)
  obtain ⟨k14,k15,H⟩:=H
  have w16:wu (o.getD (i0+k).toNat default)=o.getD (i0+k).toNat default:=wU64 k15
  obtain ⟨k17,H⟩:=H
  have w18:wu x0=x0:=wU64 k17
  obtain ⟨k19,H⟩:=H
  have w20:wu (y.getD k.toNat default)=y.getD k.toNat default:=wU64 k19
  obtain ⟨k21,H⟩:=H
  have w22:wu (x0*y.getD k.toNat default)=x0*y.getD k.toNat default:=wU64 k21
  obtain ⟨k23,H⟩:=H
  have w24:wu (o.getD (i0+k).toNat default+x0*y.getD k.toNat default)=o.getD (i0+k).toNat default+x0*y.getD k.toNat default:=wU64 k23
  obtain ⟨k25,H⟩:=H
  have w26:wu (o.getD (i0+k).toNat default+x0*y.getD k.toNat default+c)=o.getD (i0+k).toNat default+x0*y.getD k.toNat default+c:=wU64 k25
  have i27:(decide (0<=wi (i0+k)))=true ↔ (0<=i0+k):=(by (try rw [w9]);all_goals exact Zaa)
  have i28:(decide ((wi (i0+k)).toNat<(us o).length))=true ↔ ((i0+k).toNat<o.length):=(by (try rw [w9]);(try rw [w12]);all_goals exact Zaa)
  obtain ⟨k29,H⟩:=H
  have w30:wu ((o.getD (i0+k).toNat default+x0*y.getD k.toNat default+c).tdiv 1000000000)=(o.getD (i0+k).toNat default+x0*y.getD k.toNat default+c).tdiv 1000000000:=wU64 k29
  obtain ⟨k31,H⟩:=H
  have w32:wv ((o.getD (i0+k).toNat default+x0*y.getD k.toNat default+c).tmod 1000000000)=(o.getD (i0+k).toNat default+x0*y.getD k.toNat default+c).tmod 1000000000:=wU32 k31
  have w33:(us o).set (i0+k).toNat (vu ((o.getD (i0+k).toNat default+x0*y.getD k.toNat default+c).tmod 1000000000))=us (o.set (i0+k).toNat ((o.getD (i0+k).toNat default+x0*y.getD k.toNat default+c).tmod 1000000000)):=(Za3 rfl rfl)
  obtain ⟨k34,H⟩:=H
  have w35:wi (k+1)=k+1:=wI64 k34
  exact Zac (G:=Zab kp105 [(8,2,.elem (vu (y.getD k.toNat default))),(9,5,.elem (vu (o.getD (i0+k).toNat default))),(10,10,.elem (vu (o.getD (i0+k).toNat default)))] []) 1000 [true] ⟨(atC (cd Try.f105) [1,1,0,1,0,0,1,1,0,0,1,1,0,1,0,0]),[(1,AV.vec fb 1 (us b)),(5,AV.row 0 0),(6,vi i0),(7,vu x0),(8,vw (wu ((wu (wu (wu (o.getD (i0+k).toNat default)+wu (wu x0*wu (y.getD k.toNat default)))+c)).tdiv 1000000000))),(18,AV.vec fx 1 (us x)),(19,vi n),(20,vi i),(25,AV.vec fy 1 (us y)),(26,vi m),(27,vi (wi (k+1)))],[⟨(us o).set (wi (i0+k)).toNat (vu (wv ((wu (wu (wu (o.getD (i0+k).toNat default)+wu (wu x0*wu (y.getD k.toNat default)))+c)).tmod 1000000000))),1,0,false,true⟩],_,[((us y).get?Internal k.toNat=some (vu (y.getD k.toNat default))),((us o).get?Internal (wi (i0+k)).toNat=some (vu (o.getD (i0+k).toNat default))),((us o).get?Internal (wi (i0+k)).toNat=some (vu (o.getD (i0+k).toNat default)))],_⟩ (by kernel_rfl) (bc (Zak (Zaa.2 d2)) (bc (Zaa.2 k4) (bc (i6.2 k7) (bc rfl (bc (i10.2 k11) (bc (i13.2 k14) (bc rfl (bc rfl (bc rfl (bc rfl (bc (i27.2 k11) (bc (i28.2 k14) (bc rfl b0))))))))))))) (qc (Zap k7) (qc (by (try rw [w9]);all_goals exact (Zap k14)) (qc (by (try rw [w9]);all_goals exact (Zap k14)) q0))) c0 (by (try rw [w9]);(try rw [w16]);(try rw [w18]);(try rw [w20]);(try rw [w22]);(try rw [w24]);(try rw [w26]);(try rw [w30]);(try rw [w32]);(try rw [w33]);(try rw [w35]);all_goals exact H)
 ·have w36:(us b).length=b.length:=List.length_map ..
  obtain ⟨k37,H⟩:=H
  have w38:wi (i0+(↑b.length:Int))=i0+(↑b.length:Int):=wI64 k37
  have i39:(decide (0<=wi (i0+(↑(us b).length:Int))))=true ↔ (0<=i0+(↑b.length:Int)):=(by (try rw [w36]);(try rw [w38]);all_goals exact Zaa)
  obtain ⟨k40,H⟩:=H
  have w41:(us o).length=o.length:=List.length_map ..
  have i42:(decide ((wi (i0+(↑(us b).length:Int))).toNat<(us o).length))=true ↔ ((i0+(↑b.length:Int)).toNat<o.length):=(by (try rw [w36]);(try rw [w38]);(try rw [w41]);all_goals exact Zaa)
  obtain ⟨k43,k44,H⟩:=H
  have w45:wv c=c:=wU32 k44
  have w46:(us o).set (i0+(↑b.length:Int)).toNat (vu c)=us (o.set (i0+(↑b.length:Int)).toNat c):=(Za3 rfl rfl)
  obtain ⟨k47,H⟩:=H
  have w48:wi (i+1)=i+1:=wI64 k47
  exact Zac (G:=Zab kp105 [(12,8,.elem (vu (o.getD (i0+(↑b.length:Int)).toNat default)))] []) 1000 [false] ⟨(atC (cd Try.f105) [1,1,0,1,0,0]),[(1,AV.vec fb 1 (us b)),(5,AV.row 0 0),(18,AV.vec fx 1 (us x)),(19,vi n),(20,vi (wi (i+1)))],[⟨(us o).set (wi (i0+(↑(us b).length:Int))).toNat (vu (wv c)),1,0,false,true⟩],_,[((us o).get?Internal (wi (i0+(↑(us b).length:Int))).toNat=some (vu (o.getD (i0+(↑b.length:Int)).toNat default)))],_⟩ (by kernel_rfl) (bc (Zah (fun h=>d2 (Zaa.1 h))) (bc rfl (bc (i39.2 k40) (bc (i42.2 k43) (bc rfl b0))))) (qc (by (try rw [w36]);(try rw [w38]);all_goals exact (Zap k43)) q0) c0 (by (try rw [w36]);(try rw [w38]);(try rw [w45]);(try rw [w46]);(try rw [w48]);all_goals exact H)
end Go.Av

namespace Go.Av
open Go.Proofs
set_option maxRecDepth 100000
def fi85:Fi:=⟨45,[.tmp 4]⟩
def kp85:List (Nat × List Nat):=[(0,[0,1]),(1,[0,1]),(2,[0,1,14]),(3,[19]),(4,[4]),(5,[4]),(6,[0,1,5]),(7,[0,1,5,24]),(8,[0,1,5]),(9,[0,1,5,35]),(10,[4]),(11,[0,1,5,44]),(12,[4]),(13,[4])]
def fi108:Fi:=⟨53,[.tmp 4]⟩
def kp108:List (Nat × List Nat):=[(0,[0,1]),(1,[0,1,13]),(2,[0,1]),(3,[0,1,5]),(4,[0,1,5,6]),(5,[1,5,6,20,21,22]),(6,[1,5,6,20,21,22,23]),(7,[1,5,6,7,8,20,21,22]),(8,[1,5,7,8,20,21,22]),(9,[1,5,7,8,20,21,22,33]),(10,[1,5,8,20,21,22]),(11,[1,5,6,8,20,21,22]),(12,[1,5,6,8,20,21,22,41]),(13,[1,5,6,8,20,21,22]),(14,[1,5,6,20,21,22]),(15,[1,5,6,20,21,22]),(16,[4])]
def fi109:Fi:=⟨44,[.tmp 4]⟩
def kp109:List (Nat × List Nat):=[(0,[0,1]),(1,[0,1,5]),(2,[0,1,5,6]),(3,[1,5,6,13,14,15]),(4,[1,5,6,13,14,15,16]),(5,[1,5,6,7,8,13,14,15]),(6,[1,5,7,8,9,13,14,15]),(7,[1,5,7,8,9,13,14,15,24]),(8,[1,5,7,8,9,13,14,15]),(9,[1,5,6,7,8,9,13,14,15]),(10,[1,5,6,7,8,9,13,14,15,33]),(11,[1,5,6,7,8,9,13,14,15]),(12,[1,5,6,13,14,15]),(13,[1,5,6,13,14,15]),(14,[4])]
def fi118:Fi:=⟨44,[.tmp 4,.tmp 5]⟩
def kp118:List (Nat × List Nat):=[(0,[0,1]),(1,[0,1,6]),(2,[0,1,6,7]),(3,[0,1,6,7,8]),(4,[0,1,6,7,8,17]),(5,[0,1,6,7,8]),(6,[0,1,6,8,9]),(7,[0,1,6,7,8]),(8,[4,5])]
def Zf0 (fa fb:Bool) (a b:List Int) (Q:AV->Heap->Prop):Prop:=Wp M1 (.run fi85 (atC (cd Try.f85) []) [(0,.vec fa 1 (a.map (.int .u32))),(1,.vec fb 1 (b.map (.int .u32)))] []) Q
def Zb5 (fa fb:Bool) (a b:List Int) (i:Int) (Q:AV->Heap->Prop):Prop:=Wp M1 (.run fi85 (atC (cd Try.f85) [1,1,1,0,1,0,0]) [(0,.vec fa 1 (a.map (.int .u32))),(1,.vec fb 1 (b.map (.int .u32))),(5,.int .i64 i)] []) Q
def vPlus_at (fa fb:Bool) (a b:List Int) (Q:AV->Heap->Prop):Prop:=Wp M1 (.run fi108 (atC (cd Try.f108) []) [(0,.vec fa 1 (a.map (.int .u32))),(1,.vec fb 1 (b.map (.int .u32)))] []) Q
def Zb4 (fb fx:Bool) (b x o:List Int) (c n i:Int) (v:Nat) (Q:AV->Heap->Prop):Prop:=Wp M1 (.run fi108 (atC (cd Try.f108) [1,1,1,1,0,1,0,0]) [(1,.vec fb 1 (b.map (.int .u32))),(5,.row 0 v),(6,.int .u32 c),(20,.vec fx 1 (x.map (.int .u32))),(21,.int .i64 n),(22,.int .i64 i)] [⟨o.map (.int .u32),1,v,false,true⟩]) Q
def vMinus_at (fa fb:Bool) (a b:List Int) (Q:AV->Heap->Prop):Prop:=Wp M1 (.run fi109 (atC (cd Try.f109) []) [(0,.vec fa 1 (a.map (.int .u32))),(1,.vec fb 1 (b.map (.int .u32)))] []) Q
def Zbl (fb fx:Bool) (b x o:List Int) (c n i:Int) (Q:AV->Heap->Prop):Prop:=Wp M1 (.run fi109 (atC (cd Try.f109) [1,1,1,0,1,0,0]) [(1,.vec fb 1 (b.map (.int .u32))),(5,.row 0 0),(6,.int .u32 c),(13,.vec fx 1 (x.map (.int .u32))),(14,.int .i64 n),(15,.int .i64 i)] [⟨o.map (.int .u32),1,0,false,true⟩]) Q
def Zhd (fa:Bool) (a:List Int) (d:Int) (Q:AV->Heap->Prop):Prop:=Wp M1 (.run fi118 (atC (cd Try.f118) []) [(0,.vec fa 1 (a.map (.int .u32))),(1,.int .u32 d)] []) Q
def ZbR (fa:Bool) (a o:List Int) (d r i:Int) (Q:AV->Heap->Prop):Prop:=Wp M1 (.run fi118 (atC (cd Try.f118) [1,1,1,0,1,0,0]) [(0,.vec fa 1 (a.map (.int .u32))),(1,.int .u32 d),(6,.row 0 0),(7,.int .u64 r),(8,.int .i64 i)] [⟨o.map (.int .u32),1,0,false,true⟩]) Q
theorem call85 {args:List AV} {d:AV} (h:wc M1 fi85 Try.f85 args d):Ev M1 (.pure 85 args) d []:=pcl _ _ (by kernel_rfl) h
theorem call108 {args:List AV} {d:AV} (h:wc M1 fi108 Try.f108 args d):Ev M1 (.pure 108 args) d []:=pcl _ _ (by kernel_rfl) h
theorem call109 {args:List AV} {d:AV} (h:wc M1 fi109 Try.f109 args d):Ev M1 (.pure 109 args) d []:=pcl _ _ (by kernel_rfl) h
theorem call118 {args:List AV} {d:AV} (h:wc M1 fi118 Try.f118 args d):Ev M1 (.pure 118 args) d []:=pcl _ _ (by kernel_rfl) h
theorem vCompare (fa fb:Bool) (a b:List Int)  (dq:AV) (H :
  ∃ (l1:List Int),
  (Ev M1 (Conf.pure 110 [AV.vec fa 1 (us a)]) (vf (us l1)) []) /\
  ∃ (l2:List Int),
  (Ev M1 (Conf.pure 110 [AV.vec fb 1 (us b)]) (vf (us l2)) []) /\
  ((¬(↑l1.length:Int)=(↑l2.length:Int))->(((↑l1.length:Int)<(↑l2.length:Int))->vi (-1)=dq) /\
   (¬((↑l1.length:Int)<(↑l2.length:Int))->vi 1=dq)) /\
  (¬(¬(↑l1.length:Int)=(↑l2.length:Int))->(-9223372036854775808<=(↑l1.length:Int)-1/\(↑l1.length:Int)-1<=9223372036854775807) /\
   Zb5 false false l1 l2 ((↑l1.length:Int)-1) (Zad dq))) :
 Zf0 fa fb a b (Zad dq):=by
 unfold Zf0
 obtain ⟨l1,k1,l2,k2,H⟩:=H
 have w3:(us l1).length=l1.length:=List.length_map ..
 have w4:(us l2).length=l2.length:=List.length_map ..
 have i5:((↑(us l1).length:Int) != (↑(us l2).length:Int))=true ↔ (¬(↑l1.length:Int)=(↑l2.length:Int)):=(by (try rw [w3]);(try rw [w4]);all_goals exact i_ne)
 refine Zac (G:=Zab kp85 [(1,1,.call (vf (us l1)) none),(1,3,.call (vf (us l2)) none)] []) 7 [] ⟨(atC (cd Try.f85) [1,1,0,1]),[(0,vf (us l1)),(1,vf (us l2)),(14,vb ((↑(us l1).length:Int) != (↑(us l2).length:Int)))],[],_,[],_⟩ (by kernel_rfl) b0 q0 (ce k1 (ce k2 c0)) ?_
 rcases xq H with ⟨d6,H⟩|⟨d6,H⟩
 ·have i7:(decide ((↑(us l1).length:Int)<(↑(us l2).length:Int)))=true ↔ ((↑l1.length:Int)<(↑l2.length:Int)):=(by (try rw [w3]);(try rw [w4]);all_goals exact Zaa)
  rcases xq H with ⟨d8,H⟩|⟨d8,H⟩
  ·exact Zae (G:=Zab kp85 [] []) 1000 [true,true] (vi (-1)) (by kernel_rfl) (bc (Zak (i5.2 d6)) (bc (Zak (i7.2 d8)) b0)) q0 c0 H
  ·exact Zae (G:=Zab kp85 [] []) 1000 [true,false] (vi 1) (by kernel_rfl) (bc (Zak (i5.2 d6)) (bc (Zah (fun h=>d8 (i7.1 h))) b0)) q0 c0 H
 ·obtain ⟨k9,H⟩:=H
  have w10:wi ((↑l1.length:Int)-1)=(↑l1.length:Int)-1:=wI64 k9
  exact Zac (G:=Zab kp85 [] []) 1000 [false] ⟨(atC (cd Try.f85) [1,1,1,0,1,0,0]),[(0,vf (us l1)),(1,vf (us l2)),(5,vi (wi ((↑(us l1).length:Int)-1)))],[],_,[],_⟩ (by kernel_rfl) (bc (Zah (fun h=>d6 (i5.1 h))) b0) q0 c0 (by (try rw [w3]);(try rw [w10]);all_goals exact H)
theorem vCompareA (fa fb:Bool) (a b:List Int) (i:Int)  (dq:AV) (H :
  ((i>=0)->(0<=i) /\
   (i.toNat<a.length) /\
   (i.toNat<b.length) /\
   ((a.getD i.toNat default<b.getD i.toNat default)->vi (-1)=dq) /\
   (¬(a.getD i.toNat default<b.getD i.toNat default)->((a.getD i.toNat default>b.getD i.toNat default)->vi 1=dq) /\
    (¬(a.getD i.toNat default>b.getD i.toNat default)->(-9223372036854775808<=i-1/\i-1<=9223372036854775807) /\
     Zb5 fa fb a b (i-1) (Zad dq)))) /\
  (¬(i>=0)->vi 0=dq)) :
 Zb5 fa fb a b i (Zad dq):=by
 unfold Zb5
 rcases xq H with ⟨d2,H⟩|⟨d2,H⟩
 ·obtain ⟨k4,H⟩:=H
  have w5:(us a).length=a.length:=List.length_map ..
  have i6:(decide (i.toNat<(us a).length))=true ↔ (i.toNat<a.length):=(by (try rw [w5]);all_goals exact Zaa)
  obtain ⟨k7,H⟩:=H
  have w9:(us b).length=b.length:=List.length_map ..
  have i10:(decide (i.toNat<(us b).length))=true ↔ (i.toNat<b.length):=(by (try rw [w9]);all_goals exact Zaa)
  obtain ⟨k11,H⟩:=H
  refine Zac (G:=Zab kp85 [(9,3,.elem (vu (a.getD i.toNat default))),(9,7,.elem (vu (b.getD i.toNat default)))] []) 10 [true] ⟨(atC (cd Try.f85) [1,1,1,0,1,0,0,1,0,0,0,1]),[(0,AV.vec fa 1 (us a)),(1,AV.vec fb 1 (us b)),(5,vi i),(35,vb (decide (a.getD i.toNat default<b.getD i.toNat default)))],[],_,[((us a).get?Internal i.toNat=some (vu (a.getD i.toNat default))),((us b).get?Internal i.toNat=some (vu (b.getD i.toNat default)))],_⟩ (by kernel_rfl) (bc (Zak (Zaa.2 d2)) (bc (Zaa.2 k4) (bc (i6.2 k7) (bc (Zaa.2 k4) (bc (i10.2 k11) b0))))) (qc (Zap k7) (qc (Zap k11) q0)) c0 ?_
  rcases xq H with ⟨d13,H⟩|⟨d13,H⟩
  ·exact Zae (G:=Zab kp85 [] []) 1000 [true] (vi (-1)) (by kernel_rfl) (bc (Zak (Zaa.2 d13)) b0) q0 c0 H
  ·have i15:(decide (i.toNat<(us a).length))=true ↔ (i.toNat<a.length):=(by (try rw [w5]);all_goals exact Zaa)
   have i17:(decide (i.toNat<(us b).length))=true ↔ (i.toNat<b.length):=(by (try rw [w9]);all_goals exact Zaa)
   refine Zac (G:=Zab kp85 [(11,3,.elem (vu (a.getD i.toNat default))),(11,7,.elem (vu (b.getD i.toNat default)))] []) 4 [false] ⟨(atC (cd Try.f85) [1,1,1,0,1,0,0,1,0,0,1,1]),[(0,AV.vec fa 1 (us a)),(1,AV.vec fb 1 (us b)),(5,vi i),(44,vb (decide (a.getD i.toNat default>b.getD i.toNat default)))],[],_,[((us a).get?Internal i.toNat=some (vu (a.getD i.toNat default))),((us b).get?Internal i.toNat=some (vu (b.getD i.toNat default)))],_⟩ (by kernel_rfl) (bc (Zah (fun h=>d13 (Zaa.1 h))) (bc (Zaa.2 k4) (bc (i15.2 k7) (bc (Zaa.2 k4) (bc (i17.2 k11) b0))))) (qc (Zap k7) (qc (Zap k11) q0)) c0 ?_
   rcases xq H with ⟨d19,H⟩|⟨d19,H⟩
   ·exact Zae (G:=Zab kp85 [] []) 1000 [true] (vi 1) (by kernel_rfl) (bc (Zak (Zaa.2 d19)) b0) q0 c0 H
   ·obtain ⟨k20,H⟩:=H
    have w21:wi (i-1)=i-1:=wI64 k20
    exact Zac (G:=Zab kp85 [] []) 1000 [false] ⟨(atC (cd Try.f85) [1,1,1,0,1,0,0]),[(0,AV.vec fa 1 (us a)),(1,AV.vec fb 1 (us b)),(5,vi (wi (i-1)))],[],_,[],_⟩ (by kernel_rfl) (bc (Zah (fun h=>d19 (Zaa.1 h))) b0) q0 c0 (by (try rw [w21]);all_goals exact H)
 ·exact Zae (G:=Zab kp85 [] []) 1000 [false] (vi 0) (by kernel_rfl) (bc (Zah (fun h=>d2 (Zaa.1 h))) b0) q0 c0 H
theorem vPlus (fa fb:Bool) (a b:List Int)  (dq:AV) (H :
  (((↑a.length:Int)<(↑b.length:Int))->(-9223372036854775808<=(↑b.length:Int)+1/\(↑b.length:Int)+1<=9223372036854775807) /\
   (0<=(↑b.length:Int)+1) /\
   (((↑b.length:Int)+1)*4<=1099511627776) /\
   ((↑b.length:Int)+1<=1099511627776) /\
   Wp M1 (.run fi108 (atC (cd Try.f108) [1,1,1,1,0,1,0,0]) [(1,AV.vec fa 1 (us a)),(5,AV.row 0 0),(6,vu 0),(20,AV.vec fb 1 (us b)),(21,vi (↑b.length:Int)),(22,vi 0)] [{ elems:=[],es:=1,ver:=0,frozen:=false,clean:=true }]) (Zad dq)) /\
  (¬((↑a.length:Int)<(↑b.length:Int))->(-9223372036854775808<=(↑a.length:Int)+1/\(↑a.length:Int)+1<=9223372036854775807) /\
   (0<=(↑a.length:Int)+1) /\
   (((↑a.length:Int)+1)*4<=1099511627776) /\
   ((↑a.length:Int)+1<=1099511627776) /\
   Wp M1 (.run fi108 (atC (cd Try.f108) [1,1,1,1,0,1,0,0]) [(1,AV.vec fb 1 (us b)),(5,AV.row 0 0),(6,vu 0),(20,AV.vec fa 1 (us a)),(21,vi (↑a.length:Int)),(22,vi 0)] [{ elems:=[],es:=1,ver:=0,frozen:=false,clean:=true }]) (Zad dq))) :
 vPlus_at fa fb a b (Zad dq):=by
 unfold vPlus_at
 have w1:(us a).length=a.length:=List.length_map ..
 have w2:(us b).length=b.length:=List.length_map ..
 have i3:(decide ((↑(us a).length:Int)<(↑(us b).length:Int)))=true ↔ ((↑a.length:Int)<(↑b.length:Int)):=(by (try rw [w1]);(try rw [w2]);all_goals exact Zaa)
 rcases xq H with ⟨d4,H⟩|⟨d4,H⟩
 ·obtain ⟨k5,H⟩:=H
  have w6:wi ((↑b.length:Int)+1)=(↑b.length:Int)+1:=wI64 k5
  have i7:(decide (0<=wi ((↑(us b).length:Int)+1)))=true ↔ (0<=(↑b.length:Int)+1):=(by (try rw [w2]);(try rw [w6]);all_goals exact Zaa)
  obtain ⟨k8,H⟩:=H
  have i9:(decide (wi ((↑(us b).length:Int)+1)*4<=1099511627776))=true ↔ (((↑b.length:Int)+1)*4<=1099511627776):=(by (try rw [w2]);(try rw [w6]);all_goals exact Zaa)
  obtain ⟨k10,H⟩:=H
  have i11:(decide (wi ((↑(us b).length:Int)+1)<=1099511627776))=true ↔ ((↑b.length:Int)+1<=1099511627776):=(by (try rw [w2]);(try rw [w6]);all_goals exact Zaa)
  obtain ⟨k12,H⟩:=H
  have w13:[]=us []:=rfl
  exact Zac (G:=Zab kp108 [] []) 1000 [true] ⟨(atC (cd Try.f108) [1,1,1,1,0,1,0,0]),[(1,AV.vec fa 1 (us a)),(5,AV.row 0 0),(6,vu 0),(20,AV.vec fb 1 (us b)),(21,vi (↑(us b).length:Int)),(22,vi 0)],[⟨[],1,0,false,true⟩],_,[],_⟩ (by kernel_rfl) (bc (Zak (i3.2 d4)) (bc rfl (bc (i7.2 k8) (bc (i9.2 k10) (bc (i11.2 k12) b0))))) q0 c0 (by (try rw [w2]);(try rw [w13]);all_goals exact H)
 ·obtain ⟨k14,H⟩:=H
  have w15:wi ((↑a.length:Int)+1)=(↑a.length:Int)+1:=wI64 k14
  have i16:(decide (0<=wi ((↑(us a).length:Int)+1)))=true ↔ (0<=(↑a.length:Int)+1):=(by (try rw [w1]);(try rw [w15]);all_goals exact Zaa)
  obtain ⟨k17,H⟩:=H
  have i18:(decide (wi ((↑(us a).length:Int)+1)*4<=1099511627776))=true ↔ (((↑a.length:Int)+1)*4<=1099511627776):=(by (try rw [w1]);(try rw [w15]);all_goals exact Zaa)
  obtain ⟨k19,H⟩:=H
  have i20:(decide (wi ((↑(us a).length:Int)+1)<=1099511627776))=true ↔ ((↑a.length:Int)+1<=1099511627776):=(by (try rw [w1]);(try rw [w15]);all_goals exact Zaa)
  obtain ⟨k21,H⟩:=H
  have w22:[]=us []:=rfl
  exact Zac (G:=Zab kp108 [] []) 1000 [false] ⟨(atC (cd Try.f108) [1,1,1,1,0,1,0,0]),[(1,AV.vec fb 1 (us b)),(5,AV.row 0 0),(6,vu 0),(20,AV.vec fa 1 (us a)),(21,vi (↑(us a).length:Int)),(22,vi 0)],[⟨[],1,0,false,true⟩],_,[],_⟩ (by kernel_rfl) (bc (Zah (fun h=>d4 (i3.1 h))) (bc rfl (bc (i16.2 k17) (bc (i18.2 k19) (bc (i20.2 k21) b0))))) q0 c0 (by (try rw [w1]);(try rw [w22]);all_goals exact H)
theorem vPlusA (fb fx:Bool) (b x o:List Int) (c n i:Int) (v:Nat)  (dq:AV) (H :
  ((i<n)->(0<=i) /\
   (i.toNat<x.length) /\
   (0<=x.getD i.toNat default+c/\x.getD i.toNat default+c<=4294967295) /\
   ((i<(↑b.length:Int))->(i.toNat<b.length) /\
    (0<=x.getD i.toNat default+c+b.getD i.toNat default/\x.getD i.toNat default+c+b.getD i.toNat default<=4294967295) /\
    ((x.getD i.toNat default+c+b.getD i.toNat default>=1000000000)->(0<=x.getD i.toNat default+c+b.getD i.toNat default-1000000000/\x.getD i.toNat default+c+b.getD i.toNat default-1000000000<=4294967295) /\
     ((o.length+1)*4<=1099511627776) /\
     (-9223372036854775808<=i+1/\i+1<=9223372036854775807) /\
     Zb4 fb fx b x (o++[x.getD i.toNat default+c+b.getD i.toNat default-1000000000]) 1 n (i+1) (v+1) (Zad dq)) /\
    (¬(x.getD i.toNat default+c+b.getD i.toNat default>=1000000000)->((o.length+1)*4<=1099511627776) /\
     (-9223372036854775808<=i+1/\i+1<=9223372036854775807) /\
     Zb4 fb fx b x (o++[x.getD i.toNat default+c+b.getD i.toNat default]) 0 n (i+1) (v+1) (Zad dq))) /\
   (¬(i<(↑b.length:Int))->((x.getD i.toNat default+c>=1000000000)->(0<=x.getD i.toNat default+c-1000000000/\x.getD i.toNat default+c-1000000000<=4294967295) /\
     ((o.length+1)*4<=1099511627776) /\
     (-9223372036854775808<=i+1/\i+1<=9223372036854775807) /\
     Zb4 fb fx b x (o++[x.getD i.toNat default+c-1000000000]) 1 n (i+1) (v+1) (Zad dq)) /\
    (¬(x.getD i.toNat default+c>=1000000000)->((o.length+1)*4<=1099511627776) /\
     (-9223372036854775808<=i+1/\i+1<=9223372036854775807) /\
     Zb4 fb fx b x (o++[x.getD i.toNat default+c]) 0 n (i+1) (v+1) (Zad dq)))) /\
  (¬(i<n)->((o.length+1)*4<=1099511627776) /\
   Weak (vf (us (o++[c]))) dq)) :
 Zb4 fb fx b x o c n i v (Zad dq):=by
 unfold Zb4
 rcases xq H with ⟨d2,H⟩|⟨d2,H⟩
 ·obtain ⟨k4,H⟩:=H
  have w5:(us x).length=x.length:=List.length_map ..
  have i6:(decide (i.toNat<(us x).length))=true ↔ (i.toNat<x.length):=(by (try rw [w5]);all_goals exact Zaa)
  obtain ⟨k7,k8,H⟩:=H
  have w9:wv (x.getD i.toNat default+c)=x.getD i.toNat default+c:=wU32 k8
  have w10:(us b).length=b.length:=List.length_map ..
  have i11:(decide (i<(↑(us b).length:Int)))=true ↔ (i<(↑b.length:Int)):=(by (try rw [w10]);all_goals exact Zaa)
  refine Zac (G:=Zab kp108 [(7,2,.elem (vu (x.getD i.toNat default)))] []) 14 [true] ⟨(atC (cd Try.f108) [1,1,1,1,0,1,0,0,1,1,0,0,1,1,0,1]),[(1,AV.vec fb 1 (us b)),(5,AV.row 0 v),(7,vi i),(8,vu (wv (x.getD i.toNat default+c))),(20,AV.vec fx 1 (us x)),(21,vi n),(22,vi i),(33,vb (decide (i<(↑(us b).length:Int))))],[⟨us o,1,v,false,true⟩],_,[((us x).get?Internal i.toNat=some (vu (x.getD i.toNat default)))],_⟩ (by kernel_rfl) (bc (Zak (Zaa.2 d2)) (bc (Zaa.2 k4) (bc (i6.2 k7) b0))) (qc (Zap k7) q0) c0 ?_
  rcases xq H with ⟨d12,H⟩|⟨d12,H⟩
  ·have i14:(decide (i.toNat<(us b).length))=true ↔ (i.toNat<b.length):=(by (try rw [w10]);all_goals exact Zaa)
   obtain ⟨k15,k16,H⟩:=H
   have w17:wv (x.getD i.toNat default+c+b.getD i.toNat default)=x.getD i.toNat default+c+b.getD i.toNat default:=wU32 k16
   have i18:(decide (wv (wv (x.getD i.toNat default+c)+b.getD i.toNat default)>=1000000000))=true ↔ (x.getD i.toNat default+c+b.getD i.toNat default>=1000000000):=(by (try rw [w9]);(try rw [w17]);all_goals exact Zaa)
   refine Zac (G:=Zab kp108 [(10,4,.elem (vu (b.getD i.toNat default)))] []) 7 [true] ⟨(atC (cd Try.f108) [1,1,1,1,0,1,0,0,1,1,0,0,1,1,1,1,0,1]),[(1,AV.vec fb 1 (us b)),(5,AV.row 0 v),(6,vu 0),(8,vu (wv (wv (x.getD i.toNat default+c)+b.getD i.toNat default))),(20,AV.vec fx 1 (us x)),(21,vi n),(22,vi i),(41,vb (decide (wv (wv (x.getD i.toNat default+c)+b.getD i.toNat default)>=1000000000)))],[⟨us o,1,v,false,true⟩],_,[((us b).get?Internal i.toNat=some (vu (b.getD i.toNat default)))],_⟩ (by kernel_rfl) (bc (Zak (i11.2 d12)) (bc (Zaa.2 k4) (bc (i14.2 k15) b0))) (qc (Zap k15) q0) c0 ?_
   rcases xq H with ⟨d19,H⟩|⟨d19,H⟩
   ·obtain ⟨k20,H⟩:=H
    have w21:wv (x.getD i.toNat default+c+b.getD i.toNat default-1000000000)=x.getD i.toNat default+c+b.getD i.toNat default-1000000000:=wU32 k20
    have w22:(us o).length=o.length:=List.length_map ..
    have i23:(decide (((us o).length+1)*4<=1099511627776))=true ↔ ((o.length+1)*4<=1099511627776):=(by (try rw [w9]);(try rw [w17]);(try rw [w21]);(try rw [w22]);all_goals exact Zaa)
    obtain ⟨k24,H⟩:=H
    have w25:us o++[vu (x.getD i.toNat default+c+b.getD i.toNat default-1000000000)]=us (o++[x.getD i.toNat default+c+b.getD i.toNat default-1000000000]):=(Zfm rfl rfl)
    obtain ⟨k26,H⟩:=H
    have w27:wi (i+1)=i+1:=wI64 k26
    exact Zac (G:=Zab kp108 [] []) 1000 [true] ⟨(atC (cd Try.f108) [1,1,1,1,0,1,0,0]),[(1,AV.vec fb 1 (us b)),(5,AV.row 0 (v+1)),(6,vu 1),(20,AV.vec fx 1 (us x)),(21,vi n),(22,vi (wi (i+1)))],[⟨us o++[vu (wv (wv (wv (x.getD i.toNat default+c)+b.getD i.toNat default)-1000000000))],1,v+1,false,true⟩],[(decide (wv (wv (x.getD i.toNat default+c)+b.getD i.toNat default)>=1000000000))==true,v==v,decide (((us o).length+1)*4<=1099511627776)],[],_⟩ (by kernel_rfl) (bc (Zak (i18.2 d19)) (bc (beq_self_eq_true _) (bc (i23.2 k24) b0))) q0 c0 (by (try rw [w9]);(try rw [w17]);(try rw [w21]);(try rw [w25]);(try rw [w27]);all_goals exact H)
   ·have w28:(us o).length=o.length:=List.length_map ..
    have i29:(decide (((us o).length+1)*4<=1099511627776))=true ↔ ((o.length+1)*4<=1099511627776):=(by (try rw [w9]);(try rw [w17]);(try rw [w28]);all_goals exact Zaa)
    obtain ⟨k30,H⟩:=H
    have w31:us o++[vu (x.getD i.toNat default+c+b.getD i.toNat default)]=us (o++[x.getD i.toNat default+c+b.getD i.toNat default]):=(Zfm rfl rfl)
    obtain ⟨k32,H⟩:=H
    have w33:wi (i+1)=i+1:=wI64 k32
    exact Zac (G:=Zab kp108 [] []) 1000 [false] ⟨(atC (cd Try.f108) [1,1,1,1,0,1,0,0]),[(1,AV.vec fb 1 (us b)),(5,AV.row 0 (v+1)),(6,vu 0),(20,AV.vec fx 1 (us x)),(21,vi n),(22,vi (wi (i+1)))],[⟨us o++[vu (wv (wv (x.getD i.toNat default+c)+b.getD i.toNat default))],1,v+1,false,true⟩],[(decide (wv (wv (x.getD i.toNat default+c)+b.getD i.toNat default)>=1000000000))==false,v==v,decide (((us o).length+1)*4<=1099511627776)],[],_⟩ (by kernel_rfl) (bc (Zah (fun h=>d19 (i18.1 h))) (bc (beq_self_eq_true _) (bc (i29.2 k30) b0))) q0 c0 (by (try rw [w9]);(try rw [w17]);(try rw [w31]);(try rw [w33]);all_goals exact H)
  ·have i34:(decide (wv (x.getD i.toNat default+c)>=1000000000))=true ↔ (x.getD i.toNat default+c>=1000000000):=(by (try rw [w9]);all_goals exact Zaa)
   rcases xq H with ⟨d35,H⟩|⟨d35,H⟩
   ·obtain ⟨k36,H⟩:=H
    have w37:wv (x.getD i.toNat default+c-1000000000)=x.getD i.toNat default+c-1000000000:=wU32 k36
    have w38:(us o).length=o.length:=List.length_map ..
    have i39:(decide (((us o).length+1)*4<=1099511627776))=true ↔ ((o.length+1)*4<=1099511627776):=(by (try rw [w9]);(try rw [w37]);(try rw [w38]);all_goals exact Zaa)
    obtain ⟨k40,H⟩:=H
    have w41:us o++[vu (x.getD i.toNat default+c-1000000000)]=us (o++[x.getD i.toNat default+c-1000000000]):=(Zfm rfl rfl)
    obtain ⟨k42,H⟩:=H
    have w43:wi (i+1)=i+1:=wI64 k42
    exact Zac (G:=Zab kp108 [] []) 1000 [false,true] ⟨(atC (cd Try.f108) [1,1,1,1,0,1,0,0]),[(1,AV.vec fb 1 (us b)),(5,AV.row 0 (v+1)),(6,vu 1),(20,AV.vec fx 1 (us x)),(21,vi n),(22,vi (wi (i+1)))],[⟨us o++[vu (wv (wv (x.getD i.toNat default+c)-1000000000))],1,v+1,false,true⟩],[(decide (i<(↑(us b).length:Int)))==false,(decide (wv (x.getD i.toNat default+c)>=1000000000))==true,v==v,decide (((us o).length+1)*4<=1099511627776)],[],_⟩ (by kernel_rfl) (bc (Zah (fun h=>d12 (i11.1 h))) (bc (Zak (i34.2 d35)) (bc (beq_self_eq_true _) (bc (i39.2 k40) b0)))) q0 c0 (by (try rw [w9]);(try rw [w37]);(try rw [w41]);(try rw [w43]);all_goals exact H)
   ·have w44:(us o).length=o.length:=List.length_map ..
    have i45:(decide (((us o).length+1)*4<=1099511627776))=true ↔ ((o.length+1)*4<=1099511627776):=(by (try rw [w9]);(try rw [w44]);all_goals exact Zaa)
    obtain ⟨k46,H⟩:=H
    have w47:us o++[vu (x.getD i.toNat default+c)]=us (o++[x.getD i.toNat default+c]):=(Zfm rfl rfl)
    obtain ⟨k48,H⟩:=H
    have w49:wi (i+1)=i+1:=wI64 k48
    exact Zac (G:=Zab kp108 [] []) 1000 [false,false] ⟨(atC (cd Try.f108) [1,1,1,1,0,1,0,0]),[(1,AV.vec fb 1 (us b)),(5,AV.row 0 (v+1)),(6,vu 0),(20,AV.vec fx 1 (us x)),(21,vi n),(22,vi (wi (i+1)))],[⟨us o++[vu (wv (x.getD i.toNat default+c))],1,v+1,false,true⟩],[(decide (i<(↑(us b).length:Int)))==false,(decide (wv (x.getD i.toNat default+c)>=1000000000))==false,v==v,decide (((us o).length+1)*4<=1099511627776)],[],_⟩ (by kernel_rfl) (bc (Zah (fun h=>d12 (i11.1 h))) (bc (Zah (fun h=>d35 (i34.1 h))) (bc (beq_self_eq_true _) (bc (i45.2 k46) b0)))) q0 c0 (by (try rw [w9]);(try rw [w47]);(try rw [w49]);all_goals exact H)
 ·have w50:(us o).length=o.length:=List.length_map ..
  have i51:(decide (((us o).length+1)*4<=1099511627776))=true ↔ ((o.length+1)*4<=1099511627776):=(by (try rw [w50]);all_goals exact Zaa)
  obtain ⟨k52,H⟩:=H
  have w53:us o++[vu c]=us (o++[c]):=(Zfm rfl rfl)
  exact Zbu (G:=Zab kp108 [] []) 1000 [false] (k:=((atC (cd Try.f108) [1,1,1,1,1,1])).tail) (env':=[(4,AV.row 0 (v+1))]) (L':=[⟨us o++[vu c],1,v+1,false,true⟩]) (asm:=[(decide (i<n))==false,v==v,decide (((us o).length+1)*4<=1099511627776)]) (eqs:=[]) (calls:=[]) (AV.row 0 (v+1)) (by kernel_rfl) (by kernel_rfl) (Zam (Zah (fun h=>d2 (Zaa.1 h))) (Zam (beq_self_eq_true _) (Zam (i51.2 k52) ZaF))) Za7 Za9 (ZdE (d:=(vf (us o++[vu c]))) (bs:=[v+1==v+1]) (by kernel_rfl) (by kernel_rfl) (Zam (beq_self_eq_true _) ZaF) (by kernel_rfl) (by (try rw [w53]);all_goals exact H))
theorem vMinus (fa fb:Bool) (a b:List Int)  (dq:AV) (H :
  (0<=(↑a.length:Int)) /\
  ((↑a.length:Int)*4<=1099511627776) /\
  ((↑a.length:Int)<=1099511627776) /\
  Zbl fb fa b a (List.replicate (↑a.length:Int).toNat (0:Int)) 0 ((↑a.length:Int)) 0 (Zad dq)) :
 vMinus_at fa fb a b (Zad dq):=by
 unfold vMinus_at
 have w1:(us a).length=a.length:=List.length_map ..
 have i2:(decide (0<=(↑(us a).length:Int)))=true ↔ (0<=(↑a.length:Int)):=(by (try rw [w1]);all_goals exact Zaa)
 obtain ⟨k3,H⟩:=H
 have i4:(decide ((↑(us a).length:Int)<=(↑(us a).length:Int)))=true ↔ ((↑a.length:Int)<=(↑a.length:Int)):=(by (try rw [w1]);all_goals exact Zaa)
 have i5:(decide ((↑(us a).length:Int)*4<=1099511627776))=true ↔ ((↑a.length:Int)*4<=1099511627776):=(by (try rw [w1]);all_goals exact Zaa)
 obtain ⟨k6,H⟩:=H
 have i7:(decide ((↑(us a).length:Int)<=1099511627776))=true ↔ ((↑a.length:Int)<=1099511627776):=(by (try rw [w1]);all_goals exact Zaa)
 obtain ⟨k8,H⟩:=H
 have w9:List.replicate (↑a.length:Int).toNat (vu 0)=us (List.replicate (↑a.length:Int).toNat (0:Int)):=(ZdJ rfl)
 exact Zac (G:=Zab kp109 [] []) 1000 [] ⟨(atC (cd Try.f109) [1,1,1,0,1,0,0]),[(1,AV.vec fb 1 (us b)),(5,AV.row 0 0),(6,vu 0),(13,AV.vec fa 1 (us a)),(14,vi (↑(us a).length:Int)),(15,vi 0)],[⟨List.replicate (↑(us a).length:Int).toNat (vu 0),1,0,false,true⟩],[decide (0<=(↑(us a).length:Int)),decide ((↑(us a).length:Int)<=(↑(us a).length:Int)),decide ((↑(us a).length:Int)*4<=1099511627776),decide ((↑(us a).length:Int)<=1099511627776)],[],_⟩ (by kernel_rfl) (bc (i2.2 k3) (bc (i4.2 (by omega)) (bc (i5.2 k6) (bc (i7.2 k8) b0)))) q0 c0 (by (try rw [w1]);(try rw [w9]);all_goals exact H)
theorem vMinusA (fb fx:Bool) (b x o:List Int) (c n i:Int)  (dq:AV) (H :
  ((i<n)->(0<=i) /\
   (i.toNat<x.length) /\
   ((i<(↑b.length:Int))->(i.toNat<b.length) /\
    (0<=c+b.getD i.toNat default/\c+b.getD i.toNat default<=4294967295) /\
    ((x.getD i.toNat default<c+b.getD i.toNat default)->(0<=x.getD i.toNat default+1000000000/\x.getD i.toNat default+1000000000<=4294967295) /\
     (i.toNat<o.length) /\
     (0<=x.getD i.toNat default+1000000000-(c+b.getD i.toNat default)/\x.getD i.toNat default+1000000000-(c+b.getD i.toNat default)<=4294967295) /\
     (-9223372036854775808<=i+1/\i+1<=9223372036854775807) /\
     Zbl fb fx b x (o.set i.toNat (x.getD i.toNat default+1000000000-(c+b.getD i.toNat default))) 1 n (i+1) (Zad dq)) /\
    (¬(x.getD i.toNat default<c+b.getD i.toNat default)->(i.toNat<o.length) /\
     (0<=x.getD i.toNat default-(c+b.getD i.toNat default)/\x.getD i.toNat default-(c+b.getD i.toNat default)<=4294967295) /\
     (-9223372036854775808<=i+1/\i+1<=9223372036854775807) /\
     Zbl fb fx b x (o.set i.toNat (x.getD i.toNat default-(c+b.getD i.toNat default))) 0 n (i+1) (Zad dq))) /\
   (¬(i<(↑b.length:Int))->((x.getD i.toNat default<c)->(0<=x.getD i.toNat default+1000000000/\x.getD i.toNat default+1000000000<=4294967295) /\
     (i.toNat<o.length) /\
     (0<=x.getD i.toNat default+1000000000-c/\x.getD i.toNat default+1000000000-c<=4294967295) /\
     (-9223372036854775808<=i+1/\i+1<=9223372036854775807) /\
     Zbl fb fx b x (o.set i.toNat (x.getD i.toNat default+1000000000-c)) 1 n (i+1) (Zad dq)) /\
    (¬(x.getD i.toNat default<c)->(i.toNat<o.length) /\
     (0<=x.getD i.toNat default-c/\x.getD i.toNat default-c<=4294967295) /\
     (-9223372036854775808<=i+1/\i+1<=9223372036854775807) /\
     Zbl fb fx b x (o.set i.toNat (x.getD i.toNat default-c)) 0 n (i+1) (Zad dq)))) /\
  (¬(i<n)->Weak (vf (us o)) dq)) :
 Zbl fb fx b x o c n i (Zad dq):=by
 unfold Zbl
 rcases xq H with ⟨d2,H⟩|⟨d2,H⟩
 ·obtain ⟨k4,H⟩:=H
  have w5:(us x).length=x.length:=List.length_map ..
  have i6:(decide (i.toNat<(us x).length))=true ↔ (i.toNat<x.length):=(by (try rw [w5]);all_goals exact Zaa)
  obtain ⟨k7,H⟩:=H
  have w8:(us b).length=b.length:=List.length_map ..
  have i9:(decide (i<(↑(us b).length:Int)))=true ↔ (i<(↑b.length:Int)):=(by (try rw [w8]);all_goals exact Zaa)
  refine Zac (G:=Zab kp109 [(5,2,.elem (vu (x.getD i.toNat default)))] []) 14 [true] ⟨(atC (cd Try.f109) [1,1,1,0,1,0,0,1,1,0,0,1,1,0,1]),[(1,AV.vec fb 1 (us b)),(5,AV.row 0 0),(7,vi i),(8,vu (x.getD i.toNat default)),(9,vu c),(13,AV.vec fx 1 (us x)),(14,vi n),(15,vi i),(24,vb (decide (i<(↑(us b).length:Int))))],[⟨us o,1,0,false,true⟩],_,[((us x).get?Internal i.toNat=some (vu (x.getD i.toNat default)))],_⟩ (by kernel_rfl) (bc (Zak (Zaa.2 d2)) (bc (Zaa.2 k4) (bc (i6.2 k7) b0))) (qc (Zap k7) q0) c0 ?_
  rcases xq H with ⟨d10,H⟩|⟨d10,H⟩
  ·have i12:(decide (i.toNat<(us b).length))=true ↔ (i.toNat<b.length):=(by (try rw [w8]);all_goals exact Zaa)
   obtain ⟨k13,k14,H⟩:=H
   have w15:wv (c+b.getD i.toNat default)=c+b.getD i.toNat default:=wU32 k14
   have i16:(decide (x.getD i.toNat default<wv (c+b.getD i.toNat default)))=true ↔ (x.getD i.toNat default<c+b.getD i.toNat default):=(by (try rw [w15]);all_goals exact Zaa)
   refine Zac (G:=Zab kp109 [(8,4,.elem (vu (b.getD i.toNat default)))] []) 7 [true] ⟨(atC (cd Try.f109) [1,1,1,0,1,0,0,1,1,0,0,1,1,1,1,0,1]),[(1,AV.vec fb 1 (us b)),(5,AV.row 0 0),(6,vu 0),(7,vi i),(8,vu (x.getD i.toNat default)),(9,vu (wv (c+b.getD i.toNat default))),(13,AV.vec fx 1 (us x)),(14,vi n),(15,vi i),(33,vb (decide (x.getD i.toNat default<wv (c+b.getD i.toNat default))))],[⟨us o,1,0,false,true⟩],_,[((us b).get?Internal i.toNat=some (vu (b.getD i.toNat default)))],_⟩ (by kernel_rfl) (bc (Zak (i9.2 d10)) (bc (Zaa.2 k4) (bc (i12.2 k13) b0))) (qc (Zap k13) q0) c0 ?_
   rcases xq H with ⟨d17,H⟩|⟨d17,H⟩
   ·obtain ⟨k18,H⟩:=H
    have w19:wv (x.getD i.toNat default+1000000000)=x.getD i.toNat default+1000000000:=wU32 k18
    have w21:(us o).length=o.length:=List.length_map ..
    have i22:(decide (i.toNat<(us o).length))=true ↔ (i.toNat<o.length):=(by (try rw [w21]);all_goals exact Zaa)
    obtain ⟨k23,k24,H⟩:=H
    have w25:wv (x.getD i.toNat default+1000000000-(c+b.getD i.toNat default))=x.getD i.toNat default+1000000000-(c+b.getD i.toNat default):=wU32 k24
    have w26:(us o).set i.toNat (vu (x.getD i.toNat default+1000000000-(c+b.getD i.toNat default)))=us (o.set i.toNat (x.getD i.toNat default+1000000000-(c+b.getD i.toNat default))):=(Za3 rfl rfl)
    obtain ⟨k27,H⟩:=H
    have w28:wi (i+1)=i+1:=wI64 k27
    exact Zac (G:=Zab kp109 [(12,6,.elem (vu (o.getD i.toNat default)))] []) 1000 [true] ⟨(atC (cd Try.f109) [1,1,1,0,1,0,0]),[(1,AV.vec fb 1 (us b)),(5,AV.row 0 0),(6,vu 1),(13,AV.vec fx 1 (us x)),(14,vi n),(15,vi (wi (i+1)))],[⟨(us o).set i.toNat (vu (wv (wv (x.getD i.toNat default+1000000000)-wv (c+b.getD i.toNat default)))),1,0,false,true⟩],_,[((us o).get?Internal i.toNat=some (vu (o.getD i.toNat default)))],_⟩ (by kernel_rfl) (bc (Zak (i16.2 d17)) (bc rfl (bc (Zaa.2 k4) (bc (i22.2 k23) (bc rfl b0))))) (qc (Zap k23) q0) c0 (by (try rw [w15]);(try rw [w19]);(try rw [w25]);(try rw [w26]);(try rw [w28]);all_goals exact H)
   ·have w30:(us o).length=o.length:=List.length_map ..
    have i31:(decide (i.toNat<(us o).length))=true ↔ (i.toNat<o.length):=(by (try rw [w30]);all_goals exact Zaa)
    obtain ⟨k32,k33,H⟩:=H
    have w34:wv (x.getD i.toNat default-(c+b.getD i.toNat default))=x.getD i.toNat default-(c+b.getD i.toNat default):=wU32 k33
    have w35:(us o).set i.toNat (vu (x.getD i.toNat default-(c+b.getD i.toNat default)))=us (o.set i.toNat (x.getD i.toNat default-(c+b.getD i.toNat default))):=(Za3 rfl rfl)
    obtain ⟨k36,H⟩:=H
    have w37:wi (i+1)=i+1:=wI64 k36
    exact Zac (G:=Zab kp109 [(12,6,.elem (vu (o.getD i.toNat default)))] []) 1000 [false] ⟨(atC (cd Try.f109) [1,1,1,0,1,0,0]),[(1,AV.vec fb 1 (us b)),(5,AV.row 0 0),(6,vu 0),(13,AV.vec fx 1 (us x)),(14,vi n),(15,vi (wi (i+1)))],[⟨(us o).set i.toNat (vu (wv (x.getD i.toNat default-wv (c+b.getD i.toNat default)))),1,0,false,true⟩],_,[((us o).get?Internal i.toNat=some (vu (o.getD i.toNat default)))],_⟩ (by kernel_rfl) (bc (Zah (fun h=>d17 (i16.1 h))) (bc rfl (bc (Zaa.2 k4) (bc (i31.2 k32) (bc rfl b0))))) (qc (Zap k32) q0) c0 (by (try rw [w15]);(try rw [w34]);(try rw [w35]);(try rw [w37]);all_goals exact H)
  ·rcases xq H with ⟨d39,H⟩|⟨d39,H⟩
   ·obtain ⟨k40,H⟩:=H
    have w41:wv (x.getD i.toNat default+1000000000)=x.getD i.toNat default+1000000000:=wU32 k40
    have w43:(us o).length=o.length:=List.length_map ..
    have i44:(decide (i.toNat<(us o).length))=true ↔ (i.toNat<o.length):=(by (try rw [w43]);all_goals exact Zaa)
    obtain ⟨k45,k46,H⟩:=H
    have w47:wv (x.getD i.toNat default+1000000000-c)=x.getD i.toNat default+1000000000-c:=wU32 k46
    have w48:(us o).set i.toNat (vu (x.getD i.toNat default+1000000000-c))=us (o.set i.toNat (x.getD i.toNat default+1000000000-c)):=(Za3 rfl rfl)
    obtain ⟨k49,H⟩:=H
    have w50:wi (i+1)=i+1:=wI64 k49
    exact Zac (G:=Zab kp109 [(12,6,.elem (vu (o.getD i.toNat default)))] []) 1000 [false,true] ⟨(atC (cd Try.f109) [1,1,1,0,1,0,0]),[(1,AV.vec fb 1 (us b)),(5,AV.row 0 0),(6,vu 1),(13,AV.vec fx 1 (us x)),(14,vi n),(15,vi (wi (i+1)))],[⟨(us o).set i.toNat (vu (wv (wv (x.getD i.toNat default+1000000000)-c))),1,0,false,true⟩],_,[((us o).get?Internal i.toNat=some (vu (o.getD i.toNat default)))],_⟩ (by kernel_rfl) (bc (Zah (fun h=>d10 (i9.1 h))) (bc (Zak (Zaa.2 d39)) (bc rfl (bc (Zaa.2 k4) (bc (i44.2 k45) (bc rfl b0)))))) (qc (Zap k45) q0) c0 (by (try rw [w41]);(try rw [w47]);(try rw [w48]);(try rw [w50]);all_goals exact H)
   ·have w52:(us o).length=o.length:=List.length_map ..
    have i53:(decide (i.toNat<(us o).length))=true ↔ (i.toNat<o.length):=(by (try rw [w52]);all_goals exact Zaa)
    obtain ⟨k54,k55,H⟩:=H
    have w56:wv (x.getD i.toNat default-c)=x.getD i.toNat default-c:=wU32 k55
    have w57:(us o).set i.toNat (vu (x.getD i.toNat default-c))=us (o.set i.toNat (x.getD i.toNat default-c)):=(Za3 rfl rfl)
    obtain ⟨k58,H⟩:=H
    have w59:wi (i+1)=i+1:=wI64 k58
    exact Zac (G:=Zab kp109 [(12,6,.elem (vu (o.getD i.toNat default)))] []) 1000 [false,false] ⟨(atC (cd Try.f109) [1,1,1,0,1,0,0]),[(1,AV.vec fb 1 (us b)),(5,AV.row 0 0),(6,vu 0),(13,AV.vec fx 1 (us x)),(14,vi n),(15,vi (wi (i+1)))],[⟨(us o).set i.toNat (vu (wv (x.getD i.toNat default-c))),1,0,false,true⟩],_,[((us o).get?Internal i.toNat=some (vu (o.getD i.toNat default)))],_⟩ (by kernel_rfl) (bc (Zah (fun h=>d10 (i9.1 h))) (bc (Zah (fun h=>d39 (Zaa.1 h))) (bc rfl (bc (Zaa.2 k4) (bc (i53.2 k54) (bc rfl b0)))))) (qc (Zap k54) q0) c0 (by (try rw [w56]);(try rw [w57]);(try rw [w59]);all_goals exact H)
 ·exact Zbu (G:=Zab kp109 [] []) 1000 [false] (k:=((atC (cd Try.f109) [1,1,1,1,1])).tail) (env':=[(4,AV.row 0 0)]) (L':=[⟨us o,1,0,false,true⟩]) (asm:=[(decide (i<n))==false]) (eqs:=[]) (calls:=[]) (AV.row 0 0) (by kernel_rfl) (by kernel_rfl) (Zam (Zah (fun h=>d2 (Zaa.1 h))) ZaF) Za7 Za9 (ZdE (d:=(vf (us o))) (bs:=[0==0]) (by kernel_rfl) (by kernel_rfl) (Zam (beq_self_eq_true _) ZaF) (by kernel_rfl) H)
theorem vByWord (fa:Bool) (a:List Int) (d:Int)  (dq:AV) (H :
  (0<=(↑a.length:Int)) /\
  ((↑a.length:Int)*4<=1099511627776) /\
  ((↑a.length:Int)<=1099511627776) /\
  (-9223372036854775808<=(↑a.length:Int)-1/\(↑a.length:Int)-1<=9223372036854775807) /\
  ZbR fa a (List.replicate (↑a.length:Int).toNat (0:Int)) d 0 ((↑a.length:Int)-1) (Zad dq)) :
 Zhd fa a d (Zad dq):=by
 unfold Zhd
 have w1:(us a).length=a.length:=List.length_map ..
 have i2:(decide (0<=(↑(us a).length:Int)))=true ↔ (0<=(↑a.length:Int)):=(by (try rw [w1]);all_goals exact Zaa)
 obtain ⟨k3,H⟩:=H
 have i4:(decide ((↑(us a).length:Int)<=(↑(us a).length:Int)))=true ↔ ((↑a.length:Int)<=(↑a.length:Int)):=(by (try rw [w1]);all_goals exact Zaa)
 have i5:(decide ((↑(us a).length:Int)*4<=1099511627776))=true ↔ ((↑a.length:Int)*4<=1099511627776):=(by (try rw [w1]);all_goals exact Zaa)
 obtain ⟨k6,H⟩:=H
 have i7:(decide ((↑(us a).length:Int)<=1099511627776))=true ↔ ((↑a.length:Int)<=1099511627776):=(by (try rw [w1]);all_goals exact Zaa)
 obtain ⟨k8,H⟩:=H
 have w9:List.replicate (↑a.length:Int).toNat (vu 0)=us (List.replicate (↑a.length:Int).toNat (0:Int)):=(ZdJ rfl)
 obtain ⟨k10,H⟩:=H
 have w11:wi ((↑a.length:Int)-1)=(↑a.length:Int)-1:=wI64 k10
 exact Zac (G:=Zab kp118 [] []) 1000 [] ⟨(atC (cd Try.f118) [1,1,1,0,1,0,0]),[(0,AV.vec fa 1 (us a)),(1,vu d),(6,AV.row 0 0),(7,vw 0),(8,vi (wi ((↑(us a).length:Int)-1)))],[⟨List.replicate (↑(us a).length:Int).toNat (vu 0),1,0,false,true⟩],[decide (0<=(↑(us a).length:Int)),decide ((↑(us a).length:Int)<=(↑(us a).length:Int)),decide ((↑(us a).length:Int)*4<=1099511627776),decide ((↑(us a).length:Int)<=1099511627776)],[],_⟩ (by kernel_rfl) (bc (i2.2 k3) (bc (i4.2 (by omega)) (bc (i5.2 k6) (bc (i7.2 k8) b0)))) q0 c0 (by (try rw [w1]);(try rw [w9]);(try rw [w11]);all_goals exact H)
theorem vByWordA (fa:Bool) (a o:List Int) (d r i:Int)  (dq:AV) (H :
  ((i>=0)->(0<=i) /\
   (i.toNat<a.length) /\
   (0<=r*1000000000/\r*1000000000<=18446744073709551615) /\
   (0<=a.getD i.toNat default/\a.getD i.toNat default<=18446744073709551615) /\
   (0<=r*1000000000+a.getD i.toNat default/\r*1000000000+a.getD i.toNat default<=18446744073709551615) /\
   (0<=d/\d<=18446744073709551615) /\
   (¬d=0) /\
   (i.toNat<o.length) /\
   (0<=(r*1000000000+a.getD i.toNat default).tdiv d/\(r*1000000000+a.getD i.toNat default).tdiv d<=18446744073709551615) /\
   (0<=(r*1000000000+a.getD i.toNat default).tdiv d/\(r*1000000000+a.getD i.toNat default).tdiv d<=4294967295) /\
   (-9223372036854775808<=i-1/\i-1<=9223372036854775807) /\
   ZbR fa a (o.set i.toNat ((r*1000000000+a.getD i.toNat default).tdiv d)) d ((r*1000000000+a.getD i.toNat default).tmod d) (i-1) (Zad dq)) /\
  (¬(i>=0)->(0<=r/\r<=4294967295) /\
   Weak (tu [vf (us o),AV.vec true 1 [vu r]]) dq)) :
 ZbR fa a o d r i (Zad dq):=by
 unfold ZbR
 rcases xq H with ⟨d2,H⟩|⟨d2,H⟩
 ·obtain ⟨k4,H⟩:=H
  have w5:(us a).length=a.length:=List.length_map ..
  have i6:(decide (i.toNat<(us a).length))=true ↔ (i.toNat<a.length):=(by (try rw [w5]);all_goals exact Zaa)
  obtain ⟨k7,k8,H⟩:=H
  have w9:wu (r*1000000000)=r*1000000000:=wU64 k8
  obtain ⟨k10,H⟩:=H
  have w11:wu (a.getD i.toNat default)=a.getD i.toNat default:=wU64 k10
  obtain ⟨k12,H⟩:=H
  have w13:wu (r*1000000000+a.getD i.toNat default)=r*1000000000+a.getD i.toNat default:=wU64 k12
  obtain ⟨k14,H⟩:=H
  have w15:wu d=d:=wU64 k14
  have i16:(!wu d==0)=true ↔ (¬d=0):=(by (try rw [w15]);all_goals exact Zds)
  obtain ⟨k17,H⟩:=H
  have i18:(!wu d==0)=true ↔ (¬d=0):=(by (try rw [w15]);all_goals exact Zds)
  have w20:(us o).length=o.length:=List.length_map ..
  have i21:(decide (i.toNat<(us o).length))=true ↔ (i.toNat<o.length):=(by (try rw [w20]);all_goals exact Zaa)
  obtain ⟨k22,k23,H⟩:=H
  have w24:wu ((r*1000000000+a.getD i.toNat default).tdiv d)=(r*1000000000+a.getD i.toNat default).tdiv d:=wU64 k23
  obtain ⟨k25,H⟩:=H
  have w26:wv ((r*1000000000+a.getD i.toNat default).tdiv d)=(r*1000000000+a.getD i.toNat default).tdiv d:=wU32 k25
  have w27:(us o).set i.toNat (vu ((r*1000000000+a.getD i.toNat default).tdiv d))=us (o.set i.toNat ((r*1000000000+a.getD i.toNat default).tdiv d)):=(Za3 rfl rfl)
  obtain ⟨k28,H⟩:=H
  have w29:wi (i-1)=i-1:=wI64 k28
  exact Zac (G:=Zab kp118 [(6,5,.elem (vu (a.getD i.toNat default))),(7,12,.elem (vu (o.getD i.toNat default)))] []) 1000 [true] ⟨(atC (cd Try.f118) [1,1,1,0,1,0,0]),[(0,AV.vec fa 1 (us a)),(1,vu d),(6,AV.row 0 0),(7,vw ((wu (wu (r*1000000000)+wu (a.getD i.toNat default))).tmod (wu d))),(8,vi (wi (i-1)))],[⟨(us o).set i.toNat (vu (wv (wu ((wu (wu (r*1000000000)+wu (a.getD i.toNat default))).tdiv (wu d))))),1,0,false,true⟩],_,[((us a).get?Internal i.toNat=some (vu (a.getD i.toNat default))),((us o).get?Internal i.toNat=some (vu (o.getD i.toNat default)))],_⟩ (by kernel_rfl) (bc (Zak (Zaa.2 d2)) (bc (Zaa.2 k4) (bc (i6.2 k7) (bc (i16.2 k17) (bc (i18.2 k17) (bc rfl (bc (Zaa.2 k4) (bc (i21.2 k22) (bc rfl b0))))))))) (qc (Zap k7) (qc (Zap k22) q0)) c0 (by (try rw [w9]);(try rw [w11]);(try rw [w13]);(try rw [w15]);(try rw [w24]);(try rw [w26]);(try rw [w27]);(try rw [w29]);all_goals exact H)
 ·obtain ⟨k30,H⟩:=H
  have w31:wv r=r:=wU32 k30
  exact Zbu (G:=Zab kp118 [] []) 1000 [false] (k:=((atC (cd Try.f118) [1,1,1,1,1])).tail) (env':=[(4,AV.row 0 0),(5,AV.vec true 1 [vu (wv r)])]) (L':=[⟨us o,1,0,false,true⟩]) (asm:=[(decide (i>=0))==false]) (eqs:=[]) (calls:=[]) (tu [AV.row 0 0,AV.vec true 1 [vu (wv r)]]) (by kernel_rfl) (by kernel_rfl) (Zam (Zah (fun h=>d2 (Zaa.1 h))) ZaF) Za7 Za9 (ZdE (d:=(tu [vf (us o),AV.vec true 1 [vu (wv r)]])) (bs:=[0==0]) (by kernel_rfl) (by kernel_rfl) (Zam (beq_self_eq_true _) ZaF) (by kernel_rfl) (by (try rw [w31]);all_goals exact H))
end Go.Av

namespace Go.Av
open Go.Proofs
theorem ZaU (v i:Nat):v / 1000000000 ^ i / 1000000000=v / 1000000000 ^ (i+1):=by rw [Nat.div_div_eq_div_mul,Nat.pow_succ]
theorem ZaE {n v i:Nat} (h:Sp.fits n v) (hi:n<=i):v / 1000000000 ^ i=0:=Zc4.1 (ZaW h hi)
theorem Zgz {fa fb:Bool} {n v w:Nat} {dq:AV} (hn:n<=1000000) (hq:AV.int .i64 (Sp.sgnI ((v:Int)-w))=dq):∀ (k:Nat),k<=n->v / 1000000000 ^ k=w / 1000000000 ^ k->Zb5 fa fb (Sp.Zaq n v) (Sp.Zaq n w) ((k:Int)-1) (Zad dq)
 | 0,hk,he=>by
  have e:v=w:=by simpa using he
  refine vCompareA _ _ _ _ _ _ ⟨fun h=>by omega,fun _ => ?_⟩
  rw [<- hq,e]
  congr 1
  unfold Sp.sgnI
  rw [if_neg (by omega),if_neg (by omega)]
 | k+1,hk,he=>by
  have e1:(((k+1:Nat):Int)-1)=(k:Nat):=by omega
  rw [e1]
  refine vCompareA _ _ _ _ _ _ ⟨fun _ => ?_,fun h=>by omega⟩
  rw [Int.toNat_natCast,Zaw v (show k<n by omega),Zaw w (show k<n by omega),Zal,Zal]
  have s1:=ZaN v k
  have s2:=ZaN w k
  rw [<- he] at s2
  refine ⟨by omega,by omega,by omega,fun h => ?_,fun h=>⟨fun h2 => ?_,fun h2=>⟨by omega,?_⟩⟩⟩
  ·have:=ZfO (v:=v) (w:=w) (i:=k) (by omega)
   rw [<- hq];congr 1
   unfold Sp.sgnI
   rw [if_pos (by omega)]
  ·have:=ZfO (v:=w) (w:=v) (i:=k) (by omega)
   rw [<- hq];congr 1
   unfold Sp.sgnI
   rw [if_neg (by omega),if_pos (by omega)]
  ·exact Zgz hn hq k (by omega) (by omega)
theorem compareN (fa fb:Bool) (n v m w:Nat) (h:Sp.Zay n/\Sp.Zay m/\Sp.fits n v/\Sp.fits m w):Ev M1 (.pure 85 [usA fa (Sp.Zaq n v),usA fb (Sp.Zaq m w)]) (.int .i64 (Sp.sgnI ((v:Int)-w))) []:=by
 obtain ⟨h1,h2,h3,h4⟩:=h
 have c1:=Zav.1 h3
 have c2:=Zav.1 h4
 have h1':n<=1000000:=h1
 have h2':m<=1000000:=h2
 refine call85 (vCompare _ _ _ _ _ ⟨Sp.lim v,trimN fa n v ⟨h1,h3⟩,Sp.lim w,trimN fb m w ⟨h2,h4⟩,?_⟩)
 rw [ZaG,ZaG]
 refine ⟨fun h=>⟨fun k => ?_,fun k => ?_⟩,fun h=>⟨by omega,?_⟩⟩
 ·have:=cmp_len (v:=v) (w:=w) (by omega)
  congr 1
  unfold Sp.sgnI
  rw [if_pos (by omega)]
 ·have:=cmp_len (v:=w) (w:=v) (by omega)
  congr 1
  unfold Sp.sgnI
  rw [if_neg (by omega),if_pos (by omega)]
 ·have e:Sp.cnt w=Sp.cnt v:=by omega
  have hw:Sp.lim w=Sp.Zaq (Sp.cnt v) w:=by unfold Sp.lim;rw [e]
  rw [hw]
  refine Zgz (by omega) rfl (Sp.cnt v) (Nat.le_refl _) ?_
  rw [ZaE (Zag v) (Nat.le_refl _),ZaE (Zag w) (by omega)]
theorem ev85 (fa fb:Bool) (v w:Int) (h:Sp.ok v/\Sp.ok w):Ev M1 (.pure 85 [usA fa (Sp.Zau v),usA fb (Sp.Zau w)]) (.int .i64 (Sp.sgnI ((v.natAbs:Int)-w.natAbs))) []:=compareN fa fb _ _ _ _ ⟨h.1,h.2,Zag _,Zag _⟩
theorem loopPlus {fb fx:Bool} {n m v w:Nat} {dq:AV} (hn:n<=1000000) (hmn:m<=n) (hv:Sp.fits n v) (hw:Sp.fits m w):∀ (k i:Nat) (o:List Int) (c:Nat) (r:Nat),i+k=n->c<=1->o.length<=1000000+i ->
  usA false (o++Sp.Zaq (k+1) (v / 1000000000 ^ i+w / 1000000000 ^ i+c))=dq->Zb4 fb fx (Sp.Zaq m w) (Sp.Zaq n v) o c n i r (Zad dq)
 | 0,i,o,c,r,hi,hc,hol,hq=>by
  rw [ZaE hv (by omega),ZaE hw (by omega)] at hq
  have e:Sp.Zaq 1 (0+0+c)=[(c:Int)]:=by simp [Sp.Zaq];omega
  rw [Nat.zero_add,e] at hq
  exact vPlusA _ _ _ _ _ _ _ _ _ _ ⟨fun h=>by omega,fun _=>⟨by omega,by rw [<- hq];exact .refl _⟩⟩
 | k+1,i,o,c,r,hi,hc,hol,hq=>by
  have gx:=Zaw v (show i<n by omega)
  rw [plus_step,ZaU,ZaU] at hq
  have nxt:∀ (d:Int) (c':Nat),((v / 1000000000 ^ i % 1000000000+w / 1000000000 ^ i % 1000000000+c) % 1000000000:Nat)=d->(v / 1000000000 ^ i % 1000000000+w / 1000000000 ^ i % 1000000000+c) / 1000000000=c'->c'<=1->Zb4 fb fx (Sp.Zaq m w) (Sp.Zaq n v) (o++[d]) c' n ((i:Int)+1) (r+1) (Zad dq):=by
   intro d c' hd hc' hc1
   refine loopPlus hn hmn hv hw k (i+1) (o++[d]) c' (r+1) (by omega) hc1 (by simp;omega) ?_
   rw [<- hq,hd,hc',List.append_assoc];rfl
  refine vPlusA _ _ _ _ _ _ _ _ _ _ ⟨fun _ => ?_,fun h=>by omega⟩
  rw [Int.toNat_natCast,gx,Zal,Zal]
  by_cases him:i<m
  ·rw [Zaw w him]
   generalize v / 1000000000 ^ i=V at nxt
   generalize w / 1000000000 ^ i=W at nxt
   refine ⟨by omega,by omega,by omega,fun _=>⟨by omega,by omega,fun h=>⟨by omega,by omega,by omega,nxt _ 1 (by omega) (by omega) (by omega)⟩,fun h=>⟨by omega,by omega,nxt _ 0 (by omega) (by omega) (by omega)⟩⟩,fun h=>by omega⟩
  ·have hW:=ZaE hw (show m<=i by omega)
   rw [hW] at nxt
   generalize v / 1000000000 ^ i=V at nxt
   refine ⟨by omega,by omega,by omega,fun h=>by omega,fun _=>⟨fun h=>⟨by omega,by omega,by omega,nxt _ 1 (by omega) (by omega) (by omega)⟩,fun h=>⟨by omega,by omega,nxt _ 0 (by omega) (by omega) (by omega)⟩⟩⟩
theorem ev108 (fa fb:Bool) (v w:Int) (h:Sp.ok v/\Sp.ok w):Ev M1 (.pure 108 [usA fa (Sp.Zau v),usA fb (Sp.Zau w)]) (usA false (Sp.Zaq (max (Sp.cnt v.natAbs) (Sp.cnt w.natAbs)+1) (v.natAbs+w.natAbs))) []:=by
 have h1:Sp.cnt v.natAbs<=1000000:=h.1
 have h2:Sp.cnt w.natAbs<=1000000:=h.2
 refine call108 (vPlus _ _ _ _ _ ?_)
 rw [Zbp,Zbp]
 refine ⟨fun k=>⟨by omega,by omega,by omega,by omega,?_⟩,fun k=>⟨by omega,by omega,by omega,by omega,?_⟩⟩
 ·have:=loopPlus (fb:=fa) (fx:=fb) (v:=w.natAbs) (w:=v.natAbs) (dq:=usA false (Sp.Zaq (max (Sp.cnt v.natAbs) (Sp.cnt w.natAbs)+1) (v.natAbs+w.natAbs))) h2 (show Sp.cnt v.natAbs<=Sp.cnt w.natAbs by omega) (Zag _) (Zag _) (Sp.cnt w.natAbs) 0 [] 0 0 (by omega) (by omega) (by simp) (by
   rw [Nat.max_eq_right (by omega)];simp [Nat.add_comm])
  exact this
 ·have:=loopPlus (fb:=fb) (fx:=fa) (v:=v.natAbs) (w:=w.natAbs) (dq:=usA false (Sp.Zaq (max (Sp.cnt v.natAbs) (Sp.cnt w.natAbs)+1) (v.natAbs+w.natAbs))) h1 (show Sp.cnt w.natAbs<=Sp.cnt v.natAbs by omega) (Zag _) (Zag _) (Sp.cnt v.natAbs) 0 [] 0 0 (by omega) (by omega) (by simp) (by
   rw [Nat.max_eq_left (by omega)];simp)
  exact this
theorem ZaT {o:List Int} {i:Nat} {d:Int} (h:i<o.length):(o.set i d).take (i+1)=o.take i++[d]:=by
 rw [List.take_add_one,List.take_set_of_le (Nat.le_refl _),List.getElem?_set_self h];rfl
theorem Zgy {fb fx:Bool} {n m v w:Nat} {dq:AV} (hn:n<=1000000) (hv:Sp.fits n v) (hw:Sp.fits m w) (hm:m<=1000000):∀ (k i:Nat) (o:List Int) (c:Nat),i+k=n->c<=1->o.length=n->w / 1000000000 ^ i+c<=v / 1000000000 ^ i ->
  usA false (o.take i++Sp.Zaq k (v / 1000000000 ^ i-w / 1000000000 ^ i-c))=dq->Zbl fb fx (Sp.Zaq m w) (Sp.Zaq n v) o c n i (Zad dq)
 | 0,i,o,c,hi,hc,hol,hle,hq=>by
  rw [List.take_of_length_le (by omega),Sp.Zaq,List.append_nil] at hq
  exact vMinusA _ _ _ _ _ _ _ _ _ ⟨fun h=>by omega,fun _=>by rw [<- hq];exact .refl _⟩
 | k+1,i,o,c,hi,hc,hol,hle,hq=>by
  have gx:=Zaw v (show i<n by omega)
  obtain ⟨s1,s2⟩:=Zhv k (v / 1000000000 ^ i) (w / 1000000000 ^ i) c hle hc
  rw [ZaU,ZaU] at s1 s2
  have nxt1:v / 1000000000 ^ i % 1000000000<w / 1000000000 ^ i % 1000000000+c -> ∀ d:Int,((v / 1000000000 ^ i % 1000000000+1000000000-(w / 1000000000 ^ i % 1000000000+c):Nat):Int)=d->Zbl fb fx (Sp.Zaq m w) (Sp.Zaq n v) (o.set i d) (1:Nat) n ((i:Int)+1) (Zad dq):=by
   intro hlt d hd
   obtain ⟨t1,t2⟩:=s1 hlt
   refine Zgy hn hv hw hm k (i+1) (o.set i d) 1 (by omega) (by omega) (by simpa using hol) t2 ?_
   rw [ZaT (by omega),<- hq,t1,hd,List.append_assoc];rfl
  have nxt0:¬v / 1000000000 ^ i % 1000000000<w / 1000000000 ^ i % 1000000000+c -> ∀ d:Int,((v / 1000000000 ^ i % 1000000000-(w / 1000000000 ^ i % 1000000000+c):Nat):Int)=d->Zbl fb fx (Sp.Zaq m w) (Sp.Zaq n v) (o.set i d) (0:Nat) n ((i:Int)+1) (Zad dq):=by
   intro hlt d hd
   obtain ⟨t1,t2⟩:=s2 hlt
   refine Zgy hn hv hw hm k (i+1) (o.set i d) 0 (by omega) (by omega) (by simpa using hol) t2 ?_
   rw [ZaT (by omega),<- hq,t1,hd,List.append_assoc];rfl
  refine vMinusA _ _ _ _ _ _ _ _ _ ⟨fun _ => ?_,fun h=>by omega⟩
  rw [Int.toNat_natCast,gx,Zal,Zal]
  by_cases him:i<m
  ·rw [Zaw w him]
   generalize v / 1000000000 ^ i=V at nxt0 nxt1
   generalize w / 1000000000 ^ i=W at nxt0 nxt1
   exact ⟨by omega,by omega,fun _=>⟨by omega,by omega,fun h=>⟨by omega,by omega,by omega,by omega,nxt1 (by omega) _ (by omega)⟩,fun h=>⟨by omega,by omega,by omega,nxt0 (by omega) _ (by omega)⟩⟩,fun h=>by omega⟩
  ·have hW:=ZaE hw (show m<=i by omega)
   rw [hW] at nxt0 nxt1
   generalize v / 1000000000 ^ i=V at nxt0 nxt1
   exact ⟨by omega,by omega,fun h=>by omega,fun _=>⟨fun h=>⟨by omega,by omega,by omega,by omega,nxt1 (by omega) _ (by omega)⟩,fun h=>⟨by omega,by omega,by omega,nxt0 (by omega) _ (by omega)⟩⟩⟩
theorem ev109 (fa fb:Bool) (v w:Int) (h:Sp.ok v/\Sp.ok w/\w.natAbs<=v.natAbs):Ev M1 (.pure 109 [usA fa (Sp.Zau v),usA fb (Sp.Zau w)]) (usA false (Sp.Zaq (Sp.cnt v.natAbs) (v.natAbs-w.natAbs))) []:=by
 obtain ⟨h1,h2,h3⟩:=h
 have h1':Sp.cnt v.natAbs<=1000000:=h1
 refine call109 (vMinus _ _ _ _ _ ?_)
 rw [Zbp,Int.toNat_natCast]
 refine ⟨by omega,by omega,by omega,?_⟩
 have:=Zgy (fb:=fb) (fx:=fa) (v:=v.natAbs) (w:=w.natAbs) (dq:=usA false (Sp.Zaq (Sp.cnt v.natAbs) (v.natAbs-w.natAbs))) h1' (Zag _) (Zag _) h2 (Sp.cnt v.natAbs) 0 (List.replicate (Sp.cnt v.natAbs) 0) 0 (by omega) (by omega) (by simp) (by simpa using h3) (by simp)
 exact this
theorem Zcp {o:List Int} {i:Nat} {d:Int} (h:i<o.length):(o.set i d).drop i=d::o.drop (i+1):=by
 rw [ZbA (by simpa using h),List.drop_set_of_lt (by omega)]
 congr 1
 rw [List.getD_eq_getElem?_getD,List.getElem?_set_self h];rfl
theorem Zhz {fa:Bool} {n v d:Nat} {dq:AV} (hn:n<=1000000) (hd:0<d/\d<1000000000) (hq:AV.tup [usA false (Sp.Zaq n (v / d)),usA false [((v % d:Nat):Int)]]=dq):∀ (i k:Nat) (o:List Int),i+k=n->o.length=n->o.drop i=Sp.Zaq k (v / 1000000000 ^ i / d)->ZbR fa (Sp.Zaq n v) o d ((v / 1000000000 ^ i % d:Nat):Int) ((i:Int)-1) (Zad dq)
 | 0,k,o,hi,hol,ho=>by
  have hk:k=n:=by omega
  subst hk
  rw [List.drop_zero] at ho
  simp only [Nat.pow_zero,Nat.div_one] at ho ⊢
  have hm:=Nat.mod_lt v hd.1
  refine vByWordA _ _ _ _ _ _ _ ⟨fun h=>by omega,fun _=>⟨by omega,?_⟩⟩
  rw [ho,<- hq]
  refine .tup _ _ rfl fun i x y hx hy => ?_
  match i with
  | 0=>simp at hx hy;subst hx;subst hy;exact .refl _
  | 1=>simp at hx hy;subst hx;subst hy;exact Zcm _ _ _
  | i+2=>simp at hx
 | i+1,k,o,hi,hol,ho=>by
  have gx:=Zaw v (show i<n by omega)
  have e1:(((i+1:Nat):Int)-1)=(i:Nat):=by omega
  have hs:=ZaN v i
  have hx:v / 1000000000 ^ i % 1000000000<1000000000:=Nat.mod_lt _ (by omega)
  obtain ⟨b1,b2,b3⟩:=ZcI (v / 1000000000 ^ (i+1)) (v / 1000000000 ^ i % 1000000000) d hx hd.1
  have hs':v / 1000000000 ^ i % 1000000000+1000000000*(v / 1000000000 ^ (i+1))=v / 1000000000 ^ i:=by omega
  rw [hs'] at b1 b2
  have hr:=Nat.mod_lt (v / 1000000000 ^ (i+1)) hd.1
  rw [e1]
  refine vByWordA _ _ _ _ _ _ _ ⟨fun _ => ?_,fun h=>by omega⟩
  rw [Int.toNat_natCast,gx,Zal]
  have c1:((v / 1000000000 ^ (i+1) % d:Nat):Int)*1000000000+((v / 1000000000 ^ i % 1000000000:Nat):Int)=((v / 1000000000 ^ (i+1) % d*1000000000+v / 1000000000 ^ i % 1000000000:Nat):Int):=by omega
  obtain ⟨q0,hq0⟩:∃ q0,q0=(v / 1000000000 ^ (i+1) % d*1000000000+v / 1000000000 ^ i % 1000000000) / d:=⟨_,rfl⟩
  have c2:(((v / 1000000000 ^ (i+1) % d*1000000000+v / 1000000000 ^ i % 1000000000:Nat):Int)).tdiv d=(q0:Nat):=by rw [hq0];exact (Int.ofNat_tdiv _ _).symm
  have c3:(((v / 1000000000 ^ (i+1) % d*1000000000+v / 1000000000 ^ i % 1000000000:Nat):Int)).tmod d=((v / 1000000000 ^ i % d:Nat):Int):=by rw [b2];exact (Int.ofNat_tmod _ _).symm
  rw [<- hq0] at b1 b3
  rw [c1,c2,c3]
  have main:ZbR fa (Sp.Zaq n v) (o.set i (q0:Nat)) d ((v / 1000000000 ^ i % d:Nat):Int) ((i:Int)-1) (Zad dq):=by
   refine Zhz hn hd hq i (k+1) _ (by omega) (by simpa using hol) ?_
   rw [Zcp (by omega),ho,Zaz,b1]
   generalize v / 1000000000 ^ (i+1) / d=z
   have e2:(1000000000*z+q0) % 1000000000=q0:=by omega
   have e3:(1000000000*z+q0) / 1000000000=z:=by omega
   rw [e2,e3]
  have hx':((v / 1000000000 ^ i % 1000000000:Nat):Int)<1000000000:=by omega
  have hr':((v / 1000000000 ^ (i+1) % d:Nat):Int)<d:=by exact_mod_cast hr
  refine ⟨by omega,by omega,?_,by omega,?_,by omega,by omega,by omega,by omega,by omega,by omega,main⟩
  ·generalize v / 1000000000 ^ (i+1) % d=R at hr'
   omega
  ·generalize v / 1000000000 ^ (i+1) % d=R at hr'
   omega
theorem byWordN (fa:Bool) (n v d:Nat) (h:Sp.Zay n/\Sp.fits n v/\0<d/\d<1000000000):Ev M1 (.pure 118 [usA fa (Sp.Zaq n v),.int .u32 d]) (.tup [usA false (Sp.Zaq n (v / d)),usA false [((v % d:Nat):Int)]]) []:=by
 obtain ⟨h1,h2,h3,h4⟩:=h
 have h1':n<=1000000:=h1
 refine call118 (vByWord _ _ _ _ ?_)
 rw [Zal,Int.toNat_natCast]
 refine ⟨by omega,by omega,by omega,by omega,?_⟩
 have e0:=ZaE h2 (Nat.le_refl n)
 have:=Zhz (fa:=fa) (v:=v) (dq:=.tup [usA false (Sp.Zaq n (v / d)),usA false [((v % d:Nat):Int)]]) h1' ⟨h3,h4⟩ rfl n 0 (List.replicate n 0) (by omega) (by simp) (by simp [Sp.Zaq])
 rw [e0,Nat.zero_mod] at this
 exact this
end Go.Av

namespace Go.Av
open Go.Proofs
namespace Sp
def zs (n:Nat):List Int:=List.replicate n 0
end Sp
theorem ZeG:∀ (n k v:Nat),Sp.fits n v->Sp.Zaq (n+k) v=Sp.Zaq n v++Sp.zs k
 | n,0,v,_=>by simp [Sp.zs]
 | n,k+1,v,h=>by
  rw [<- Nat.add_assoc,ZdK,ZeG n k v h,List.append_assoc]
  congr 1
  have e:v / 1000000000 ^ (n+k)=0:=ZaE h (by omega)
  rw [e]
  unfold Sp.zs
  rw [<- List.replicate_append_replicate (n:=k) (m:=1)];rfl
theorem Zhw {fb fx fy:Bool} {b x:List Int} {m w xd n i K:Nat} {Q0:List Int} {Q:AV->Heap->Prop} (hm:m<=1000000) (hi:i<=1000000) (hK:K<=1000000) (hb:b.length=m) (hx:xd<1000000000) (hw:Sp.fits m w)
  (hq:∀ o:List Int,o=Q0++Sp.zs K->Zcs fb fx b x o n ((i:Int)+1) Q) :
  ∀ (r j:Nat) (o:List Int) (U c:Nat),j+r=m->o.length=i+m+1+K->c<1000000000->Sp.fits r U->o.drop (i+j)=Sp.Zaq r U++Sp.zs (K+1)->o.take (i+j)++Sp.Zaq (r+1) (U+xd*(w / 1000000000 ^ j)+c)=Q0 ->
   Zcr fb fx fy b x (Sp.Zaq m w) o i xd c n i m j Q
 | 0,j,o,U,c,hj,hol,hc,hU,ho,hQ=>by
  have hU0:=Za6.1 hU
  have hj':j=m:=by omega
  subst hj'
  rw [ZaE hw (Nat.le_refl _),hU0,Nat.mul_zero] at hQ
  have e:Sp.Zaq 1 (0+0+c)=[(c:Int)]:=by simp [Sp.Zaq];omega
  rw [Nat.zero_add,e] at hQ
  rw [hU0,Sp.Zaq,List.nil_append] at ho
  refine vTimesB _ _ _ _ _ _ _ _ _ _ _ _ _ _ _ ⟨fun h=>by omega,fun _ => ?_⟩
  rw [hb]
  have e1:((i:Int)+(j:Int)).toNat=i+j:=by omega
  rw [e1]
  refine ⟨by omega,by omega,by omega,by omega,by omega,hq _ ?_⟩
  have ho2:o.drop (i+j+1)=Sp.zs K:=by
   rw [show i+j+1=1+(i+j) by omega,Nat.add_comm 1,<- List.drop_drop,ho];rfl
  rw [<- hQ,<- ho2]
  rw [List.set_eq_take_append_cons_drop,if_pos (by omega),List.append_assoc];rfl
 | r+1,j,o,U,c,hj,hol,hc,hU,ho,hQ=>by
  have gy:=Zaw w (show j<m by omega)
  have e1:((i:Int)+(j:Int)).toNat=i+j:=by omega
  have hod:=ZbA (d:=o) (i:=i+j) (by omega)
  rw [ho,Zaz,List.cons_append] at hod
  obtain ⟨g1,g2⟩:=List.cons.inj hod
  have hu:U % 1000000000<1000000000:=Nat.mod_lt _ (by omega)
  have hy:w / 1000000000 ^ j % 1000000000<1000000000:=Nat.mod_lt _ (by omega)
  obtain ⟨w1,w2⟩:=Zhe hu hx hy hc
  rw [Zhf,ZaU] at hQ
  refine vTimesB _ _ _ _ _ _ _ _ _ _ _ _ _ _ _ ⟨fun _ => ?_,fun h=>by omega⟩
  rw [Int.toNat_natCast,e1,gy,Zal,<- g1]
  have c1:((xd:Nat):Int)*((w / 1000000000 ^ j % 1000000000:Nat):Int)=((xd*(w / 1000000000 ^ j % 1000000000):Nat):Int):=(Int.natCast_mul _ _).symm
  rw [c1]
  have main:∀ d c':Int,d=(((U % 1000000000+xd*(w / 1000000000 ^ j % 1000000000)+c) % 1000000000:Nat):Int)->c'=(((U % 1000000000+xd*(w / 1000000000 ^ j % 1000000000)+c) / 1000000000:Nat):Int) ->
    Zcr fb fx fy b x (Sp.Zaq m w) (o.set (i+j) d) i xd c' n i m ((j:Int)+1) Q:=by
   intro d c' hd hc'
   subst hc'
   refine Zhw hm hi hK hb hx hw hq r (j+1) _ (U / 1000000000) _ (by omega) (by simpa using hol) w2 (ZbN.1 hU) ?_ ?_
   ·rw [show i+(j+1)=i+j+1 by omega,List.drop_set_of_lt (by omega),<- g2]
   ·rw [show i+(j+1)=i+j+1 by omega,ZaT (by omega),<- hQ,hd,List.append_assoc];rfl
  generalize xd*(w / 1000000000 ^ j % 1000000000)=p at w1 w2 main
  have hu':((U % 1000000000:Nat):Int)<1000000000:=by omega
  generalize U % 1000000000=u at w1 w2 main hu'
  have c2:((u:Nat):Int)+((p:Nat):Int)+((c:Nat):Int)=((u+p+c:Nat):Int):=by omega
  have c3:(((u+p+c:Nat):Int)).tdiv 1000000000=(((u+p+c) / 1000000000:Nat):Int):=by
   rw [Int.tdiv_eq_ediv_of_nonneg (by omega)];omega
  have c4:(((u+p+c:Nat):Int)).tmod 1000000000=(((u+p+c) % 1000000000:Nat):Int):=by
   rw [Int.tmod_eq_emod_of_nonneg (by omega)];omega
  rw [c2,c3,c4]
  exact ⟨by omega,by omega,by omega,by omega,by omega,by omega,by omega,by omega,by omega,by omega,by omega,by omega,by omega,by omega,main _ _ rfl rfl⟩
theorem Zhx {fb fx:Bool} {n m v w:Nat} {R:List Int} {Q:AV->Heap->Prop} (hn:n<=1000000) (hm:m<=1000000) (hv:Sp.fits n v) (hw:Sp.fits m w) (hq:Q (.row 0 0) [⟨R.map (.int .u32),1,0,false,true⟩]) :
  ∀ (k i:Nat) (o:List Int) (U:Nat),i+k=n->o.length=n+m->Sp.fits m U->o.drop i=Sp.Zaq m U++Sp.zs k->o.take i++Sp.Zaq (m+k) (U+v / 1000000000 ^ i*w)=R->Zcs fb fx (Sp.Zaq m w) (Sp.Zaq n v) o n i Q
 | 0,i,o,U,hi,hol,hU,ho,hR=>by
  have hi':i=n:=by omega
  subst hi'
  rw [ZaE hv (Nat.le_refl _),Nat.zero_mul,Nat.add_zero,Nat.add_zero] at hR
  have e:Sp.Zaq m U++Sp.zs 0=Sp.Zaq m U:=by simp [Sp.zs]
  rw [e] at ho
  rw [<- ho,List.take_append_drop] at hR
  exact vTimesA _ _ _ _ _ _ _ _ ⟨fun h=>by omega,fun _=>by rw [hR];exact hq⟩
 | k+1,i,o,U,hi,hol,hU,ho,hR=>by
  have gx:=Zaw v (show i<n by omega)
  have hx:v / 1000000000 ^ i % 1000000000<1000000000:=Nat.mod_lt _ (by omega)
  refine vTimesA _ _ _ _ _ _ _ _ ⟨fun _ => ?_,fun h=>by omega⟩
  rw [Int.toNat_natCast,gx,Zal,Zal]
  refine ⟨by omega,by omega,?_⟩
  have hf:Sp.fits (m+1) (U+v / 1000000000 ^ i % 1000000000*w):=fits_mul rfl hU hw hx
  have hP:1000000000 ^ m=1000000000 ^ m:=rfl
  have step:U+v / 1000000000 ^ i*w=U+v / 1000000000 ^ i % 1000000000*w+1000000000*(v / 1000000000 ^ (i+1)*w):=by
   have hs:=ZaN v i
   generalize v / 1000000000 ^ (i+1)=V' at hs ⊢
   generalize v / 1000000000 ^ i % 1000000000=d at hs ⊢
   rw [hs];grind
  refine Zhw (Q0:=o.take i++Sp.Zaq (m+1) (U+v / 1000000000 ^ i % 1000000000*w)) (K:=k) hm (by omega) (by omega) (Zal _ _) hx hw (fun o' ho' => ?_) m 0 o U 0 (by omega) (by omega) (by omega) hU ho (by simp)
  have hlen:(o.take i).length=i:=by rw [List.length_take];omega
  refine Zhx hn hm hv hw hq k (i+1) o' ((U+v / 1000000000 ^ i % 1000000000*w) / 1000000000) (by omega) ?_ (ZbN.1 hf) ?_ ?_
  ·rw [ho']
   simp only [List.length_append,hlen,Zal,Sp.zs,List.length_replicate]
   omega
  ·rw [ho',Zaz]
   have e1:i+1=(o.take i++[(((U+v / 1000000000 ^ i % 1000000000*w) % 1000000000:Nat):Int)]).length:=by simp [hlen]
   rw [e1]
   have e2:o.take i++((((U+v / 1000000000 ^ i % 1000000000*w) % 1000000000:Nat):Int)::Sp.Zaq m ((U+v / 1000000000 ^ i % 1000000000*w) / 1000000000))++Sp.zs k
     = (o.take i++[(((U+v / 1000000000 ^ i % 1000000000*w) % 1000000000:Nat):Int)])++(Sp.Zaq m ((U+v / 1000000000 ^ i % 1000000000*w) / 1000000000)++Sp.zs k):=by simp
   rw [e2,List.drop_left]
  ·rw [<- hR,ho',Zaz,show m+(k+1)=(m+k)+1 by omega,Zaz (m+k)]
   have e1:i+1=(o.take i++[(((U+v / 1000000000 ^ i % 1000000000*w) % 1000000000:Nat):Int)]).length:=by simp [hlen]
   have e2:o.take i++((((U+v / 1000000000 ^ i % 1000000000*w) % 1000000000:Nat):Int)::Sp.Zaq m ((U+v / 1000000000 ^ i % 1000000000*w) / 1000000000))++Sp.zs k
     = (o.take i++[(((U+v / 1000000000 ^ i % 1000000000*w) % 1000000000:Nat):Int)])++(Sp.Zaq m ((U+v / 1000000000 ^ i % 1000000000*w) / 1000000000)++Sp.zs k):=by simp
   rw [e2,e1,List.take_left,List.append_assoc]
   have e3:(U+v / 1000000000 ^ i*w) % 1000000000=(U+v / 1000000000 ^ i % 1000000000*w) % 1000000000:=by rw [step];omega
   have e4:(U+v / 1000000000 ^ i*w) / 1000000000=(U+v / 1000000000 ^ i % 1000000000*w) / 1000000000+v / 1000000000 ^ (i+1)*w:=by rw [step];omega
   rw [e3,e4,<- e1];rfl
theorem timesQ {Q:AV->Heap->Prop} (fa fb:Bool) (n v m w:Nat) (h:Sp.Zay n/\Sp.Zay m/\Sp.fits n v/\Sp.fits m w) (hq:Q (.row 0 0) [⟨(Sp.Zaq (n+m) (v*w)).map (.int .u32),1,0,false,true⟩]):ZfV fa fb (Sp.Zaq n v) (Sp.Zaq m w) Q:=by
 obtain ⟨h1,h2,h3,h4⟩:=h
 have h1':n<=1000000:=h1
 have h2':m<=1000000:=h2
 refine vTimes _ _ _ _ _ ?_
 rw [Zal,Zal]
 have e:((n:Int)+(m:Int)).toNat=n+m:=by omega
 rw [e]
 refine ⟨by omega,by omega,by omega,by omega,?_⟩
 have:=Zhx (fb:=fb) (fx:=fa) (R:=Sp.Zaq (n+m) (v*w)) (Q:=Q) h1' h2' h3 h4 hq n 0 (List.replicate (n+m) 0) 0 (by omega) (by simp) (Zav.2 (by rw [Zbw];omega)) (by
  rw [List.drop_zero,ZgA];unfold Sp.zs;rw [List.replicate_append_replicate,Nat.add_comm]) (by simp [Nat.add_comm])
 exact this
theorem timesN (fa fb:Bool) (n v m w:Nat) (h:Sp.Zay n/\Sp.Zay m/\Sp.fits n v/\Sp.fits m w):Ev M1 (.pure 105 [usA fa (Sp.Zaq n v),usA fb (Sp.Zaq m w)]) (usA false (Sp.Zaq (n+m) (v*w))) []:=
 call105 (timesQ fa fb n v m w h ⟨_,rfl,⟨rfl,trivial⟩,rfl,.refl _⟩)
theorem evf105 (fa fb:Bool) (v:Nat) (s:Int) (h:Sp.Zay (Sp.cnt v)/\0<=s/\s<1000000000):Ev M1 (.own 105 [usA fa (Sp.lim v),.vec fb 1 [.int .u32 s]] []) (.row 0 0) [⟨(Sp.Zaq (Sp.cnt v+1) (v*s.toNat)).map (.int .u32),1,0,false,true⟩]:=by
 have e:[AV.int .u32 s]=(Sp.Zaq 1 s.toNat).map (.int .u32):=by
  simp only [Sp.Zaq,List.map_cons,List.map_nil]
  have:((s.toNat % 1000000000:Nat):Int)=s:=by omega
  rw [this]
 rw [e]
 exact owncall105 (timesQ fa fb _ v 1 s.toNat ⟨h.1,by unfold Sp.Zay;omega,Zag _,by unfold Sp.fits;omega⟩ ⟨rfl,rfl⟩)
theorem ev105 (fa fb:Bool) (v w:Int) (h:Sp.ok v/\Sp.ok w):Ev M1 (.pure 105 [usA fa (Sp.Zau v),usA fb (Sp.Zau w)]) (usA false (Sp.Zaq (Sp.cnt v.natAbs+Sp.cnt w.natAbs) (v.natAbs*w.natAbs))) []:=timesN fa fb _ _ _ _ ⟨h.1,h.2,Zag _,Zag _⟩
theorem Zc5 {n m v w:Nat} (hv:Sp.fits n v) (hw:Sp.fits m w):Sp.fits (n+m) (v*w):=by
 unfold Sp.fits at *
 rw [Nat.pow_add]
 exact Nat.mul_lt_mul'' hv hw
theorem ZeL {n v w:Nat} (hv:Sp.fits n v) (hw:Sp.fits n w):Sp.fits (n+1) (v+w):=by
 unfold Sp.fits at *
 rw [Nat.pow_succ];omega
end Go.Av

namespace Go.Av
open Go.Proofs
set_option maxRecDepth 100000
def fi42:Fi:=⟨10,[.cell 2 28]⟩
def kp42:List (Nat × List Nat):=[(0,[1,2]),(1,[2])]
def fi45:Fi:=⟨18,[.cell 4 28]⟩
def kp45:List (Nat × List Nat):=[(0,[2,3,4]),(1,[2,3,4]),(2,[4])]
def fi46:Fi:=⟨15,[.cell 2 28]⟩
def kp46:List (Nat × List Nat):=[(0,[0,2]),(1,[0,2,3]),(2,[0,2,3,7]),(3,[0,2,3]),(4,[2])]
def fi47:Fi:=⟨24,[.tmp 4]⟩
def kp47:List (Nat × List Nat):=[(0,[2,3]),(1,[2,3,9]),(2,[11]),(3,[4]),(4,[4]),(5,[2,3,13]),(6,[4]),(7,[4])]
def fi78:Fi:=⟨16,[.cell 4 28]⟩
def kp78:List (Nat × List Nat):=[(0,[2,3,4]),(1,[4])]
def fi83:Fi:=⟨34,[.cell 4 28]⟩
def kp83:List (Nat × List Nat):=[(0,[2,3,4]),(1,[2,3,4,9]),(2,[4]),(3,[2,3,4,23]),(4,[2,3,4]),(5,[4])]
def fi117:Fi:=⟨30,[.tmp 2,.tmp 3]⟩
def kp117:List (Nat × List Nat):=[(0,[1]),(1,[1,6]),(2,[1,6,7]),(3,[2,3]),(4,[1,6,9]),(5,[2,3]),(6,[1,16]),(7,[2,3]),(8,[2,3])]
def vWord_at (fa s:Bool) (a:List Int) (Q:AV->Heap->Prop):Prop:=Wp M1 (.run fi117 (atC (cd Try.f117) []) [(0,.agg [.bool s,.vec fa 1 (a.map (.int .u32))])] []) Q
def Zer (n:Int) (Q:AV->Heap->Prop):Prop:=Wp M1 (.run fi46 (atC (cd Try.f46) []) [(0,.int .i64 n)] []) Q
def vSub_at (fa fb:Bool) (a b:Int) (Q:AV->Heap->Prop):Prop:=Wp M1 (.run fi45 (atC (cd Try.f45) []) [(0,bigA fa a),(1,bigA fb b)] []) Q
def vAdd_at (fa fb:Bool) (a b:Int) (Q:AV->Heap->Prop):Prop:=Wp M1 (.run fi83 (atC (cd Try.f83) []) [(0,bigA fa a),(1,bigA fb b)] []) Q
def vMul_at (fa fb:Bool) (a b:Int) (Q:AV->Heap->Prop):Prop:=Wp M1 (.run fi78 (atC (cd Try.f78) []) [(0,bigA fa a),(1,bigA fb b)] []) Q
def vNeg0_at (fa:Bool) (Q:AV->Heap->Prop):Prop:=Wp M1 (.run fi42 (atC (cd Try.f42) []) [(0,.agg [.bool false,.vec fa 1 []])] []) Q
def vNeg_at (s fa:Bool) (x:Int) (a:List Int) (Q:AV->Heap->Prop):Prop:=Wp M1 (.run fi42 (atC (cd Try.f42) []) [(0,.agg [.bool s,.vec fa 1 ((x::a).map (.int .u32))])] []) Q
def vCmp_at (fa fb:Bool) (a b:Int) (Q:AV->Heap->Prop):Prop:=Wp M1 (.run fi47 (atC (cd Try.f47) []) [(0,bigA fa a),(1,bigA fb b)] []) Q
theorem call42 {args:List AV} {d:AV} (h:wc M1 fi42 Try.f42 args d):Ev M1 (.pure 42 args) d []:=pcl _ _ (by kernel_rfl) h
theorem call45 {args:List AV} {d:AV} (h:wc M1 fi45 Try.f45 args d):Ev M1 (.pure 45 args) d []:=pcl _ _ (by kernel_rfl) h
theorem call46 {args:List AV} {d:AV} (h:wc M1 fi46 Try.f46 args d):Ev M1 (.pure 46 args) d []:=pcl _ _ (by kernel_rfl) h
theorem call47 {args:List AV} {d:AV} (h:wc M1 fi47 Try.f47 args d):Ev M1 (.pure 47 args) d []:=pcl _ _ (by kernel_rfl) h
theorem call78 {args:List AV} {d:AV} (h:wc M1 fi78 Try.f78 args d):Ev M1 (.pure 78 args) d []:=pcl _ _ (by kernel_rfl) h
theorem call83 {args:List AV} {d:AV} (h:wc M1 fi83 Try.f83 args d):Ev M1 (.pure 83 args) d []:=pcl _ _ (by kernel_rfl) h
theorem call117 {args:List AV} {d:AV} (h:wc M1 fi117 Try.f117 args d):Ev M1 (.pure 117 args) d []:=pcl _ _ (by kernel_rfl) h
theorem vWord (fa s:Bool) (a:List Int)  (dq:AV) (H :
  (((↑a.length:Int)=0)->tu [vw 0,vb true]=dq) /\
  (¬((↑a.length:Int)=0)->(((↑a.length:Int)=1)->(0<a.length) /\
    (0<=a.getD 0 default/\a.getD 0 default<=18446744073709551615) /\
    tu [vw (a.getD 0 default),vb true]=dq) /\
   (¬((↑a.length:Int)=1)->(((↑a.length:Int)=2)->(1<a.length) /\
     (0<a.length) /\
     (0<=a.getD 1 default/\a.getD 1 default<=18446744073709551615) /\
     (0<=a.getD 1 default*1000000000/\a.getD 1 default*1000000000<=18446744073709551615) /\
     (0<=a.getD 0 default/\a.getD 0 default<=18446744073709551615) /\
     (0<=a.getD 1 default*1000000000+a.getD 0 default/\a.getD 1 default*1000000000+a.getD 0 default<=18446744073709551615) /\
     tu [vw (a.getD 1 default*1000000000+a.getD 0 default),vb true]=dq) /\
    (¬((↑a.length:Int)=2)->tu [vw 0,vb false]=dq)))) :
 vWord_at fa s a (Zad dq):=by
 unfold vWord_at
 have w1:(us a).length=a.length:=List.length_map ..
 have i2:((↑(us a).length:Int)==0)=true ↔ ((↑a.length:Int)=0):=(by (try rw [w1]);all_goals exact i_eq)
 rcases xq H with ⟨d3,H⟩|⟨d3,H⟩
 ·exact Zae (G:=Zab kp117 [] []) 1000 [true] (tu [vw 0,vb true]) (by kernel_rfl) (bc rfl (bc (Zak (i2.2 d3)) b0)) q0 c0 H
 ·have i4:((↑(us a).length:Int)==1)=true ↔ ((↑a.length:Int)=1):=(by (try rw [w1]);all_goals exact i_eq)
  rcases xq H with ⟨d5,H⟩|⟨d5,H⟩
  ·have i6:(decide (0<(us a).length))=true ↔ (0<a.length):=(by (try rw [w1]);all_goals exact Zaa)
   obtain ⟨k7,k8,H⟩:=H
   have w9:wu (a.getD 0 default)=a.getD 0 default:=wU64 k8
   exact Zae (G:=Zab kp117 [(5,3,.elem (vu (a.getD 0 default)))] []) 1000 [false,true] (eqs:=[((us a).get?Internal 0=some (vu (a.getD 0 default)))]) (tu [vw (wu (a.getD 0 default)),vb true]) (by kernel_rfl) (bc rfl (bc (Zah (fun h=>d3 (i2.1 h))) (bc (Zak (i4.2 d5)) (bc rfl (bc rfl (bc (i6.2 k7) b0)))))) (qc (Zap k7) q0) c0 (by (try rw [w9]);all_goals exact H)
  ·have i10:((↑(us a).length:Int)==2)=true ↔ ((↑a.length:Int)=2):=(by (try rw [w1]);all_goals exact i_eq)
   rcases xq H with ⟨d11,H⟩|⟨d11,H⟩
   ·have i12:(decide (1<(us a).length))=true ↔ (1<a.length):=(by (try rw [w1]);all_goals exact Zaa)
    obtain ⟨k13,H⟩:=H
    have i14:(decide (0<(us a).length))=true ↔ (0<a.length):=(by (try rw [w1]);all_goals exact Zaa)
    obtain ⟨k15,k16,H⟩:=H
    have w17:wu (a.getD 1 default)=a.getD 1 default:=wU64 k16
    obtain ⟨k18,H⟩:=H
    have w19:wu (a.getD 1 default*1000000000)=a.getD 1 default*1000000000:=wU64 k18
    obtain ⟨k20,H⟩:=H
    have w21:wu (a.getD 0 default)=a.getD 0 default:=wU64 k20
    obtain ⟨k22,H⟩:=H
    have w23:wu (a.getD 1 default*1000000000+a.getD 0 default)=a.getD 1 default*1000000000+a.getD 0 default:=wU64 k22
    exact Zae (G:=Zab kp117 [(7,3,.elem (vu (a.getD 1 default))),(7,9,.elem (vu (a.getD 0 default)))] []) 1000 [false,false,true] (eqs:=[((us a).get?Internal 1=some (vu (a.getD 1 default))),((us a).get?Internal 0=some (vu (a.getD 0 default)))]) (tu [vw (wu (wu (wu (a.getD 1 default)*1000000000)+wu (a.getD 0 default))),vb true]) (by kernel_rfl) (bc rfl (bc (Zah (fun h=>d3 (i2.1 h))) (bc (Zah (fun h=>d5 (i4.1 h))) (bc (Zak (i10.2 d11)) (bc rfl (bc rfl (bc (i12.2 k13) (bc rfl (bc rfl (bc (i14.2 k15) b0)))))))))) (qc (Zap k13) (qc (Zap k15) q0)) c0 (by (try rw [w17]);(try rw [w19]);(try rw [w21]);(try rw [w23]);all_goals exact H)
   ·exact Zae (G:=Zab kp117 [] []) 1000 [false,false,false] (tu [vw 0,vb false]) (by kernel_rfl) (bc rfl (bc (Zah (fun h=>d3 (i2.1 h))) (bc (Zah (fun h=>d5 (i4.1 h))) (bc (Zah (fun h=>d11 (i10.1 h))) b0)))) q0 c0 H
theorem vFromInt64 (n:Int)  (dq:AV) (H :
  ((n<0)->(0<=IntKind.u64.wrap (0-IntKind.u64.wrap n)/\IntKind.u64.wrap (0-IntKind.u64.wrap n)<=18446744073709551615) /\
   (Sp.Zay 3/\Sp.fits 3 (IntKind.u64.wrap (0-IntKind.u64.wrap n)).toNat) /\
   Weak (bigA false (Sp.sg (decide (n<0)) (IntKind.u64.wrap (0-IntKind.u64.wrap n)).toNat)) dq) /\
  (¬(n<0)->(0<=IntKind.u64.wrap n/\IntKind.u64.wrap n<=18446744073709551615) /\
   (Sp.Zay 3/\Sp.fits 3 (IntKind.u64.wrap n).toNat) /\
   Weak (bigA false (Sp.sg (decide (n<0)) (IntKind.u64.wrap n).toNat)) dq)) :
 Zer n (Zad dq):=by
 unfold Zer
 rcases xq H with ⟨d2,H⟩|⟨d2,H⟩
 ·obtain ⟨k3,k4,H⟩:=H
  exact Zai (G:=Zab kp46 [(4,3,.call (vf (us (Sp.Zaq 3 (wu (0-wu n)).toNat))) none),(4,4,.call (bigA false (Sp.sg (decide (n<0)) (wu (0-wu n)).toNat)) none)] []) 1000 [true] (bigA false (Sp.sg (decide (n<0)) (wu (0-wu n)).toNat)) (by kernel_rfl) (bc (Zak (Zaa.2 d2)) (bc rfl b0)) q0 (ce (@ev84 (wu (0-wu n)) k3) (ce (@ev81 (decide (n<0)) false 3 ((wu (0-wu n)).toNat) k4) c0)) H
 ·obtain ⟨k5,k6,H⟩:=H
  exact Zai (G:=Zab kp46 [(4,3,.call (vf (us (Sp.Zaq 3 (wu n).toNat))) none),(4,4,.call (bigA false (Sp.sg (decide (n<0)) (wu n).toNat)) none)] []) 1000 [false] (bigA false (Sp.sg (decide (n<0)) (wu n).toNat)) (by kernel_rfl) (bc (Zah (fun h=>d2 (Zaa.1 h))) (bc rfl b0)) q0 (ce (@ev84 (wu n) k5) (ce (@ev81 (decide (n<0)) false 3 ((wu n).toNat) k6) c0)) H
theorem vSub (fa fb:Bool) (a b:Int)  (dq:AV) (H :
  ∃ (b1:Bool) (l1:List Int),
  (Ev M1 (Conf.pure 83 [bigA fa a,ag [vb (bif !Sp.Zaf b then decide ((↑(Sp.Zau b).length:Int)>0) else false),AV.vec fb 1 (us (Sp.Zau b))]]) (ag [vb b1,vf (us l1)]) []) /\
  Weak (ag [vb b1,vf (us l1)]) dq) :
 vSub_at fa fb a b (Zad dq):=by
 unfold vSub_at
 have w1:(us (Sp.Zau b)).length=(Sp.Zau b).length:=List.length_map ..
 obtain ⟨b1,l1,k2,H⟩:=H
 exact Zai (G:=Zab kp45 [(2,2,.call (ag [vb b1,vf (us l1)]) none)] []) 1000 [] (asm:=[true,!((!Sp.Zaf b)==true&&true)||true,true,true,true,true]) (calls:=[pc 83 [bigA fa a,ag [vb (bif !Sp.Zaf b then decide ((↑(us (Sp.Zau b)).length:Int)>0) else false),AV.vec fb 1 (us (Sp.Zau b))]] (ag [vb b1,vf (us l1)])]) (ag [vb b1,vf (us l1)]) (by kernel_rfl) (bc rfl (bc (Bool.or_true _) (bc rfl (bc rfl (bc rfl (bc rfl b0)))))) q0 (ce (by (try rw [w1]);all_goals exact k2) c0) H
theorem vAdd (fa fb:Bool) (a b:Int)  (dq:AV) (H :
  ((Sp.Zaf a=Sp.Zaf b)->(Sp.ok a/\Sp.ok b) /\
   (Sp.Zay (max (Sp.cnt a.natAbs) (Sp.cnt b.natAbs)+1)/\Sp.fits (max (Sp.cnt a.natAbs) (Sp.cnt b.natAbs)+1) (a.natAbs+b.natAbs)) /\
   Weak (bigA false (Sp.sg (Sp.Zaf a) (a.natAbs+b.natAbs))) dq) /\
  (¬(Sp.Zaf a=Sp.Zaf b)->(Sp.ok a/\Sp.ok b) /\
   ((Sp.sgnI ((↑a.natAbs:Int)-(↑b.natAbs:Int))<0)->(Sp.ok b/\Sp.ok a/\a.natAbs<=b.natAbs) /\
    (Sp.Zay (Sp.cnt b.natAbs)/\Sp.fits (Sp.cnt b.natAbs) (b.natAbs-a.natAbs)) /\
    Weak (bigA false (Sp.sg (Sp.Zaf b) (b.natAbs-a.natAbs))) dq) /\
   (¬(Sp.sgnI ((↑a.natAbs:Int)-(↑b.natAbs:Int))<0)->(Sp.ok a/\Sp.ok b/\b.natAbs<=a.natAbs) /\
    (Sp.Zay (Sp.cnt a.natAbs)/\Sp.fits (Sp.cnt a.natAbs) (a.natAbs-b.natAbs)) /\
    Weak (bigA false (Sp.sg (Sp.Zaf a) (a.natAbs-b.natAbs))) dq))) :
 vAdd_at fa fb a b (Zad dq):=by
 unfold vAdd_at
 rcases xq H with ⟨d2,H⟩|⟨d2,H⟩
 ·obtain ⟨k3,k4,H⟩:=H
  exact Zai (G:=Zab kp83 [(2,6,.call (vf (us (Sp.Zaq (max (Sp.cnt a.natAbs) (Sp.cnt b.natAbs)+1) (a.natAbs+b.natAbs)))) none),(2,7,.call (bigA false (Sp.sg (Sp.Zaf a) (a.natAbs+b.natAbs))) none)] []) 1000 [true] (bigA false (Sp.sg (Sp.Zaf a) (a.natAbs+b.natAbs))) (by kernel_rfl) (bc rfl (bc rfl (bc (Zak (i_eq.2 d2)) (bc rfl (bc rfl (bc rfl (bc rfl b0))))))) q0 (ce (@ev108 fa fb a b k3) (ce (@ev81 (Sp.Zaf a) false (max (Sp.cnt a.natAbs) (Sp.cnt b.natAbs)+1) (a.natAbs+b.natAbs) k4) c0)) H
 ·obtain ⟨k5,H⟩:=H
  refine Zac (G:=Zab kp83 [(3,4,.call (vi (Sp.sgnI ((↑a.natAbs:Int)-(↑b.natAbs:Int)))) none)] []) 10 [false] ⟨(atC (cd Try.f83) [1,1,0,1]),[(2,AV.ptr 0 0 0 0),(3,AV.ptr 1 0 0 0),(4,AV.ptr 2 0 0 0),(23,vb (decide (Sp.sgnI ((↑a.natAbs:Int)-(↑b.natAbs:Int))<0)))],[⟨[bigA fa a],2,0,false,false⟩,⟨[bigA fb b],2,0,false,false⟩,⟨[ag [vb false,AV.vnil]],2,0,false,false⟩],_,[],_⟩ (by kernel_rfl) (bc rfl (bc rfl (bc (Zah (fun h=>d2 (i_eq.1 h))) (bc rfl (bc rfl b0))))) q0 (ce (@ev85 fa fb a b k5) c0) ?_
  rcases xq H with ⟨d7,H⟩|⟨d7,H⟩
  ·obtain ⟨k8,k9,H⟩:=H
   exact Zai (G:=Zab kp83 [(5,6,.call (vf (us (Sp.Zaq (Sp.cnt b.natAbs) (b.natAbs-a.natAbs)))) none),(5,7,.call (bigA false (Sp.sg (Sp.Zaf b) (b.natAbs-a.natAbs))) none)] []) 1000 [true] (bigA false (Sp.sg (Sp.Zaf b) (b.natAbs-a.natAbs))) (by kernel_rfl) (bc (Zak (Zaa.2 d7)) (bc rfl (bc rfl (bc rfl (bc rfl (bc rfl (bc rfl (bc rfl (bc rfl b0))))))))) q0 (ce (@ev109 fb fa b a k8) (ce (@ev81 (Sp.Zaf b) false (Sp.cnt b.natAbs) (b.natAbs-a.natAbs) k9) c0)) H
  ·obtain ⟨k10,k11,H⟩:=H
   exact Zai (G:=Zab kp83 [(5,6,.call (vf (us (Sp.Zaq (Sp.cnt a.natAbs) (a.natAbs-b.natAbs)))) none),(5,7,.call (bigA false (Sp.sg (Sp.Zaf a) (a.natAbs-b.natAbs))) none)] []) 1000 [false] (bigA false (Sp.sg (Sp.Zaf a) (a.natAbs-b.natAbs))) (by kernel_rfl) (bc (Zah (fun h=>d7 (Zaa.1 h))) (bc rfl (bc rfl (bc rfl (bc rfl b0))))) q0 (ce (@ev109 fa fb a b k10) (ce (@ev81 (Sp.Zaf a) false (Sp.cnt a.natAbs) (a.natAbs-b.natAbs) k11) c0)) H
theorem vMul (fa fb:Bool) (a b:Int)  (dq:AV) (H :
  (Sp.ok a/\Sp.ok b) /\
  (Sp.Zay (Sp.cnt a.natAbs+Sp.cnt b.natAbs)/\Sp.fits (Sp.cnt a.natAbs+Sp.cnt b.natAbs) (a.natAbs*b.natAbs)) /\
  Weak (bigA false (Sp.sg (!Sp.Zaf a==Sp.Zaf b) (a.natAbs*b.natAbs))) dq) :
 vMul_at fa fb a b (Zad dq):=by
 unfold vMul_at
 obtain ⟨k1,k2,H⟩:=H
 exact Zai (G:=Zab kp78 [(1,9,.call (vf (us (Sp.Zaq (Sp.cnt a.natAbs+Sp.cnt b.natAbs) (a.natAbs*b.natAbs)))) none),(1,10,.call (bigA false (Sp.sg (!Sp.Zaf a==Sp.Zaf b) (a.natAbs*b.natAbs))) none)] []) 1000 [] (bigA false (Sp.sg (!Sp.Zaf a==Sp.Zaf b) (a.natAbs*b.natAbs))) (by kernel_rfl) (bc rfl (bc rfl (bc rfl (bc rfl (bc rfl b0))))) q0 (ce (@ev105 fa fb a b k1) (ce (@ev81 (!Sp.Zaf a==Sp.Zaf b) false (Sp.cnt a.natAbs+Sp.cnt b.natAbs) (a.natAbs*b.natAbs) k2) c0)) H
theorem vNeg0 (fa:Bool)  (dq:AV) (H :
  ∃ (b2:Bool) (l2:List Int),
  (Ev M1 (Conf.pure 81 [vb true,AV.vnil]) (ag [vb b2,vf (us l2)]) []) /\
  Weak (ag [vb b2,vf (us l2)]) dq) :
 vNeg0_at fa (Zad dq):=by
 unfold vNeg0_at
 obtain ⟨b2,l2,k2,H⟩:=H
 exact Zai (G:=Zab kp42 [(1,6,.call (ag [vb b2,vf (us l2)]) none)] [(1,[3007,902006,4005,2004,2001])]) 1000 [] (ag [vb b2,vf (us l2)]) (by kernel_rfl) (bc rfl (bc rfl (bc rfl b0))) q0 (ce k2 c0) H
theorem vNeg (s fa:Bool) (x:Int) (a:List Int)  (dq:AV) (H :
  ∃ (b2:Bool) (l2:List Int),
  (Ev M1 (Conf.pure 81 [vb !s,vf (vu x::us a)]) (ag [vb b2,vf (us l2)]) []) /\
  ((a.length+1)*4<=1099511627776) /\
  Weak (ag [vb b2,vf (us l2)]) dq) :
 vNeg_at s fa x a (Zad dq):=by
 unfold vNeg_at
 obtain ⟨b2,l2,k2,H⟩:=H
 have w3:(us a).length=a.length:=List.length_map ..
 have i4:(decide (((us a).length+1)*4<=1099511627776))=true ↔ ((a.length+1)*4<=1099511627776):=(by (try rw [w3]);all_goals exact Zaa)
 obtain ⟨k5,H⟩:=H
 exact Zai (G:=Zab kp42 [(1,6,.call (ag [vb b2,vf (us l2)]) none)] [(1,[3007,6,4005,2004,2001])]) 1000 [] (ag [vb b2,vf (us l2)]) (by kernel_rfl) (bc rfl (bc rfl (bc (i4.2 k5) (bc rfl (bc rfl b0))))) q0 (ce k2 c0) H
theorem vCmp (fa fb:Bool) (a b:Int)  (dq:AV) (H :
  ((¬(Sp.Zaf a=Sp.Zaf b))->((Sp.Zaf a=true)->vi (-1)=dq) /\
   (¬(Sp.Zaf a=true)->vi 1=dq)) /\
  (¬(¬(Sp.Zaf a=Sp.Zaf b))->((Sp.Zaf a=true)->(Sp.ok b/\Sp.ok a) /\
    vi (Sp.sgnI ((↑b.natAbs:Int)-(↑a.natAbs:Int)))=dq) /\
   (¬(Sp.Zaf a=true)->(Sp.ok a/\Sp.ok b) /\
    vi (Sp.sgnI ((↑a.natAbs:Int)-(↑b.natAbs:Int)))=dq))) :
 vCmp_at fa fb a b (Zad dq):=by
 unfold vCmp_at
 rcases xq H with ⟨d2,H⟩|⟨d2,H⟩
 ·rcases xq H with ⟨d4,H⟩|⟨d4,H⟩
  ·exact Zae (G:=Zab kp47 [] []) 1000 [true,true] (asm:=[true,true,(!Sp.Zaf a==Sp.Zaf b)==true,0==0,(Sp.Zaf a)==true]) (vi (-1)) (by kernel_rfl) (bc rfl (bc rfl (bc (Zak ((Zas i_eq).2 d2)) (bc (beq_self_eq_true _) (bc (Zak ((ZbE _).2 d4)) b0))))) q0 c0 H
  ·exact Zae (G:=Zab kp47 [] []) 1000 [true,false] (asm:=[true,true,(!Sp.Zaf a==Sp.Zaf b)==true,0==0,(Sp.Zaf a)==false]) (vi 1) (by kernel_rfl) (bc rfl (bc rfl (bc (Zak ((Zas i_eq).2 d2)) (bc (beq_self_eq_true _) (bc (Zah (fun h=>d4 ((ZbE _).1 h))) b0))))) q0 c0 H
 ·rcases xq H with ⟨d6,H⟩|⟨d6,H⟩
  ·obtain ⟨k7,H⟩:=H
   exact Zae (G:=Zab kp47 [(6,4,.call (vi (Sp.sgnI ((↑b.natAbs:Int)-(↑a.natAbs:Int)))) none)] []) 1000 [false,true] (asm:=[true,true,(!Sp.Zaf a==Sp.Zaf b)==false,0==0,(Sp.Zaf a)==true,true,true]) (vi (Sp.sgnI ((↑b.natAbs:Int)-(↑a.natAbs:Int)))) (by kernel_rfl) (bc rfl (bc rfl (bc (Zah (fun h=>d2 ((Zas i_eq).1 h))) (bc (beq_self_eq_true _) (bc (Zak ((ZbE _).2 d6)) (bc rfl (bc rfl b0))))))) q0 (ce (@ev85 fb fa b a k7) c0) H
  ·obtain ⟨k8,H⟩:=H
   exact Zae (G:=Zab kp47 [(7,4,.call (vi (Sp.sgnI ((↑a.natAbs:Int)-(↑b.natAbs:Int)))) none)] []) 1000 [false,false] (asm:=[true,true,(!Sp.Zaf a==Sp.Zaf b)==false,0==0,(Sp.Zaf a)==false,true,true]) (vi (Sp.sgnI ((↑a.natAbs:Int)-(↑b.natAbs:Int)))) (by kernel_rfl) (bc rfl (bc rfl (bc (Zah (fun h=>d2 ((Zas i_eq).1 h))) (bc (beq_self_eq_true _) (bc (Zah (fun h=>d6 ((ZbE _).1 h))) (bc rfl (bc rfl b0))))))) q0 (ce (@ev85 fa fb a b k8) c0) H
end Go.Av

namespace Go.Av
open Go.Proofs
namespace Sp
def okB (v:Int):Prop:=cnt v.natAbs<=400000
end Sp
theorem ZcM {v:Int} (h:Sp.okB v):Sp.ok v:=by unfold Sp.okB at h;unfold Sp.ok;omega
theorem weak_bnil (b:Bool):Weak (.agg [.bool b,.vnil]) (.agg [.bool b,.vec false 1 []]):=by
 refine .agg _ _ rfl fun i x y hx hy => ?_
 match i with
 | 0=>simp at hx hy;subst hx;subst hy;exact .refl _
 | 1=>simp at hx hy;subst hx;subst hy;exact .vnil 1
 | i+2=>simp at hx
theorem limI_neg (v:Int):Sp.Zau (-v)=Sp.Zau v:=by unfold Sp.Zau;rw [Int.natAbs_neg]
theorem sg_add {a b:Int} (h:Sp.Zaf a=Sp.Zaf b):Sp.sg (Sp.Zaf a) (a.natAbs+b.natAbs)=a+b:=by
 unfold Sp.sg
 by_cases k:a<0
 ·have kb:b<0:=Zan.1 (by rw [<- h];exact Zan.2 k)
  rw [if_pos (Zan.2 k)];omega
 ·have kb:¬b<0:=fun x=>k (Zan.1 (by rw [h];exact Zan.2 x))
  rw [if_neg (fun x=>k (Zan.1 x))];omega
theorem sg_sub {a b:Int} (h:¬Sp.Zaf a=Sp.Zaf b) (hl:b.natAbs<=a.natAbs):Sp.sg (Sp.Zaf a) (a.natAbs-b.natAbs)=a+b:=by
 unfold Sp.sg
 by_cases k:a<0
 ·have kb:¬b<0:=fun x=>h (by rw [Zan.2 k,Zan.2 x])
  rw [if_pos (Zan.2 k)];omega
 ·have kb:b<0:=by
   by_cases kb:b<0
   ·exact kb
   ·exact absurd (by rw [Bool.eq_false_iff.2 (fun x=>k (Zan.1 x)),Bool.eq_false_iff.2 (fun x=>kb (Zan.1 x))]) h
  rw [if_neg (fun x=>k (Zan.1 x))];omega
theorem sg_mul (a b:Int):Sp.sg (!(Sp.Zaf a==Sp.Zaf b)) (a.natAbs*b.natAbs)=a*b:=by
 unfold Sp.sg
 have hm:((a.natAbs*b.natAbs:Nat):Int)=(a.natAbs:Int)*(b.natAbs:Int):=Int.natCast_mul _ _
 rw [hm]
 by_cases ka:a<0
 ·have ea:(a.natAbs:Int) = -a:=by omega
  rw [Zan.2 ka,ea]
  by_cases kb:b<0
  ·have eb:(b.natAbs:Int) = -b:=by omega
   rw [Zan.2 kb,eb,if_neg (by simp),Int.neg_mul_neg]
  ·have eb:(b.natAbs:Int)=b:=by omega
   rw [Bool.eq_false_iff.2 (fun x=>kb (Zan.1 x)),eb,if_pos (by simp),Int.neg_mul,Int.neg_neg]
 ·have ea:(a.natAbs:Int)=a:=by omega
  rw [Bool.eq_false_iff.2 (fun x=>ka (Zan.1 x)),ea]
  by_cases kb:b<0
  ·have eb:(b.natAbs:Int) = -b:=by omega
   rw [Zan.2 kb,eb,if_pos (by simp),Int.mul_neg,Int.neg_neg]
  ·have eb:(b.natAbs:Int)=b:=by omega
   rw [Bool.eq_false_iff.2 (fun x=>kb (Zan.1 x)),eb,if_neg (by simp)]
theorem ZbD {n:Int}:Sp.sgnI n<0 ↔ n<0:=by
 unfold Sp.sgnI
 (repeat' split) <;> omega
theorem ev83 (fa fb:Bool) (a b:Int) (h:Sp.okB a/\Sp.okB b):Ev M1 (.pure 83 [bigA fa a,bigA fb b]) (bigA false (a+b)) []:=by
 obtain ⟨ha,hb⟩:=h
 have oa:=ZcM ha
 have ob:=ZcM hb
 unfold Sp.okB at ha hb
 refine call83 (vAdd _ _ _ _ _ ⟨fun h=>⟨⟨oa,ob⟩,⟨?_,?_⟩,?_⟩,fun h=>⟨⟨oa,ob⟩,fun k=>⟨⟨ob,oa,?_⟩,⟨ob,ZcG (Zag _) (by omega)⟩,?_⟩,fun k=>⟨⟨oa,ob,?_⟩,⟨oa,ZcG (Zag _) (by omega)⟩,?_⟩⟩⟩)
 ·unfold Sp.Zay;omega
 ·exact ZeL (ZaW (Zag _) (by omega)) (ZaW (Zag _) (by omega))
 ·rw [sg_add h];exact .refl _
 ·rw [ZbD] at k;omega
 ·rw [ZbD] at k
  rw [sg_sub (fun x=>h x.symm) (by omega),Int.add_comm];exact .refl _
 ·rw [ZbD] at k;omega
 ·rw [ZbD] at k
  rw [sg_sub h (by omega)];exact .refl _
theorem ev78 (fa fb:Bool) (a b:Int) (h:Sp.okB a/\Sp.okB b):Ev M1 (.pure 78 [bigA fa a,bigA fb b]) (bigA false (a*b)) []:=by
 obtain ⟨ha,hb⟩:=h
 have oa:=ZcM ha
 have ob:=ZcM hb
 unfold Sp.okB at ha hb
 refine call78 (vMul _ _ _ _ _ ⟨⟨oa,ob⟩,⟨?_,Zc5 (Zag _) (Zag _)⟩,?_⟩)
 ·unfold Sp.Zay;omega
 ·rw [sg_mul];exact .refl _
theorem ev47 (fa fb:Bool) (a b:Int) (h:Sp.okB a/\Sp.okB b):Ev M1 (.pure 47 [bigA fa a,bigA fb b]) (.int .i64 (Sp.sgnI (a-b))) []:=by
 have oa:=ZcM h.1
 have ob:=ZcM h.2
 refine call47 (vCmp _ _ _ _ _ ⟨fun k=>⟨fun ka => ?_,fun ka => ?_⟩,fun k=>⟨fun ka=>⟨⟨ob,oa⟩,?_⟩,fun ka=>⟨⟨oa,ob⟩,?_⟩⟩⟩)
 ·have kb:¬b<0:=fun x=>k (by rw [ka,Zan.2 x])
  rw [Zan] at ka
  congr 1;unfold Sp.sgnI;rw [if_pos (by omega)]
 ·have kb:b<0:=by
   by_cases kb:b<0
   ·exact kb
   ·exact absurd (by rw [Bool.eq_false_iff.2 ka,Bool.eq_false_iff.2 (fun x=>kb (Zan.1 x))]) k
  have ka:¬a<0:=fun x=>ka (Zan.2 x)
  congr 1;unfold Sp.sgnI;rw [if_neg (by omega),if_pos (by omega)]
 ·have k:=Classical.not_not.1 k
  have kb:=Zan.1 (k ▸ ka)
  rw [Zan] at ka
  congr 2;omega
 ·have k:=Classical.not_not.1 k
  have kb:¬b<0:=fun x=>ka (by rw [k];exact Zan.2 x)
  have ka:¬a<0:=fun x=>ka (Zan.2 x)
  congr 2;omega
theorem ev42 (fa:Bool) (v:Int) (h:Sp.okB v):Ev M1 (.pure 42 [bigA fa v]) (bigA false (-v)) []:=by
 have ov:=ZcM h
 by_cases h0:v=0
 ·subst h0
  have e1:Sp.Zaf 0=false:=rfl
  have e2:Sp.Zau 0=[]:=Zco
  have e3:bigA fa 0 = .agg [.bool false,.vec fa 1 []]:=by
   show AV.agg [.bool (Sp.Zaf 0),.vec fa 1 ((Sp.Zau 0).map (.int .u32))]=_
   rw [e1,e2];rfl
  have e4:bigA false (-0) = .agg [.bool false,.vec false 1 []]:=by
   show AV.agg [.bool (Sp.Zaf (-0)),.vec false 1 ((Sp.Zau (-0)).map (.int .u32))]=_
   rw [Int.neg_zero,e1,e2];rfl
  rw [e3,e4]
  refine call42 (vNeg0 fa _ ⟨false,[],?_,.refl _⟩)
  exact call81 (vSigned0 true _ (vSigned0A true _ (weak_bnil false)))
 ·have hne:Sp.Zau v ≠ []:=by
   intro e
   have:=Zbp v
   rw [e] at this
   exact h0 (Int.natAbs_eq_zero.1 (ZaC.1 this.symm))
  obtain ⟨x,l,hl⟩:=List.exists_cons_of_ne_nil hne
  have es:=ev81_a (!Sp.Zaf v) false v ov
  have e5:Sp.sg (!Sp.Zaf v) v.natAbs = -v:=by
   unfold Sp.sg
   by_cases k:v<0
   ·rw [Zan.2 k,if_neg (by simp)];omega
   ·rw [Bool.eq_false_iff.2 (fun x=>k (Zan.1 x)),if_pos (by simp)];omega
  rw [e5] at es
  have hle:=Zbp v
  rw [hl] at hle
  simp only [List.length_cons] at hle
  unfold Sp.ok at ov
  have e6:bigA fa v = .agg [.bool (Sp.Zaf v),.vec fa 1 ((x::l).map (.int .u32))]:=by
   show AV.agg [.bool (Sp.Zaf v),.vec fa 1 ((Sp.Zau v).map (.int .u32))]=_
   rw [hl]
  rw [hl] at es
  rw [e6]
  exact call42 (vNeg _ _ _ _ _ ⟨_,_,es,by omega,.refl _⟩)
theorem ev45 (fa fb:Bool) (a b:Int) (h:Sp.okB a/\Sp.okB b):Ev M1 (.pure 45 [bigA fa a,bigA fb b]) (bigA false (a-b)) []:=by
 have hb:Sp.okB (-b):=by have:=h.2;unfold Sp.okB at *;rwa [Int.natAbs_neg]
 have ea:=ev83 fa fb a (-b) ⟨h.1,hb⟩
 have e1:Sp.Zaf (-b)=(bif !Sp.Zaf b then decide (((Sp.Zau b).length:Int)>0) else false):=by
  have hl:=Zbp b
  unfold Sp.Zaf
  by_cases k:b<0
  ·simp [k];omega
  ·have:decide (b<0)=false:=by simp [k]
   rw [this,Bool.not_false,cond_true,decide_eq_decide,hl]
   have:=ZaC (v:=b.natAbs)
   omega
 have e2:bigA fb (-b) = .agg [.bool (bif !Sp.Zaf b then decide (((Sp.Zau b).length:Int)>0) else false),.vec fb 1 ((Sp.Zau b).map (.int .u32))]:=by
  show AV.agg [.bool (Sp.Zaf (-b)),.vec fb 1 ((Sp.Zau (-b)).map (.int .u32))]=_
  rw [e1,limI_neg]
 rw [e2] at ea
 exact call45 (vSub _ _ _ _ _ ⟨_,_,ea,.refl _⟩)
theorem wrap_neg {n:Int} (h:-9223372036854775808<=n/\n<0):IntKind.u64.wrap n=n+18446744073709551616:=by
 have e1:(2:Int) ^ IntKind.u64.bits=18446744073709551616:=rfl
 have e3:IntKind.u64.signed=false:=rfl
 simp only [IntKind.wrap,e1,e3,Bool.false_and,Bool.false_eq_true,if_false]
 omega
theorem fits3 {u:Nat} (h:u<=18446744073709551615):Sp.fits 3 u:=by
 unfold Sp.fits
 have:(1000000000:Nat) ^ 3=1000000000000000000000000000:=by decide
 omega
def Sp.inI (n:Int):Prop:=-9223372036854775808<=n/\n<=9223372036854775807
theorem ev46 (n:Int) (h:Sp.inI n):Ev M1 (.pure 46 [.int .i64 n]) (bigA false n) []:=by
 unfold Sp.inI at h
 refine call46 (vFromInt64 n _ ⟨fun k => ?_,fun k => ?_⟩)
 ·have e1:IntKind.u64.wrap (0-IntKind.u64.wrap n) = -n:=by
   rw [wrap_neg ⟨h.1,k⟩]
   have e1:(2:Int) ^ IntKind.u64.bits=18446744073709551616:=rfl
   have e3:IntKind.u64.signed=false:=rfl
   simp only [IntKind.wrap,e1,e3,Bool.false_and,Bool.false_eq_true,if_false]
   omega
  have e2:Sp.sg (decide (n<0)) (-n).toNat=n:=by unfold Sp.sg;rw [if_pos (by simpa using k)];omega
  rw [e1,e2]
  exact ⟨by omega,⟨by unfold Sp.Zay;omega,fits3 (by omega)⟩,.refl _⟩
 ·have e1:IntKind.u64.wrap n=n:=wU64 ⟨by omega,by omega⟩
  have e2:Sp.sg (decide (n<0)) n.toNat=n:=by unfold Sp.sg;rw [if_neg (by simpa using k)];omega
  rw [e1,e2]
  exact ⟨by omega,⟨by unfold Sp.Zay;omega,fits3 (by omega)⟩,.refl _⟩
end Go.Av

namespace Go.Av
open Go.Proofs
set_option maxRecDepth 100000
def fi119:Fi:=⟨62,[.tmp 6]⟩
def kp119:List (Nat × List Nat):=[(0,[0,1,2]),(1,[0,1,2,7,8]),(2,[0,1,2,7,8,14,15]),(3,[0,1,2,7,8,14,15,16]),(4,[0,1,2,7,8,9,14,15]),(5,[0,1,2,8,9,10,14,15]),(6,[0,1,2,8,9,10,14,15,22]),(7,[0,1,2,8,9,10,14,15]),(8,[0,1,2,7,8,9,10,14,15]),(9,[0,1,2,7,9,11,14,15]),(10,[0,1,2,7,8,9,11,14,15]),(11,[0,1,2,7,8,9,11,12,14,15]),(12,[0,1,2,7,8,9,11,12,14,15,45]),(13,[0,1,2,7,8,9,11,12,14,15]),(14,[0,1,2,7,8,14,15]),(15,[0,1,2,7,8,14,15]),(16,[6])]
def fi120:Fi:=⟨37,[]⟩
def kp120:List (Nat × List Nat):=[(0,[0,1,4]),(1,[0,1,4,8,9]),(2,[0,1,4,8,9,10]),(3,[0,1,4,5,8,9]),(4,[0,1,5,6,8,9]),(5,[0,1,5,6,8,9,21]),(6,[0,1,5,6,8,9]),(7,[0,1,4,5,6,8,9]),(8,[0,1,4,5,6,8,9,29]),(9,[0,1,4,5,6,8,9]),(10,[0,1,4,8,9]),(11,[0,1,4,8,9])]
def Zfj (u b:List Int) (fb:Bool) (v lo len:Nat) (g:Int) (Q:AV->Heap->Prop):Prop:=Wp M1 (.run fi119 (atC (cd Try.f119) []) [(0,.ref 0 v lo len),(1,.vec fb 1 (b.map (.int .u32))),(2,.int .u64 g)] [⟨u.map (.int .u32),1,v,false,true⟩]) Q
def ZaX (u b:List Int) (fb:Bool) (v lo len:Nat) (g c w n i:Int) (Q:AV->Heap->Prop):Prop:=Wp M1 (.run fi119 (atC (cd Try.f119) [1,1,0,1,0,0]) [(0,.ref 0 v lo len),(1,.vec fb 1 (b.map (.int .u32))),(2,.int .u64 g),(7,.int .u64 c),(8,.int .u64 w),(14,.int .i64 n),(15,.int .i64 i)] [⟨u.map (.int .u32),1,v,false,true⟩]) Q
def ZfX (u b:List Int) (fb:Bool) (v lo len:Nat) (Q:AV->Heap->Prop):Prop:=Wp M1 (.run fi120 (atC (cd Try.f120) []) [(0,.ref 0 v lo len),(1,.vec fb 1 (b.map (.int .u32)))] [⟨u.map (.int .u32),1,v,false,true⟩]) Q
def Za5 (u b:List Int) (fb:Bool) (v lo len:Nat) (c n i:Int) (Q:AV->Heap->Prop):Prop:=Wp M1 (.run fi120 (atC (cd Try.f120) [1,1,0,0]) [(0,.ref 0 v lo len),(1,.vec fb 1 (b.map (.int .u32))),(4,.int .u32 c),(8,.int .i64 n),(9,.int .i64 i)] [⟨u.map (.int .u32),1,v,false,true⟩]) Q
theorem owncall119 {args:List AV} {L:Heap} {Q:AV->Heap->Prop} (h:Wp M1 (.run fi119 [.code (cd Try.f119)] (ZbG 0 args) L) Q):Wp M1 (.own 119 args L) Q:=
 own_wp Try.f119 fi119 (by kernel_rfl) (by kernel_rfl) (by kernel_rfl) (by kernel_rfl) h
theorem owncall120 {args:List AV} {L:Heap} {Q:AV->Heap->Prop} (h:Wp M1 (.run fi120 [.code (cd Try.f120)] (ZbG 0 args) L) Q):Wp M1 (.own 120 args L) Q:=
 own_wp Try.f120 fi120 (by kernel_rfl) (by kernel_rfl) (by kernel_rfl) (by kernel_rfl) h
theorem vSubtract (u b:List Int) (fb:Bool) (v lo len:Nat) (g:Int)  (Q:AV->Heap->Prop) (H :
  ZaX u b fb v lo len g 0 0 ((↑len:Int)) 0 Q) :
 Zfj u b fb v lo len g Q:=by
 unfold Zfj
 exact Zac (G:=Zab kp119 [] []) 1000 [] ⟨(atC (cd Try.f119) [1,1,0,1,0,0]),[(0,AV.ref 0 v lo len),(1,AV.vec fb 1 (us b)),(2,vw g),(7,vw 0),(8,vw 0),(14,vi (↑len:Int)),(15,vi 0)],[⟨us u,1,v,false,true⟩],[v==v],[],_⟩ (by kernel_rfl) (bc (beq_self_eq_true _) b0) q0 c0 H
noncomputable abbrev Zfu (u:List Int) (lo:Nat) (i:Int):=vu (u.getD (lo+i.toNat) default)
theorem Zg7 (u b:List Int) (fb:Bool) (v lo len:Nat) (g c w n i:Int)  (Q:AV->Heap->Prop) (H :
  ((i<n)->((i<(↑b.length:Int))->(0<=i) /\
    (i.toNat<b.length) /\
    (0<=b.getD i.toNat default/\b.getD i.toNat default<=18446744073709551615) /\
    (0<=b.getD i.toNat default*g/\b.getD i.toNat default*g<=18446744073709551615) /\
    (0<=c+b.getD i.toNat default*g/\c+b.getD i.toNat default*g<=18446744073709551615) /\
    (0<=(c+b.getD i.toNat default*g).tdiv 1000000000/\(c+b.getD i.toNat default*g).tdiv 1000000000<=18446744073709551615) /\
    (0<=(c+b.getD i.toNat default*g).tmod 1000000000+w/\(c+b.getD i.toNat default*g).tmod 1000000000+w<=18446744073709551615) /\
    (i.toNat<len) /\
    (lo+i.toNat<u.length) /\
    (0<=u.getD (lo+i.toNat) default/\u.getD (lo+i.toNat) default<=18446744073709551615) /\
    ((u.getD (lo+i.toNat) default<(c+b.getD i.toNat default*g).tmod 1000000000+w)->(0<=u.getD (lo+i.toNat) default+1000000000/\u.getD (lo+i.toNat) default+1000000000<=18446744073709551615) /\
     (0<=u.getD (lo+i.toNat) default+1000000000-((c+b.getD i.toNat default*g).tmod 1000000000+w)/\u.getD (lo+i.toNat) default+1000000000-((c+b.getD i.toNat default*g).tmod 1000000000+w)<=18446744073709551615) /\
     (0<=u.getD (lo+i.toNat) default+1000000000-((c+b.getD i.toNat default*g).tmod 1000000000+w)/\u.getD (lo+i.toNat) default+1000000000-((c+b.getD i.toNat default*g).tmod 1000000000+w)<=4294967295) /\
     (-9223372036854775808<=i+1/\i+1<=9223372036854775807) /\
     ZaX (u.set (lo+i.toNat) (u.getD (lo+i.toNat) default+1000000000-((c+b.getD i.toNat default*g).tmod 1000000000+w))) b fb v lo len g ((c+b.getD i.toNat default*g).tdiv 1000000000) 1 n (i+1) Q) /\
    (¬(u.getD (lo+i.toNat) default<(c+b.getD i.toNat default*g).tmod 1000000000+w)->(0<=u.getD (lo+i.toNat) default-((c+b.getD i.toNat default*g).tmod 1000000000+w)/\u.getD (lo+i.toNat) default-((c+b.getD i.toNat default*g).tmod 1000000000+w)<=18446744073709551615) /\
     (0<=u.getD (lo+i.toNat) default-((c+b.getD i.toNat default*g).tmod 1000000000+w)/\u.getD (lo+i.toNat) default-((c+b.getD i.toNat default*g).tmod 1000000000+w)<=4294967295) /\
     (-9223372036854775808<=i+1/\i+1<=9223372036854775807) /\
     ZaX (u.set (lo+i.toNat) (u.getD (lo+i.toNat) default-((c+b.getD i.toNat default*g).tmod 1000000000+w))) b fb v lo len g ((c+b.getD i.toNat default*g).tdiv 1000000000) 0 n (i+1) Q)) /\
   (¬(i<(↑b.length:Int))->(0<=c.tdiv 1000000000/\c.tdiv 1000000000<=18446744073709551615) /\
    (0<=c.tmod 1000000000+w/\c.tmod 1000000000+w<=18446744073709551615) /\
    (0<=i) /\
    (i.toNat<len) /\
    (lo+i.toNat<u.length) /\
    (0<=u.getD (lo+i.toNat) default/\u.getD (lo+i.toNat) default<=18446744073709551615) /\
    ((u.getD (lo+i.toNat) default<c.tmod 1000000000+w)->(0<=u.getD (lo+i.toNat) default+1000000000/\u.getD (lo+i.toNat) default+1000000000<=18446744073709551615) /\
     (0<=u.getD (lo+i.toNat) default+1000000000-(c.tmod 1000000000+w)/\u.getD (lo+i.toNat) default+1000000000-(c.tmod 1000000000+w)<=18446744073709551615) /\
     (0<=u.getD (lo+i.toNat) default+1000000000-(c.tmod 1000000000+w)/\u.getD (lo+i.toNat) default+1000000000-(c.tmod 1000000000+w)<=4294967295) /\
     (-9223372036854775808<=i+1/\i+1<=9223372036854775807) /\
     ZaX (u.set (lo+i.toNat) (u.getD (lo+i.toNat) default+1000000000-(c.tmod 1000000000+w))) b fb v lo len g (c.tdiv 1000000000) 1 n (i+1) Q) /\
    (¬(u.getD (lo+i.toNat) default<c.tmod 1000000000+w)->(0<=u.getD (lo+i.toNat) default-(c.tmod 1000000000+w)/\u.getD (lo+i.toNat) default-(c.tmod 1000000000+w)<=18446744073709551615) /\
     (0<=u.getD (lo+i.toNat) default-(c.tmod 1000000000+w)/\u.getD (lo+i.toNat) default-(c.tmod 1000000000+w)<=4294967295) /\
     (-9223372036854775808<=i+1/\i+1<=9223372036854775807) /\
     ZaX (u.set (lo+i.toNat) (u.getD (lo+i.toNat) default-(c.tmod 1000000000+w))) b fb v lo len g (c.tdiv 1000000000) 0 n (i+1) Q))) /\
  (¬(i<n)->Q (vb (bif decide (w>0) then true else decide (c>0))) [{ elems:=us u,es:=1,ver:=v,frozen:=false,clean:=true }])) :
 ZaX u b fb v lo len g c w n i Q:=by
 unfold ZaX
 rcases xq H with ⟨d2,H⟩|⟨d2,H⟩
 ·have w3:(us b).length=b.length:=List.length_map ..
  have i4:(decide (i<(↑(us b).length:Int)))=true ↔ (i<(↑b.length:Int)):=(by (try rw [w3]);all_goals exact Zaa)
  rcases xq H with ⟨d5,H⟩|⟨d5,H⟩
  ·obtain ⟨k7,H⟩:=H
   have i8:(decide (i.toNat<(us b).length))=true ↔ (i.toNat<b.length):=(by (try rw [w3]);all_goals exact Zaa)
   obtain ⟨k9,k10,H⟩:=H
   have w11:wu (b.getD i.toNat default)=b.getD i.toNat default:=wU64 k10
   obtain ⟨k12,H⟩:=H
   have w13:wu (b.getD i.toNat default*g)=b.getD i.toNat default*g:=wU64 k12
   obtain ⟨k14,H⟩:=H
   have w15:wu (c+b.getD i.toNat default*g)=c+b.getD i.toNat default*g:=wU64 k14
   obtain ⟨k16,H⟩:=H
   have w17:wu ((c+b.getD i.toNat default*g).tdiv 1000000000)=(c+b.getD i.toNat default*g).tdiv 1000000000:=wU64 k16
   obtain ⟨k18,H⟩:=H
   have w19:wu ((c+b.getD i.toNat default*g).tmod 1000000000+w)=(c+b.getD i.toNat default*g).tmod 1000000000+w:=wU64 k18
   obtain ⟨k22,k23,k24,H⟩:=H
   have w25:wu (u.getD (lo+i.toNat) default)=u.getD (lo+i.toNat) default:=wU64 k24
   have i26:(decide (wu (u.getD (lo+i.toNat) default)<wu ((wu (c+wu (wu (b.getD i.toNat default)*g))).tmod 1000000000+w)))=true ↔ (u.getD (lo+i.toNat) default<(c+b.getD i.toNat default*g).tmod 1000000000+w):=(by (try rw [w11]);(try rw [w13]);(try rw [w15]);(try rw [w19]);(try rw [w25]);all_goals exact Zaa)
   refine Zac (G:=Zab kp119 [(7,4,.elem (vu (b.getD i.toNat default))),(11,3,.elem (Zfu u lo i))] []) 27 [true,true] ⟨(atC (cd Try.f119) [1,1,0,1,0,0,1,1,0,0,1,1,1,1,1,1,1,0,1]),[(0,AV.ref 0 v lo len),(1,AV.vec fb 1 (us b)),(2,vw g),(7,vw (wu ((wu (c+wu (wu (b.getD i.toNat default)*g))).tdiv 1000000000))),(8,vw 0),(9,vi i),(11,vw (wu ((wu (c+wu (wu (b.getD i.toNat default)*g))).tmod 1000000000+w))),(12,vw (wu (u.getD (lo+i.toNat) default))),(14,vi n),(15,vi i),(45,vb (decide (wu (u.getD (lo+i.toNat) default)<wu ((wu (c+wu (wu (b.getD i.toNat default)*g))).tmod 1000000000+w))))],[⟨us u,1,v,false,true⟩],[(decide (i<n))==true,(decide (i<(↑(us b).length:Int)))==true,decide (0<=i),decide (i.toNat<(us b).length),true,true,v==v,decide (0<=i),decide (i.toNat<len),v==v],[((us b).get?Internal i.toNat=some (vu (b.getD i.toNat default))),((us u).get?Internal (lo+i.toNat)=some (Zfu u lo i))],_⟩ (by kernel_rfl) (bc (Zak (Zaa.2 d2)) (bc (Zak (i4.2 d5)) (bc (Zaa.2 k7) (bc (i8.2 k9) (bc rfl (bc rfl (bc (beq_self_eq_true _) (bc (Zaa.2 k7) (bc (Zaa.2 k22) (bc (beq_self_eq_true _) b0)))))))))) (qc (Zap k9) (qc (Zap k23) q0)) c0 ?_
   rcases xq H with ⟨d27,H⟩|⟨d27,H⟩
   ·obtain ⟨k28,H⟩:=H
    have w29:wu (u.getD (lo+i.toNat) default+1000000000)=u.getD (lo+i.toNat) default+1000000000:=wU64 k28
    obtain ⟨k32,H⟩:=H
    have w33:wu (u.getD (lo+i.toNat) default+1000000000-((c+b.getD i.toNat default*g).tmod 1000000000+w))=u.getD (lo+i.toNat) default+1000000000-((c+b.getD i.toNat default*g).tmod 1000000000+w):=wU64 k32
    obtain ⟨k34,H⟩:=H
    have w35:wv (u.getD (lo+i.toNat) default+1000000000-((c+b.getD i.toNat default*g).tmod 1000000000+w))=u.getD (lo+i.toNat) default+1000000000-((c+b.getD i.toNat default*g).tmod 1000000000+w):=wU32 k34
    have w36:(us u).set (lo+i.toNat) (vu (u.getD (lo+i.toNat) default+1000000000-((c+b.getD i.toNat default*g).tmod 1000000000+w)))=us (u.set (lo+i.toNat) (u.getD (lo+i.toNat) default+1000000000-((c+b.getD i.toNat default*g).tmod 1000000000+w))):=(Za3 rfl rfl)
    obtain ⟨k37,H⟩:=H
    have w38:wi (i+1)=i+1:=wI64 k37
    exact Zac (G:=Zab kp119 [(14,7,.elem (Zfu u lo i))] []) 1000 [true] ⟨(atC (cd Try.f119) [1,1,0,1,0,0]),[(0,AV.ref 0 v lo len),(1,AV.vec fb 1 (us b)),(2,vw g),(7,vw (wu ((wu (c+wu (wu (b.getD i.toNat default)*g))).tdiv 1000000000))),(8,vw 1),(14,vi n),(15,vi (wi (i+1)))],[⟨(us u).set (lo+i.toNat) (vu (wv (wu (wu (wu (u.getD (lo+i.toNat) default)+1000000000)-wu ((wu (c+wu (wu (b.getD i.toNat default)*g))).tmod 1000000000+w))))),1,v,false,true⟩],[(decide (wu (u.getD (lo+i.toNat) default)<wu ((wu (c+wu (wu (b.getD i.toNat default)*g))).tmod 1000000000+w)))==true,v==v,decide (0<=i),decide (i.toNat<len),v==v],[((us u).get?Internal (lo+i.toNat)=some (Zfu u lo i))],_⟩ (by kernel_rfl) (bc (Zak (i26.2 d27)) (bc (beq_self_eq_true _) (bc (Zaa.2 k7) (bc (Zaa.2 k22) (bc (beq_self_eq_true _) b0))))) (qc (Zap k23) q0) c0 (by (try rw [w11]);(try rw [w13]);(try rw [w15]);(try rw [w17]);(try rw [w19]);(try rw [w25]);(try rw [w29]);(try rw [w33]);(try rw [w35]);(try rw [w36]);(try rw [w38]);all_goals exact H)
   ·obtain ⟨k41,H⟩:=H
    have w42:wu (u.getD (lo+i.toNat) default-((c+b.getD i.toNat default*g).tmod 1000000000+w))=u.getD (lo+i.toNat) default-((c+b.getD i.toNat default*g).tmod 1000000000+w):=wU64 k41
    obtain ⟨k43,H⟩:=H
    have w44:wv (u.getD (lo+i.toNat) default-((c+b.getD i.toNat default*g).tmod 1000000000+w))=u.getD (lo+i.toNat) default-((c+b.getD i.toNat default*g).tmod 1000000000+w):=wU32 k43
    have w45:(us u).set (lo+i.toNat) (vu (u.getD (lo+i.toNat) default-((c+b.getD i.toNat default*g).tmod 1000000000+w)))=us (u.set (lo+i.toNat) (u.getD (lo+i.toNat) default-((c+b.getD i.toNat default*g).tmod 1000000000+w))):=(Za3 rfl rfl)
    obtain ⟨k46,H⟩:=H
    have w47:wi (i+1)=i+1:=wI64 k46
    exact Zac (G:=Zab kp119 [(14,7,.elem (Zfu u lo i))] []) 1000 [false] ⟨(atC (cd Try.f119) [1,1,0,1,0,0]),[(0,AV.ref 0 v lo len),(1,AV.vec fb 1 (us b)),(2,vw g),(7,vw (wu ((wu (c+wu (wu (b.getD i.toNat default)*g))).tdiv 1000000000))),(8,vw 0),(14,vi n),(15,vi (wi (i+1)))],[⟨(us u).set (lo+i.toNat) (vu (wv (wu (wu (u.getD (lo+i.toNat) default)-wu ((wu (c+wu (wu (b.getD i.toNat default)*g))).tmod 1000000000+w))))),1,v,false,true⟩],[(decide (wu (u.getD (lo+i.toNat) default)<wu ((wu (c+wu (wu (b.getD i.toNat default)*g))).tmod 1000000000+w)))==false,v==v,decide (0<=i),decide (i.toNat<len),v==v],[((us u).get?Internal (lo+i.toNat)=some (Zfu u lo i))],_⟩ (by kernel_rfl) (bc (Zah (fun h=>d27 (i26.1 h))) (bc (beq_self_eq_true _) (bc (Zaa.2 k7) (bc (Zaa.2 k22) (bc (beq_self_eq_true _) b0))))) (qc (Zap k23) q0) c0 (by (try rw [w11]);(try rw [w13]);(try rw [w15]);(try rw [w17]);(try rw [w19]);(try rw [w25]);(try rw [w42]);(try rw [w44]);(try rw [w45]);(try rw [w47]);all_goals exact H)
  ·obtain ⟨k48,H⟩:=H
   have w49:wu (c.tdiv 1000000000)=c.tdiv 1000000000:=wU64 k48
   obtain ⟨k50,H⟩:=H
   have w51:wu (c.tmod 1000000000+w)=c.tmod 1000000000+w:=wU64 k50
   obtain ⟨k53,k55,k56,k57,H⟩:=H
   have w58:wu (u.getD (lo+i.toNat) default)=u.getD (lo+i.toNat) default:=wU64 k57
   have i59:(decide (wu (u.getD (lo+i.toNat) default)<wu (c.tmod 1000000000+w)))=true ↔ (u.getD (lo+i.toNat) default<c.tmod 1000000000+w):=(by (try rw [w51]);(try rw [w58]);all_goals exact Zaa)
   refine Zac (G:=Zab kp119 [(11,3,.elem (Zfu u lo i))] []) 27 [true,false] ⟨(atC (cd Try.f119) [1,1,0,1,0,0,1,1,0,0,1,1,1,1,1,1,1,0,1]),[(0,AV.ref 0 v lo len),(1,AV.vec fb 1 (us b)),(2,vw g),(7,vw (wu (c.tdiv 1000000000))),(8,vw 0),(9,vi i),(11,vw (wu (c.tmod 1000000000+w))),(12,vw (wu (u.getD (lo+i.toNat) default))),(14,vi n),(15,vi i),(45,vb (decide (wu (u.getD (lo+i.toNat) default)<wu (c.tmod 1000000000+w))))],[⟨us u,1,v,false,true⟩],[(decide (i<n))==true,(decide (i<(↑(us b).length:Int)))==false,true,true,v==v,decide (0<=i),decide (i.toNat<len),v==v],[((us u).get?Internal (lo+i.toNat)=some (Zfu u lo i))],_⟩ (by kernel_rfl) (bc (Zak (Zaa.2 d2)) (bc (Zah (fun h=>d5 (i4.1 h))) (bc rfl (bc rfl (bc (beq_self_eq_true _) (bc (Zaa.2 k53) (bc (Zaa.2 k55) (bc (beq_self_eq_true _) b0)))))))) (qc (Zap k56) q0) c0 ?_
   rcases xq H with ⟨d60,H⟩|⟨d60,H⟩
   ·obtain ⟨k61,H⟩:=H
    have w62:wu (u.getD (lo+i.toNat) default+1000000000)=u.getD (lo+i.toNat) default+1000000000:=wU64 k61
    obtain ⟨k65,H⟩:=H
    have w66:wu (u.getD (lo+i.toNat) default+1000000000-(c.tmod 1000000000+w))=u.getD (lo+i.toNat) default+1000000000-(c.tmod 1000000000+w):=wU64 k65
    obtain ⟨k67,H⟩:=H
    have w68:wv (u.getD (lo+i.toNat) default+1000000000-(c.tmod 1000000000+w))=u.getD (lo+i.toNat) default+1000000000-(c.tmod 1000000000+w):=wU32 k67
    have w69:(us u).set (lo+i.toNat) (vu (u.getD (lo+i.toNat) default+1000000000-(c.tmod 1000000000+w)))=us (u.set (lo+i.toNat) (u.getD (lo+i.toNat) default+1000000000-(c.tmod 1000000000+w))):=(Za3 rfl rfl)
    obtain ⟨k70,H⟩:=H
    have w71:wi (i+1)=i+1:=wI64 k70
    exact Zac (G:=Zab kp119 [(14,7,.elem (Zfu u lo i))] []) 1000 [true] ⟨(atC (cd Try.f119) [1,1,0,1,0,0]),[(0,AV.ref 0 v lo len),(1,AV.vec fb 1 (us b)),(2,vw g),(7,vw (wu (c.tdiv 1000000000))),(8,vw 1),(14,vi n),(15,vi (wi (i+1)))],[⟨(us u).set (lo+i.toNat) (vu (wv (wu (wu (wu (u.getD (lo+i.toNat) default)+1000000000)-wu (c.tmod 1000000000+w))))),1,v,false,true⟩],[(decide (wu (u.getD (lo+i.toNat) default)<wu (c.tmod 1000000000+w)))==true,v==v,decide (0<=i),decide (i.toNat<len),v==v],[((us u).get?Internal (lo+i.toNat)=some (Zfu u lo i))],_⟩ (by kernel_rfl) (bc (Zak (i59.2 d60)) (bc (beq_self_eq_true _) (bc (Zaa.2 k53) (bc (Zaa.2 k55) (bc (beq_self_eq_true _) b0))))) (qc (Zap k56) q0) c0 (by (try rw [w49]);(try rw [w51]);(try rw [w58]);(try rw [w62]);(try rw [w66]);(try rw [w68]);(try rw [w69]);(try rw [w71]);all_goals exact H)
   ·obtain ⟨k74,H⟩:=H
    have w75:wu (u.getD (lo+i.toNat) default-(c.tmod 1000000000+w))=u.getD (lo+i.toNat) default-(c.tmod 1000000000+w):=wU64 k74
    obtain ⟨k76,H⟩:=H
    have w77:wv (u.getD (lo+i.toNat) default-(c.tmod 1000000000+w))=u.getD (lo+i.toNat) default-(c.tmod 1000000000+w):=wU32 k76
    have w78:(us u).set (lo+i.toNat) (vu (u.getD (lo+i.toNat) default-(c.tmod 1000000000+w)))=us (u.set (lo+i.toNat) (u.getD (lo+i.toNat) default-(c.tmod 1000000000+w))):=(Za3 rfl rfl)
    obtain ⟨k79,H⟩:=H
    have w80:wi (i+1)=i+1:=wI64 k79
    exact Zac (G:=Zab kp119 [(14,7,.elem (Zfu u lo i))] []) 1000 [false] ⟨(atC (cd Try.f119) [1,1,0,1,0,0]),[(0,AV.ref 0 v lo len),(1,AV.vec fb 1 (us b)),(2,vw g),(7,vw (wu (c.tdiv 1000000000))),(8,vw 0),(14,vi n),(15,vi (wi (i+1)))],[⟨(us u).set (lo+i.toNat) (vu (wv (wu (wu (u.getD (lo+i.toNat) default)-wu (c.tmod 1000000000+w))))),1,v,false,true⟩],[(decide (wu (u.getD (lo+i.toNat) default)<wu (c.tmod 1000000000+w)))==false,v==v,decide (0<=i),decide (i.toNat<len),v==v],[((us u).get?Internal (lo+i.toNat)=some (Zfu u lo i))],_⟩ (by kernel_rfl) (bc (Zah (fun h=>d60 (i59.1 h))) (bc (beq_self_eq_true _) (bc (Zaa.2 k53) (bc (Zaa.2 k55) (bc (beq_self_eq_true _) b0))))) (qc (Zap k56) q0) c0 (by (try rw [w49]);(try rw [w51]);(try rw [w58]);(try rw [w75]);(try rw [w77]);(try rw [w78]);(try rw [w80]);all_goals exact H)
 ·exact Zbu (G:=Zab kp119 [] []) 1000 [false] (k:=((atC (cd Try.f119) [1,1,1,1])).tail) (env':=[(6,vb (bif decide (w>0) then true else decide (c>0)))]) (L':=[⟨us u,1,v,false,true⟩]) (asm:=[(decide (i<n))==false]) (eqs:=[]) (calls:=[]) (vb (bif decide (w>0) then true else decide (c>0))) (by kernel_rfl) (by kernel_rfl) (Zam (Zah (fun h=>d2 (Zaa.1 h))) ZaF) Za7 Za9 H
theorem vRestore (u b:List Int) (fb:Bool) (v lo len:Nat)  (Q:AV->Heap->Prop) (H :
  Za5 u b fb v lo len 0 ((↑len:Int)) 0 Q) :
 ZfX u b fb v lo len Q:=by
 unfold ZfX
 exact Zac (G:=Zab kp120 [] []) 1000 [] ⟨(atC (cd Try.f120) [1,1,0,0]),[(0,AV.ref 0 v lo len),(1,AV.vec fb 1 (us b)),(4,vu 0),(8,vi (↑len:Int)),(9,vi 0)],[⟨us u,1,v,false,true⟩],[v==v],[],_⟩ (by kernel_rfl) (bc (beq_self_eq_true _) b0) q0 c0 H
noncomputable abbrev Zg0 (u:List Int) (lo:Nat) (i:Int):=vu (u.getD (lo+i.toNat) default)
theorem vRestoreA (u b:List Int) (fb:Bool) (v lo len:Nat) (c n i:Int)  (Q:AV->Heap->Prop) (H :
  ((i<n)->(0<=i) /\
   (i.toNat<len) /\
   (lo+i.toNat<u.length) /\
   (0<=u.getD (lo+i.toNat) default+c/\u.getD (lo+i.toNat) default+c<=4294967295) /\
   ((i<(↑b.length:Int))->(i.toNat<b.length) /\
    (0<=u.getD (lo+i.toNat) default+c+b.getD i.toNat default/\u.getD (lo+i.toNat) default+c+b.getD i.toNat default<=4294967295) /\
    ((u.getD (lo+i.toNat) default+c+b.getD i.toNat default>=1000000000)->(0<=u.getD (lo+i.toNat) default+c+b.getD i.toNat default-1000000000/\u.getD (lo+i.toNat) default+c+b.getD i.toNat default-1000000000<=4294967295) /\
     (-9223372036854775808<=i+1/\i+1<=9223372036854775807) /\
     Za5 (u.set (lo+i.toNat) (u.getD (lo+i.toNat) default+c+b.getD i.toNat default-1000000000)) b fb v lo len 1 n (i+1) Q) /\
    (¬(u.getD (lo+i.toNat) default+c+b.getD i.toNat default>=1000000000)->(-9223372036854775808<=i+1/\i+1<=9223372036854775807) /\
     Za5 (u.set (lo+i.toNat) (u.getD (lo+i.toNat) default+c+b.getD i.toNat default)) b fb v lo len 0 n (i+1) Q)) /\
   (¬(i<(↑b.length:Int))->((u.getD (lo+i.toNat) default+c>=1000000000)->(0<=u.getD (lo+i.toNat) default+c-1000000000/\u.getD (lo+i.toNat) default+c-1000000000<=4294967295) /\
     (-9223372036854775808<=i+1/\i+1<=9223372036854775807) /\
     Za5 (u.set (lo+i.toNat) (u.getD (lo+i.toNat) default+c-1000000000)) b fb v lo len 1 n (i+1) Q) /\
    (¬(u.getD (lo+i.toNat) default+c>=1000000000)->(-9223372036854775808<=i+1/\i+1<=9223372036854775807) /\
     Za5 (u.set (lo+i.toNat) (u.getD (lo+i.toNat) default+c)) b fb v lo len 0 n (i+1) Q))) /\
  (¬(i<n)->Q (tu []) [{ elems:=us u,es:=1,ver:=v,frozen:=false,clean:=true }])) :
 Za5 u b fb v lo len c n i Q:=by
 unfold Za5
 rcases xq H with ⟨d2,H⟩|⟨d2,H⟩
 ·obtain ⟨k4,k6,k7,k8,H⟩:=H
  have w9:wv (u.getD (lo+i.toNat) default+c)=u.getD (lo+i.toNat) default+c:=wU32 k8
  have w10:(us b).length=b.length:=List.length_map ..
  have i11:(decide (i<(↑(us b).length:Int)))=true ↔ (i<(↑b.length:Int)):=(by (try rw [w10]);all_goals exact Zaa)
  refine Zac (G:=Zab kp120 [(4,3,.elem (Zg0 u lo i))] []) 14 [true] ⟨(atC (cd Try.f120) [1,1,0,0,1,1,0,0,1,1,0,1]),[(0,AV.ref 0 v lo len),(1,AV.vec fb 1 (us b)),(5,vi i),(6,vu (wv (u.getD (lo+i.toNat) default+c))),(8,vi n),(9,vi i),(21,vb (decide (i<(↑(us b).length:Int))))],[⟨us u,1,v,false,true⟩],[(decide (i<n))==true,v==v,decide (0<=i),decide (i.toNat<len),v==v],[((us u).get?Internal (lo+i.toNat)=some (Zg0 u lo i))],_⟩ (by kernel_rfl) (bc (Zak (Zaa.2 d2)) (bc (beq_self_eq_true _) (bc (Zaa.2 k4) (bc (Zaa.2 k6) (bc (beq_self_eq_true _) b0))))) (qc (Zap k7) q0) c0 ?_
  rcases xq H with ⟨d12,H⟩|⟨d12,H⟩
  ·have i14:(decide (i.toNat<(us b).length))=true ↔ (i.toNat<b.length):=(by (try rw [w10]);all_goals exact Zaa)
   obtain ⟨k15,k16,H⟩:=H
   have w17:wv (u.getD (lo+i.toNat) default+c+b.getD i.toNat default)=u.getD (lo+i.toNat) default+c+b.getD i.toNat default:=wU32 k16
   have i18:(decide (wv (wv (u.getD (lo+i.toNat) default+c)+b.getD i.toNat default)>=1000000000))=true ↔ (u.getD (lo+i.toNat) default+c+b.getD i.toNat default>=1000000000):=(by (try rw [w9]);(try rw [w17]);all_goals exact Zaa)
   refine Zac (G:=Zab kp120 [(6,4,.elem (vu (b.getD i.toNat default)))] []) 7 [true] ⟨(atC (cd Try.f120) [1,1,0,0,1,1,0,0,1,1,1,1,0,1]),[(0,AV.ref 0 v lo len),(1,AV.vec fb 1 (us b)),(4,vu 0),(5,vi i),(6,vu (wv (wv (u.getD (lo+i.toNat) default+c)+b.getD i.toNat default))),(8,vi n),(9,vi i),(29,vb (decide (wv (wv (u.getD (lo+i.toNat) default+c)+b.getD i.toNat default)>=1000000000)))],[⟨us u,1,v,false,true⟩],_,[((us b).get?Internal i.toNat=some (vu (b.getD i.toNat default)))],_⟩ (by kernel_rfl) (bc (Zak (i11.2 d12)) (bc (Zaa.2 k4) (bc (i14.2 k15) b0))) (qc (Zap k15) q0) c0 ?_
   rcases xq H with ⟨d19,H⟩|⟨d19,H⟩
   ·obtain ⟨k20,H⟩:=H
    have w21:wv (u.getD (lo+i.toNat) default+c+b.getD i.toNat default-1000000000)=u.getD (lo+i.toNat) default+c+b.getD i.toNat default-1000000000:=wU32 k20
    have w24:(us u).set (lo+i.toNat) (vu (u.getD (lo+i.toNat) default+c+b.getD i.toNat default-1000000000))=us (u.set (lo+i.toNat) (u.getD (lo+i.toNat) default+c+b.getD i.toNat default-1000000000)):=(Za3 rfl rfl)
    obtain ⟨k25,H⟩:=H
    have w26:wi (i+1)=i+1:=wI64 k25
    exact Zac (G:=Zab kp120 [(10,4,.elem (Zg0 u lo i))] []) 1000 [true] ⟨(atC (cd Try.f120) [1,1,0,0]),[(0,AV.ref 0 v lo len),(1,AV.vec fb 1 (us b)),(4,vu 1),(8,vi n),(9,vi (wi (i+1)))],[⟨(us u).set (lo+i.toNat) (vu (wv (wv (wv (u.getD (lo+i.toNat) default+c)+b.getD i.toNat default)-1000000000))),1,v,false,true⟩],[(decide (wv (wv (u.getD (lo+i.toNat) default+c)+b.getD i.toNat default)>=1000000000))==true,v==v,decide (0<=i),decide (i.toNat<len),v==v],[((us u).get?Internal (lo+i.toNat)=some (Zg0 u lo i))],_⟩ (by kernel_rfl) (bc (Zak (i18.2 d19)) (bc (beq_self_eq_true _) (bc (Zaa.2 k4) (bc (Zaa.2 k6) (bc (beq_self_eq_true _) b0))))) (qc (Zap k7) q0) c0 (by (try rw [w9]);(try rw [w17]);(try rw [w21]);(try rw [w24]);(try rw [w26]);all_goals exact H)
   ·have w29:(us u).set (lo+i.toNat) (vu (u.getD (lo+i.toNat) default+c+b.getD i.toNat default))=us (u.set (lo+i.toNat) (u.getD (lo+i.toNat) default+c+b.getD i.toNat default)):=(Za3 rfl rfl)
    obtain ⟨k30,H⟩:=H
    have w31:wi (i+1)=i+1:=wI64 k30
    exact Zac (G:=Zab kp120 [(10,4,.elem (Zg0 u lo i))] []) 1000 [false] ⟨(atC (cd Try.f120) [1,1,0,0]),[(0,AV.ref 0 v lo len),(1,AV.vec fb 1 (us b)),(4,vu 0),(8,vi n),(9,vi (wi (i+1)))],[⟨(us u).set (lo+i.toNat) (vu (wv (wv (u.getD (lo+i.toNat) default+c)+b.getD i.toNat default))),1,v,false,true⟩],[(decide (wv (wv (u.getD (lo+i.toNat) default+c)+b.getD i.toNat default)>=1000000000))==false,v==v,decide (0<=i),decide (i.toNat<len),v==v],[((us u).get?Internal (lo+i.toNat)=some (Zg0 u lo i))],_⟩ (by kernel_rfl) (bc (Zah (fun h=>d19 (i18.1 h))) (bc (beq_self_eq_true _) (bc (Zaa.2 k4) (bc (Zaa.2 k6) (bc (beq_self_eq_true _) b0))))) (qc (Zap k7) q0) c0 (by (try rw [w9]);(try rw [w17]);(try rw [w29]);(try rw [w31]);all_goals exact H)
  ·have i32:(decide (wv (u.getD (lo+i.toNat) default+c)>=1000000000))=true ↔ (u.getD (lo+i.toNat) default+c>=1000000000):=(by (try rw [w9]);all_goals exact Zaa)
   rcases xq H with ⟨d33,H⟩|⟨d33,H⟩
   ·obtain ⟨k34,H⟩:=H
    have w35:wv (u.getD (lo+i.toNat) default+c-1000000000)=u.getD (lo+i.toNat) default+c-1000000000:=wU32 k34
    have w38:(us u).set (lo+i.toNat) (vu (u.getD (lo+i.toNat) default+c-1000000000))=us (u.set (lo+i.toNat) (u.getD (lo+i.toNat) default+c-1000000000)):=(Za3 rfl rfl)
    obtain ⟨k39,H⟩:=H
    have w40:wi (i+1)=i+1:=wI64 k39
    exact Zac (G:=Zab kp120 [(10,4,.elem (Zg0 u lo i))] []) 1000 [false,true] ⟨(atC (cd Try.f120) [1,1,0,0]),[(0,AV.ref 0 v lo len),(1,AV.vec fb 1 (us b)),(4,vu 1),(8,vi n),(9,vi (wi (i+1)))],[⟨(us u).set (lo+i.toNat) (vu (wv (wv (u.getD (lo+i.toNat) default+c)-1000000000))),1,v,false,true⟩],[(decide (i<(↑(us b).length:Int)))==false,(decide (wv (u.getD (lo+i.toNat) default+c)>=1000000000))==true,v==v,decide (0<=i),decide (i.toNat<len),v==v],[((us u).get?Internal (lo+i.toNat)=some (Zg0 u lo i))],_⟩ (by kernel_rfl) (bc (Zah (fun h=>d12 (i11.1 h))) (bc (Zak (i32.2 d33)) (bc (beq_self_eq_true _) (bc (Zaa.2 k4) (bc (Zaa.2 k6) (bc (beq_self_eq_true _) b0)))))) (qc (Zap k7) q0) c0 (by (try rw [w9]);(try rw [w35]);(try rw [w38]);(try rw [w40]);all_goals exact H)
   ·have w43:(us u).set (lo+i.toNat) (vu (u.getD (lo+i.toNat) default+c))=us (u.set (lo+i.toNat) (u.getD (lo+i.toNat) default+c)):=(Za3 rfl rfl)
    obtain ⟨k44,H⟩:=H
    have w45:wi (i+1)=i+1:=wI64 k44
    exact Zac (G:=Zab kp120 [(10,4,.elem (Zg0 u lo i))] []) 1000 [false,false] ⟨(atC (cd Try.f120) [1,1,0,0]),[(0,AV.ref 0 v lo len),(1,AV.vec fb 1 (us b)),(4,vu 0),(8,vi n),(9,vi (wi (i+1)))],[⟨(us u).set (lo+i.toNat) (vu (wv (u.getD (lo+i.toNat) default+c))),1,v,false,true⟩],[(decide (i<(↑(us b).length:Int)))==false,(decide (wv (u.getD (lo+i.toNat) default+c)>=1000000000))==false,v==v,decide (0<=i),decide (i.toNat<len),v==v],[((us u).get?Internal (lo+i.toNat)=some (Zg0 u lo i))],_⟩ (by kernel_rfl) (bc (Zah (fun h=>d12 (i11.1 h))) (bc (Zah (fun h=>d33 (i32.1 h))) (bc (beq_self_eq_true _) (bc (Zaa.2 k4) (bc (Zaa.2 k6) (bc (beq_self_eq_true _) b0)))))) (qc (Zap k7) q0) c0 (by (try rw [w9]);(try rw [w43]);(try rw [w45]);all_goals exact H)
 ·exact path_end (G:=Zab kp120 [] []) 1000 [false] (env':=[(0,AV.ref 0 v lo len),(1,AV.vec fb 1 (us b)),(4,vu c),(8,vi n),(9,vi i),(10,vb (decide (i<n)))]) (L':=[⟨us u,1,v,false,true⟩]) (asm:=[(decide (i<n))==false]) (eqs:=[]) (calls:=[]) (tu []) (by kernel_rfl) (by kernel_rfl) (Zam (Zah (fun h=>d2 (Zaa.1 h))) ZaF) Za7 Za9 H
end Go.Av

namespace Go.Av
open Go.Proofs
namespace Sp
def ZeR:Nat->Int->List Int
 | 0,_=>[]
 | n+1,z=>z % 1000000000::ZeR n (z / 1000000000)
def Za4 (u:List Int) (lo len:Nat) (z:Int):List Int:=u.take lo++(ZeR len z++u.drop (lo+len))
def win (u:List Int) (lo len:Nat):Nat:=valL ((u.drop lo).take len)
def okL (l:List Int):Prop:=∀ x ∈ l,0<=x/\x<1000000000
end Sp
abbrev urow (u:List Int) (v:Nat):Row:=⟨u.map (.int .u32),1,v,false,true⟩
theorem ZfJ:∀ (n v:Nat),Sp.ZeR n v=Sp.Zaq n v
 | 0,v=>rfl
 | n+1,v=>by
  rw [Sp.ZeR,Zaz,<- ZfJ n]
  congr 1
theorem ZfK:∀ (n:Nat) (z:Int),(Sp.ZeR n z).length=n
 | 0,z=>rfl
 | n+1,z=>by simp [Sp.ZeR,ZfK n]
theorem limZ_ok:∀ (n:Nat) (z:Int),Sp.okL (Sp.ZeR n z)
 | 0,z=>by intro x hx;simp [Sp.ZeR] at hx
 | n+1,z=>by
  intro x hx
  rcases List.mem_cons.1 hx with rfl | hx
  ·omega
  ·exact limZ_ok n _ x hx
theorem Zfp {u l:List Int} {i:Nat} {x:Int} (hi:i<u.length) (h:u.drop i=x::l):u.getD i default=x/\u.drop (i+1)=l:=by
 rw [ZbA hi] at h
 exact List.cons.inj h
theorem loopSub {fb:Bool} {m V g v lo:Nat} {rest R:List Int} {neg:Prop} [Decidable neg] {Q:AV->Heap->Prop} (hm:m<=1000000) (hlo:lo<=10000000) (hg:g<1000000000) (hV:Sp.fits m V) (hQ:Q (.bool (decide neg)) [urow R v]) :
    ∀ (k i:Nat) (u:List Int) (W c w:Nat),i+k=m+1->u.length=lo+(m+1)+rest.length->u.drop (lo+i)=Sp.Zaq k W++rest->Sp.fits k W->c<1000000000->w<=1 ->
      (((W:Int)-((V / 1000000000 ^ i*g:Nat):Int)-c-w<0) ↔ neg)->u.take (lo+i)++(Sp.ZeR k ((W:Int)-((V / 1000000000 ^ i*g:Nat):Int)-c-w)++rest)=R ->
      ZaX u (Sp.Zaq m V) fb v lo (m+1) g c w ((m+1:Nat):Int) i Q
  | 0,i,u,W,c,w,hi,hul,hud,hW,hc,hw,hneg,hR=>by
    have hW0:=Za6.1 hW
    rw [ZaE hV (by omega),Nat.zero_mul,hW0] at hneg
    rw [Sp.ZeR,List.nil_append] at hR
    rw [Sp.Zaq,List.nil_append] at hud
    have e:u=R:=by rw [<- hR,<- hud,List.take_append_drop]
    refine Zg7 _ _ _ _ _ _ _ _ _ _ _ _ ⟨fun h=>by omega,fun _ => ?_⟩
    have eb:(bif decide ((w:Int)>0) then true else decide ((c:Int)>0))=decide neg:=by
      rw [<- decide_eq_decide.2 hneg]
      by_cases h1:(w:Int)>0
      · rw [decide_eq_true h1,cond_true];symm;rw [decide_eq_true_iff];omega
      · rw [decide_eq_false h1,cond_false,decide_eq_decide];omega
    rw [eb,e];exact hQ
  | k+1,i,u,W,c,w,hi,hul,hud,hW,hc,hw,hneg,hR=>by
    rw [Zaz,List.cons_append] at hud
    obtain ⟨gu,hud'⟩:=Zfp (by omega) hud
    have hp:=ZeD g (V / 1000000000 ^ i)
    rw [Nat.mul_comm g (V / 1000000000 ^ i),ZaU] at hp
    rw [Nat.mul_comm g (V / 1000000000 ^ (i+1)),Nat.mul_comm g (V / 1000000000 ^ i % 1000000000)] at hp
    have hd:V / 1000000000 ^ i % 1000000000<1000000000:=Nat.mod_lt _ (by omega)
    have hpb:V / 1000000000 ^ i % 1000000000*g<=999999999*999999999:=Nat.mul_le_mul (by omega) (by omega)
    have nxt:∀ (x:Int) (c' w':Nat),c' = (c + V / 1000000000 ^ i % 1000000000 * g) / 1000000000 ->
        ((((W % 1000000000:Nat):Int)<(((c+V / 1000000000 ^ i % 1000000000*g) % 1000000000+w:Nat):Int)/\w'=1/\x=((W % 1000000000:Nat):Int)+1000000000-(((c+V / 1000000000 ^ i % 1000000000*g) % 1000000000+w:Nat):Int)) \/
         (¬((W % 1000000000:Nat):Int)<(((c+V / 1000000000 ^ i % 1000000000*g) % 1000000000+w:Nat):Int)/\w'=0/\x=((W % 1000000000:Nat):Int)-(((c+V / 1000000000 ^ i % 1000000000*g) % 1000000000+w:Nat):Int))) ->
        ZaX (u.set (lo+i) x) (Sp.Zaq m V) fb v lo (m+1) g c' w' ((m+1:Nat):Int) ((i:Int)+1) Q:=by
      intro x c' w' hc' hx
      have key:((W:Int)-((V / 1000000000 ^ i*g:Nat):Int)-c-w) % 1000000000=x/\((W:Int)-((V / 1000000000 ^ i*g:Nat):Int)-c-w) / 1000000000=((W / 1000000000:Nat):Int)-((V / 1000000000 ^ (i+1)*g:Nat):Int)-c'-w':=by
        generalize V / 1000000000 ^ i*g=a at hp
        generalize V / 1000000000 ^ (i+1)*g=b at hp
        generalize V / 1000000000 ^ i % 1000000000*g=p at hp hpb hc' hx
        subst hc'
        rcases hx with ⟨h1,rfl,rfl⟩ | ⟨h1,rfl,rfl⟩ <;> omega
      refine loopSub hm hlo hg hV hQ k (i+1) _ (W / 1000000000) c' w' (by omega) (by simpa using hul) ?_ (ZbN.1 hW) ?_ ?_ ?_ ?_
      · rw [show lo+(i+1)=lo+i+1 by omega,List.drop_set_of_lt (by omega)];exact hud'
      · rw [hc']
        generalize V / 1000000000 ^ i % 1000000000*g=p at hpb
        omega
      · rcases hx with ⟨_,h,_⟩ | ⟨_,h,_⟩ <;> omega
      · rw [<- hneg,<- key.2];omega
      · rw [show lo+(i+1)=lo+i+1 by omega,ZaT (by omega),<- hR,Sp.ZeR,key.1,key.2,List.append_assoc];rfl
    refine Zg7 _ _ _ _ _ _ _ _ _ _ _ _ ⟨fun _ => ?_,fun h=>by omega⟩
    rw [Int.toNat_natCast,gu,Zal]
    have hWm:W % 1000000000<1000000000:=Nat.mod_lt _ (by omega)
    by_cases him:i<m
    · rw [Zaw V him]
      have c1:((V / 1000000000 ^ i % 1000000000:Nat):Int)*(g:Int)=((V / 1000000000 ^ i % 1000000000*g:Nat):Int):=(Int.natCast_mul _ _).symm
      rw [c1]
      have hd':((V / 1000000000 ^ i % 1000000000:Nat):Int)<1000000000:=by omega
      have hd0:(0:Int)<=((V / 1000000000 ^ i % 1000000000:Nat):Int):=by omega
      generalize ((V / 1000000000 ^ i % 1000000000:Nat):Int)=dI at hd' hd0
      generalize V / 1000000000 ^ i % 1000000000*g=p at hpb nxt
      have c2:((c:Nat):Int)+((p:Nat):Int)=((c+p:Nat):Int):=by omega
      have c3:(((c+p:Nat):Int)).tdiv 1000000000=(((c+p) / 1000000000:Nat):Int):=by rw [Int.tdiv_eq_ediv_of_nonneg (by omega)];omega
      have c4:(((c+p:Nat):Int)).tmod 1000000000=(((c+p) % 1000000000:Nat):Int):=by rw [Int.tmod_eq_emod_of_nonneg (by omega)];omega
      rw [c2,c3,c4]
      have c5:(((c+p) % 1000000000:Nat):Int)+(w:Int)=(((c+p) % 1000000000+w:Nat):Int):=by omega
      rw [c5]
      have hy:(c+p) % 1000000000+w<=1000000000:=by omega
      refine ⟨fun _=>⟨by omega,by omega,by omega,by omega,by omega,by omega,by omega,by omega,by omega,by omega,fun h=>⟨by omega,by omega,by omega,by omega,nxt _ _ 1 rfl (.inl ⟨h,rfl,rfl⟩)⟩,fun h=>⟨by omega,by omega,by omega,nxt _ _ 0 rfl (.inr ⟨h,rfl,rfl⟩)⟩⟩,fun h=>by omega⟩
    · have hV0:=ZaE hV (show m<=i by omega)
      rw [hV0,Nat.zero_mod,Nat.zero_mul] at nxt
      simp only [Nat.add_zero] at nxt
      have c3:((c:Nat):Int).tdiv 1000000000=((c / 1000000000:Nat):Int):=by rw [Int.tdiv_eq_ediv_of_nonneg (by omega)];omega
      have c4:((c:Nat):Int).tmod 1000000000=((c % 1000000000:Nat):Int):=by rw [Int.tmod_eq_emod_of_nonneg (by omega)];omega
      rw [c3,c4]
      have c5:((c % 1000000000:Nat):Int)+(w:Int)=((c % 1000000000+w:Nat):Int):=by omega
      rw [c5]
      have hy:c % 1000000000+w<=1000000000:=by omega
      refine ⟨fun h=>by omega,fun _=>⟨by omega,by omega,by omega,by omega,by omega,by omega,fun h=>⟨by omega,by omega,by omega,by omega,nxt _ _ 1 rfl (.inl ⟨h,rfl,rfl⟩)⟩,fun h=>⟨by omega,by omega,by omega,nxt _ _ 0 rfl (.inr ⟨h,rfl,rfl⟩)⟩⟩⟩
theorem win_drop {u:List Int} {lo len:Nat} (hu:Sp.okL u) (hl:lo+len<=u.length):u.drop lo=Sp.Zaq len (Sp.win u lo len)++u.drop (lo+len)/\Sp.fits len (Sp.win u lo len):=by
 have hok:∀ x ∈ (u.drop lo).take len,0<=x/\x<1000000000:=fun x hx=>hu x (List.mem_of_mem_drop (List.mem_of_mem_take hx))
 obtain ⟨h1,h2⟩:=ZfL _ hok
 have hlen:((u.drop lo).take len).length=len:=by rw [List.length_take,List.length_drop];omega
 rw [hlen] at h1 h2
 refine ⟨?_,h2⟩
 unfold Sp.win
 rw [<- h1]
 conv=>lhs;rw [<- List.take_append_drop len (u.drop lo),List.drop_drop]
theorem evo119 (u b:List Int) (fb:Bool) (v lo len:Nat) (g:Int) (h:Sp.okL u/\Sp.okL b/\lo+len<=u.length/\len=b.length+1/\u.length<=1000000/\0<=g/\g<1000000000) :
  Ev M1 (.own 119 [.ref 0 v lo len,usA fb b,.int .u64 g] [urow u v]) (.bool (decide ((Sp.win u lo len:Int)-g*(valL b:Nat)<0))) [urow (Sp.Za4 u lo len ((Sp.win u lo len:Int)-g*(valL b:Nat))) v]:=by
 obtain ⟨hu,hb,h1,h2,h3,h4,h5⟩:=h
 obtain ⟨b1,b2⟩:=ZfL b hb
 obtain ⟨w1,w2⟩:=win_drop hu h1
 subst h2
 obtain ⟨gn,rfl⟩:=Int.eq_ofNat_of_zero_le h4
 refine owncall119 (vSubtract _ _ _ _ _ _ _ _ ?_)
 generalize hV:valL b=V at b1 b2
 rw [b1]
 have e0:((V / 1000000000 ^ 0*gn:Nat):Int)=(gn:Int)*(V:Int):=by rw [Nat.pow_zero,Nat.div_one,Nat.mul_comm,Int.natCast_mul]
 have:=loopSub (fb:=fb) (m:=b.length) (V:=V) (g:=gn) (v:=v) (lo:=lo) (rest:=u.drop (lo+(b.length+1))) (R:=Sp.Za4 u lo (b.length+1) ((Sp.win u lo (b.length+1):Int)-(gn:Int)*(V:Int))) (neg:=(Sp.win u lo (b.length+1):Int)-(gn:Int)*(V:Int)<0)
  (Q:=isR (.bool (decide ((Sp.win u lo (b.length+1):Int)-(gn:Int)*(V:Int)<0))) [urow (Sp.Za4 u lo (b.length+1) ((Sp.win u lo (b.length+1):Int)-(gn:Int)*(V:Int))) v]) (by omega) (by omega) (by omega) b2 ⟨rfl,rfl⟩
  (b.length+1) 0 u (Sp.win u lo (b.length+1)) 0 0 (by omega) (by rw [List.length_drop];omega) w1 w2 (by omega) (by omega) (by rw [e0];simp) (by rw [e0];simp [Sp.Za4])
 rw [Zal] at *
 exact this
end Go.Av

namespace Go.Av
open Go.Proofs
theorem limZ_add:∀ (n:Nat) (a b c:Int),Sp.ZeR n a=Sp.ZeR n b->Sp.ZeR n (a+c)=Sp.ZeR n (b+c)
 | 0,a,b,c,_=>rfl
 | n+1,a,b,c,h=>by
  rw [Sp.ZeR,Sp.ZeR] at h
  obtain ⟨h1,h2⟩:=List.cons.inj h
  rw [Sp.ZeR,Sp.ZeR]
  have e1:(a+c) % 1000000000=(b+c) % 1000000000:=by omega
  have e2:(a+c) / 1000000000=a / 1000000000+(a % 1000000000+c) / 1000000000:=by omega
  have e3:(b+c) / 1000000000=b / 1000000000+(a % 1000000000+c) / 1000000000:=by omega
  rw [e1,e2,e3,limZ_add n _ _ _ h2]
theorem loopRes {fb:Bool} {m V v lo:Nat} {rest R:List Int} {Q:AV->Heap->Prop} (hm:m<=1000000) (hlo:lo<=10000000) (hV:Sp.fits m V) (hQ:Q (.tup []) [urow R v]) :
  ∀ (k i:Nat) (u:List Int) (z:Int) (c:Nat),i+k=m+1->u.length=lo+(m+1)+rest.length->u.drop (lo+i)=Sp.ZeR k z++rest->c<=1 ->
   u.take (lo+i)++(Sp.ZeR k (z+((V / 1000000000 ^ i:Nat):Int)+c)++rest)=R->Za5 u (Sp.Zaq m V) fb v lo (m+1) c ((m+1:Nat):Int) i Q
 | 0,i,u,z,c,hi,hul,hud,hc,hR=>by
  rw [Sp.ZeR,List.nil_append] at hR hud
  have e:u=R:=by rw [<- hR,<- hud,List.take_append_drop]
  exact vRestoreA _ _ _ _ _ _ _ _ _ _ ⟨fun h=>by omega,fun _=>by rw [e];exact hQ⟩
 | k+1,i,u,z,c,hi,hul,hud,hc,hR=>by
  rw [Sp.ZeR,List.cons_append] at hud
  obtain ⟨gu,hud'⟩:=Zfp (by omega) hud
  have hn:=ZaU V i
  have nxt:∀ (x:Int) (c':Nat),(z % 1000000000+c+((V / 1000000000 ^ i % 1000000000:Nat):Int)>=1000000000/\c'=1/\x=z % 1000000000+c+((V / 1000000000 ^ i % 1000000000:Nat):Int)-1000000000\/¬z % 1000000000+c+((V / 1000000000 ^ i % 1000000000:Nat):Int)>=1000000000/\c'=0/\x=z % 1000000000+c+((V / 1000000000 ^ i % 1000000000:Nat):Int)) ->
    Za5 (u.set (lo+i) x) (Sp.Zaq m V) fb v lo (m+1) c' ((m+1:Nat):Int) ((i:Int)+1) Q:=by
   intro x c' hx
   have key:(z+((V / 1000000000 ^ i:Nat):Int)+c) % 1000000000=x/\(z+((V / 1000000000 ^ i:Nat):Int)+c) / 1000000000=z / 1000000000+((V / 1000000000 ^ (i+1):Nat):Int)+c':=by
    generalize V / 1000000000 ^ (i+1)=b at hn
    generalize V / 1000000000 ^ i=a at hn hx
    subst hn
    rcases hx with ⟨h1,rfl,rfl⟩ | ⟨h1,rfl,rfl⟩ <;> omega
   refine loopRes hm hlo hV hQ k (i+1) _ (z / 1000000000) c' (by omega) (by simpa using hul) ?_ (by omega) ?_
   ·rw [show lo+(i+1)=lo+i+1 by omega,List.drop_set_of_lt (by omega)];exact hud'
   ·rw [show lo+(i+1)=lo+i+1 by omega,ZaT (by omega),<- hR,Sp.ZeR,key.1,key.2,List.append_assoc];rfl
  refine vRestoreA _ _ _ _ _ _ _ _ _ _ ⟨fun _ => ?_,fun h=>by omega⟩
  rw [Int.toNat_natCast,gu,Zal]
  by_cases him:i<m
  ·rw [Zaw V him]
   have hd:((V / 1000000000 ^ i % 1000000000:Nat):Int)<1000000000:=by omega
   have hd0:(0:Int)<=((V / 1000000000 ^ i % 1000000000:Nat):Int):=by omega
   generalize ((V / 1000000000 ^ i % 1000000000:Nat):Int)=d at hd hd0 nxt
   exact ⟨by omega,by omega,by omega,by omega,fun _=>⟨by omega,by omega,fun h=>⟨by omega,by omega,nxt _ 1 (.inl ⟨h,rfl,rfl⟩)⟩,fun h=>⟨by omega,nxt _ 0 (.inr ⟨h,rfl,rfl⟩)⟩⟩,fun h=>by omega⟩
  ·have hV0:=ZaE hV (show m<=i by omega)
   rw [hV0,Nat.zero_mod] at nxt
   simp only [Int.ofNat_zero,Int.add_zero] at nxt
   exact ⟨by omega,by omega,by omega,by omega,fun h=>by omega,fun _=>⟨fun h=>⟨by omega,by omega,nxt _ 1 (.inl ⟨h,rfl,rfl⟩)⟩,fun h=>⟨by omega,nxt _ 0 (.inr ⟨h,rfl,rfl⟩)⟩⟩⟩
theorem evo120 (u b:List Int) (fb:Bool) (v lo len:Nat) (h:Sp.okL u/\Sp.okL b/\lo+len<=u.length/\len=b.length+1/\u.length<=1000000) :
  Ev M1 (.own 120 [.ref 0 v lo len,usA fb b] [urow u v]) (.tup []) [urow (Sp.Za4 u lo len ((Sp.win u lo len:Int)+(valL b:Nat))) v]:=by
 obtain ⟨hu,hb,h1,h2,h3⟩:=h
 obtain ⟨b1,b2⟩:=ZfL b hb
 obtain ⟨w1,w2⟩:=win_drop hu h1
 subst h2
 refine owncall120 (vRestore _ _ _ _ _ _ _ ?_)
 generalize hV:valL b=V at b1 b2
 rw [b1]
 have:=loopRes (fb:=fb) (m:=b.length) (V:=V) (v:=v) (lo:=lo) (rest:=u.drop (lo+(b.length+1))) (R:=Sp.Za4 u lo (b.length+1) ((Sp.win u lo (b.length+1):Int)+(V:Int)))
  (Q:=isR (.tup []) [urow (Sp.Za4 u lo (b.length+1) ((Sp.win u lo (b.length+1):Int)+(V:Int))) v]) (by omega) (by omega) b2 ⟨rfl,rfl⟩
  (b.length+1) 0 u (Sp.win u lo (b.length+1)) 0 (by omega) (by rw [List.length_drop];omega) (by rw [ZfJ];exact w1) (by omega) (by simp [Sp.Za4])
 rw [Zal] at *
 exact this
theorem lim_ok (v:Nat):Sp.okL (Sp.lim v):=limN_ok _ _
theorem ZfC {u:List Int} {lo len:Nat} {z:Int} (h:lo+len<=u.length):(Sp.Za4 u lo len z).length=u.length:=by
 unfold Sp.Za4
 simp only [List.length_append,List.length_take,ZfK,List.length_drop]
 omega
theorem rowZ_ok {u:List Int} {lo len:Nat} {z:Int} (h:Sp.okL u):Sp.okL (Sp.Za4 u lo len z):=by
 intro x hx
 unfold Sp.Za4 at hx
 rcases List.mem_append.1 hx with hx | hx
 ·exact h x (List.mem_of_mem_take hx)
 ·rcases List.mem_append.1 hx with hx | hx
  ·exact limZ_ok _ _ x hx
  ·exact h x (List.mem_of_mem_drop hx)
theorem rowZ_again {u:List Int} {lo len:Nat} {z c:Int} (h:lo+len<=u.length) (hu:Sp.okL u):Sp.Za4 (Sp.Za4 u lo len z) lo len ((Sp.win (Sp.Za4 u lo len z) lo len:Int)+c)=Sp.Za4 u lo len (z+c):=by
 have hw:=win_drop (rowZ_ok (lo:=lo) (len:=len) (z:=z) hu) (by rw [ZfC h];exact h)
 have e1:(Sp.Za4 u lo len z).take lo=u.take lo:=by
  unfold Sp.Za4
  rw [List.take_append_of_le_length (by rw [List.length_take];omega),List.take_take]
  congr 1;omega
 have e2:(Sp.Za4 u lo len z).drop lo=Sp.ZeR len z++u.drop (lo+len):=by
  unfold Sp.Za4
  rw [List.drop_append_of_le_length (by rw [List.length_take];omega),List.drop_of_length_le (by rw [List.length_take];omega),List.nil_append]
 have e3:(Sp.Za4 u lo len z).drop (lo+len)=u.drop (lo+len):=by
  rw [<- List.drop_drop,e2,List.drop_append_of_le_length (by rw [ZfK];omega),List.drop_of_length_le (by rw [ZfK];omega),List.nil_append]
 have e4:Sp.ZeR len (Sp.win (Sp.Za4 u lo len z) lo len:Int)=Sp.ZeR len z:=by
  have:=hw.1
  rw [e2,e3] at this
  rw [ZfJ]
  exact (List.append_cancel_right this).symm
 show (Sp.Za4 u lo len z).take lo++(Sp.ZeR len ((Sp.win (Sp.Za4 u lo len z) lo len:Int)+c)++(Sp.Za4 u lo len z).drop (lo+len))=_
 rw [e1,e3,limZ_add len _ z c e4]
 rfl
end Go.Av
