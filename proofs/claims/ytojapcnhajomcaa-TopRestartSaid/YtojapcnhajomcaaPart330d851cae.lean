/- PART 3 of the texts of a claim, joined by a program: what each part shows stands at its head. -/
import Derived.Test.YtojapcnhajomcaaPartd64262eb9b
import Derived.ProofKit
import Derived.OpenShut
import Derived.Test.YtojapcnhajomcaaRows
import Derived.Test.YtojapcnhajomcaaProg
import Derived.WalkKit
import Derived.Laws.Externs
import Derived.KernelRfl

namespace Go.Av
open Go.RowKit Go.WideShapes Go.ChangeShapes
def TyL (R:TypeId->List AV->Prop):List TypeId->List AV->Prop
 | [],cs=>cs=[]
 | t::ts,cs => ∃ a b,cs=a++b/\R t a/\TyL R ts b
def aggT (P:Program) (t:TypeId):Bool:=
 match P.underlying t with
 | some (.struct _) | some (.array _ _)=>true
 | _=>false
def Zc6 (P:Program) (t:TypeId) (cs:List AV):AV:=if aggT P t=true then .agg cs else cs.headD .any
def Ty (P:Program):Nat->TypeId->List AV->Prop
 | 0,_,_=>False
 | n+1,t,cs =>
  match P.underlying t with
  | some .bool => ∃ b,cs=[.bool b]
  | some (.int k) => ∃ m,cs=[.int k m]/\k.min<=m/\m<=k.max
  | some .string => ∃ s,cs=[.str s]/\s.length<=maxLen
  | some (.slice e) => ∃ xs,cs=[.vec false (P.cellsOf e) xs]/\xs.length<=maxLen /\ ∀ x ∈ xs,∃ ys,Ty P n e ys/\x=Zc6 P e ys
  | some (.struct fs)=>TyL (Ty P n) (fs.toList.map (·.type)) cs
  | some (.array m e)=>TyL (Ty P n) (List.replicate m e) cs
  | _=>False
def Zej (P:Program):Nat->List Field->Nat->Bool
 | off,[],n=>off==n
 | off,f::fs,n=>f.offset==off&&Zej P (off+P.cellsOf f.type) fs n
def Zc0 (P:Program):Nat->TypeId->Bool
 | 0,_=>false
 | n+1,t =>
  match P.underlying t with
  | some .bool | some (.int _) | some .string=>P.cellsOf t==1
  | some (.slice e)=>P.cellsOf t==1&&Zc0 P n e&&Nat.blt 0 (P.cellsOf e)
  | some (.struct fs)=>(fs.toList.all fun f=>Zc0 P n f.type)&&Zej P 0 fs.toList (P.cellsOf t)
  | some (.array m e)=>Zc0 P n e&&P.cellsOf t==m*P.cellsOf e
  | _=>false
def S0 (w:World):St:=⟨w.heap.size,fun _ _=>True,[],[],w⟩
structure RelD (w:World) (axs:List AV) (cs:List Value):Prop where
 len:axs.length=cs.length
 plain:axs.all AV.plain=true
 rel:∀ (i:Nat) a c,axs[i]? = some a->cs[i]? = some c->DRel (S0 w) a c
theorem RelD.append {w:World} {axs bs:List AV} {cs ds:List Value} (h:RelD w axs cs) (k:RelD w bs ds):RelD w (axs++bs) (cs++ds):=by
 refine ⟨by simp [h.len,k.len],by simp [List.all_append,h.plain,k.plain],fun i a c ha hc => ?_⟩
 by_cases hi:i<axs.length
 ·rw [List.getElem?_append_left hi] at ha
  rw [List.getElem?_append_left (by rw [<- h.len];exact hi)] at hc
  exact h.rel i a c ha hc
 ·rw [List.getElem?_append_right (by omega)] at ha
  rw [List.getElem?_append_right (by have:=h.len;omega),<- h.len] at hc
  exact k.rel _ a c ha hc
theorem RelD.one {w:World} {a:AV} {c:Value} (hp:a.plain=true) (h:DRel (S0 w) a c):RelD w [a] [c]:=
 ⟨rfl,by simp [hp],fun i x y hx hy=>by cases i with
  | zero=>simp at hx hy;subst hx;subst hy;exact h
  | succ i=>simp at hx⟩
theorem list_of {α:Type} {R:Nat->α->Prop}:∀ (n:Nat),(∀ i,i<n -> ∃ x,R i x) -> ∃ xs:List α,xs.length=n /\ ∀ (i:Nat) x,xs[i]? = some x->R i x
 | 0,_=>⟨[],rfl,by simp⟩
 | n+1,h=>by
  obtain ⟨xs,h1,h2⟩:=list_of n (fun i hi=>h i (by omega))
  obtain ⟨x,hx⟩:=h n (by omega)
  refine ⟨xs++[x],by simp [h1],fun i y hy => ?_⟩
  by_cases hi:i<xs.length
  ·rw [List.getElem?_append_left hi] at hy;exact h2 i y hy
  ·rw [List.getElem?_append_right (by omega)] at hy
   have:i=n:=by
    have:=(List.getElem?_eq_some_iff.1 hy).1
    simp at this;omega
   subst this
   rw [h1] at hy
   simp at hy;subst hy;exact hx
section
variable {H:Type} {enc:TypeId × Value->H} {P:Program} {w:World} {sp:Nat->Bool} {held:Bool}
theorem Zgy {R:TypeId->List AV->Prop}:∀ (fs:List Field) (off:Nat) (cs:List Value),Zej P off fs cs.length=true ->
  (∀ f ∈ fs,∃ axs,R f.type axs/\RelD w axs ((cs.drop f.offset).take (P.cellsOf f.type))/\((cs.drop f.offset).take (P.cellsOf f.type)).length=P.cellsOf f.type) ->
  ∃ axs,TyL R (fs.map (·.type)) axs/\RelD w axs (cs.drop off)
 | [],off,cs,hl,_=>by
  simp only [Zej,beq_iff_eq] at hl
  refine ⟨[],rfl,?_⟩
  rw [List.drop_eq_nil_of_le (by omega)]
  exact ⟨rfl,rfl,by simp⟩
 | f::fs,off,cs,hl,h=>by
  simp only [Zej,Bool.and_eq_true,beq_iff_eq] at hl
  obtain ⟨rfl,hl⟩:=hl
  obtain ⟨axs,h1,h2,h3⟩:=h f (List.mem_cons_self ..)
  obtain ⟨bs,k1,k2⟩:=Zgy fs _ cs hl (fun g hg=>h g (List.mem_cons_of_mem _ hg))
  refine ⟨axs++bs,⟨axs,bs,rfl,h1,k1⟩,?_⟩
  have:=h2.append k2
  rwa [<- List.drop_drop,List.take_append_drop] at this
theorem read_same {R:TypeId->List AV->Prop} {e:TypeId} {z:Nat}:∀ (m:Nat) (cs:List Value),cs.length=m*z ->
  (∀ i,i<m -> ∃ axs,R e axs/\RelD w axs ((cs.drop (i*z)).take z)) -> ∃ axs,TyL R (List.replicate m e) axs/\RelD w axs cs
 | 0,cs,hl,_=>by
  have:cs=[]:=List.length_eq_zero_iff.1 (by simpa using hl)
  subst this
  exact ⟨[],rfl,rfl,rfl,by simp⟩
 | m+1,cs,hl,h=>by
  obtain ⟨axs,h1,h2⟩:=h 0 (by omega)
  simp only [Nat.zero_mul,List.drop_zero] at h2
  obtain ⟨bs,k1,k2⟩:=read_same (R:=R) (e:=e) (z:=z) m (cs.drop z) (by simp [hl,Nat.add_mul]) fun i hi=>by
   obtain ⟨axs,q1,q2⟩:=h (i+1) (by omega)
   refine ⟨axs,q1,?_⟩
   rw [List.drop_drop]
   have:z+i*z=(i+1)*z:=by rw [Nat.add_mul];omega
   rw [this];exact q2
  refine ⟨axs++bs,⟨axs,bs,rfl,h1,k1⟩,?_⟩
  have:=h2.append k2
  rwa [List.take_append_drop] at this
theorem Zdp:∀ (n:Nat) (t:TypeId) (cs:List Value) (x:DataW H × List MemPlace) (fuel:Nat),Zc0 P n t=true->DataW.trod enc P w 0 sp held fuel t cs=some x ->
  ∃ axs,Ty P n t axs/\RelD w axs cs/\cs.length=P.cellsOf t
 | 0,t,cs,x,fuel,hs,_=>by simp [Zc0] at hs
 | n+1,t,cs,x,fuel,hs,hx=>by
  unfold Zc0 at hs
  unfold Ty
  split at hs
  ·rename_i hu
   try simp only [hu]
   obtain ⟨b,rfl,_⟩:=DataW.trod_bool hu hx
   exact ⟨[.bool b],⟨b,rfl⟩,.one rfl (.bool b),by simp only [beq_iff_eq] at hs;exact hs.symm⟩
  ·rename_i k hu
   try simp only [hu]
   obtain ⟨m,rfl,_,hw⟩:=DataW.trod_int hu hx
   simp only [Lit.wf,Bool.and_eq_true,decide_eq_true_eq] at hw
   exact ⟨[.int k m],⟨m,rfl,hw.1,hw.2⟩,.one rfl (.int k m),by simp only [beq_iff_eq] at hs;exact hs.symm⟩
  ·rename_i hu
   try simp only [hu]
   obtain ⟨s,rfl,_,hw⟩:=DataW.trod_string hu hx
   obtain ⟨⟨l⟩⟩:=s
   exact ⟨[.str l],⟨l,rfl,hw⟩,.one rfl (.str l),by simp only [beq_iff_eq] at hs;exact hs.symm⟩
  ·rename_i e hu
   try simp only [hu]
   simp only [Bool.and_eq_true,beq_iff_eq,Nat.blt_eq] at hs
   obtain ⟨⟨hs1,hs2⟩,hs3⟩:=hs
   rcases DataW.trod_slice hu hx with ⟨rfl,_⟩ | ⟨a,len,cap,elems,rest,m,_,rfl,_,_,hlc,hcm,hel,hall,_,_⟩
   ·exact ⟨[.vec false (P.cellsOf e) []],⟨[],rfl,by simp,by simp⟩,.one rfl (.vecE _ _ _ _ (by simp)),hs1.symm⟩
   ·have hget:∀ i,i<len -> ∃ x:AV,∃ ys cs',Ty P n e ys/\x=Zc6 P e ys/\RelD w ys cs'/\cs'.length=P.cellsOf e/\w.cells? 0 (a.add (i*P.cellsOf e)) (P.cellsOf e)=some cs':=by
     intro i hi
     have h1:=hall i hi
     rw [List.getElem?_eq_getElem (by omega)] at h1
     obtain ⟨cs',h2,h3⟩:=Option.bind_eq_some_iff.1 h1
     obtain ⟨ys,k1,k2,k3⟩:=Zdp n e cs' _ m hs2 h3
     exact ⟨_,ys,cs',k1,rfl,k2,k3,h2⟩
    obtain ⟨xs,hxl,hxs⟩:=list_of len hget
    have hpack:∀ {ys:List AV} {cs':List Value},Ty P n e ys->RelD w ys cs'->cs'.length=P.cellsOf e->(Zc6 P e ys).cells=ys:=by
     intro ys cs' hty hrd hl
     unfold Zc6
     split
     ·rfl
     ·rename_i hagg
      have h1:∃ y,ys=[y]:=by
       cases n with
       | zero=>simp [Zc0] at hs2
       | succ n =>
        unfold Ty at hty
        unfold aggT at hagg
        split at hty
        ·obtain ⟨b,rfl⟩:=hty;exact ⟨_,rfl⟩
        ·obtain ⟨b,rfl,_⟩:=hty;exact ⟨_,rfl⟩
        ·obtain ⟨b,rfl,_⟩:=hty;exact ⟨_,rfl⟩
        ·obtain ⟨b,rfl,_⟩:=hty;exact ⟨_,rfl⟩
        ·rename_i hu';simp [hu'] at hagg
        ·rename_i hu';simp [hu'] at hagg
        ·exact hty.elim
      obtain ⟨y,rfl⟩:=h1
      have:=hrd.plain
      simp only [List.all_cons,List.all_nil,Bool.and_true] at this
      simp only [List.headD_cons]
      cases y <;> first | rfl | simp [AV.plain] at this
    have hok:Za5 (P.cellsOf e) xs:=by
     intro i x hix
     obtain ⟨ys,cs',k1,rfl,k3,k4,_⟩:=hxs i x hix
     rw [hpack k1 k3 k4]
     exact ⟨k3.len.trans k4,k3.plain⟩
    refine ⟨[.vec false (P.cellsOf e) xs],⟨xs,rfl,by omega,fun x hx => ?_⟩,.one rfl ?_,hs1.symm⟩
    ·obtain ⟨i,hi⟩:=List.getElem?_of_mem hx
     obtain ⟨ys,cs',k1,k2,_⟩:=hxs i x hi
     exact ⟨ys,k1,k2⟩
    ·subst hxl
     cases hxe:xs with
     | nil=>exact .vecE _ _ _ _ (by simp)
     | cons x0 xs0 =>
      obtain ⟨b,off,spot⟩:=a
      have hlen0:0<xs.length:=by rw [hxe];simp
      obtain ⟨ys0,cs0,_,_,_,z4,z5⟩:=hxs 0 xs[0] (List.getElem?_eq_getElem hlen0)
      obtain ⟨_,_,z6⟩:=World.cells?_some z5
      have z7:=z6 0 hs3
      rw [List.getElem?_eq_getElem (by omega)] at z7
      have hspot:spot=none:=by simpa [Addr.add] using World.cell?_spot z7
      subst hspot
      have hcell:∀ (i:Nat) x (k:Nat) c,xs[i]? = some x->x.cells[k]? = some c -> ∃ cv,w.cell? ⟨b,off+i*P.cellsOf e+k,none⟩=some cv/\DRel (S0 w) c cv:=by
       intro i x k c hix hk
       obtain ⟨ys,cs',k1,rfl,k3,k4,k5⟩:=hxs i x hix
       rw [hpack k1 k3 k4] at hk
       obtain ⟨_,_,k6⟩:=World.cells?_some k5
       have hkl:k<ys.length:=(List.getElem?_eq_some_iff.1 hk).1
       have hkc:k<cs'.length:=by rw [<- k3.len];exact hkl
       have h1:=k6 k (by omega)
       rw [List.getElem?_eq_getElem hkc] at h1
       rw [Za6,Za6] at h1
       exact ⟨_,h1,k3.rel k c _ hk (List.getElem?_eq_getElem hkc)⟩
      rw [<- hxe]
      refine .vec false (P.cellsOf e) xs b off cap hok (by simp) hlc (fun i x k c hix hk => ?_) (fun i x k c cv hix hk hcv => ?_)
      ·obtain ⟨cv,h1,_⟩:=hcell i x k c hix hk
       exact ⟨⟨cv,h1⟩,⟨trivial,by simp [S0]⟩⟩
      ·obtain ⟨cv',h1,h2⟩:=hcell i x k c hix hk
       have:cv'=cv:=by
        have h3:w.cell? ⟨b,off+i*P.cellsOf e+k,none⟩=some cv:=hcv
        rw [h1] at h3;exact Option.some.inj h3
       subst this;exact h2
  ·rename_i fs hu
   try simp only [hu]
   simp only [Bool.and_eq_true,List.all_eq_true] at hs
   obtain ⟨hs1,hs2⟩:=hs
   obtain ⟨xs,m,_,_,hl,hxl,hf⟩:=DataW.trod_struct hu hx
   obtain ⟨axs,k1,k2⟩:=Zgy (P:=P) (w:=w) (R:=Ty P n) fs.toList 0 cs (by rw [hl];exact hs2) fun f hfm=>by
    obtain ⟨i,hi⟩:=List.getElem?_of_mem hfm
    have hi':fs[i]? = some f:=by simpa using hi
    have h1:=hf i f hi'
    have hilt:i<xs.length:=by rw [hxl];exact (Array.getElem?_eq_some_iff.1 hi').1
    rw [List.getElem?_eq_getElem hilt] at h1
    obtain ⟨axs,q1,q2,q3⟩:=Zdp n f.type _ _ m (hs1 f hfm) h1
    exact ⟨axs,q1,q2,q3⟩
   exact ⟨axs,k1,by simpa using k2,hl⟩
  ·rename_i m e hu
   try simp only [hu]
   simp only [Bool.and_eq_true,beq_iff_eq] at hs
   obtain ⟨hs1,hs2⟩:=hs
   obtain ⟨xs,q,_,_,hl,hxl,hf⟩:=DataW.trod_array hu hx
   obtain ⟨axs,k1,k2⟩:=read_same (w:=w) (R:=Ty P n) (e:=e) (z:=P.cellsOf e) m cs (by rw [hl,hs2]) fun i hi=>by
    have h1:=hf i hi
    rw [List.getElem?_eq_getElem (by omega)] at h1
    obtain ⟨axs,q1,q2,_⟩:=Zdp n e _ _ q hs1 h1
    exact ⟨axs,q1,q2⟩
   exact ⟨axs,k1,k2,hl⟩
  ·simp at hs
theorem read_arg {n:Nat} {t:TypeId} {v:Value} {d:DataW H} {ps:List MemPlace} {r:Reach} {b0:Nat} (hs:Zc0 P n t=true) (hval:Value.okWide P w r b0 t v) (hd:DataW.Trod enc P w 0 sp held t v d ps) :
  ∃ axs,Ty P n t axs/\DRel (S0 w) (Zc6 P t axs) v:=by
 obtain ⟨fuel,hf⟩:=hd
 obtain ⟨axs,h1,h2,h3⟩:=Zdp n t _ _ fuel hs hf
 refine ⟨axs,h1,?_⟩
 unfold Zc6
 cases n with
 | zero=>simp [Zc0] at hs
 | succ n =>
  have one:v.cells = #[v]->(∃ a,axs=[a])->DRel (S0 w) (axs.headD .any) v:=by
   rintro hc ⟨a,rfl⟩
   exact h2.rel 0 a v rfl (by rw [hc];rfl)
  unfold Ty at h1
  unfold aggT
  split at h1
  ·rename_i hu
   obtain ⟨b,rfl⟩:=h1
   obtain ⟨b',rfl⟩:=okWide_bool hu hval
   simp only [hu,Bool.false_eq_true,if_false]
   exact one rfl ⟨_,rfl⟩
  ·rename_i hu
   obtain ⟨b,rfl,_⟩:=h1
   obtain ⟨b',rfl⟩:=okWide_int hu hval
   simp only [hu,Bool.false_eq_true,if_false]
   exact one rfl ⟨_,rfl⟩
  ·rename_i hu
   obtain ⟨b,rfl,_⟩:=h1
   obtain ⟨b',rfl⟩:=okWide_string hu hval
   simp only [hu,Bool.false_eq_true,if_false]
   exact one rfl ⟨_,rfl⟩
  ·rename_i hu
   obtain ⟨b,rfl,_⟩:=h1
   obtain ⟨b1,b2,b3,rfl⟩:=okWide_slice hu hval
   simp only [hu,Bool.false_eq_true,if_false]
   exact one rfl ⟨_,rfl⟩
  ·rename_i fs hu
   obtain ⟨cs,rfl,_⟩:=okWide_struct hu hval
   simp only [hu,if_true]
   obtain ⟨cs⟩:=cs
   exact .agg axs cs h2.len h2.rel
  ·rename_i m e hu
   have:∃ cs,v = .agg cs:=by
    unfold Value.okWide at hval
    rw [hu] at hval
    obtain ⟨cs,rfl,_⟩:=hval
    exact ⟨cs,rfl⟩
   obtain ⟨⟨cs⟩,rfl⟩:=this
   simp only [hu,if_true]
   exact .agg axs cs h2.len h2.rel
  ·exact h1.elim
end
theorem ty_struct {P:Program} {n:Nat} {t:TypeId} {fs:Array Field} {cs:List AV} (hu:P.underlying t=some (.struct fs)) (h:Ty P (n+1) t cs):TyL (Ty P n) (fs.toList.map (·.type)) cs:=by
 unfold Ty at h;rw [hu] at h;exact h
theorem ZcQ {P:Program} {n:Nat} {t:TypeId} {k:IntKind} {cs:List AV} (hu:P.underlying t=some (.int k)) (h:Ty P (n+1) t cs):∃ m,cs=[.int k m]/\k.min<=m/\m<=k.max:=by
 unfold Ty at h;rw [hu] at h;exact h
theorem list_form {τ:Type} {enc:τ->AV}:∀ (xs:List AV),(∀ x ∈ xs,∃ a,x=enc a) -> ∃ X:List τ,xs=X.map enc
 | [],_=>⟨[],rfl⟩
 | x::xs,h=>by
  obtain ⟨a,rfl⟩:=h x (List.mem_cons_self ..)
  obtain ⟨X,rfl⟩:=list_form xs fun y hy=>h y (List.mem_cons_of_mem _ hy)
  exact ⟨a::X,rfl⟩
theorem ty_list {P:Program} {τ:Type} {enc:τ->AV} {n:Nat} {t e:TypeId} {cs:List AV} (hu:P.underlying t=some (.slice e)) (he:∀ ys,Ty P n e ys -> ∃ a,Zc6 P e ys=enc a) (h:Ty P (n+1) t cs) :
  ∃ X:List τ,cs=[.vec false (P.cellsOf e) (X.map enc)]/\X.length<=maxLen:=by
 simp only [Ty,hu] at h
 obtain ⟨xs,rfl,hl,hx⟩:=h
 obtain ⟨X,rfl⟩:=list_form (enc:=enc) xs fun x hxm=>by
  obtain ⟨ys,h1,rfl⟩:=hx x hxm
  obtain ⟨a,ha⟩:=he ys h1
  exact ⟨a,ha⟩
 exact ⟨X,rfl,by simpa using hl⟩
end Go.Av

namespace Go.Av
open Go.RowKit Go.WideShapes Go.ChangeShapes
section
variable {H:Type} {enc:TypeId × Value->H} {P:Program}
theorem all_stays (hl:laidOutB P=true) {W W':World} {sp:Nat->Bool} (hb:Below W.heap.size W W'):∀ (ts:List TypeId) (vs:List Value) (ds:List (DataW H)) (ps:List MemPlace),
  (∀ t ∈ ts,P.readableRec t=true/\t<P.types.size)->(∀ x ∈ ps,x.block<W.heap.size)->(∀ x ∈ ps,sp x.block=true)->DataW.TrodAll enc P W 0 (fun _=>true) true ts vs ds ps->DataW.TrodAll enc P W' 0 sp true ts vs ds ps
 | [],vs,ds,ps,_,_,_,h=>by
  obtain ⟨rfl,rfl,rfl⟩:=trodAll_nil h
  rfl
 | t::ts,vs,ds,ps,ht,hlt,hsp,h=>by
  obtain ⟨v,vs,d,ds,p,q,rfl,rfl,rfl,h1,h2⟩:=trodAll_cons h
  obtain ⟨r1,r2⟩:=ht t (List.mem_cons_self ..)
  exact ⟨p,q,WideElems.Trod_stays hl r1 r2 h1 (fun x hx=>hb.same (hlt x (by simp [hx]))) (fun x hx=>hsp x (by simp [hx])),
   all_stays hl hb ts vs ds q (fun t ht'=>ht t (List.mem_cons_of_mem _ ht')) (fun x hx=>hlt x (by simp [hx])) (fun x hx=>hsp x (by simp [hx])) h2,rfl⟩
theorem args_read {W:World} {n base:Nat}:∀ (ts:List TypeId) (vs:List Value) (ds:List (DataW H)) (ps:List MemPlace),(∀ t ∈ ts,Zc0 P n t=true) ->
  (∀ (j:Nat) t v,ts[j]? = some t->vs[j]? = some v->Value.okWide P W .any base t v)->DataW.TrodAll enc P W 0 (fun _=>true) true ts vs ds ps ->
  ∃ ass:List (List AV),ass.length=ts.length/\(∀ (j:Nat) t bs,ts[j]? = some t->ass[j]? = some bs->Ty P n t bs)/\RelL (S0 W) ((ts.zip ass).map fun x=>Zc6 P x.1 x.2) vs/\ds.length=ts.length
 | [],vs,ds,ps,_,_,h=>by
  obtain ⟨rfl,rfl,rfl⟩:=trodAll_nil h
  exact ⟨[],rfl,by simp,.nil _,rfl⟩
 | t::ts,vs,ds,ps,hs,hv,h=>by
  obtain ⟨v,vs,d,ds,p,q,rfl,rfl,rfl,h1,h2⟩:=trodAll_cons h
  obtain ⟨bs,k1,k2⟩:=read_arg (hs t (List.mem_cons_self ..)) (hv 0 t v rfl rfl) h1
  obtain ⟨ass,m1,m2,m3,m4⟩:=args_read ts vs ds q (fun t ht=>hs t (List.mem_cons_of_mem _ ht)) (fun j t v hj hv'=>hv (j+1) t v (by simpa using hj) (by simpa using hv')) h2
  refine ⟨bs::ass,by simp [m1],fun j t' bs' hj ha => ?_,.cons (.data _ _ k2) m3,by simp [m4]⟩
  cases j with
  | zero=>simp at hj ha;subst hj;subst ha;exact k1
  | succ j=>exact m2 j t' bs' (by simpa using hj) (by simpa using ha)
theorem law_post {M:Mach} (hP:M.P ()=P) (hm:P.follows .mixedOrders=true) (hl:laidOutB P=true) {f:FuncId} {F:Func} {s:ChangeSpec} {n:Nat} {tb:TypeId} (hvars:s.vars=[]) (hrt:F.resultTypes = #[tb]) (htb:P.underlying tb=some .bool)
  (hserved:∀ t ∈ F.params.toList,Zc0 P n t=true/\P.readableRec t=true/\t<P.types.size)
  (hs:∀ (ds:List (DataW H)),ds.length=F.params.toList.length->s.fn H ds = { results:=[.lit (.bool true)],args:=ds })
  (hev:∀ ass:List (List AV),ass.length=F.params.toList.length->(∀ (j:Nat) t bs,F.params.toList[j]? = some t->ass[j]? = some bs->Ty P n t bs) ->
   Ev M (.pure f ((F.params.toList.zip ass).map fun x=>Zc6 P x.1 x.2)) (.bool true) [])
  {apart handsOn:Bool} {W:World} {base:Nat} {args:Array Value} {ds gs:List (DataW H)} {before:List MemPlace}
  (hval:∀ (j:Nat) t v,F.params[j]? = some t->args[j]? = some v->Value.okWide P W .any base t v) (hW:DataW.Whole enc P F.params.toList s.vars apart W args.toList ds gs before) :
  Calls P f args W fun e W' => ∃ v,e = .returned v/\s.post enc P F apart true handsOn false W args v W':=by
 have hW':=hW
 obtain ⟨p,q,hA,hV,rfl,hfz,hnd⟩:=hW
 rw [hvars] at hV
 obtain ⟨rfl,rfl⟩:=trodVars_none hV
 obtain ⟨ass,k1,k2,k3,k4⟩:=args_read F.params.toList args.toList ds p (fun t ht=>(hserved t ht).1) (fun j t v hj hv=>hval j t v (by simpa using hj) (by simpa using hv)) hA
 have hlt:∀ x ∈ p,x.block<W.heap.size:=fun x hx=>by simpa using hW'.lt x (by simpa using hx)
 obtain ⟨_,h2⟩:=(ev_sound (M:=M) (by rw [hP];exact hm) (hev ass k1 k2):Zf3 M f _ _) W.heap.size (fun _ _=>True) W args.toList (Nat.le_refl _) (fun _ _ _=>trivial) k3
 rw [hP] at h2
 refine Calls.mono h2 fun e W' he => ?_
 cases e with
 | returned cv =>
  obtain ⟨hb,hd⟩:=he
  cases hd
  have hpl:∀ x ∈ p,decide (x.block<W.heap.size)=true:=fun x hx=>by simpa using hlt x hx
  refine ⟨_,rfl,ds,[],p++[],[],p,[],hW',?_,?_,?_,hb.frame _,fun h=>by simp at h⟩
  ·rw [List.append_nil,hs ds k4,hrt]
   exact trodAll_mk1 (shut_bool htb true)
  ·rw [List.append_nil,hs ds k4]
   exact all_stays hl hb _ _ _ _ (fun t ht=>(hserved t ht).2) hlt hpl hA
  ·rw [List.append_nil,hs ds k4,hvars];rfl
 | panicked c=>exact he.elim
 | outgrown=>exact he.elim
end
end Go.Av

namespace Go.Av
namespace N
def fad (j a:Int):Int:=if a<=j then 0 else (a-1).tdiv j*a-(j*(a-1).tdiv j*((a-1).tdiv j+1)).tdiv 2
def cnd (j v b:Int):Prop:=0<=v+b-fad j (-b)
instance (j v b:Int):Decidable (cnd j v b):=inferInstanceAs (Decidable (_<=_))
def brkS (A j v a b:Int):Prop:=(max (-A) (a-j)<=b/\b<=min A (a+j))/\cnd j v b/\(b=max (-A) (a-j)\/¬cnd j v (b-1))
def Zbv (S A j:Int):Prop:=(1<=S/\S<=100000)/\(1<=A/\A<=100000)/\2<=j/\j<=100000
def inv (S A j v a:Int):Prop:=(0<=v /\ -A<=a/\a<=A)/\0<=v-fad j (-a)/\v+fad j a<=S
def safe (S A j v a:Int):Prop:=((0<=v/\v<=S) /\ -A<=a/\a<=A)/\((a>0->v+fad j a<=S)/\(¬a>0->v-fad j (-a)>=0))
end N
theorem ZaO {j a:Int} (h:a<=j):N.fad j a=0:=if_pos h
theorem tri (n:Int):∃ t,n*(n+1)=2*t:=by
 rcases (show n % 2=0\/n % 2=1 by omega) with h2 | h2
 ·obtain ⟨k,hk⟩:=Int.dvd_of_emod_eq_zero h2
  exact ⟨k*(n+1),by rw [hk,Int.mul_assoc]⟩
 ·obtain ⟨k,hk⟩:=Int.dvd_of_emod_eq_zero (show (n+1) % 2=0 by omega)
  exact ⟨n*k,by rw [hk,Int.mul_left_comm]⟩
theorem fad_step {j a:Int} (hj:1<=j) (h:a>j):N.fad j a=(a-j)+N.fad j (a-j):=by
 obtain ⟨n,hn⟩:∃ n,(a-1) / j=n:=⟨_,rfl⟩
 have e1:(a-1).tdiv j=n:=by rw [Int.tdiv_eq_ediv_of_nonneg (by omega)];exact hn
 have hn1:1<=n:=by rw [<- hn];exact (Int.le_ediv_iff_mul_le (by omega)).2 (by omega)
 have ea:N.fad j a=n*a-(j*n*(n+1)).tdiv 2:=by unfold N.fad;rw [if_neg (by omega),e1]
 obtain ⟨t,ht⟩:=tri n
 have et:(j*n*(n+1)).tdiv 2=j*t:=by
  have hp:0<=j*n*(n+1):=Int.mul_nonneg (Int.mul_nonneg (by omega) (by omega)) (by omega)
  rw [Int.tdiv_eq_ediv_of_nonneg hp,Int.mul_assoc,ht,Int.mul_left_comm]
  exact Int.mul_ediv_cancel_left _ (by omega)
 by_cases h2:a-j<=j
 ·rw [ZaO h2,ea,et]
  have:n=1:=by
   have:n<2:=by rw [<- hn];exact (Int.ediv_lt_iff_lt_mul (by omega)).2 (by omega)
   omega
  subst this
  have:t=1:=by omega
  subst this;omega
 ·have e2:(a-j-1).tdiv j=n-1:=by
   rw [Int.tdiv_eq_ediv_of_nonneg (by omega),show a-j-1=(a-1)+(-1)*j by omega,Int.add_mul_ediv_right _ _ (by omega),hn];omega
  have eb:N.fad j (a-j)=(n-1)*(a-j)-(j*(n-1)*(n-1+1)).tdiv 2:=by unfold N.fad;rw [if_neg (by omega),e2]
  obtain ⟨u,hu⟩:=tri (n-1)
  have eu:(j*(n-1)*(n-1+1)).tdiv 2=j*u:=by
   have hp:0<=j*(n-1)*(n-1+1):=Int.mul_nonneg (Int.mul_nonneg (by omega) (by omega)) (by omega)
   rw [Int.tdiv_eq_ediv_of_nonneg hp,Int.mul_assoc,hu,Int.mul_left_comm]
   exact Int.mul_ediv_cancel_left _ (by omega)
  rw [ea,et,eb,eu]
  have htu:t=u+n:=by
   have:n*(n+1)=(n-1)*(n-1+1)+2*n:=by
    rw [show n-1+1=n by omega,Int.sub_mul,Int.mul_add];omega
   omega
  subst htu
  grind
theorem ZgO {j:Int} (hj:1<=j):∀ (k:Nat) (a:Int),a<=k->0<=N.fad j a
 | 0,a,h=>by rw [ZaO (by omega)];omega
 | k+1,a,h=>by
  by_cases h2:a<=j
  ·rw [ZaO h2];omega
  ·rw [fad_step hj (by omega)]
   have:=ZgO hj k (a-j) (by omega)
   omega
theorem ZbI {j a:Int} (hj:1<=j):0<=N.fad j a:=ZgO hj a.toNat a (by omega)
theorem safe_inv {S A j v a:Int} (hl:N.Zbv S A j) (h:N.safe S A j v a):N.inv S A j v a:=by
 obtain ⟨⟨hv,ha⟩,h1,h2⟩:=h
 unfold N.Zbv at hl
 refine ⟨⟨hv.1,ha.1,ha.2⟩,?_,?_⟩
 ·by_cases hp:a>0
  ·rw [ZaO (by omega)];omega
  ·exact h2 hp
 ·by_cases hp:a>0
  ·exact h1 hp
  ·rw [ZaO (by omega)];omega
theorem brk_room {S A j v a:Int} (hl:N.Zbv S A j) (h:N.inv S A j v a):max (-A) (a-j)<=min A (a+j)/\N.cnd j v (min A (a+j)):=by
 obtain ⟨⟨hv,ha1,ha2⟩,h1,h2⟩:=h
 unfold N.Zbv at hl
 refine ⟨by omega,?_⟩
 unfold N.cnd
 by_cases hA:a+j<=A
 ·rw [show min A (a+j)=a+j by omega]
  by_cases hn:-a>j
  ·have:=fad_step (j:=j) (by omega) hn
   rw [show -(a+j) = -a-j by omega]
   omega
  ·rw [ZaO (by omega)];omega
 ·rw [show min A (a+j)=A by omega,ZaO (by omega)];omega
def N.Zf6 (S j v a:Int):Int:=if a>j then 2*S+3+a else 2*v+(if a=j then 1 else 0)+(if v=0/\a=0 then 0 else 1)
theorem Ze6 {S A j v a b:Int} (hl:N.Zbv S A j) (h:N.inv S A j v a) (hb:N.brkS A j v a b) (h0:¬(v=0/\a=0)):N.inv S A j (v+b) b/\0<=N.Zf6 S j (v+b) b/\N.Zf6 S j (v+b) b<N.Zf6 S j v a:=by
 obtain ⟨⟨hv,ha1,ha2⟩,h1,h2⟩:=h
 obtain ⟨⟨hb1,hb2⟩,hb3,hb4⟩:=hb
 unfold N.Zbv at hl
 have hfb:=ZbI (j:=j) (a:=-b) (by omega)
 have hfa:=ZbI (j:=j) (a:=-a) (by omega)
 have hfb2:=ZbI (j:=j) (a:=-(b-1)) (by omega)
 unfold N.cnd at hb3 hb4
 have key:(a>j->b=a-j)/\(¬a>j->a<j->v>0->b <= -1)/\(¬a>j->(a=j\/v=0)->b=0):=by
  refine ⟨fun hj => ?_,fun hj1 hj2 hj3 => ?_,fun hj1 hj2 => ?_⟩
  ·rcases hb4 with e | e
   ·omega
   ·exfalso
    by_cases hbe:b=a-j
    ·have hx:N.fad j (-(b-1))=0:=ZaO (by omega)
     omega
    ·have hx:N.fad j (-(b-1))=0:=ZaO (by omega)
     omega
  ·rcases hb4 with e | e
   ·omega
   ·by_cases hbn:b <= -1
    ·exact hbn
    ·exfalso
     have hx:N.fad j (-(b-1))=0:=ZaO (by omega)
     omega
  ·have hbge:0<=b:=by
    rcases hj2 with rfl | rfl
    ·omega
    ·omega
   rcases hb4 with e | e
   ·omega
   ·by_cases hb0:b=0
    ·exact hb0
    ·exfalso
     have hx:N.fad j (-(b-1))=0:=ZaO (by omega)
     omega
 have hinv:N.inv S A j (v+b) b:=by
  refine ⟨⟨by omega,by omega,by omega⟩,by omega,?_⟩
  by_cases hj:a>j
  ·have e:=key.1 hj
   have:=fad_step (j:=j) (by omega) hj
   rw [e]
   omega
  ·have:b<=0:=by
    by_cases hj2:a<j
    ·by_cases hv0:v>0
     ·have:=key.2.1 hj hj2 hv0;omega
     ·have:=key.2.2 hj (.inr (by omega));omega
    ·have:=key.2.2 hj (.inl (by omega));omega
   have hfa0:N.fad j a=0:=ZaO (by omega)
   rw [ZaO (show b<=j by omega)]
   omega
 refine ⟨hinv,?_⟩
 obtain ⟨⟨hv',hb1',hb2'⟩,_,hS'⟩:=hinv
 have hfbp:=ZbI (j:=j) (a:=b) (by omega)
 have hfap:=ZbI (j:=j) (a:=a) (by omega)
 unfold N.Zf6
 by_cases hj:a>j
 ·have e:=key.1 hj
  rw [if_pos hj]
  by_cases hbj:b>j
  ·rw [if_pos hbj];omega
  ·rw [if_neg hbj]
   split <;> split <;> omega
 ·rw [if_neg hj]
  by_cases hv0:v=0
  ·have e:=key.2.2 hj (.inr hv0)
   subst hv0;subst e
   rw [if_neg (show ¬(0:Int)>j by omega),if_neg (show ¬(0:Int)=j by omega),if_pos ⟨by omega,rfl⟩,if_neg h0]
   split <;> omega
  ·by_cases hj2:a=j
   ·have e:=key.2.2 hj (.inl hj2)
    subst e
    rw [if_neg (show ¬(0:Int)>j by omega),if_neg (show ¬(0:Int)=j by omega),if_pos hj2]
    split <;> first | omega | (split <;> omega)
   ·have e:=key.2.1 hj (by omega) (by omega)
    rw [if_neg (show ¬b>j by omega),if_neg (show ¬b=j by omega),if_neg hj2,if_neg h0]
    split <;> omega
end Go.Av

namespace Go.Av
namespace N
def bl (br:Int->Int->Int):Nat->Int->Int->List Int
 | 0,_,_=>[]
 | k+1,v,a=>if v=0/\a=0 then [] else (v+br v a)::bl br k (v+br v a) (br v a)
def brOk (S A j:Int) (br:Int->Int->Int):Prop:=∀ v a,inv S A j v a->brkS A j v a (br v a)
def bls (br:Int->Int->Int) (S j v a:Int):List Int:=bl br (Zf6 S j v a).toNat v a
def dst (br:Int->Int->Int) (S j v a:Int):Int:=(bls br S j v a).sum
end N
section
variable {S A j:Int} {br:Int->Int->Int}
theorem far_pos {v a:Int} (hl:N.Zbv S A j) (h:N.inv S A j v a) (h0:¬(v=0/\a=0)):0<N.Zf6 S j v a:=by
 obtain ⟨⟨hv,ha1,ha2⟩,_,hS⟩:=h
 unfold N.Zbv at hl
 unfold N.Zf6
 split
 ·omega
 ·split <;> omega
theorem bl_more (hl:N.Zbv S A j) (hb:N.brOk S A j br):∀ (k m:Nat) (v a:Int),N.inv S A j v a->N.Zf6 S j v a<=k->N.Zf6 S j v a<=m->N.bl br k v a=N.bl br m v a:=by
 intro k
 induction k with
 | zero =>
  intro m v a hi hk hm
  have h0:v=0/\a=0:=Classical.byContradiction fun y=>by have:=far_pos hl hi y;omega
  cases m with
  | zero=>rfl
  | succ m=>unfold N.bl;rw [if_pos h0]
 | succ k ih =>
  intro m v a hi hk hm
  by_cases h0:v=0/\a=0
  ·cases m with
   | zero=>unfold N.bl;rw [if_pos h0]
   | succ m=>unfold N.bl;rw [if_pos h0,if_pos h0]
  ·have hp:=far_pos hl hi h0
   obtain ⟨i1,i2,i3⟩:=Ze6 hl hi (hb v a hi) h0
   cases m with
   | zero=>omega
   | succ m =>
    unfold N.bl
    rw [if_neg h0,if_neg h0,ih m _ _ i1 (by omega) (by omega)]
theorem bls_rest (hl:N.Zbv S A j):N.bls br S j 0 0=[]:=by
 unfold N.Zbv at hl
 have e:N.Zf6 S j 0 0=0:=by
  unfold N.Zf6
  rw [if_neg (by omega),if_neg (by omega),if_pos ⟨rfl,rfl⟩];rfl
 unfold N.bls
 rw [e];rfl
theorem bls_step (hl:N.Zbv S A j) (hb:N.brOk S A j br) {v a:Int} (hi:N.inv S A j v a) (h0:¬(v=0/\a=0)):N.bls br S j v a=(v+br v a)::N.bls br S j (v+br v a) (br v a):=by
 have hp:=far_pos hl hi h0
 obtain ⟨i1,i2,i3⟩:=Ze6 hl hi (hb v a hi) h0
 unfold N.bls
 obtain ⟨k,hk⟩:∃ k:Nat,(N.Zf6 S j v a).toNat=k+1:=⟨(N.Zf6 S j v a).toNat-1,by omega⟩
 rw [hk,N.bl,if_neg h0,bl_more hl hb k (N.Zf6 S j (v+br v a) (br v a)).toNat _ _ i1 (by omega) (by omega)]
theorem dst_rest (hl:N.Zbv S A j):N.dst br S j 0 0=0:=by unfold N.dst;rw [bls_rest hl];rfl
theorem dst_step (hl:N.Zbv S A j) (hb:N.brOk S A j br) {v a:Int} (hi:N.inv S A j v a) (h0:¬(v=0/\a=0)):N.dst br S j v a=(v+br v a)+N.dst br S j (v+br v a) (br v a):=by
 unfold N.dst
 rw [bls_step hl hb hi h0,List.sum_cons]
theorem brk_ind (hl:N.Zbv S A j) (hb:N.brOk S A j br) {P:Int->Int->Prop} (h0:P 0 0) (h1:∀ v a,N.inv S A j v a->¬(v=0/\a=0)->N.inv S A j (v+br v a) (br v a)->P (v+br v a) (br v a)->P v a):∀ (k:Nat) (v a:Int),N.inv S A j v a->N.Zf6 S j v a<=k->P v a:=by
 intro k
 induction k with
 | zero =>
  intro v a hi hk
  by_cases hz:v=0/\a=0
  ·rw [hz.1,hz.2];exact h0
  ·have:=far_pos hl hi hz;omega
 | succ k ih =>
  intro v a hi hk
  by_cases hz:v=0/\a=0
  ·rw [hz.1,hz.2];exact h0
  ·obtain ⟨i1,i2,i3⟩:=Ze6 hl hi (hb v a hi) hz
   exact h1 v a hi hz i1 (ih _ _ i1 (by omega))
theorem dst_bd (hl:N.Zbv S A j) (hb:N.brOk S A j br) {v a:Int} (hi:N.inv S A j v a):0<=N.dst br S j v a/\N.dst br S j v a<=N.Zf6 S j v a*100000:=by
 refine brk_ind (P:=fun v a=>0<=N.dst br S j v a/\N.dst br S j v a<=N.Zf6 S j v a*100000) hl hb ?_ (fun v a hi hz hn h => ?_) (N.Zf6 S j v a).toNat v a hi (by omega)
 ·rw [dst_rest hl]
  have hl':=hl
  unfold N.Zbv at hl'
  unfold N.Zf6
  rw [if_neg (by omega),if_neg (by omega),if_pos ⟨rfl,rfl⟩];omega
 ·obtain ⟨i1,i2,i3⟩:=Ze6 hl hi (hb v a hi) hz
  rw [dst_step hl hb hi hz]
  have h1:=i1.1.1
  have h2:=i1.2.2
  have h3:=ZbI (j:=j) (a:=br v a) (by unfold N.Zbv at hl;omega)
  unfold N.Zbv at hl
  omega
theorem far_bd {v a:Int} (hl:N.Zbv S A j) (h:N.inv S A j v a):N.Zf6 S j v a<=500000:=by
 obtain ⟨⟨hv,ha1,ha2⟩,_,hS⟩:=h
 have h3:=ZbI (j:=j) (a:=a) (by unfold N.Zbv at hl;omega)
 unfold N.Zbv at hl
 unfold N.Zf6
 split
 ·omega
 ·split <;> split <;> omega
theorem ZcZ:∀ (l:List Int),(∀ x ∈ l,1<=x)->(l.length:Int)<=l.sum
 | [],_=>by simp
 | x::l,h=>by
  have h1:=h x (List.mem_cons_self ..)
  have h2:=ZcZ l fun y hy=>h y (List.mem_cons_of_mem _ hy)
  rw [List.sum_cons,List.length_cons];omega
end
end Go.Av

namespace Go.Av
def Zaj (d:AV):AV->Heap->Prop:=fun v L => ∃ d0,pureA L v=some d0/\allB (versA L v)/\d0.clean=true/\Weak d0 d
theorem Zes {L:Heap} {v d dq:AV} {bs:List Bool} (h1:pureA L v=some d) (h2:versA L v=bs) (h3:allB bs) (h4:d.clean=true) (h:Weak d dq):Zaj dq v L:=⟨d,h1,by rw [h2];exact h3,h4,h⟩
theorem pure_pq {M:Mach} {f:FuncId} {args:List AV} {d:AV} (fn:Func) (fi:Fi) (hf:(M.P ()).funcs[f]? = some fn) (hb:fn.body=some (cd fn)) (hn:(fn.name == "runtime.NumGoroutine")=false)
  (hi:(⟨fn.ntmps,fn.results.toList⟩:Fi)=fi) (h:Wp M (.run fi [.code (cd fn)] (ZaN 0 args) []) (Zaj d)):Ev M (.pure f args) d []:=
 .pure (.mono (ZfA fn fi hf hb hn hi h) fun _ _ ⟨d0,h1,h2,h3,h4⟩=>⟨d0,d,h1,(Zb5 _).1 h2,h3,h4,rfl,rfl⟩)
mutual
theorem clean_ren (f:Nat->Nat):∀ (a:AV),a.clean=true->renA f a=a
 | .any,h=>by simp [AV.clean] at h
 | .bool _,_=>rfl
 | .int _ _,_=>rfl
 | .str _,_=>rfl
 | .flt _,_=>rfl
 | .nilp,_=>rfl
 | .nilf,_=>rfl
 | .nilm,_=>rfl
 | .mapr _,h=>by simp [AV.clean] at h
 | .vnil,_=>rfl
 | .eptr ..,_=>rfl
 | .vec ..,_=>rfl
 | .ptr ..,h=>by simp [AV.clean] at h
 | .row ..,h=>by simp [AV.clean] at h
 | .ref ..,h=>by simp [AV.clean] at h
 | .agg cs,h=>by simp only [renA,cleanL_ren f cs (by simpa [AV.clean] using h)]
 | .tup cs,h=>by simp only [renA,cleanL_ren f cs (by simpa [AV.clean] using h)]
 | .func fn a b,h=>by
  simp only [AV.clean,Bool.and_eq_true] at h
  simp only [renA,cleanL_ren f a h.1,cleanL_ren f b h.2]
theorem cleanL_ren (f:Nat->Nat):∀ (l:List AV),cleanL l=true->renL f l=l
 | [],_=>rfl
 | c::l,h=>by
  simp only [cleanL,Bool.and_eq_true] at h
  simp only [renL,clean_ren f c h.1,cleanL_ren f l h.2]
end
mutual
theorem pureA_ren {L K:Heap} {f:Nat->Nat} (hb:∀ (r:Nat) row,L[r]? = some row->K[f r]? = some (Zak f row)):∀ (a:AV) {d:AV},pureA L a=some d->pureA K (renA f a)=some d/\versA K (renA f a)=versA L a
 | .any,_,h=>by simp [pureA] at h
 | .bool b,_,h=>⟨h,rfl⟩
 | .int k n,_,h=>⟨h,rfl⟩
 | .str s,_,h=>⟨h,rfl⟩
 | .flt s,_,h=>⟨h,rfl⟩
 | .nilp,_,h=>⟨h,rfl⟩
 | .nilf,_,h=>⟨h,rfl⟩
 | .nilm,_,h=>⟨h,rfl⟩
 | .mapr _,_,h=>by simp [pureA] at h
 | .vnil,_,h=>⟨h,rfl⟩
 | .eptr ..,_,h=>⟨h,rfl⟩
 | .vec ..,_,h=>⟨h,rfl⟩
 | .row r v,_,h=>by
  cases hr:L[r]? with
  | none=>simp [pureA,hr] at h
  | some row =>
   have h2:=hb r row hr
   obtain ⟨_,s2,_,_,_⟩:=ZaL f row
   simp only [pureA,hr] at h
   split at h
   ·rename_i hc
    have e:Zak f row=row:=by simp [Zak,hc]
    exact ⟨by simp only [renA,pureA,h2,e,hc,if_true];exact h,by simp only [renA,versA,Zb1,h2,hr,s2]⟩
   ·simp at h
 | .ref r v lo len,_,h=>by
  cases hr:L[r]? with
  | none=>simp [pureA,hr] at h
  | some row =>
   have h2:=hb r row hr
   obtain ⟨_,s2,_,_,_⟩:=ZaL f row
   simp only [pureA,hr] at h
   split at h
   ·rename_i hc
    have e:Zak f row=row:=by simp [Zak,hc]
    exact ⟨by simp only [renA,pureA,h2,e,hc,if_true];exact h,by simp only [renA,versA,Zb1,h2,hr,s2]⟩
   ·simp at h
 | .ptr r v i j,_,h=>by
  cases hr:L[r]? with
  | none=>simp [pureA,hr] at h
  | some row =>
   have h2:=hb r row hr
   obtain ⟨s1,s2,_,_,_⟩:=ZaL f row
   simp only [pureA,hr] at h
   split at h
   ·rename_i x hx
    split at h
    ·rename_i hcx
     have e:(Zak f row).elems=[x]:=by
      unfold Zak
      cases hc:row.clean with
      | true=>simpa using hx
      | false=>simp only [cond_false,hx,renL,clean_ren f x hcx]
     exact ⟨by simp only [renA,pureA,h2,e,hcx,s1,if_true];exact h,by simp only [renA,versA,Zb1,h2,hr,s2]⟩
    ·simp at h
   ·simp at h
 | .agg cs,_,h=>by
  cases hr:pureL L cs with
  | none=>simp [pureA,hr] at h
  | some ds =>
   obtain ⟨h1,h2⟩:=pureL_ren hb cs hr
   exact ⟨by simpa only [renA,pureA,h1,hr] using h,by simp only [renA,versA,h2]⟩
 | .tup cs,_,h=>by
  cases hr:pureL L cs with
  | none=>simp [pureA,hr] at h
  | some ds =>
   obtain ⟨h1,h2⟩:=pureL_ren hb cs hr
   exact ⟨by simpa only [renA,pureA,h1,hr] using h,by simp only [renA,versA,h2]⟩
 | .func fn a b,_,h=>by
  cases hr:pureL L a with
  | none=>simp [pureA,hr] at h
  | some ds =>
   cases hr2:pureL L b with
   | none=>simp [pureA,hr,hr2] at h
   | some ds2 =>
    obtain ⟨h1,h2⟩:=pureL_ren hb a hr
    obtain ⟨h3,h4⟩:=pureL_ren hb b hr2
    exact ⟨by simpa only [renA,pureA,h1,h3,hr,hr2] using h,by simp only [renA,versA,h2,h4]⟩
theorem pureL_ren {L K:Heap} {f:Nat->Nat} (hb:∀ (r:Nat) row,L[r]? = some row->K[f r]? = some (Zak f row)):∀ (l:List AV) {ds:List AV},pureL L l=some ds->pureL K (renL f l)=some ds/\versL K (renL f l)=versL L l
 | [],_,h=>⟨h,rfl⟩
 | c::l,_,h=>by
  cases hr:pureA L c with
  | none=>simp [pureL,hr] at h
  | some d =>
   cases hr2:pureL L l with
   | none=>simp [pureL,hr,hr2] at h
   | some ds2 =>
    obtain ⟨h1,h2⟩:=pureA_ren hb c hr
    obtain ⟨h3,h4⟩:=pureL_ren hb l hr2
    exact ⟨by simpa only [renL,pureL,h1,h3,hr,hr2] using h,by simp only [renL,versL,h2,h4]⟩
end
theorem back_at {L L1:Heap} {rs:List Nat} {rows:List Row} (hrows:ZaF L rs=some rows) (hnd:rs.Nodup) (r:Nat) (row:Row) (h:L1[r]? = some row) :
  (ZdW L rs L1)[Zb0 L.length rs r]? = some (Zak (Zb0 L.length rs) row):=by
 obtain ⟨g1,g2⟩:=ZaE hrows
 unfold ZdW
 by_cases hlt:r<rs.length
 ·have hb:Nat.blt r rs.length=true:=Nat.blt_eq.mpr hlt
  have e:Zb0 L.length rs r=rs[r]:=by simp [Zb0,hb,hlt]
  obtain ⟨row0,k1,_⟩:=g2 r _ (List.getElem?_eq_getElem hlt)
  have hin:rs[r]<L.length:=(List.getElem?_eq_some_iff.1 k1).1
  rw [e,List.getElem?_append_left (by rw [ZaI];exact hin)]
  exact Zdq rs _ _ hnd r _ _ (List.getElem?_eq_getElem hlt) (by rw [List.getElem?_map,List.getElem?_take_of_lt hlt,h];rfl) hin
 ·have hb:Nat.blt r rs.length=false:=by
   cases hb:Nat.blt r rs.length with
   | false=>rfl
   | true=>have:=Nat.blt_eq.mp hb;omega
  have e:Zb0 L.length rs r=L.length+(r-rs.length):=by simp [Zb0,hb]
  rw [e,List.getElem?_append_right (by rw [ZaI];omega),ZaI,List.getElem?_map,List.getElem?_drop]
  have e2:rs.length+(L.length+(r-rs.length)-L.length)=r:=by omega
  rw [e2,h];rfl
theorem Zan {M:Mach} {fi:Fi} {k:List Item} {env env':Vars} {L Lc:Heap} {d:AV} (rs:List Nat) (hn:Zbn L rs env=some (env',Lc)) (h:Wp M (.run fi k env' Lc) (Zaj d)):Wp M (.run fi k env L) (Zaj d):=by
 refine .narrow rs env' Lc hn (.mono h fun v L1 ⟨d0,hq1,hq2,hq3,hq4⟩ => ?_)
 unfold Zbn at hn
 split at hn
 ·rename_i rows hrows
  split at hn
  ·rename_i hc
   simp only [Bool.and_eq_true] at hc
   obtain ⟨p1,p2⟩:=pureA_ren (back_at (L1:=L1) hrows ((Zbl rs).1 hc.1)) v hq1
   exact ⟨d0,p1,by rw [p2];exact hq2,hq3,hq4⟩
  ·simp at hn
 ·simp at hn
theorem keep_spec {n:Nat} {v:AV} {K:Heap} (h:ZaB n v K=true):K.length=n/\(∀ r ∈ rowsA v,r<n) /\ ∀ row ∈ K,∀ r ∈ ZaC row,r<n:=by
 unfold ZaB at h
 simp only [Bool.and_eq_true,List.all_eq_true,Nat.blt_eq,Nat.beq_eq] at h
 exact ⟨h.1,h.2.1,h.2.2⟩
theorem renRow_same {f:Nat->Nat} {row:Row} (h:∀ r ∈ ZaC row,f r=r):Zak f row=row:=by
 unfold Zak
 cases hc:row.clean with
 | true=>rfl
 | false =>
  simp only [cond_false]
  rw [renL_ext (g:=fun r=>r) row.elems (fun r hr=>h r (by unfold ZaC;rw [hc];exact hr)),renL_id,<- hc]
theorem put_first {α:Type} (n:Nat) (l xs:List α) (h:xs.length=n) (hn:n<=l.length):(ZcS l (List.range n) xs).take n=xs:=by
 apply List.ext_getElem?
 intro i
 by_cases hi:i<n
 ·rw [List.getElem?_take_of_lt hi,Zdq (List.range n) l xs List.nodup_range i i xs[i] (by simp [hi]) (List.getElem?_eq_getElem (by omega)) (by omega),List.getElem?_eq_getElem (by omega)]
 ·rw [List.getElem?_eq_none (by rw [List.length_take];omega),List.getElem?_eq_none (by omega)]
theorem Zcp {M:Mach} {fi:Fi} {k:List Item} {env env':Vars} {L Lc:Heap} {v:AV} {K:Heap} (n:Nat) (hk:ZaB n v K=true) (hn:Zbn L (List.range n) env=some (env',Lc)) (h:Wp M (.run fi k env' Lc) (Zat v K)) :
  Wp M (.run fi k env L) (Zat v K):=by
 obtain ⟨k1,k2,k3⟩:=keep_spec hk
 have hle:n<=L.length:=by
  unfold Zbn at hn
  split at hn
  ·rename_i rows hr
   by_cases h0:n=0
   ·omega
   ·obtain ⟨row,q,_⟩:=(ZaE hr).2 (n-1) (n-1) (by rw [List.getElem?_range (by omega)])
    have:=(List.getElem?_eq_some_iff.1 q).1
    omega
  ·simp at hn
 refine .narrow _ env' Lc hn (.mono h fun x L1 ⟨e,hq⟩ => ?_)
 subst e
 have hb:∀ r,r<n->Zb0 L.length (List.range n) r=r:=by
  intro r hr
  unfold Zb0
  rw [show Nat.blt r (List.range n).length=true from Nat.blt_eq.mpr (by simpa using hr),cond_true]
  simp [hr]
 refine ⟨by rw [renA_ext (g:=fun r=>r) x (fun r hr=>hb r (k2 r hr)),renA_id],?_⟩
 rw [k1] at hq ⊢
 unfold ZdW
 rw [List.length_range,hq]
 have e2:K.map (Zak (Zb0 L.length (List.range n)))=K.map id:=List.map_congr_left fun row hr=>by
  rw [renRow_same fun r hrr=>hb r (k3 row hr r hrr)];rfl
 rw [e2,List.map_id,List.take_append_of_le_length (by rw [ZaI];exact hle)]
 exact put_first n L K k1 hle
theorem Zb3 {M:Mach} {f:FuncId} {args:List AV} {L:Heap} {v:AV} {K:Heap} (fn:Func) (fi:Fi) (hf:(M.P ()).funcs[f]? = some fn) (hb:fn.body=some (cd fn)) (hn:(fn.name == "runtime.NumGoroutine")=false)
  (hi:(⟨fn.ntmps,fn.results.toList⟩:Fi)=fi) (hk:ZaB L.length v K=true) (h:Wp M (.run fi [.code (cd fn)] (ZaN 0 args) L) (Zat v K)):Ev M (.own f args L) v K:=
 .drop hk (ZfA fn fi hf hb hn hi h)
end Go.Av

namespace Go.Av
open Go.Proofs
noncomputable def M1:Mach:=⟨fun _=>Try.prog,fun f=>[9,10,11,12,13,14,15,19,22,42,43,45,47,52,16,66].contains f⟩
end Go.Av

namespace Go.Av
open Go.Proofs
def fsq (b:Nat):Nat:=(FloatKind.f64.format.sqrt b).getD 0
theorem run_sqrt {b r:Nat} (h:FloatKind.f64.format.sqrt b=some r) (w:World):(callFunc 100 #[.float .f64 b]).run Try.prog w = .ok (.value (.float .f64 r)) w:=by
 rw [run_callFunc_extern (e:=Extern.MathSqrt.sqrt) Try.func100 (by kernel_rfl) (by kernel_rfl) (by kernel_rfl) (by kernel_rfl)]
 have e:(Extern.MathSqrt.sqrt #[.float .f64 b]).run Try.prog w = .ok (.float .f64 r) w:=by
  show (match FloatKind.f64.format.sqrt b with
   | some r=>pure (Value.float .f64 r)
   | none=>do pure (Value.float .f64 (<- choose (.nanBits .f64 b b))):Sem Value).run Try.prog w=_
  rw [h];rfl
 rw [e];rfl
theorem sqrt_calls {b r:Nat} (h:FloatKind.f64.format.sqrt b=some r) (w:World):Calls Try.prog 84 #[.float .f64 b] w fun e w'=>e = .returned (.float .f64 r)/\w'=w:=by
 have q:=run_sqrt h
 go_enter Try.func84,Try.ntmps84
 go_wp2_with (first | simp only [q])
 simp [bodyPost,results,Try.results84,go_sem]
theorem ev84 (b:Nat) (h:(FloatKind.f64.format.sqrt b).isSome=true):Ev M1 (.pure 84 [.flt b]) (.flt (fsq b)) []:=by
 refine .sem fun base acc w cargs hb ha hr => ?_
 obtain ⟨r,hr2⟩:=Option.isSome_iff_exists.1 h
 obtain ⟨hl,hx⟩:=hr
 match cargs,hl with
 | [v],_ =>
  have e:v = .float .f64 b:=rel_flt (hx 0 (.flt b) v rfl rfl)
  subst e
  refine ⟨fun w=>call_runs Try.func84 rfl (by kernel_rfl) w,(sqrt_calls hr2 w).mono fun e w' ⟨he,hw⟩ => ?_⟩
  subst he hw
  refine ⟨.flt (fsq b),⟨rfl,rfl⟩,⟨rfl,rfl,rfl,Nat.le_refl _,fun _ _=>rfl⟩,?_⟩
  ·unfold fsq;rw [hr2];exact .flt r
end Go.Av

namespace Go.Av
abbrev vi:Int->AV:=AV.int .i64
abbrev us (l:List Int):List AV:=List.map (AV.int .u32) l
abbrev wi (x:Int):Int:=IntKind.i64.wrap x
abbrev vf (l:List AV):AV:=.vec false 1 l
abbrev ag (l:List AV):AV:=.agg l
abbrev tu (l:List AV):AV:=.tup l
abbrev vb (b:Bool):AV:=.bool b
abbrev gi {α:Type} (l:List α) (i:Nat):Option α:=l.get?Internal i
theorem b0:allB []:=trivial
theorem bc {b:Bool} {l:List Bool} (h:b=true) (r:allB l):allB (b::l):=⟨h,r⟩
theorem q0:allP []:=trivial
theorem qc {p:Prop} {l:List Prop} (h:p) (r:allP l):allP (p::l):=⟨h,r⟩
theorem c0 {M:Mach}:allC M []:=trivial
theorem cc {M:Mach} {c:CF} {l:List CF} (h:c.cond=true->c.ok M) (r:allC M l):allC M (c::l):=⟨h,r⟩
theorem xq {P A B : Prop} (H : (P -> A) /\ (¬P -> B)) : (P /\ A) \/ (¬P /\ B) := (Classical.em P).elim (fun k => .inl ⟨k, H.1 k⟩) fun k => .inr ⟨k, H.2 k⟩
theorem xm (p:Prop):p\/¬p:=Classical.em p
abbrev pc (f:Nat) (args:List AV) (v:AV):CF:=⟨true,false,f,args,[],v,[]⟩
theorem ce {M:Mach} {f:Nat} {args:List AV} {v:AV} {l:List CF} (h:Ev M (.pure f args) v []) (r:allC M l):allC M (pc f args v::l):=⟨fun _=>h,r⟩
def retP (M:Mach) (fi:Fi) (G:Given) (n:Nat) (ds:List Bool) (todo:List Item) (env:Vars) (L:Heap):Option (AV × List Bool × List Prop × List CF):=
 match path M fi G n ds ⟨todo,env,L,[],[],[]⟩ with
 | some ⟨.code .ret::_,env',L',asm,eqs,calls⟩=>match finish M.P fi env' L' with
  | some v=>match pureA L' v with
   | some d=>bif (versA L' v).all id&&d.clean then some (d,asm,eqs,calls) else none
   | none=>none
  | none=>none
 | _=>none
theorem ZaX {M:Mach} {fi:Fi} {G:Given} (n:Nat) (ds:List Bool) {todo:List Item} {env:Vars} {L:Heap} {asm:List Bool} {eqs:List Prop} {calls:List CF} (d:AV) {dq:AV}
  (h:retP M fi G n ds todo env L=some (d,asm,eqs,calls)) (hA:allB asm) (hQ:allP eqs) (hC:allC M calls) (w:Weak d dq):Wp M (.run fi todo env L) (Zaj dq):=by
 unfold retP at h
 split at h
 ·rename_i k env' L' asm' eqs' calls' hp
  split at h
  ·rename_i v hf
   split at h
   ·rename_i d' hd
    cases hb:((versA L' v).all id&&d'.clean) with
    | false=>rw [hb] at h;simp at h
    | true =>
     rw [hb] at h
     simp only [cond_true,Option.some.injEq,Prod.mk.injEq] at h
     obtain ⟨rfl,rfl,rfl,rfl⟩:=h
     rw [Bool.and_eq_true,List.all_eq_true] at hb
     exact Zac n ds _ hp hA hQ hC (.ret hf ⟨_,hd,(Zb5 _).2 hb.1,hb.2,w⟩)
   ·simp at h
  ·simp at h
 ·simp at h
theorem Zap {M:Mach} {fi:Fi} {G:Given} (n:Nat) (ds:List Bool) {todo:List Item} {env:Vars} {L:Heap} {asm:List Bool} {eqs:List Prop} {calls:List CF} (d:AV) {dq:AV}
  (h:retP M fi G n ds todo env L=some (d,asm,eqs,calls)) (hA:allB asm) (hQ:allP eqs) (hC:allC M calls) (w:d=dq):Wp M (.run fi todo env L) (Zaj dq):=
 ZaX n ds d h hA hQ hC (by rw [w];exact .refl _)
theorem pcl {M:Mach} {f:FuncId} {args:List AV} {d:AV} (fn:Func) (fi:Fi) (h0:((M.P ()).funcs[f]?,fn.body,fn.name == "runtime.NumGoroutine",(⟨fn.ntmps,fn.results.toList⟩:Fi))=(some fn,some (cd fn),false,fi)) (h:Wp M (.run fi [.code (cd fn)] (ZaN 0 args) []) (Zaj d)):Ev M (.pure f args) d []:=
 pure_pq fn fi (congrArg (fun x=>x.1) h0) (congrArg (fun x=>x.2.1) h0) (congrArg (fun x=>x.2.2.1) h0) (congrArg (fun x=>x.2.2.2) h0) h
abbrev wc (M:Mach) (fi:Fi) (fn:Func) (args:List AV) (d:AV):Prop:=Wp M (.run fi [.code (cd fn)] (ZaN 0 args) []) (Zaj d)
end Go.Av

namespace Go.Av
open Go.Proofs
set_option maxRecDepth 100000
def fi51:Fi:=⟨65,[.tmp 2]⟩
def kp51:List (Nat × List Nat):=[(0,[1]),(1,[3,4,5]),(2,[6]),(3,[6,7]),(4,[6,7,54]),(5,[6,7]),(6,[6,7,61]),(7,[6,7]),(8,[2])]
def tLe_at (x y z u v w r t b:Int) (Q:AV->Heap->Prop):Prop:=Wp M1 (.run fi51 (atC (cd Try.f51) []) [(0,.agg [.int .i64 x,.int .i64 y,.int .i64 z,.int .i64 u,.int .i64 v,.int .i64 w,.int .i64 r,.int .i64 t,.int .i64 b])] []) Q
def Zfm (n s:Int) (Q:AV->Heap->Prop):Prop:=Wp M1 (.run fi51 (atC (cd Try.f51) [1,1,1,1,0,0,0]) [(6,.int .i64 s),(7,.int .i64 n)] []) Q
def Zfl (n s:Int) (Q:AV->Heap->Prop):Prop:=Wp M1 (.run fi51 (atC (cd Try.f51) [1,1,1,1,1,0,0,0]) [(6,.int .i64 s),(7,.int .i64 n)] []) Q
theorem call51 {args:List AV} {d:AV} (h:wc M1 fi51 Try.f51 args d):Ev M1 (.pure 51 args) d []:=pcl _ _ (by kernel_rfl) h
theorem tLe (x y z u v w r t b:Int)  (dq:AV) (H :
  (-9223372036854775808<=u-x/\u-x<=9223372036854775807) /\
  (-9223372036854775808<=v-y/\v-y<=9223372036854775807) /\
  (-9223372036854775808<=w-z/\w-z<=9223372036854775807) /\
  (-9223372036854775808<=(u-x)*(u-x)/\(u-x)*(u-x)<=9223372036854775807) /\
  (-9223372036854775808<=(v-y)*(v-y)/\(v-y)*(v-y)<=9223372036854775807) /\
  (-9223372036854775808<=(u-x)*(u-x)+(v-y)*(v-y)/\(u-x)*(u-x)+(v-y)*(v-y)<=9223372036854775807) /\
  (-9223372036854775808<=(w-z)*(w-z)/\(w-z)*(w-z)<=9223372036854775807) /\
  (-9223372036854775808<=(u-x)*(u-x)+(v-y)*(v-y)+(w-z)*(w-z)/\(u-x)*(u-x)+(v-y)*(v-y)+(w-z)*(w-z)<=9223372036854775807) /\
  ((FloatKind.f64.format.sqrt (FloatKind.f64.nearest ((u-x)*(u-x)+(v-y)*(v-y)+(w-z)*(w-z)))).isSome=true) /\
  (f2iB .i64 (fsq (FloatKind.f64.nearest ((u-x)*(u-x)+(v-y)*(v-y)+(w-z)*(w-z))))=true) /\
  Zfm (f2iV (fsq (FloatKind.f64.nearest ((u-x)*(u-x)+(v-y)*(v-y)+(w-z)*(w-z))))) ((u-x)*(u-x)+(v-y)*(v-y)+(w-z)*(w-z)) (Zaj dq)) :
 tLe_at x y z u v w r t b (Zaj dq):=by
 unfold tLe_at
 obtain ⟨k1,H⟩:=H
 have w2:wi (u-x)=u-x:=wI64 k1
 obtain ⟨k3,H⟩:=H
 have w4:wi (v-y)=v-y:=wI64 k3
 obtain ⟨k5,H⟩:=H
 have w6:wi (w-z)=w-z:=wI64 k5
 obtain ⟨k7,H⟩:=H
 have w8:wi ((u-x)*(u-x))=(u-x)*(u-x):=wI64 k7
 obtain ⟨k9,H⟩:=H
 have w10:wi ((v-y)*(v-y))=(v-y)*(v-y):=wI64 k9
 obtain ⟨k11,H⟩:=H
 have w12:wi ((u-x)*(u-x)+(v-y)*(v-y))=(u-x)*(u-x)+(v-y)*(v-y):=wI64 k11
 obtain ⟨k13,H⟩:=H
 have w14:wi ((w-z)*(w-z))=(w-z)*(w-z):=wI64 k13
 obtain ⟨k15,H⟩:=H
 have w16:wi ((u-x)*(u-x)+(v-y)*(v-y)+(w-z)*(w-z))=(u-x)*(u-x)+(v-y)*(v-y)+(w-z)*(w-z):=wI64 k15
 obtain ⟨k17,k19,H⟩:=H
 exact Zac (G:=Zab kp51 [(3,2,.call (AV.flt (fsq (FloatKind.f64.nearest ((u-x)*(u-x)+(v-y)*(v-y)+(w-z)*(w-z))))) none)] []) 1000 [] ⟨(atC (cd Try.f51) [1,1,1,1,0,0,0]),[(6,vi (wi (wi (wi (wi (u-x)*wi (u-x))+wi (wi (v-y)*wi (v-y)))+wi (wi (w-z)*wi (w-z))))),(7,vi (f2iV (fsq (FloatKind.f64.nearest ((u-x)*(u-x)+(v-y)*(v-y)+(w-z)*(w-z))))))],[⟨[ag [vi x,vi y,vi z,vi u,vi v,vi w,vi r,vi t,vi b]],9,0,false,false⟩],[true,true,true,true,true,true,match Ieee.Datum.toInt Ieee.Toward.zero (FloatKind.f64.decode (fsq (FloatKind.f64.nearest ((u-x)*(u-x)+(v-y)*(v-y)+(w-z)*(w-z))))) with | some n=>decide (IntKind.i64.min<=n)&&decide (n<=IntKind.i64.max) | none=>false],[],[pc 84 [AV.flt (FloatKind.f64.nearest (wi (wi (wi (wi (u-x)*wi (u-x))+wi (wi (v-y)*wi (v-y)))+wi (wi (w-z)*wi (w-z)))))] (AV.flt (fsq (FloatKind.f64.nearest ((u-x)*(u-x)+(v-y)*(v-y)+(w-z)*(w-z)))))]⟩ (by kernel_rfl) (bc rfl (bc rfl (bc rfl (bc rfl (bc rfl (bc rfl (bc ((Zas _).2 k19) b0))))))) q0 (ce (by (try rw [w2]);(try rw [w4]);(try rw [w6]);(try rw [w8]);(try rw [w10]);(try rw [w12]);(try rw [w14]);(try rw [w16]);all_goals exact (@ev84 (FloatKind.f64.nearest ((u-x)*(u-x)+(v-y)*(v-y)+(w-z)*(w-z))) k17)) c0) (by (try rw [w2]);(try rw [w4]);(try rw [w6]);(try rw [w8]);(try rw [w10]);(try rw [w12]);(try rw [w14]);(try rw [w16]);all_goals exact Zan [] (by kernel_rfl) H)
theorem tLeD (n s:Int)  (dq:AV) (H :
  (((n>0)/\(IntKind.i64.wrap (IntKind.i64.wrap (n-1)*IntKind.i64.wrap (n-1))>=s))->(-9223372036854775808<=n-1/\n-1<=9223372036854775807) /\
   Zfm (n-1) s (Zaj dq)) /\
  (¬((n>0)/\(IntKind.i64.wrap (IntKind.i64.wrap (n-1)*IntKind.i64.wrap (n-1))>=s))->Zfl n s (Zaj dq))) :
 Zfm n s (Zaj dq):=by
 unfold Zfm
 rcases xq H with ⟨d2,H⟩|⟨d2,H⟩
 ·obtain ⟨k3,H⟩:=H
  have w4:wi (n-1)=n-1:=wI64 k3
  exact Zac (G:=Zab kp51 [] []) 1000 [true] ⟨(atC (cd Try.f51) [1,1,1,1,0,0,0]),[(6,vi s),(7,vi (wi (n-1)))],[],_,[],_⟩ (by kernel_rfl) (bc (Zam ((Za9 Zad Zad).2 d2)) b0) q0 c0 (by (try rw [w4]);all_goals exact H)
 ·exact Zac (G:=Zab kp51 [] []) 1000 [false] ⟨(atC (cd Try.f51) [1,1,1,1,1,0,0,0]),[(6,vi s),(7,vi n),(54,vb (bif decide (n>0) then decide (wi (wi (n-1)*wi (n-1))>=s) else false))],[],_,[],_⟩ (by kernel_rfl) (bc (Zal (fun h=>d2 ((Za9 Zad Zad).1 h))) b0) q0 c0 (Wp.less [6,7] H)
theorem tLeU (n s:Int)  (dq:AV) (H :
  (-9223372036854775808<=n*n/\n*n<=9223372036854775807) /\
  ((n*n<s)->(-9223372036854775808<=n+1/\n+1<=9223372036854775807) /\
   Zfl (n+1) s (Zaj dq)) /\
  (¬(n*n<s)->vi n=dq)) :
 Zfl n s (Zaj dq):=by
 unfold Zfl
 obtain ⟨k1,H⟩:=H
 have w2:wi (n*n)=n*n:=wI64 k1
 have i3:(decide (wi (n*n)<s))=true ↔ (n*n<s):=(by (try rw [w2]);all_goals exact Zad)
 rcases xq H with ⟨d4,H⟩|⟨d4,H⟩
 ·obtain ⟨k5,H⟩:=H
  have w6:wi (n+1)=n+1:=wI64 k5
  exact Zac (G:=Zab kp51 [] []) 1000 [true] ⟨(atC (cd Try.f51) [1,1,1,1,1,0,0,0]),[(6,vi s),(7,vi (wi (n+1)))],[],_,[],_⟩ (by kernel_rfl) (bc (Zam (i3.2 d4)) b0) q0 c0 (by (try rw [w6]);all_goals exact H)
 ·exact Zap (G:=Zab kp51 [] []) 1000 [false] (vi n) (by kernel_rfl) (bc (Zal (fun h=>d4 (i3.1 h))) b0) q0 c0 H
end Go.Av

namespace Go.Av
open Ieee
theorem read_w {W:Nat} (h1:4503599627370496<=W) (h2:W<9218868437227405312):double.read W = .number false (4503599627370496+W % 4503599627370496) (-1074+(W / 4503599627370496-1:Nat)):=by
 have e1:double.signWeight=9223372036854775808:=by decide
 have e2:double.binade=4503599627370496:=by decide
 have e3:double.infRung=9218868437227405312:=by decide
 have e4:double.leastPlace = -1074:=by decide
 unfold Format.read
 simp only [e1,e2,e3,e4]
 rw [Nat.mod_eq_of_lt (show W<9223372036854775808 by omega),if_neg (by omega),if_pos (by omega)]
 have:(W / 9223372036854775808 % 2==1)=false:=by rw [Nat.div_eq_of_lt (by omega)];rfl
 rw [this]
theorem cut0 (n:Nat):Toward.even.cut false n 0=n:=by
 unfold Toward.cut
 simp [Nat.mod_one]
theorem cut_le (n d:Nat) (h:d<=n.log2+2):∃ e,e<=1/\Toward.even.cut false n d=n / 2 ^ d+e:=by
 unfold Toward.cut
 rw [Nat.min_eq_left h,Nat.one_shiftLeft]
 exact ⟨_,Bool.toNat_le _,rfl⟩
theorem log_bd {m:Nat} (h:m ≠ 0):2 ^ m.log2<=m/\m<2 ^ (m.log2+1):=⟨Nat.log2_self_le h,Nat.lt_log2_self⟩
theorem pow52:(2:Nat) ^ 52=4503599627370496:=by decide
theorem near_w {mag:Nat} {p:Int} (hm:mag ≠ 0) (h1:-1000<=(mag.log2:Int)+p) (h2:(mag.log2:Int)+p<=900) :
  ∃ (m:Nat) (q:Int),double.read (double.nearest false mag p) = .number false m q/\(4503599627370496<=m/\m<9007199254740992) /\
   (q=(mag.log2:Int)+p-52\/q=(mag.log2:Int)+p-51)/\(mag.log2<=52->m=mag*2 ^ (52-mag.log2)/\q=(mag.log2:Int)+p-52):=by
 have e2:double.binade=4503599627370496:=by decide
 have e3:double.infRung=9218868437227405312:=by decide
 have e4:double.leastPlace = -1074:=by decide
 have e5:double.fractionBits=52:=rfl
 obtain ⟨b1,b2⟩:=log_bd hm
 have hk:∃ k,Toward.even.cut false (mag <<< (p-(p+(mag.log2:Int)-52)).toNat) ((p+(mag.log2:Int)-52)-p).toNat=k/\(4503599627370496<=k/\k<=9007199254740992)/\(mag.log2<=52->k=mag*2 ^ (52-mag.log2)/\k<9007199254740992):=by
  rcases Nat.lt_or_ge 52 mag.log2 with h | h
  ·rw [show (p-(p+(mag.log2:Int)-52)).toNat=0 by omega,show ((p+(mag.log2:Int)-52)-p).toNat=mag.log2-52 by omega,Nat.shiftLeft_zero]
   obtain ⟨e,he,hc⟩:=cut_le mag (mag.log2-52) (by omega)
   have p1:2 ^ mag.log2=4503599627370496*2 ^ (mag.log2-52):=by rw [<- pow52,<- Nat.pow_add];congr 1;omega
   have p2:2 ^ (mag.log2+1)=9007199254740992*2 ^ (mag.log2-52):=by rw [Nat.pow_succ,p1];omega
   have pp:0<2 ^ (mag.log2-52):=Nat.pow_pos (by decide)
   have l1:4503599627370496<=mag / 2 ^ (mag.log2-52):=(Nat.le_div_iff_mul_le pp).2 (by rw [<- p1];exact b1)
   have l2:mag / 2 ^ (mag.log2-52)<9007199254740992:=(Nat.div_lt_iff_lt_mul pp).2 (by rw [<- p2];exact b2)
   exact ⟨_,hc,⟨by omega,by omega⟩,fun x=>absurd x (by omega)⟩
  ·rw [show (p-(p+(mag.log2:Int)-52)).toNat=52-mag.log2 by omega,show ((p+(mag.log2:Int)-52)-p).toNat=0 by omega,cut0,Nat.shiftLeft_eq]
   have pp:0<2 ^ (52-mag.log2):=Nat.pow_pos (by decide)
   have p1:4503599627370496=2 ^ mag.log2*2 ^ (52-mag.log2):=by rw [<- pow52,<- Nat.pow_add];congr 1;omega
   have p2:9007199254740992=2 ^ (mag.log2+1)*2 ^ (52-mag.log2):=by rw [Nat.pow_succ,Nat.mul_right_comm,<- p1]
   have l1:4503599627370496<=mag*2 ^ (52-mag.log2):=by rw [p1];exact Nat.mul_le_mul_right _ b1
   have l2:mag*2 ^ (52-mag.log2)<9007199254740992:=by rw [p2];exact Nat.mul_lt_mul_of_pos_right b2 pp
   exact ⟨_,rfl,⟨l1,by omega⟩,fun _=>⟨rfl,l2⟩⟩
 obtain ⟨k,hk,⟨k1,k2⟩,k3⟩:=hk
 unfold Format.nearest
 rw [if_neg hm]
 simp only [e2,e3,e4,e5]
 have em:max (p+(mag.log2:Int)-(52:Nat)) (-1074)=p+(mag.log2:Int)-52:=by omega
 rw [em,hk]
 obtain ⟨t,ht⟩:∃ t:Nat,(p+(mag.log2:Int)-52 - -1074).toNat=t:=⟨_,rfl⟩
 have tI:(t:Int)=p+(mag.log2:Int)+1022:=by omega
 rw [ht,Nat.min_eq_left (by omega)]
 show ∃ m q,double.read (t*4503599627370496+k)=_/\_
 rw [read_w (by omega) (by omega)]
 rcases Nat.lt_or_ge k 9007199254740992 with h | h
 ·have d:(t*4503599627370496+k) / 4503599627370496=t+1:=by omega
  have r:(t*4503599627370496+k) % 4503599627370496=k-4503599627370496:=by omega
  rw [d,r]
  refine ⟨_,_,rfl,⟨by omega,by omega⟩,.inl (by omega),fun x=>⟨by rw [<- (k3 x).1];omega,by omega⟩⟩
 ·have d:(t*4503599627370496+k) / 4503599627370496=t+2:=by omega
  have r:(t*4503599627370496+k) % 4503599627370496=0:=by omega
  rw [d,r]
  exact ⟨_,_,rfl,⟨by omega,by omega⟩,.inr (by omega),fun x=>absurd (k3 x).2 (by omega)⟩
theorem rootFrom_le (n:Nat):∀ (t r:Nat),r*r<=n->Datum.rootFrom n t r*Datum.rootFrom n t r<=n:=by
 intro t
 induction t with
 | zero=>intro r h;exact h
 | succ t ih =>
  intro r h
  unfold Datum.rootFrom
  simp only
  apply ih
  split
  ·assumption
  ·exact h
end Go.Av

namespace Go.Av
open Ieee
theorem root_w {M:Nat} {i:Int} (h1:4503599627370496<=M) (h2:M<9007199254740992) (hi:-52<=i) (hi2:i<=0) :
  ∃ (m:Nat) (q:Int),Datum.root 54 (.number false M i)=some (.number false m q)/\m ≠ 0/\m<72057594037927936 /\ -60<=q/\q <= -29:=by
 have lg:M.log2=52:=(Nat.log2_eq_iff (by omega)).2 ⟨by rw [pow52];exact h1,by rw [show (2:Nat) ^ (52+1)=9007199254740992 by decide];exact h2⟩
 unfold Datum.root
 simp only [lg,Bool.false_eq_true,if_false,show ¬M=0 by omega]
 obtain ⟨e,he⟩:∃ e:Nat,((i-((2*54-52:Nat):Int)) % 2).toNat=e:=⟨_,rfl⟩
 have e1:e<=1:=by omega
 rw [he]
 obtain ⟨n,hn⟩:∃ n:Nat,M <<< (2*54-52+e)=n:=⟨_,rfl⟩
 rw [hn]
 have n1:n=M*2 ^ (56+e):=by rw [<- hn,Nat.shiftLeft_eq]
 have n2:0<n:=by rw [n1];exact Nat.mul_pos (by omega) (Nat.pow_pos (by decide))
 have n3:n<1298074214633706907132624082305024:=by
  have p:2 ^ (56+e)<=144115188075855872:=by
   rcases (show e=0\/e=1 by omega) with rfl | rfl <;> decide
  calc n=M*2 ^ (56+e):=n1
   _<=M*144115188075855872:=Nat.mul_le_mul_left _ p
   _<1298074214633706907132624082305024:=by omega
 obtain ⟨w,hw⟩:∃ w:Nat,Datum.rootFrom n (n.log2 / 2+1) 0=w:=⟨_,rfl⟩
 have w1:w*w<=n:=by rw [<- hw];exact rootFrom_le n _ 0 (Nat.zero_le _)
 rw [hw]
 have w2:w<36028797018963968:=by
  rcases Nat.lt_or_ge w 36028797018963968 with h | h
  ·exact h
  ·have:=Nat.mul_le_mul h h;omega
 have b1:(w*w != n).toNat<=1:=Bool.toNat_le _
 refine ⟨_,_,rfl,?_,by omega,by omega,by omega⟩
 intro z
 have w0:w=0:=by omega
 subst w0
 have:((0*0 != n):Bool)=true:=by simpa using (by omega:(0:Nat) ≠ n)
 rw [this] at z;simp at z
theorem toInt_w {m:Nat} {q:Int} (hm:m<9007199254740992) (h1:-200<=q) (h2:q <= -25):∃ n:Int,Datum.toInt .zero (.number false m q)=some n/\0<=n/\n<=268435456:=by
 refine ⟨_,rfl,?_⟩
 unfold signed
 simp only [Bool.false_eq_true,if_false,Nat.shiftLeft_zero]
 refine ⟨Int.natCast_nonneg _,?_⟩
 have hq:q.toNat=0:=by omega
 rw [hq,Nat.shiftLeft_zero]
 unfold Toward.cut
 simp only [Bool.toNat_false,Nat.add_zero]
 have lg:m.log2<53:=by
  by_cases z:m=0
  ·subst z;decide
  ·exact (Nat.log2_lt z).2 (by rw [show (2:Nat) ^ 53=9007199254740992 by decide];exact hm)
 have key:m / 1 <<< min (-q).toNat (m.log2+2)<=268435456:=by
  rw [Nat.one_shiftLeft]
  rcases Nat.lt_or_ge m.log2 28 with h | h
  ·have:m<2 ^ 28:=by
    by_cases z:m=0
    ·subst z;decide
    ·exact (Nat.log2_lt z).1 h
   have:=Nat.div_le_self m (2 ^ min (-q).toNat (m.log2+2))
   omega
  ·have p:(2:Nat) ^ 25<=2 ^ min (-q).toNat (m.log2+2):=Nat.pow_le_pow_right (by decide) (by omega)
   have:=Nat.div_le_div_left (a:=m) p (show 0<2 ^ 25 by decide)
   omega
 omega
theorem len_nat {s:Nat} (h:s<9007199254740992):∃ r:Nat,double.sqrt (double.nearest false s 0)=some r /\ ∃ n:Int,(double.read r).toInt .zero=some n/\0<=n/\n<=268435456:=by
 by_cases z:s=0
 ·subst z;exact ⟨0,by kernel_rfl,0,by kernel_rfl,by decide,by decide⟩
 have lg:s.log2<=52:=by
  have:=(Nat.log2_lt z).2 (show s<2 ^ 53 by rw [show (2:Nat) ^ 53=9007199254740992 by decide];exact h)
  omega
 obtain ⟨M,i,r1,⟨m1,m2⟩,_,r4⟩:=near_w z (p:=0) (by omega) (by omega)
 obtain ⟨_,iq⟩:=r4 lg
 obtain ⟨m,q,s1,s2,s3,s4,s5⟩:=root_w m1 m2 (i:=i) (by omega) (by omega)
 have lm:m.log2<56:=(Nat.log2_lt s2).2 (by rw [show (2:Nat) ^ 56=72057594037927936 by decide];exact s3)
 obtain ⟨m',q',t1,⟨t2,t3⟩,t4,_⟩:=near_w s2 (p:=q) (by omega) (by omega)
 refine ⟨double.nearest false m q,?_,?_⟩
 ·unfold Format.sqrt
  rw [r1,show double.fractionBits+2=54 from rfl,s1];rfl
 ·rw [t1]
  exact toInt_w t3 (by omega) (by omega)
theorem len_float {s:Int} (h0:0<=s) (h:s<9007199254740992):(FloatKind.f64.format.sqrt (FloatKind.f64.nearest s)).isSome=true /\
  ∃ n:Int,(FloatKind.f64.decode ((FloatKind.f64.format.sqrt (FloatKind.f64.nearest s)).getD 0)).toInt .zero=some n/\0<=n/\n<=268435456:=by
 obtain ⟨r,hr,n,hn⟩:=len_nat (s:=s.natAbs) (by omega)
 have e:FloatKind.f64.nearest s=double.nearest false s.natAbs 0:=by
  show double.write (.number (decide (s<0)) s.natAbs 0)=_
  rw [decide_eq_false (by omega)];rfl
 rw [e]
 have e2:FloatKind.f64.format.sqrt (double.nearest false s.natAbs 0)=some r:=hr
 rw [e2]
 exact ⟨rfl,n,hn⟩
end Go.Av

namespace Go.Av
open Go.Proofs
namespace N
def isC (s n:Int):Prop:=0<=n/\s<=n*n/\(n=0\/(n-1)*(n-1)<s)
noncomputable def csq (s:Int):Int:=Classical.epsilon fun n=>isC s n
noncomputable def len (a b c:Int):Int:=csq (a*a+b*b+c*c)
def cl (d:Int):Prop:=-50000000<=d/\d<=50000000
end N
theorem isC_one {s m n:Int} (h:N.isC s m) (k:N.isC s n):m=n:=by
 obtain ⟨h1,h2,h3⟩:=h
 obtain ⟨k1,k2,k3⟩:=k
 rcases Int.lt_trichotomy m n with q | q | q
 ·rcases k3 with rfl | k3
  ·omega
  ·have:=Int.mul_le_mul (show m<=n-1 by omega) (show m<=n-1 by omega) h1 (by omega);omega
 ·exact q
 ·rcases h3 with rfl | h3
  ·omega
  ·have:=Int.mul_le_mul (show n<=m-1 by omega) (show n<=m-1 by omega) k1 (by omega);omega
theorem csq_eq {s n:Int} (h:N.isC s n):N.csq s=n:=isC_one (Classical.epsilon_spec (p:=fun n=>N.isC s n) ⟨n,h⟩) h
theorem sq_bd {n B:Int} (h0:0<=n) (h:n<=B):0<=n*n/\n*n<=B*B:=⟨Int.mul_nonneg h0 h0,Int.mul_le_mul h h h0 (by omega)⟩
theorem tLeU_loop {s:Int} (hs:s<=9007199254740992):∀ (k:Nat) (n:Int),n+k=268435457->0<=n->(n=0\/(n-1)*(n-1)<s)->Zfl n s (Zaj (.int .i64 (N.csq s))):=by
 intro k
 induction k with
 | zero =>
  intro n hn h0 h1
  have e:n=268435457:=by omega
  subst e
  exact tLeU _ _ _ ⟨by omega,fun bad=>absurd bad (by omega),fun ok=>by rw [csq_eq ⟨h0,by omega,h1⟩]⟩
 | succ k ih =>
  intro n hn h0 h1
  have b:=sq_bd h0 (show n<=268435456 by omega)
  refine tLeU _ _ _ ⟨by omega,fun up=>⟨by omega,ih (n+1) (by omega) (by omega) (.inr (by rw [Int.add_sub_cancel];exact up))⟩,fun ok=>by rw [csq_eq ⟨h0,by omega,h1⟩]⟩
theorem tLeD_loop {s:Int} (hs:s<=9007199254740992):∀ (k:Nat),k<=268435456->Zfm (k:Int) s (Zaj (.int .i64 (N.csq s))):=by
 intro k
 induction k with
 | zero =>
  intro _
  refine tLeD _ _ _ ⟨fun bad=>absurd bad.1 (by omega),fun _=>tLeU_loop hs 268435457 0 (by omega) (by omega) (.inl rfl)⟩
 | succ k ih =>
  intro hk
  have b:=sq_bd (Int.natCast_nonneg k) (show (k:Int)<=268435456 by omega)
  have e:((k+1:Nat):Int)-1=k:=by omega
  refine tLeD _ _ _ ?_
  rw [e,w64 (k:Int) (by omega),w64 ((k:Int)*k) (by omega)]
  exact ⟨fun _=>⟨by omega,ih (by omega)⟩,fun no=>tLeU_loop hs (268435456-k) _ (by omega) (by omega) (.inr (by rw [e];omega))⟩
theorem ev51 (x y z u v w r t b:Int) (h:N.cl (u-x)/\N.cl (v-y)/\N.cl (w-z)):Ev M1 (.pure 51 [.agg [.int .i64 x,.int .i64 y,.int .i64 z,.int .i64 u,.int .i64 v,.int .i64 w,.int .i64 r,.int .i64 t,.int .i64 b]]) (.int .i64 (N.len (u-x) (v-y) (w-z))) []:=by
 obtain ⟨h1,h2,h3⟩:=h
 unfold N.cl at h1 h2 h3
 have q {d:Int} (hd:-50000000<=d/\d<=50000000):0<=d*d/\d*d<=2500000000000000:=by
  rcases Int.lt_or_le d 0 with k | k
  ·have:=sq_bd (n:=-d) (B:=50000000) (by omega) (by omega)
   rw [Int.neg_mul_neg] at this;omega
  ·have:=sq_bd k hd.2;omega
 have q1:=q h1
 have q2:=q h2
 have q3:=q h3
 obtain ⟨f1,n,f2,f3,f4⟩:=len_float (s:=(u-x)*(u-x)+(v-y)*(v-y)+(w-z)*(w-z)) (by omega) (by omega)
 have g1:f2iV (fsq (FloatKind.f64.nearest ((u-x)*(u-x)+(v-y)*(v-y)+(w-z)*(w-z))))=n:=by
  unfold f2iV fsq;rw [f2]
 have g2:f2iB .i64 (fsq (FloatKind.f64.nearest ((u-x)*(u-x)+(v-y)*(v-y)+(w-z)*(w-z))))=true:=by
  have i1:IntKind.min .i64 = -9223372036854775808:=by decide
  have i2:IntKind.max .i64=9223372036854775807:=by decide
  unfold f2iB fsq;rw [f2]
  simp only [i1,i2,Bool.and_eq_true,decide_eq_true_eq];omega
 refine call51 (tLe _ _ _ _ _ _ _ _ _ _ ⟨by omega,by omega,by omega,by omega,by omega,by omega,by omega,by omega,f1,g2,?_⟩)
 rw [g1]
 obtain ⟨k,rfl⟩:=Int.eq_ofNat_of_zero_le f3
 exact tLeD_loop (by omega) k (by omega)
end Go.Av

namespace Go.Av
structure Ps where
 x:Int
 y:Int
 z:Int
 deriving DecidableEq,Inhabited
structure Mo where
 x:Int
 y:Int
 z:Int
 u:Int
 v:Int
 w:Int
 r:Int
 t:Int
 b:Int
 deriving DecidableEq,Inhabited
def Ps.v (p:Ps):AV:=.agg [.int .i64 p.x,.int .i64 p.y,.int .i64 p.z]
def Mo.a (m:Mo):AV:=.agg [.int .i64 m.x,.int .i64 m.y,.int .i64 m.z,.int .i64 m.u,.int .i64 m.v,.int .i64 m.w,.int .i64 m.r,.int .i64 m.t,.int .i64 m.b]
def Mo.src (m:Mo):Ps:=⟨m.x,m.y,m.z⟩
def Mo.dst (m:Mo):Ps:=⟨m.u,m.v,m.w⟩
def Mo.cut (m:Mo) (p q:Ps):Mo:=⟨p.x,p.y,p.z,q.x,q.y,q.z,m.r,m.t,m.b⟩
namespace N
noncomputable def ml (m:Mo):Int:=len (m.u-m.x) (m.v-m.y) (m.w-m.z)
def pt (x u p n:Int):Int:=x+(2*(u-x)*p+n) / (2*n)
noncomputable def at3 (m:Mo) (p:Int):Ps:=⟨pt m.x m.u p (ml m),pt m.y m.v p (ml m),pt m.z m.w p (ml m)⟩
def near (m:Mo):Prop:=cl (m.u-m.x)/\cl (m.v-m.y)/\cl (m.w-m.z)
end N
theorem isC_ex {s:Int} (h0:0<=s):∃ n,N.isC s n:=by
 have:∀ (k:Nat) (n:Int),0<=n->s-n<=k->(n=0\/(n-1)*(n-1)<s) -> ∃ n,N.isC s n:=by
  intro k
  induction k with
  | zero =>
   intro n hn hk hs
   refine ⟨n,hn,?_,hs⟩
   by_cases h1:n=0
   ·subst h1;omega
   ·have:=Int.mul_le_mul (show (1:Int)<=n by omega) (Int.le_refl n) (by omega) (by omega)
    omega
  | succ k ih =>
   intro n hn hk hs
   by_cases hq:s<=n*n
   ·exact ⟨n,hn,hq,hs⟩
   ·exact ih (n+1) (by omega) (by omega) (.inr (by rw [Int.add_sub_cancel];omega))
 exact this s.toNat 0 (by omega) (by omega) (.inl rfl)
theorem csq_isC {s:Int} (h0:0<=s):N.isC s (N.csq s):=Classical.epsilon_spec (p:=fun n=>N.isC s n) (isC_ex h0)
theorem sq_nn (a:Int):0<=a*a:=by
 rcases Int.lt_or_le a 0 with h | h
 ·have:=Int.mul_nonneg (show 0 <= -a by omega) (show 0 <= -a by omega)
  rwa [Int.neg_mul_neg] at this
 ·exact Int.mul_nonneg h h
theorem ml_isC (m:Mo):N.isC ((m.u-m.x)*(m.u-m.x)+(m.v-m.y)*(m.v-m.y)+(m.w-m.z)*(m.w-m.z)) (N.ml m):=by
 have h1:=sq_nn (m.u-m.x)
 have h2:=sq_nn (m.v-m.y)
 have h3:=sq_nn (m.w-m.z)
 exact csq_isC (by omega)
theorem ZeL (m:Mo):0<=N.ml m:=(ml_isC m).1
theorem sq_zero {a:Int} (h:a*a<=0):a=0:=by
 rcases Int.lt_trichotomy a 0 with q | q | q
 ·have:=Int.mul_le_mul (show (1:Int) <= -a by omega) (show (1:Int) <= -a by omega) (by omega) (by omega)
  rw [Int.neg_mul_neg] at this;omega
 ·exact q
 ·have:=Int.mul_le_mul (show (1:Int)<=a by omega) (show (1:Int)<=a by omega) (by omega) (by omega)
  omega
theorem ml_zero {m:Mo}:N.ml m=0 ↔ m.src=m.dst:=by
 obtain ⟨h1,h2,h3⟩:=ml_isC m
 have q1:=sq_nn (m.u-m.x)
 have q2:=sq_nn (m.v-m.y)
 have q3:=sq_nn (m.w-m.z)
 constructor
 ·intro h
  rw [h] at h2
  have e1:=sq_zero (a:=m.u-m.x) (by omega)
  have e2:=sq_zero (a:=m.v-m.y) (by omega)
  have e3:=sq_zero (a:=m.w-m.z) (by omega)
  unfold Mo.src Mo.dst
  rw [show m.x=m.u by omega,show m.y=m.v by omega,show m.z=m.w by omega]
 ·intro h
  unfold Mo.src Mo.dst at h
  injection h with e1 e2 e3
  rcases h3 with h3 | h3
  ·exact h3
  ·rw [e1,e2,e3] at h3
   have:=sq_nn (N.ml m-1)
   omega
theorem ml_bd {m:Mo} {B:Int} (hB:0<=B) (h1:-B<=m.u-m.x/\m.u-m.x<=B) (h2:-B<=m.v-m.y/\m.v-m.y<=B) (h3:-B<=m.w-m.z/\m.w-m.z<=B):N.ml m<=2*B:=by
 have q {d:Int} (hd:-B<=d/\d<=B):d*d<=B*B:=by
  rcases Int.lt_or_le d 0 with k | k
  ·have:=Int.mul_le_mul (show -d<=B by omega) (show -d<=B by omega) (by omega) hB
   rwa [Int.neg_mul_neg] at this
  ·exact Int.mul_le_mul hd.2 hd.2 k hB
 have q1:=q h1
 have q2:=q h2
 have q3:=q h3
 obtain ⟨a1,a2,a3⟩:=ml_isC m
 apply Classical.byContradiction
 intro hn
 rcases a3 with a3 | a3
 ·omega
 ·have:=Int.mul_le_mul (show 2*B<=N.ml m-1 by omega) (show 2*B<=N.ml m-1 by omega) (by omega) (by omega)
  have e:2*B*(2*B)=4*(B*B):=by rw [Int.mul_assoc,Int.mul_left_comm B 2 B];omega
  have:=sq_nn B
  omega
theorem pt_zero (x u n:Int) (hn:1<=n):N.pt x u 0 n=x:=by
 unfold N.pt
 rw [Int.mul_zero,Int.zero_add,Int.ediv_eq_zero_of_lt (by omega) (by omega),Int.add_zero]
theorem pt_full (x u n:Int) (hn:1<=n):N.pt x u n n=u:=by
 unfold N.pt
 have e:2*(u-x)*n+n=n+(u-x)*(2*n):=by
  rw [Int.mul_comm 2 (u-x),Int.mul_assoc];omega
 rw [e,Int.add_mul_ediv_right _ _ (by omega),Int.ediv_eq_zero_of_lt (by omega) (by omega)];omega
theorem at3_zero {m:Mo} (h:¬N.ml m=0):N.at3 m 0=m.src:=by
 have:=ZeL m
 unfold N.at3 Mo.src
 rw [pt_zero _ _ _ (by omega),pt_zero _ _ _ (by omega),pt_zero _ _ _ (by omega)]
theorem at3_full {m:Mo} (h:¬N.ml m=0):N.at3 m (N.ml m)=m.dst:=by
 have:=ZeL m
 unfold N.at3 Mo.dst
 rw [pt_full _ _ _ (by omega),pt_full _ _ _ (by omega),pt_full _ _ _ (by omega)]
end Go.Av

namespace Go.Av
namespace N
def wstep (out:List Mo) (p:Mo):List Mo:=match out.getLast? with
 | some q=>if q.b=p.b/\q.dst=p.src/\q.r=p.r/\q.t=p.t then out.dropLast++[q.cut q.src p.dst] else out++[p]
 | none=>[p]
def wh (l:List Mo):List Mo:=l.foldl wstep []
def lng (l:List Mo):List Mo:=l.filter fun m=>decide (m.src ≠ m.dst)
def chain (L:List Mo):Prop:=∀ i,i+1<L.length->(L.getD i default).dst=(L.getD (i+1) default).src
def pos (L:List Mo) (i:Nat):Ps:=if i<L.length then (L.getD i default).src else (L.getD (L.length-1) default).dst
noncomputable def skF (L:List Mo):Nat->Nat->Nat
 | 0,i=>i
 | k+1,i=>if i<L.length/\ml (L.getD i default)=0 then skF L k (i+1) else i
noncomputable def sk (L:List Mo) (i:Nat):Nat:=skF L (L.length-i) i
end N
theorem Zgp (X:List Mo) (q p:Mo):N.wstep (X++[q]) p=if q.b=p.b/\q.dst=p.src/\q.r=p.r/\q.t=p.t then X++[q.cut q.src p.dst] else X++[q]++[p]:=by
 unfold N.wstep
 rw [List.getLast?_concat]
 simp only
 rw [List.dropLast_concat]
theorem wh_snoc (X:List Mo) (p:Mo):N.wh (X++[p])=N.wstep (N.wh X) p:=by
 unfold N.wh
 rw [List.foldl_append];rfl
theorem cut_self (m:Mo):m.cut m.src m.dst=m:=rfl
theorem ZcL (l:List Mo) (m:Mo):N.lng (l++[m])=if m.src=m.dst then N.lng l else N.lng l++[m]:=by
 unfold N.lng
 rw [List.filter_append]
 by_cases h:m.src=m.dst
 ·rw [if_pos h,List.filter_cons_of_neg (by simp [h])];simp
 ·rw [if_neg h,List.filter_cons_of_pos (by simp [h])];rfl
section
variable {L:List Mo}
theorem ZbO {i:Nat} (h:i<L.length):L.take (i+1)=L.take i++[L.getD i default]:=by
 rw [List.take_add_one,List.getElem?_eq_getElem h,List.getD_eq_getElem?_getD,List.getElem?_eq_getElem h];rfl
theorem skF_spec:∀ (k i:Nat),i<=L.length->i+k=L.length->(i<=N.skF L k i/\N.skF L k i<=L.length)/\(N.skF L k i<L.length->¬N.ml (L.getD (N.skF L k i) default)=0)/\N.lng (L.take (N.skF L k i))=N.lng (L.take i)
 | 0,i,h,hk=>⟨⟨Nat.le_refl _,h⟩,fun z=>absurd z (by unfold N.skF;omega),rfl⟩
 | k+1,i,h,hk=>by
  unfold N.skF
  by_cases hc:i<L.length/\N.ml (L.getD i default)=0
  ·rw [if_pos hc]
   obtain ⟨⟨h1,h2⟩,h3,h4⟩:=skF_spec k (i+1) (by omega) (by omega)
   refine ⟨⟨by omega,h2⟩,h3,?_⟩
   rw [h4,ZbO hc.1,ZcL,if_pos (ml_zero.1 hc.2)]
  ·rw [if_neg hc]
   exact ⟨⟨Nat.le_refl _,h⟩,fun hi hz=>hc ⟨hi,hz⟩,rfl⟩
theorem ZdF {i:Nat} (h:i<=L.length):(i<=N.sk L i/\N.sk L i<=L.length)/\(N.sk L i<L.length->¬N.ml (L.getD (N.sk L i) default)=0)/\N.lng (L.take (N.sk L i))=N.lng (L.take i):=skF_spec _ i h (by omega)
theorem Ze4 (hc:N.chain L) {i:Nat} (h:i<L.length):N.pos L (i+1)=(L.getD i default).dst:=by
 unfold N.pos
 by_cases h1:i+1<L.length
 ·rw [if_pos h1,hc i h1]
 ·rw [if_neg h1,show L.length-1=i by omega]
theorem skF_pos (hc:N.chain L):∀ (k i:Nat),i+k=L.length->N.pos L (N.skF L k i)=N.pos L i
 | 0,i,_=>rfl
 | k+1,i,hk=>by
  unfold N.skF
  by_cases h:i<L.length/\N.ml (L.getD i default)=0
  ·rw [if_pos h,skF_pos hc k (i+1) (by omega),Ze4 hc h.1,<- ml_zero.1 h.2]
   unfold N.pos
   rw [if_pos h.1]
  ·rw [if_neg h]
theorem sk_pos (hc:N.chain L) {i:Nat} (h:i<=L.length):N.pos L (N.sk L i)=N.pos L i:=skF_pos hc _ i (by omega)
def WI (L:List Mo) (P:List Mo) (i:Nat) (p:Ps):Prop:=
 (N.wh P=N.lng (L.take i)/\p=N.pos L i)\/(i<L.length/\N.wh P=N.lng (L.take i)++[(L.getD i default).cut (L.getD i default).src p])
theorem lng_last {l:List Mo} {q:Mo} {X:List Mo} (h:N.lng l=X++[q]):q ∈ l:=by
 have:q ∈ N.lng l:=by rw [h];simp
 exact (List.mem_filter.1 this).1
theorem wi_piece {P:List Mo} {i:Nat} {p q:Ps} (hb:∀ k,k<L.length->(L.getD k default).b=k) (hi:i<L.length) (h:WI L P i p):WI L (P++[(L.getD i default).cut p q]) i q:=by
 refine .inr ⟨hi,?_⟩
 rw [wh_snoc]
 rcases h with ⟨h,hp⟩ | ⟨_,h⟩
 ·rw [h]
  have hps:p=(L.getD i default).src:=by rw [hp];unfold N.pos;rw [if_pos hi]
  rw [hps]
  rcases List.eq_nil_or_concat (N.lng (L.take i)) with e | ⟨X,z,e⟩
  ·rw [e];rfl
  ·rw [List.concat_eq_append] at e
   rw [e,Zgp,if_neg]
   rintro ⟨h1,_⟩
   have hz:=lng_last e
   obtain ⟨k,hk,ez⟩:=List.mem_take_iff_getElem.1 hz
   have h2:=hb k (by omega)
   rw [List.getD_eq_getElem?_getD,List.getElem?_eq_getElem (by omega),Option.getD_some,ez] at h2
   have h3:=hb i hi
   have h4:((L.getD i default).cut (L.getD i default).src q).b=(L.getD i default).b:=rfl
   rw [h2,h4,h3] at h1
   omega
 ·rw [h,Zgp,if_pos ⟨rfl,rfl,rfl,rfl⟩];rfl
theorem wi_done {P:List Mo} {i:Nat} {p:Ps} (hc:N.chain L) (hi:i<L.length) (h0:¬N.ml (L.getD i default)=0) (h:WI L P i p) (hp:p=(L.getD i default).dst):WI L P (N.sk L (i+1)) p:=by
 obtain ⟨_,_,h3⟩:=ZdF (L:=L) (i:=i+1) (by omega)
 have hne:¬(L.getD i default).src=(L.getD i default).dst:=fun e=>h0 (ml_zero.2 e)
 rcases h with ⟨h,hq⟩ | ⟨_,h⟩
 ·exfalso
  unfold N.pos at hq
  rw [if_pos hi,hp] at hq
  exact hne hq.symm
 ·refine .inl ⟨?_,?_⟩
  ·rw [h3,ZbO hi,ZcL,if_neg hne,h,hp,cut_self]
  ·rw [sk_pos hc (by omega),Ze4 hc hi,hp]
end
end Go.Av

namespace Go.Av
open Go.Proofs
set_option maxRecDepth 100000
def fi77:Fi:=⟨11,[.tmp 2]⟩
def kp77:List (Nat × List Nat):=[(0,[1]),(1,[2])]
def fi81:Fi:=⟨15,[.tmp 6]⟩
def kp81:List (Nat × List Nat):=[(0,[0,1,2]),(1,[6])]
def fi83:Fi:=⟨16,[.tmp 4]⟩
def kp83:List (Nat × List Nat):=[(0,[0,1]),(1,[0,1,5]),(2,[5,12]),(3,[5]),(4,[4])]
def fi99:Fi:=⟨27,[.tmp 4]⟩
def kp99:List (Nat × List Nat):=[(0,[1,2]),(1,[1,2,9]),(2,[4]),(3,[1,2,5]),(4,[4])]
def wiA_at (n l h:Int) (Q:AV->Heap->Prop):Prop:=Wp M1 (.run fi81 (atC (cd Try.f81) []) [(0,.int .i64 n),(1,.int .i64 l),(2,.int .i64 h)] []) Q
def flA_at (a b:Int) (Q:AV->Heap->Prop):Prop:=Wp M1 (.run fi83 (atC (cd Try.f83) []) [(0,.int .i64 a),(1,.int .i64 b)] []) Q
def fdA_at (S A j:Int) (a:Int) (Q:AV->Heap->Prop):Prop:=Wp M1 (.run fi99 (atC (cd Try.f99) []) [(0,.agg [.int .i64 S,.int .i64 A,.int .i64 j]),(1,.int .i64 a)] []) Q
def smA_at (S A j:Int) (Q:AV->Heap->Prop):Prop:=Wp M1 (.run fi77 (atC (cd Try.f77) []) [(0,.agg [.int .i64 S,.int .i64 A,.int .i64 j])] []) Q
theorem call77 {args:List AV} {d:AV} (h:wc M1 fi77 Try.f77 args d):Ev M1 (.pure 77 args) d []:=pcl _ _ (by kernel_rfl) h
theorem call81 {args:List AV} {d:AV} (h:wc M1 fi81 Try.f81 args d):Ev M1 (.pure 81 args) d []:=pcl _ _ (by kernel_rfl) h
theorem call83 {args:List AV} {d:AV} (h:wc M1 fi83 Try.f83 args d):Ev M1 (.pure 83 args) d []:=pcl _ _ (by kernel_rfl) h
theorem call99 {args:List AV} {d:AV} (h:wc M1 fi99 Try.f99 args d):Ev M1 (.pure 99 args) d []:=pcl _ _ (by kernel_rfl) h
theorem wiA (n l h:Int)  (dq:AV) (H :
  vb (bif decide (l<=n) then decide (n<=h) else false)=dq) :
 wiA_at n l h (Zaj dq):=by
 unfold wiA_at
 exact Zap (G:=Zab kp81 [] []) 1000 [] (vb (bif decide (l<=n) then decide (n<=h) else false)) (by kernel_rfl) b0 q0 c0 H
theorem flA (a b:Int)  (dq:AV) (H :
  (¬b=0) /\
  (-9223372036854775808<=a.tdiv b/\a.tdiv b<=9223372036854775807) /\
  ((a.tmod b<0)->(-9223372036854775808<=a.tdiv b-1/\a.tdiv b-1<=9223372036854775807) /\
   vi (a.tdiv b-1)=dq) /\
  (¬(a.tmod b<0)->vi (a.tdiv b)=dq)) :
 flA_at a b (Zaj dq):=by
 unfold flA_at
 obtain ⟨k2,k3,H⟩:=H
 have w4:wi (a.tdiv b)=a.tdiv b:=wI64 k3
 rcases xq H with ⟨d7,H⟩|⟨d7,H⟩
 ·obtain ⟨k8,H⟩:=H
  have w9:wi (a.tdiv b-1)=a.tdiv b-1:=wI64 k8
  exact Zap (G:=Zab kp83 [] []) 1000 [true] (vi (wi (wi (a.tdiv b)-1))) (by kernel_rfl) (bc (ZeU.2 k2) (bc (ZeU.2 k2) (bc (Zam (Zad.2 d7)) b0))) q0 c0 (by (try rw [w4]);(try rw [w9]);all_goals exact H)
 ·exact Zap (G:=Zab kp83 [] []) 1000 [false] (vi (wi (a.tdiv b))) (by kernel_rfl) (bc (ZeU.2 k2) (bc (ZeU.2 k2) (bc (Zal (fun h=>d7 (Zad.1 h))) b0))) q0 c0 (by (try rw [w4]);all_goals exact H)
theorem fdA (S A j:Int) (a:Int)  (dq:AV) (H :
  ((a<=j)->vi 0=dq) /\
  (¬(a<=j)->(¬j=0) /\
   (-9223372036854775808<=a-1/\a-1<=9223372036854775807) /\
   (-9223372036854775808<=(a-1).tdiv j/\(a-1).tdiv j<=9223372036854775807) /\
   (-9223372036854775808<=(a-1).tdiv j*a/\(a-1).tdiv j*a<=9223372036854775807) /\
   (-9223372036854775808<=j*(a-1).tdiv j/\j*(a-1).tdiv j<=9223372036854775807) /\
   (-9223372036854775808<=(a-1).tdiv j+1/\(a-1).tdiv j+1<=9223372036854775807) /\
   (-9223372036854775808<=j*(a-1).tdiv j*((a-1).tdiv j+1)/\j*(a-1).tdiv j*((a-1).tdiv j+1)<=9223372036854775807) /\
   (-9223372036854775808<=(j*(a-1).tdiv j*((a-1).tdiv j+1)).tdiv 2/\(j*(a-1).tdiv j*((a-1).tdiv j+1)).tdiv 2<=9223372036854775807) /\
   (-9223372036854775808<=(a-1).tdiv j*a-(j*(a-1).tdiv j*((a-1).tdiv j+1)).tdiv 2/\(a-1).tdiv j*a-(j*(a-1).tdiv j*((a-1).tdiv j+1)).tdiv 2<=9223372036854775807) /\
   vi ((a-1).tdiv j*a-(j*(a-1).tdiv j*((a-1).tdiv j+1)).tdiv 2)=dq)) :
 fdA_at S A j a (Zaj dq):=by
 unfold fdA_at
 rcases xq H with ⟨d2,H⟩|⟨d2,H⟩
 ·exact Zap (G:=Zab kp99 [] []) 1000 [true] (vi 0) (by kernel_rfl) (bc rfl (bc (Zam (Zad.2 d2)) b0)) q0 c0 H
 ·obtain ⟨k4,k5,H⟩:=H
  have w6:wi (a-1)=a-1:=wI64 k5
  obtain ⟨k7,H⟩:=H
  have w8:wi ((a-1).tdiv j)=(a-1).tdiv j:=wI64 k7
  obtain ⟨k9,H⟩:=H
  have w10:wi ((a-1).tdiv j*a)=(a-1).tdiv j*a:=wI64 k9
  obtain ⟨k11,H⟩:=H
  have w12:wi (j*(a-1).tdiv j)=j*(a-1).tdiv j:=wI64 k11
  obtain ⟨k13,H⟩:=H
  have w14:wi ((a-1).tdiv j+1)=(a-1).tdiv j+1:=wI64 k13
  obtain ⟨k15,H⟩:=H
  have w16:wi (j*(a-1).tdiv j*((a-1).tdiv j+1))=j*(a-1).tdiv j*((a-1).tdiv j+1):=wI64 k15
  obtain ⟨k17,H⟩:=H
  have w18:wi ((j*(a-1).tdiv j*((a-1).tdiv j+1)).tdiv 2)=(j*(a-1).tdiv j*((a-1).tdiv j+1)).tdiv 2:=wI64 k17
  obtain ⟨k19,H⟩:=H
  have w20:wi ((a-1).tdiv j*a-(j*(a-1).tdiv j*((a-1).tdiv j+1)).tdiv 2)=(a-1).tdiv j*a-(j*(a-1).tdiv j*((a-1).tdiv j+1)).tdiv 2:=wI64 k19
  exact Zap (G:=Zab kp99 [] []) 1000 [false] (vi (wi (wi (wi ((wi (a-1)).tdiv j)*a)-wi ((wi (wi (j*wi ((wi (a-1)).tdiv j))*wi (wi ((wi (a-1)).tdiv j)+1))).tdiv 2)))) (by kernel_rfl) (bc rfl (bc (Zal (fun h=>d2 (Zad.1 h))) (bc rfl (bc (ZeU.2 k4) (bc rfl (bc rfl b0)))))) q0 c0 (by (try rw [w6]);(try rw [w8]);(try rw [w10]);(try rw [w12]);(try rw [w14]);(try rw [w16]);(try rw [w18]);(try rw [w20]);all_goals exact H)
theorem smA (S A j:Int)  (dq:AV) (H :
  (-9223372036854775808<=j.tdiv 2/\j.tdiv 2<=9223372036854775807) /\
  vi (if j.tdiv 2<if A<S then A else S then j.tdiv 2 else if A<S then A else S)=dq) :
 smA_at S A j (Zaj dq):=by
 unfold smA_at
 obtain ⟨k1,H⟩:=H
 have w2:wi (j.tdiv 2)=j.tdiv 2:=wI64 k1
 exact Zap (G:=Zab kp77 [] []) 1000 [] (vi (if wi (j.tdiv 2)<if A<S then A else S then wi (j.tdiv 2) else if A<S then A else S)) (by kernel_rfl) (bc rfl (bc rfl (bc rfl (bc rfl b0)))) q0 c0 (by (try rw [w2]);all_goals exact H)
end Go.Av

namespace Go.Av
open Go.Proofs
namespace N
def wi (n l h:Int):Bool:=bif decide (l<=n) then decide (n<=h) else false
def fd (a b:Int):Int:=a / b
def okD (a b:Int):Prop:=1<=b /\ -4000000000000000000<=a/\a<=4000000000000000000
def okF (j a:Int):Prop:=(2<=j/\j<=100000) /\ -1000000<=a/\a<=1000000
def sim (S A j:Int):Int:=min S (min A (j.tdiv 2))
def okI (j:Int):Prop:=0<=j/\j<=1000000
end N
theorem ZbW {n l h:Int}:N.wi n l h=true ↔ l<=n/\n<=h:=by
 unfold N.wi
 by_cases h1:l<=n <;> by_cases h2:n<=h <;> simp [h1,h2]
theorem ev81 (n l h:Int):Ev M1 (.pure 81 [.int .i64 n,.int .i64 l,.int .i64 h]) (.bool (N.wi n l h)) []:=call81 (wiA n l h _ rfl)
theorem ev83 (a b:Int) (h:N.okD a b):Ev M1 (.pure 83 [.int .i64 a,.int .i64 b]) (.int .i64 (N.fd a b)) []:=by
 obtain ⟨hb,h1,h2⟩:=h
 have hq:-4000000000000000000<=a.tdiv b/\a.tdiv b<=4000000000000000000:=by
  have:=Int.natAbs_tdiv_le_natAbs a b
  omega
 have hm:=Int.mul_tdiv_add_tmod a b
 refine call83 (flA a b _ ⟨by omega,by omega,fun h=>⟨by omega,?_⟩,fun h => ?_⟩)
 ·have hlt:=Int.lt_tmod_of_pos a (show 0<b by omega)
  have:N.fd a b=a.tdiv b-1:=by
   unfold N.fd
   have e:a=(a.tmod b+b)+(a.tdiv b-1)*b:=by
    rw [Int.sub_mul,Int.one_mul,Int.mul_comm (a.tdiv b) b];omega
   conv=>lhs;rw [e]
   rw [Int.add_mul_ediv_right _ _ (by omega),Int.ediv_eq_zero_of_lt (by omega) (by omega)];omega
  rw [this]
 ·have hlt:=Int.tmod_lt_of_pos a (show 0<b by omega)
  have:N.fd a b=a.tdiv b:=by
   unfold N.fd
   have e:a=a.tmod b+a.tdiv b*b:=by rw [Int.mul_comm (a.tdiv b) b];omega
   conv=>lhs;rw [e]
   rw [Int.add_mul_ediv_right _ _ (by omega),Int.ediv_eq_zero_of_lt (by omega) (by omega)];omega
  rw [this]
theorem ev99 (S A j a:Int) (h:N.okF j a):Ev M1 (.pure 99 [.agg [.int .i64 S,.int .i64 A,.int .i64 j],.int .i64 a]) (.int .i64 (N.fad j a)) []:=by
 obtain ⟨hj,h1,h2⟩:=h
 refine call99 (fdA S A j a _ ⟨fun h => ?_,fun h => ?_⟩)
 ·rw [ZaO h]
 ·have e0:N.fad j a=(a-1).tdiv j*a-(j*(a-1).tdiv j*((a-1).tdiv j+1)).tdiv 2:=by unfold N.fad;rw [if_neg h]
  obtain ⟨n,hn⟩:∃ n,(a-1).tdiv j=n:=⟨_,rfl⟩
  have hnn:0<=n/\j*n<=a-1:=by
   rw [Int.tdiv_eq_ediv_of_nonneg (by omega)] at hn
   rw [<- hn]
   exact ⟨Int.ediv_nonneg (by omega) (by omega),Int.mul_ediv_self_le (by omega)⟩
  have hn2:n<=1000000:=by
   have:=Int.mul_le_mul (show (1:Int)<=j by omega) (Int.le_refl n) hnn.1 (by omega)
   omega
  have p1:0<=n*a/\n*a<=1000000*1000000:=⟨Int.mul_nonneg hnn.1 (by omega),Int.mul_le_mul hn2 h2 (by omega) (by omega)⟩
  have p2:0<=j*n:=Int.mul_nonneg (by omega) hnn.1
  have p3:0<=j*n*(n+1)/\j*n*(n+1)<=1000000*1000001:=⟨Int.mul_nonneg p2 (by omega),Int.mul_le_mul (by omega) (by omega) (by omega) (by omega)⟩
  have p4:0<=(j*n*(n+1)).tdiv 2/\(j*n*(n+1)).tdiv 2<=1000000*1000001:=by
   rw [Int.tdiv_eq_ediv_of_nonneg p3.1];omega
  rw [e0,hn]
  exact ⟨by omega,by omega,by omega,by omega,by omega,by omega,by omega,by omega,by omega,rfl⟩
theorem ev77 (S A j:Int) (h:N.okI j):Ev M1 (.pure 77 [.agg [.int .i64 S,.int .i64 A,.int .i64 j]]) (.int .i64 (N.sim S A j)) []:=by
 obtain ⟨h1,h2⟩:=h
 have e:=Int.tdiv_eq_ediv_of_nonneg (a:=j) (b:=2) h1
 refine call77 (smA S A j _ ⟨by omega,?_⟩)
 congr 1
 unfold N.sim
 split <;> split <;> omega
end Go.Av

namespace Go.Av
open Go.Proofs
set_option maxRecDepth 100000
def fi73:Fi:=⟨16,[.tmp 2]⟩
def kp73:List (Nat × List Nat):=[(0,[1]),(1,[15]),(2,[2]),(3,[2])]
def fi80:Fi:=⟨51,[.cell 4 149]⟩
def kp80:List (Nat × List Nat):=[(0,[2,3,4]),(1,[2,3,4,5,6]),(2,[2,3,4,5,6,27]),(3,[2,3,4,5,6,7]),(4,[2,3,4,5,6,7,41]),(5,[2,3,4,5,6]),(6,[2,3,4,5,6]),(7,[4])]
def fi98:Fi:=⟨44,[.tmp 4]⟩
def kp98:List (Nat × List Nat):=[(0,[2,3]),(1,[2,3,21]),(2,[4]),(3,[2,3,24]),(4,[4]),(5,[4])]
def sfA_at (S A j:Int) (v a:Int) (Q:AV->Heap->Prop):Prop:=Wp M1 (.run fi98 (atC (cd Try.f98) []) [(0,.agg [.int .i64 S,.int .i64 A,.int .i64 j]),(1,.agg [.int .i64 v,.int .i64 a])] []) Q
def vlA_at (S A j:Int) (Q:AV->Heap->Prop):Prop:=Wp M1 (.run fi73 (atC (cd Try.f73) []) [(0,.agg [.int .i64 S,.int .i64 A,.int .i64 j])] []) Q
def bkA_at (S A j:Int) (v a:Int) (Q:AV->Heap->Prop):Prop:=Wp M1 (.run fi80 (atC (cd Try.f80) []) [(0,.agg [.int .i64 S,.int .i64 A,.int .i64 j]),(1,.agg [.int .i64 v,.int .i64 a])] []) Q
def ZgU (S A j:Int) (v a lo hi:Int) (Q:AV->Heap->Prop):Prop:=Wp M1 (.run fi80 (atC (cd Try.f80) [1,1,0,0,0]) [(2,.ptr 0 0 0 0),(3,.ptr 1 0 0 0),(4,.ptr 2 0 0 0),(5,.int .i64 lo),(6,.int .i64 hi)] [⟨[.agg [.int .i64 S,.int .i64 A,.int .i64 j]],3,0,false,false⟩,⟨[.agg [.int .i64 v,.int .i64 a]],2,0,false,false⟩,⟨[.agg [.int .i64 0,.int .i64 0]],2,0,false,false⟩]) Q
theorem call73 {args:List AV} {d:AV} (h:wc M1 fi73 Try.f73 args d):Ev M1 (.pure 73 args) d []:=pcl _ _ (by kernel_rfl) h
theorem call80 {args:List AV} {d:AV} (h:wc M1 fi80 Try.f80 args d):Ev M1 (.pure 80 args) d []:=pcl _ _ (by kernel_rfl) h
theorem call98 {args:List AV} {d:AV} (h:wc M1 fi98 Try.f98 args d):Ev M1 (.pure 98 args) d []:=pcl _ _ (by kernel_rfl) h
theorem sfA (S A j:Int) (v a:Int)  (dq:AV) (H :
  (-9223372036854775808<=0-A/\0-A<=9223372036854775807) /\
  (((¬(N.wi v 0 S=true))\/(¬(N.wi a (0-A) A=true)))->vb false=dq) /\
  (¬((¬(N.wi v 0 S=true))\/(¬(N.wi a (0-A) A=true)))->((a>0)->(N.okF j a) /\
    (-9223372036854775808<=v+N.fad j a/\v+N.fad j a<=9223372036854775807) /\
    vb (decide (v+N.fad j a<=S))=dq) /\
   (¬(a>0)->(-9223372036854775808<=0-a/\0-a<=9223372036854775807) /\
    (N.okF j (0-a)) /\
    (-9223372036854775808<=v-N.fad j (0-a)/\v-N.fad j (0-a)<=9223372036854775807) /\
    vb (decide (v-N.fad j (0-a)>=0))=dq))) :
 sfA_at S A j v a (Zaj dq):=by
 unfold sfA_at
 obtain ⟨k1,H⟩:=H
 have w2:wi (0-A)=0-A:=wI64 k1
 refine Zac (G:=Zab kp98 [(1,4,.call (vb (N.wi v 0 S)) none),(1,14,.call (vb (N.wi a (0-A) A)) none)] []) 5 [] ⟨(atC (cd Try.f98) [1,0,1]),[(2,AV.ptr 0 0 0 0),(3,AV.ptr 1 0 0 0),(21,vb (bif !N.wi v 0 S then true else !N.wi a (0-A) A))],[⟨[ag [vi S,vi A,vi j]],3,0,false,false⟩,⟨[ag [vi v,vi a]],2,0,false,false⟩],[true,true,!((!N.wi v 0 S)==false&&true)||true,!((!N.wi v 0 S)==false&&true)||true,!((!N.wi v 0 S)==false&&true)||true],[],[⟨true,false,81,[vi v,vi 0,vi S],[],vb (N.wi v 0 S),[]⟩,⟨(!N.wi v 0 S)==false&&true&&true,false,81,[vi a,vi (wi (0-A)),vi A],[],vb (N.wi a (0-A) A),[]⟩]⟩ (by kernel_rfl) (bc rfl (bc rfl (bc (Bool.or_true _) (bc (Bool.or_true _) (bc (Bool.or_true _) b0))))) q0 (cc (fun _=>(@ev81 v 0 S)) (cc (fun hc=>((by (try rw [w2]);all_goals exact (@ev81 a (0-A) A)):Ev M1 (Conf.pure 81 [vi a,vi (wi (0-A)),vi A]) (vb (N.wi a (0-A) A)) [])) c0)) ?_
 rcases xq H with ⟨d5,H⟩|⟨d5,H⟩
 ·exact Zap (G:=Zab kp98 [] []) 1000 [true] (asm:=[(bif !N.wi v 0 S then true else !N.wi a (0-A) A)==true]) (vb false) (by kernel_rfl) (bc (Zam ((ZaD (Zay (Zas _)) (Zay (Zas _))).2 d5)) b0) q0 c0 H
 ·rcases xq H with ⟨d7,H⟩|⟨d7,H⟩
  ·obtain ⟨k8,k9,H⟩:=H
   have w10:wi (v+N.fad j a)=v+N.fad j a:=wI64 k9
   exact Zap (G:=Zab kp98 [(4,5,.call (vi (N.fad j a)) none)] []) 1000 [false,true] (asm:=[(bif !N.wi v 0 S then true else !N.wi a (0-A) A)==false,true,(decide (a>0))==true,true,true,true,true]) (vb (decide (wi (v+N.fad j a)<=S))) (by kernel_rfl) (bc (Zal (fun h=>d5 ((ZaD (Zay (Zas _)) (Zay (Zas _))).1 h))) (bc rfl (bc (Zam (Zad.2 d7)) (bc rfl (bc rfl (bc rfl (bc rfl b0))))))) q0 (ce (@ev99 S A j a k8) c0) (by (try rw [w10]);all_goals exact H)
  ·obtain ⟨k11,H⟩:=H
   have w12:wi (0-a)=0-a:=wI64 k11
   obtain ⟨k13,k14,H⟩:=H
   have w15:wi (v-N.fad j (0-a))=v-N.fad j (0-a):=wI64 k14
   exact Zap (G:=Zab kp98 [(5,6,.call (vi (N.fad j (0-a))) none)] []) 1000 [false,false] (asm:=[(bif !N.wi v 0 S then true else !N.wi a (0-A) A)==false,true,(decide (a>0))==false,true,true,true]) (calls:=[pc 99 [ag [vi S,vi A,vi j],vi (wi (0-a))] (vi (N.fad j (0-a)))]) (vb (decide (wi (v-N.fad j (0-a))>=0))) (by kernel_rfl) (bc (Zal (fun h=>d5 ((ZaD (Zay (Zas _)) (Zay (Zas _))).1 h))) (bc rfl (bc (Zal (fun h=>d7 (Zad.1 h))) (bc rfl (bc rfl (bc rfl b0)))))) q0 (ce (by (try rw [w12]);all_goals exact (@ev99 S A j (0-a) k13)) c0) (by (try rw [w15]);all_goals exact H)
noncomputable abbrev zCxB1 (S:Int) (A:Int) (j:Int):=bif bif N.wi S 1 100000 then N.wi A 1 100000 else false then N.wi j 2 100000 else false
theorem vlA (S A j:Int)  (dq:AV) (H :
  ((((N.wi S 1 100000=true)/\(N.wi A 1 100000=true))/\(N.wi j 2 100000=true))->vi 0=dq) /\
  (¬(((N.wi S 1 100000=true)/\(N.wi A 1 100000=true))/\(N.wi j 2 100000=true))->vi 1=dq)) :
 vlA_at S A j (Zaj dq):=by
 unfold vlA_at
 refine Zac (G:=Zab kp73 [(1,2,.call (vb (N.wi S 1 100000)) none),(1,6,.call (vb (N.wi A 1 100000)) none),(1,11,.call (vb (N.wi j 2 100000)) none)] []) 5 [] ⟨(atC (cd Try.f73) [1,0,1]),[(15,vb (zCxB1 S A j))],[⟨[ag [vi S,vi A,vi j]],3,0,false,false⟩],[true,!(N.wi S 1 100000==true&&true)||true,!((bif N.wi S 1 100000 then N.wi A 1 100000 else false)==true&&true)||true],[],[⟨true,false,81,[vi S,vi 1,vi 100000],[],vb (N.wi S 1 100000),[]⟩,⟨N.wi S 1 100000==true&&true&&true,false,81,[vi A,vi 1,vi 100000],[],vb (N.wi A 1 100000),[]⟩,⟨(bif N.wi S 1 100000 then N.wi A 1 100000 else false)==true&&true&&true,false,81,[vi j,vi 2,vi 100000],[],vb (N.wi j 2 100000),[]⟩]⟩ (by kernel_rfl) (bc rfl (bc (Bool.or_true _) (bc (Bool.or_true _) b0))) q0 (cc (fun _=>(@ev81 S 1 100000)) (cc (fun hc=>((@ev81 A 1 100000):Ev M1 (Conf.pure 81 [vi A,vi 1,vi 100000]) (vb (N.wi A 1 100000)) [])) (cc (fun hc=>((@ev81 j 2 100000):Ev M1 (Conf.pure 81 [vi j,vi 2,vi 100000]) (vb (N.wi j 2 100000)) [])) c0))) ?_
 rcases xq H with ⟨d4,H⟩|⟨d4,H⟩
 ·exact Zap (G:=Zab kp73 [] []) 1000 [true] (asm:=[(zCxB1 S A j)==true]) (vi 0) (by kernel_rfl) (bc (Zam ((Za9 (Za9 (Zas _) (Zas _)) (Zas _)).2 d4)) b0) q0 c0 H
 ·exact Zap (G:=Zab kp73 [] []) 1000 [false] (asm:=[(zCxB1 S A j)==false]) (vi 1) (by kernel_rfl) (bc (Zal (fun h=>d4 ((Za9 (Za9 (Zas _) (Zas _)) (Zas _)).1 h))) b0) q0 c0 H
theorem bkA (S A j:Int) (v a:Int)  (dq:AV) (H :
  (-9223372036854775808<=a-j/\a-j<=9223372036854775807) /\
  (-9223372036854775808<=0-A/\0-A<=9223372036854775807) /\
  (-9223372036854775808<=a+j/\a+j<=9223372036854775807) /\
  ZgU S A j v a (if a-j>0-A then a-j else 0-A) (if a+j<A then a+j else A) (Zaj dq)) :
 bkA_at S A j v a (Zaj dq):=by
 unfold bkA_at
 obtain ⟨k1,H⟩:=H
 have w2:wi (a-j)=a-j:=wI64 k1
 obtain ⟨k3,H⟩:=H
 have w4:wi (0-A)=0-A:=wI64 k3
 obtain ⟨k5,H⟩:=H
 have w6:wi (a+j)=a+j:=wI64 k5
 exact Zac (G:=Zab kp80 [] []) 1000 [] ⟨(atC (cd Try.f80) [1,1,0,0,0]),[(2,AV.ptr 0 0 0 0),(3,AV.ptr 1 0 0 0),(4,AV.ptr 2 0 0 0),(5,vi (if wi (a-j)>wi (0-A) then wi (a-j) else wi (0-A))),(6,vi (if wi (a+j)<A then wi (a+j) else A))],[⟨[ag [vi S,vi A,vi j]],3,0,false,false⟩,⟨[ag [vi v,vi a]],2,0,false,false⟩,⟨[ag [vi 0,vi 0]],2,0,false,false⟩],_,[],_⟩ (by kernel_rfl) (bc rfl (bc rfl (bc rfl (bc rfl (bc rfl (bc rfl b0)))))) q0 c0 (by (try rw [w2]);(try rw [w4]);(try rw [w6]);all_goals exact H)
noncomputable abbrev zCxB2 (S:Int) (A:Int) (j:Int):=ag [vi S,vi A,vi j]
noncomputable abbrev zCxB3:=ag [vi 0,vi 0]
theorem bkL (S A j:Int) (v a lo hi:Int)  (dq:AV) (H :
  ((lo<hi)->(-9223372036854775808<=lo+hi/\lo+hi<=9223372036854775807) /\
   (N.okD (lo+hi) 2) /\
   (-9223372036854775808<=0-N.fd (lo+hi) 2/\0-N.fd (lo+hi) 2<=9223372036854775807) /\
   (N.okF j (0-N.fd (lo+hi) 2)) /\
   (-9223372036854775808<=v+N.fd (lo+hi) 2/\v+N.fd (lo+hi) 2<=9223372036854775807) /\
   (-9223372036854775808<=v+N.fd (lo+hi) 2-N.fad j (0-N.fd (lo+hi) 2)/\v+N.fd (lo+hi) 2-N.fad j (0-N.fd (lo+hi) 2)<=9223372036854775807) /\
   ((v+N.fd (lo+hi) 2-N.fad j (0-N.fd (lo+hi) 2)>=0)->ZgU S A j v a lo (N.fd (lo+hi) 2) (Zaj dq)) /\
   (¬(v+N.fd (lo+hi) 2-N.fad j (0-N.fd (lo+hi) 2)>=0)->(-9223372036854775808<=N.fd (lo+hi) 2+1/\N.fd (lo+hi) 2+1<=9223372036854775807) /\
    ZgU S A j v a (N.fd (lo+hi) 2+1) hi (Zaj dq))) /\
  (¬(lo<hi)->(-9223372036854775808<=v+lo/\v+lo<=9223372036854775807) /\
   ag [vi (v+lo),vi lo]=dq)) :
 ZgU S A j v a lo hi (Zaj dq):=by
 unfold ZgU
 rcases xq H with ⟨d2,H⟩|⟨d2,H⟩
 ·obtain ⟨k3,H⟩:=H
  have w4:wi (lo+hi)=lo+hi:=wI64 k3
  obtain ⟨k5,k6,H⟩:=H
  have w7:wi (0-N.fd (lo+hi) 2)=0-N.fd (lo+hi) 2:=wI64 k6
  obtain ⟨k8,k9,H⟩:=H
  have w10:wi (v+N.fd (lo+hi) 2)=v+N.fd (lo+hi) 2:=wI64 k9
  obtain ⟨k11,H⟩:=H
  have w12:wi (v+N.fd (lo+hi) 2-N.fad j (0-N.fd (lo+hi) 2))=v+N.fd (lo+hi) 2-N.fad j (0-N.fd (lo+hi) 2):=wI64 k11
  have i13:(decide (wi (wi (v+N.fd (lo+hi) 2)-N.fad j (0-N.fd (lo+hi) 2))>=0))=true ↔ (v+N.fd (lo+hi) 2-N.fad j (0-N.fd (lo+hi) 2)>=0):=(by (try rw [w10]);(try rw [w12]);all_goals exact Zad)
  refine Zac (G:=Zab kp80 [(3,3,.call (vi (N.fd (lo+hi) 2)) none),(4,7,.call (vi (N.fad j (0-N.fd (lo+hi) 2))) none)] []) 10 [true] ⟨(atC (cd Try.f80) [1,1,0,0,0,1,0,1,1]),[(2,AV.ptr 0 0 0 0),(3,AV.ptr 1 0 0 0),(4,AV.ptr 2 0 0 0),(5,vi lo),(6,vi hi),(7,vi (N.fd (lo+hi) 2)),(41,vb (decide (wi (wi (v+N.fd (lo+hi) 2)-N.fad j (0-N.fd (lo+hi) 2))>=0)))],[⟨[(zCxB2 S A j)],3,0,false,false⟩,⟨[ag [vi v,vi a]],2,0,false,false⟩,⟨[zCxB3],2,0,false,false⟩],_,[],[pc 83 [vi (wi (lo+hi)),vi 2] (vi (N.fd (lo+hi) 2)),pc 99 [(zCxB2 S A j),vi (wi (0-N.fd (lo+hi) 2))] (vi (N.fad j (0-N.fd (lo+hi) 2)))]⟩ (by kernel_rfl) (bc (Zam (Zad.2 d2)) (bc rfl (bc rfl b0))) q0 (ce (by (try rw [w4]);all_goals exact (@ev83 (lo+hi) 2 k5)) (ce (by (try rw [w7]);all_goals exact (@ev99 S A j (0-N.fd (lo+hi) 2) k8)) c0)) ?_
  rcases xq H with ⟨d14,H⟩|⟨d14,H⟩
  ·exact Zac (G:=Zab kp80 [] []) 1000 [true] ⟨(atC (cd Try.f80) [1,1,0,0,0]),[(2,AV.ptr 0 0 0 0),(3,AV.ptr 1 0 0 0),(4,AV.ptr 2 0 0 0),(5,vi lo),(6,vi (N.fd (lo+hi) 2))],[⟨[(zCxB2 S A j)],3,0,false,false⟩,⟨[ag [vi v,vi a]],2,0,false,false⟩,⟨[zCxB3],2,0,false,false⟩],_,[],_⟩ (by kernel_rfl) (bc (Zam (i13.2 d14)) b0) q0 c0 H
  ·obtain ⟨k15,H⟩:=H
   have w16:wi (N.fd (lo+hi) 2+1)=N.fd (lo+hi) 2+1:=wI64 k15
   exact Zac (G:=Zab kp80 [] []) 1000 [false] ⟨(atC (cd Try.f80) [1,1,0,0,0]),[(2,AV.ptr 0 0 0 0),(3,AV.ptr 1 0 0 0),(4,AV.ptr 2 0 0 0),(5,vi (wi (N.fd (lo+hi) 2+1))),(6,vi hi)],[⟨[(zCxB2 S A j)],3,0,false,false⟩,⟨[ag [vi v,vi a]],2,0,false,false⟩,⟨[zCxB3],2,0,false,false⟩],_,[],_⟩ (by kernel_rfl) (bc (Zal (fun h=>d14 (i13.1 h))) b0) q0 c0 (by (try rw [w16]);all_goals exact H)
 ·obtain ⟨k17,H⟩:=H
  have w18:wi (v+lo)=v+lo:=wI64 k17
  exact Zap (G:=Zab kp80 [] []) 1000 [false] (ag [vi (wi (v+lo)),vi lo]) (by kernel_rfl) (bc (Zal (fun h=>d2 (Zad.1 h))) (bc rfl (bc rfl b0))) q0 c0 (by (try rw [w18]);all_goals exact H)
end Go.Av

namespace Go.Av
open Go.Proofs
namespace N
def vlE (S A j:Int):Int:=if wi S 1 100000=true/\wi A 1 100000=true/\wi j 2 100000=true then 0 else 1
def sfB (S A j v a:Int):Bool:=bif wi v 0 S then bif wi a (-A) A then (if a>0 then decide (v+fad j a<=S) else decide (v-fad j (-a)>=0)) else false else false
def okW (v a:Int):Prop:=(-1000000000000<=v/\v<=1000000000000) /\ -1000000000000<=a/\a<=1000000000000
def okS (S A j v a:Int):Prop:=Zbv S A j/\okW v a
def okB3 (S A j v a:Int):Prop:=Zbv S A j/\inv S A j v a
noncomputable def brk (S A j v a:Int):Int:=Classical.epsilon fun b=>Ev M1 (.pure 80 [.agg [.int .i64 S,.int .i64 A,.int .i64 j],.agg [.int .i64 v,.int .i64 a]]) (.agg [.int .i64 (v+b),.int .i64 b]) []/\brkS A j v a b
end N
theorem ZdE {S A j:Int}:N.vlE S A j=0 ↔ N.Zbv S A j:=by
 unfold N.vlE N.Zbv
 constructor
 ·intro h
  split at h
  ·rename_i h';exact ⟨ZbW.1 h'.1,ZbW.1 h'.2.1,ZbW.1 h'.2.2⟩
  ·cases h
 ·intro h
  rw [if_pos ⟨ZbW.2 h.1,ZbW.2 h.2.1,ZbW.2 h.2.2⟩]
theorem sfB_iff {S A j v a:Int}:N.sfB S A j v a=true ↔ N.safe S A j v a:=by
 unfold N.sfB N.safe
 cases h1:N.wi v 0 S with
 | false =>
  have h1:¬(0<=v/\v<=S):=fun h=>by rw [ZbW.2 h] at h1;cases h1
  exact ⟨fun h=>(nomatch h),fun h=>absurd h.1.1 h1⟩
 | true =>
  have h1:=ZbW.1 h1
  cases h2:N.wi a (-A) A with
  | false =>
   have h2:¬(-A<=a/\a<=A):=fun h=>by rw [ZbW.2 h] at h2;cases h2
   exact ⟨fun h=>(nomatch h),fun h=>absurd h.1.2 h2⟩
  | true =>
   have h2:=ZbW.1 h2
   simp only [cond_true]
   by_cases hp:a>0
   ·rw [if_pos hp,decide_eq_true_eq]
    exact ⟨fun h=>⟨⟨h1,h2⟩,fun _=>h,fun z=>absurd hp z⟩,fun h=>h.2.1 hp⟩
   ·rw [if_neg hp,decide_eq_true_eq]
    exact ⟨fun h=>⟨⟨h1,h2⟩,fun z=>absurd z hp,fun _=>h⟩,fun h=>h.2.2 hp⟩
theorem fad_bd {j a:Int} (h:N.okF j a):N.fad j a<=1000000000000:=by
 obtain ⟨hj,h1,h2⟩:=h
 by_cases hs:a<=j
 ·rw [ZaO hs];omega
 ·unfold N.fad
  rw [if_neg hs]
  obtain ⟨n,hn⟩:∃ n,(a-1).tdiv j=n:=⟨_,rfl⟩
  have hnn:0<=n/\j*n<=a-1:=by
   rw [Int.tdiv_eq_ediv_of_nonneg (by omega)] at hn
   rw [<- hn]
   exact ⟨Int.ediv_nonneg (by omega) (by omega),Int.mul_ediv_self_le (by omega)⟩
  have hn2:n<=1000000:=by
   have:=Int.mul_le_mul (show (1:Int)<=j by omega) (Int.le_refl n) hnn.1 (by omega)
   omega
  rw [hn]
  have p1:n*a<=1000000*1000000:=Int.mul_le_mul hn2 h2 (by omega) (by omega)
  have p3:0<=j*n*(n+1):=Int.mul_nonneg (Int.mul_nonneg (by omega) hnn.1) (by omega)
  have p4:0<=(j*n*(n+1)).tdiv 2:=by
   rw [Int.tdiv_eq_ediv_of_nonneg p3];omega
  omega
theorem ev73 (S A j:Int):Ev M1 (.pure 73 [.agg [.int .i64 S,.int .i64 A,.int .i64 j]]) (.int .i64 (N.vlE S A j)) []:=by
 refine call73 (vlA S A j _ ⟨fun h => ?_,fun h => ?_⟩)
 ·unfold N.vlE
  rw [if_pos ⟨h.1.1,h.1.2,h.2⟩]
 ·unfold N.vlE
  rw [if_neg fun y=>h ⟨⟨y.1,y.2.1⟩,y.2.2⟩]
theorem ev98 (S A j v a:Int) (h:N.okS S A j v a):Ev M1 (.pure 98 [.agg [.int .i64 S,.int .i64 A,.int .i64 j],.agg [.int .i64 v,.int .i64 a]]) (.bool (N.sfB S A j v a)) []:=by
 obtain ⟨hl,hv,ha⟩:=h
 unfold N.Zbv at hl
 have ez:∀ x:Int,0-x = -x:=fun x=>by omega
 refine call98 (sfA S A j v a _ ⟨by omega,fun h => ?_,fun h => ?_⟩)
 ·unfold N.sfB
  rw [ez] at h
  rcases h with h | h
  ·rw [Bool.eq_false_iff.2 h];rfl
  ·rw [Bool.eq_false_iff.2 h]
   cases N.wi v 0 S <;> rfl
 ·rw [ez] at h
  have h1:N.wi v 0 S=true:=Classical.byContradiction fun y=>h (.inl y)
  have h2:N.wi a (-A) A=true:=Classical.byContradiction fun y=>h (.inr y)
  have g1:=ZbW.1 h1
  have g2:=ZbW.1 h2
  have e:N.sfB S A j v a=if a>0 then decide (v+N.fad j a<=S) else decide (v-N.fad j (-a)>=0):=by
   unfold N.sfB
   rw [h1,h2];rfl
  rw [e]
  have f1:N.okF j a:=⟨by omega,by omega,by omega⟩
  have f2:N.okF j (0-a):=⟨by omega,by omega,by omega⟩
  have b1:=fad_bd f1
  have b2:=fad_bd f2
  have c1:=ZbI (j:=j) (a:=a) (by omega)
  have c2:=ZbI (j:=j) (a:=0-a) (by omega)
  refine ⟨fun hp=>⟨f1,by omega,by rw [if_pos hp]⟩,fun hp=>⟨by omega,f2,by omega,by rw [if_neg hp,ez]⟩⟩
theorem brk_loop {S A j v a:Int} (hl:N.Zbv S A j) (hi:N.inv S A j v a):∀ (k:Nat) (lo hi:Int),hi-lo<=k->lo<=hi->max (-A) (a-j)<=lo->hi<=min A (a+j)->N.cnd j v hi->(lo=max (-A) (a-j)\/¬N.cnd j v (lo-1)) ->
  ∃ b,ZgU S A j v a lo hi (Zaj (.agg [.int .i64 (v+b),.int .i64 b]))/\N.brkS A j v a b:=by
 obtain ⟨⟨hv,ha1,ha2⟩,_,hS⟩:=hi
 have hl':=hl
 unfold N.Zbv at hl'
 have hfa:=ZbI (j:=j) (a:=a) (by omega)
 intro k
 induction k with
 | zero =>
  intro lo hi hk hle h1 h2 hc hn
  have:lo=hi:=by omega
  subst this
  exact ⟨lo,bkL _ _ _ _ _ _ _ _ ⟨fun z=>absurd z (by omega),fun _=>⟨by omega,rfl⟩⟩,⟨h1,h2⟩,hc,hn⟩
 | succ k ih =>
  intro lo hi hk hle h1 h2 hc hn
  by_cases hlt:lo<hi
  ·obtain ⟨m,hm⟩:∃ m,N.fd (lo+hi) 2=m:=⟨_,rfl⟩
   have hmr:lo<=m/\m<hi:=by unfold N.fd at hm;omega
   have f2:N.okF j (0-m):=⟨by omega,by omega,by omega⟩
   have b2:=fad_bd f2
   have c2:=ZbI (j:=j) (a:=0-m) (by omega)
   have ec:N.cnd j v m ↔ v+m-N.fad j (0-m)>=0:=by unfold N.cnd;rw [show -m=0-m by omega]
   by_cases hcm:v+m-N.fad j (0-m)>=0
   ·obtain ⟨b,g1,g2⟩:=ih lo m (by omega) hmr.1 h1 (by omega) (ec.2 hcm) hn
    refine ⟨b,bkL _ _ _ _ _ _ _ _ ⟨fun _ => ?_,fun z=>absurd hlt z⟩,g2⟩
    rw [hm]
    exact ⟨by omega,⟨by omega,by omega,by omega⟩,by omega,f2,by omega,by omega,fun _=>g1,fun z=>absurd hcm z⟩
   ·obtain ⟨b,g1,g2⟩:=ih (m+1) hi (by omega) (by omega) (by omega) h2 hc (.inr (by rw [Int.add_sub_cancel];exact fun y=>hcm (ec.1 y)))
    refine ⟨b,bkL _ _ _ _ _ _ _ _ ⟨fun _ => ?_,fun z=>absurd hlt z⟩,g2⟩
    rw [hm]
    exact ⟨by omega,⟨by omega,by omega,by omega⟩,by omega,f2,by omega,by omega,fun z=>absurd z hcm,fun _=>⟨by omega,g1⟩⟩
  ·have:lo=hi:=by omega
   subst this
   exact ⟨lo,bkL _ _ _ _ _ _ _ _ ⟨fun z=>absurd z (by omega),fun _=>⟨by omega,rfl⟩⟩,⟨h1,h2⟩,hc,hn⟩
theorem brk_ex {S A j v a:Int} (hl:N.Zbv S A j) (hi:N.inv S A j v a):∃ b,Ev M1 (.pure 80 [.agg [.int .i64 S,.int .i64 A,.int .i64 j],.agg [.int .i64 v,.int .i64 a]]) (.agg [.int .i64 (v+b),.int .i64 b]) []/\N.brkS A j v a b:=by
 obtain ⟨r1,r2⟩:=brk_room hl hi
 have hl':=hl
 unfold N.Zbv at hl'
 have ha:=hi.1
 obtain ⟨b,g1,g2⟩:=brk_loop hl hi (min A (a+j)-max (-A) (a-j)).toNat (max (-A) (a-j)) (min A (a+j)) (by omega) r1 (Int.le_refl _) (Int.le_refl _) r2 (.inl rfl)
 refine ⟨b,call80 (bkA S A j v a _ ⟨by omega,by omega,by omega,?_⟩),g2⟩
 have e1:(if a-j>0-A then a-j else 0-A)=max (-A) (a-j):=by split <;> omega
 have e2:(if a+j<A then a+j else A)=min A (a+j):=by split <;> omega
 rw [e1,e2]
 exact g1
theorem brk_sp {S A j v a:Int} (hl:N.Zbv S A j) (hi:N.inv S A j v a):Ev M1 (.pure 80 [.agg [.int .i64 S,.int .i64 A,.int .i64 j],.agg [.int .i64 v,.int .i64 a]]) (.agg [.int .i64 (v+N.brk S A j v a),.int .i64 (N.brk S A j v a)]) []/\N.brkS A j v a (N.brk S A j v a):=
 Classical.epsilon_spec (p:=fun b=>Ev M1 (.pure 80 [.agg [.int .i64 S,.int .i64 A,.int .i64 j],.agg [.int .i64 v,.int .i64 a]]) (.agg [.int .i64 (v+b),.int .i64 b]) []/\N.brkS A j v a b) (brk_ex hl hi)
theorem ev80 (S A j v a:Int) (h:N.okB3 S A j v a):Ev M1 (.pure 80 [.agg [.int .i64 S,.int .i64 A,.int .i64 j],.agg [.int .i64 v,.int .i64 a]]) (.agg [.int .i64 (v+N.brk S A j v a),.int .i64 (N.brk S A j v a)]) []:=(brk_sp h.1 h.2).1
theorem brk_ok {S A j:Int} (hl:N.Zbv S A j):N.brOk S A j (N.brk S A j):=fun _ _ hi=>(brk_sp hl hi).2
end Go.Av

namespace Go.Av
open Go.Proofs
set_option maxRecDepth 100000
def fi79:Fi:=⟨17,[.tmp 4]⟩
def kp79:List (Nat × List Nat):=[(0,[2,3]),(1,[2,3,5]),(2,[2,3,5,8]),(3,[2,3,5]),(4,[2,3,5]),(5,[4])]
def dsA_at (S A j:Int) (v a:Int) (Q:AV->Heap->Prop):Prop:=Wp M1 (.run fi79 (atC (cd Try.f79) []) [(0,.agg [.int .i64 S,.int .i64 A,.int .i64 j]),(1,.agg [.int .i64 v,.int .i64 a])] []) Q
def ZgQ (S A j:Int) (v a s:Int) (Q:AV->Heap->Prop):Prop:=Wp M1 (.run fi79 (atC (cd Try.f79) [1,1,0,0,0]) [(2,.ptr 0 0 0 0),(3,.ptr 1 0 0 0),(5,.int .i64 s)] [⟨[.agg [.int .i64 S,.int .i64 A,.int .i64 j]],3,0,false,false⟩,⟨[.agg [.int .i64 v,.int .i64 a]],2,0,false,false⟩]) Q
theorem call79 {args:List AV} {d:AV} (h:wc M1 fi79 Try.f79 args d):Ev M1 (.pure 79 args) d []:=pcl _ _ (by kernel_rfl) h
theorem dsA (S A j:Int) (v a:Int)  (dq:AV) (H :
  ZgQ S A j v a 0 (Zaj dq)) :
 dsA_at S A j v a (Zaj dq):=by
 unfold dsA_at
 exact Zac (G:=Zab kp79 [] []) 1000 [] ⟨(atC (cd Try.f79) [1,1,0,0,0]),[(2,AV.ptr 0 0 0 0),(3,AV.ptr 1 0 0 0),(5,vi 0)],[⟨[ag [vi S,vi A,vi j]],3,0,false,false⟩,⟨[ag [vi v,vi a]],2,0,false,false⟩],_,[],_⟩ (by kernel_rfl) b0 q0 c0 H
theorem dsL (S A j:Int) (v a s:Int)  (dq:AV) (H :
  ((¬((v=0)/\(a=0)))->(N.okB3 S A j v a) /\
   (-9223372036854775808<=s+(v+N.brk S A j v a)/\s+(v+N.brk S A j v a)<=9223372036854775807) /\
   ZgQ S A j (v+N.brk S A j v a) (N.brk S A j v a) (s+(v+N.brk S A j v a)) (Zaj dq)) /\
  (¬(¬((v=0)/\(a=0)))->vi s=dq)) :
 ZgQ S A j v a s (Zaj dq):=by
 unfold ZgQ
 rcases xq H with ⟨d2,H⟩|⟨d2,H⟩
 ·obtain ⟨k3,k4,H⟩:=H
  have w5:wi (s+(v+N.brk S A j v a))=s+(v+N.brk S A j v a):=wI64 k4
  exact Zac (G:=Zab kp79 [(3,2,.call (ag [vi (v+N.brk S A j v a),vi (N.brk S A j v a)]) none)] []) 1000 [true] ⟨(atC (cd Try.f79) [1,1,0,0,0]),[(2,AV.ptr 0 0 0 0),(3,AV.ptr 1 0 0 0),(5,vi (wi (s+(v+N.brk S A j v a))))],[⟨[ag [vi S,vi A,vi j]],3,0,false,false⟩,⟨[ag [vi (v+N.brk S A j v a),vi (N.brk S A j v a)]],2,0,false,false⟩],_,[],_⟩ (by kernel_rfl) (bc rfl (bc (Zam ((Zay (Zau i_eq (i_at i_eq))).2 d2)) (bc rfl (bc rfl (bc rfl (bc rfl b0)))))) q0 (ce (@ev80 S A j v a k3) c0) (by (try rw [w5]);all_goals exact H)
 ·exact Zap (G:=Zab kp79 [] []) 1000 [false] (vi s) (by kernel_rfl) (bc rfl (bc (Zal (fun h=>d2 ((Zay (Zau i_eq (i_at i_eq))).1 h))) b0)) q0 c0 H
end Go.Av

namespace Go.Av
open Go.Proofs
namespace N
noncomputable def dis (S A j v a:Int):Int:=dst (brk S A j) S j v a
end N
theorem dis_bd {S A j v a:Int} (hl:N.Zbv S A j) (hi:N.inv S A j v a):0<=N.dis S A j v a/\N.dis S A j v a<=50000000000:=by
 have h1:=dst_bd hl (brk_ok hl) hi
 have h2:=far_bd hl hi
 exact ⟨h1.1,by have:=h1.2;unfold N.dis;omega⟩
theorem dis_loop {S A j:Int} (hl:N.Zbv S A j) {v a:Int} (hi:N.inv S A j v a):∀ s:Int,0<=s->s+N.dis S A j v a<=60000000000->ZgQ S A j v a s (Zaj (.int .i64 (s+N.dis S A j v a))):=by
 refine brk_ind (P:=fun v a => ∀ s:Int,0<=s->s+N.dis S A j v a<=60000000000->ZgQ S A j v a s (Zaj (.int .i64 (s+N.dis S A j v a)))) hl (brk_ok hl) ?_ (fun v a hi hz hn ih => ?_) (N.Zf6 S j v a).toNat v a hi (by omega)
 ·intro s h0 h1
  have e:N.dis S A j 0 0=0:=dst_rest hl
  rw [e,Int.add_zero]
  exact dsL _ _ _ _ _ _ _ ⟨fun z=>absurd ⟨rfl,rfl⟩ z,fun _=>rfl⟩
 ·intro s h0 h1
  have e:N.dis S A j v a=(v+N.brk S A j v a)+N.dis S A j (v+N.brk S A j v a) (N.brk S A j v a):=dst_step hl (brk_ok hl) hi hz
  have hd:=dis_bd hl hn
  have hp:=hn.1.1
  rw [e] at h1 ⊢
  rw [<- Int.add_assoc]
  exact dsL _ _ _ _ _ _ _ ⟨fun _=>⟨⟨hl,hi⟩,by omega,ih _ (by omega) (by omega)⟩,fun z=>absurd hz z⟩
theorem ev79 (S A j v a:Int) (h:N.okB3 S A j v a):Ev M1 (.pure 79 [.agg [.int .i64 S,.int .i64 A,.int .i64 j],.agg [.int .i64 v,.int .i64 a]]) (.int .i64 (N.dis S A j v a)) []:=by
 have hd:=dis_bd h.1 h.2
 have:=dis_loop h.1 h.2 0 (by omega) (by omega)
 rw [Int.zero_add] at this
 exact call79 (dsA S A j v a _ this)
end Go.Av

namespace Go.Av
open Go.Proofs
set_option maxRecDepth 100000
def fi75:Fi:=⟨24,[.tmp 4,.tmp 5]⟩
def kp75:List (Nat × List Nat):=[(0,[0,3]),(1,[0,3,13]),(2,[4,5]),(3,[0,3,15]),(4,[4,5]),(5,[0,6]),(6,[4,5])]
def fi82:Fi:=⟨20,[.tmp 6]⟩
def kp82:List (Nat × List Nat):=[(0,[0,1,2,3]),(1,[6])]
def fi97:Fi:=⟨67,[.tmp 4]⟩
def kp97:List (Nat × List Nat):=[(0,[0,3]),(1,[0,3,10]),(2,[4]),(3,[0,3,5]),(4,[0,3,5,14,15]),(5,[0,3,5,14,15,16]),(6,[0,3,5,6,14,15]),(7,[0,3,5,6,7,14,15]),(8,[0,3,5,6,7,14,15,21]),(9,[0,3,5,7,14,15]),(10,[0,3,5,7,14,15,59]),(11,[4]),(12,[0,3,5,14,15]),(13,[0,3,5,14,15]),(14,[4])]
def fi112:Fi:=⟨32,[.tmp 5]⟩
def kp112:List (Nat × List Nat):=[(0,[0,1,2,3]),(1,[2,3,6]),(2,[5])]
def tkA_at (S A j:Int) (n:Int) (Q:AV->Heap->Prop):Prop:=Wp M1 (.run fi75 (atC (cd Try.f75) []) [(0,.int .i64 n),(1,.agg [.int .i64 S,.int .i64 A,.int .i64 j])] []) Q
def pjA_at (x u p n:Int) (Q:AV->Heap->Prop):Prop:=Wp M1 (.run fi82 (atC (cd Try.f82) []) [(0,.int .i64 x),(1,.int .i64 u),(2,.eptr 1 [.int .i64 p] 0 0),(3,.eptr 1 [.int .i64 n] 0 0)] []) Q
def shA_at (S A j:Int) (f:Bool) (X:List Int) (Q:AV->Heap->Prop):Prop:=Wp M1 (.run fi97 (atC (cd Try.f97) []) [(0,.vec f 1 (X.map (.int .i64))),(1,.agg [.int .i64 S,.int .i64 A,.int .i64 j])] []) Q
def Zgu (S A j:Int) (v a:Int) (f:Bool) (X:List Int) (n i:Int) (Q:AV->Heap->Prop):Prop:=Wp M1 (.run fi97 (atC (cd Try.f97) [1,1,1,0,1,0,0]) [(0,.vec f 1 (X.map (.int .i64))),(3,.ptr 0 0 0 0),(5,.ptr 1 0 0 0),(14,.int .i64 n),(15,.int .i64 i)] [⟨[.agg [.int .i64 S,.int .i64 A,.int .i64 j]],3,0,false,false⟩,⟨[.agg [.int .i64 v,.int .i64 a]],2,0,false,false⟩]) Q
def nfA_at (S A j:Int) (v a r b:Int) (Q:AV->Heap->Prop):Prop:=Wp M1 (.run fi112 (atC (cd Try.f112) []) [(0,.int .i64 b),(1,.eptr 2 [.agg [.int .i64 v,.int .i64 a]] 0 0),(2,.eptr 1 [.int .i64 r] 0 0),(3,.eptr 3 [.agg [.int .i64 S,.int .i64 A,.int .i64 j]] 0 0)] []) Q
theorem call75 {args:List AV} {d:AV} (h:wc M1 fi75 Try.f75 args d):Ev M1 (.pure 75 args) d []:=pcl _ _ (by kernel_rfl) h
theorem call82 {args:List AV} {d:AV} (h:wc M1 fi82 Try.f82 args d):Ev M1 (.pure 82 args) d []:=pcl _ _ (by kernel_rfl) h
theorem call97 {args:List AV} {d:AV} (h:wc M1 fi97 Try.f97 args d):Ev M1 (.pure 97 args) d []:=pcl _ _ (by kernel_rfl) h
theorem call112 {args:List AV} {d:AV} (h:wc M1 fi112 Try.f112 args d):Ev M1 (.pure 112 args) d []:=pcl _ _ (by kernel_rfl) h
theorem tkA (S A j:Int) (n:Int)  (dq:AV) (H :
  (((¬N.vlE S A j=0)\/(n<0))->tu [vi 0,vi 1]=dq) /\
  (¬((¬N.vlE S A j=0)\/(n<0))->((n>1000000000000)->tu [vi 0,vi 3]=dq) /\
   (¬(n>1000000000000)->(N.okI j) /\
    (¬N.sim S A j=0) /\
    (-9223372036854775808<=n+N.sim S A j/\n+N.sim S A j<=9223372036854775807) /\
    (-9223372036854775808<=n+N.sim S A j-1/\n+N.sim S A j-1<=9223372036854775807) /\
    (-9223372036854775808<=(n+N.sim S A j-1).tdiv (N.sim S A j)/\(n+N.sim S A j-1).tdiv (N.sim S A j)<=9223372036854775807) /\
    tu [vi ((n+N.sim S A j-1).tdiv (N.sim S A j)),vi 0]=dq))) :
 tkA_at S A j n (Zaj dq):=by
 unfold tkA_at
 refine Zac (G:=Zab kp75 [(1,1,.call (vi (N.vlE S A j)) none)] []) 5 [] ⟨(atC (cd Try.f75) [1,0,1]),[(0,vi n),(3,AV.ptr 0 0 0 0),(13,vb (bif N.vlE S A j != 0 then true else decide (n<0)))],[⟨[ag [vi S,vi A,vi j]],3,0,false,false⟩],_,[],_⟩ (by kernel_rfl) (bc rfl b0) q0 (ce (@ev73 S A j) c0) ?_
 rcases xq H with ⟨d2,H⟩|⟨d2,H⟩
 ·exact Zap (G:=Zab kp75 [] []) 1000 [true] (tu [vi 0,vi 1]) (by kernel_rfl) (bc (Zam ((ZaD i_ne Zad).2 d2)) b0) q0 c0 H
 ·rcases xq H with ⟨d4,H⟩|⟨d4,H⟩
  ·exact Zap (G:=Zab kp75 [] []) 1000 [false,true] (tu [vi 0,vi 3]) (by kernel_rfl) (bc (Zal (fun h=>d2 ((ZaD i_ne Zad).1 h))) (bc (Zam (Zad.2 d4)) b0)) q0 c0 H
  ·obtain ⟨k5,k7,k8,H⟩:=H
   have w9:wi (n+N.sim S A j)=n+N.sim S A j:=wI64 k8
   obtain ⟨k10,H⟩:=H
   have w11:wi (n+N.sim S A j-1)=n+N.sim S A j-1:=wI64 k10
   obtain ⟨k12,H⟩:=H
   have w13:wi ((n+N.sim S A j-1).tdiv (N.sim S A j))=(n+N.sim S A j-1).tdiv (N.sim S A j):=wI64 k12
   exact Zap (G:=Zab kp75 [(5,1,.call (vi (N.sim S A j)) none)] []) 1000 [false,false] (tu [vi (wi ((wi (wi (n+N.sim S A j)-1)).tdiv (N.sim S A j))),vi 0]) (by kernel_rfl) (bc (Zal (fun h=>d2 ((ZaD i_ne Zad).1 h))) (bc (Zal (fun h=>d4 (Zad.1 h))) (bc rfl (bc (ZeU.2 k7) b0)))) q0 (ce (@ev77 S A j k5) c0) (by (try rw [w9]);(try rw [w11]);(try rw [w13]);all_goals exact H)
theorem pjA (x u p n:Int)  (dq:AV) (H :
  (-9223372036854775808<=u-x/\u-x<=9223372036854775807) /\
  (-9223372036854775808<=2*(u-x)/\2*(u-x)<=9223372036854775807) /\
  (-9223372036854775808<=2*(u-x)*p/\2*(u-x)*p<=9223372036854775807) /\
  (-9223372036854775808<=2*(u-x)*p+n/\2*(u-x)*p+n<=9223372036854775807) /\
  (-9223372036854775808<=2*n/\2*n<=9223372036854775807) /\
  (N.okD (2*(u-x)*p+n) (2*n)) /\
  (-9223372036854775808<=x+N.fd (2*(u-x)*p+n) (2*n)/\x+N.fd (2*(u-x)*p+n) (2*n)<=9223372036854775807) /\
  vi (x+N.fd (2*(u-x)*p+n) (2*n))=dq) :
 pjA_at x u p n (Zaj dq):=by
 unfold pjA_at
 obtain ⟨k1,H⟩:=H
 have w2:wi (u-x)=u-x:=wI64 k1
 obtain ⟨k3,H⟩:=H
 have w4:wi (2*(u-x))=2*(u-x):=wI64 k3
 obtain ⟨k5,H⟩:=H
 have w6:wi (2*(u-x)*p)=2*(u-x)*p:=wI64 k5
 obtain ⟨k7,H⟩:=H
 have w8:wi (2*(u-x)*p+n)=2*(u-x)*p+n:=wI64 k7
 obtain ⟨k9,H⟩:=H
 have w10:wi (2*n)=2*n:=wI64 k9
 obtain ⟨k11,k12,H⟩:=H
 have w13:wi (x+N.fd (2*(u-x)*p+n) (2*n))=x+N.fd (2*(u-x)*p+n) (2*n):=wI64 k12
 exact Zap (G:=Zab kp82 [(1,11,.call (vi (N.fd (2*(u-x)*p+n) (2*n))) none)] []) 1000 [] (calls:=[pc 83 [vi (wi (wi (wi (2*wi (u-x))*p)+n)),vi (wi (2*n))] (vi (N.fd (2*(u-x)*p+n) (2*n)))]) (vi (wi (x+N.fd (2*(u-x)*p+n) (2*n)))) (by kernel_rfl) b0 q0 (ce (by (try rw [w2]);(try rw [w4]);(try rw [w6]);(try rw [w8]);(try rw [w10]);all_goals exact (@ev83 (2*(u-x)*p+n) (2*n) k11)) c0) (by (try rw [w13]);all_goals exact H)
theorem shA (S A j:Int) (f:Bool) (X:List Int)  (dq:AV) (H :
  ((¬N.vlE S A j=0)->vb false=dq) /\
  (¬(¬N.vlE S A j=0)->(-9223372036854775808<=(↑X.length:Int)+2/\(↑X.length:Int)+2<=9223372036854775807) /\
   Zgu S A j 0 0 f X ((↑X.length:Int)+2) 0 (Zaj dq))) :
 shA_at S A j f X (Zaj dq):=by
 unfold shA_at
 refine Zac (G:=Zab kp97 [(1,1,.call (vi (N.vlE S A j)) none)] []) 5 [] ⟨(atC (cd Try.f97) [1,0,1]),[(0,AV.vec f 1 (List.map vi X)),(3,AV.ptr 0 0 0 0),(10,vb (N.vlE S A j != 0))],[⟨[ag [vi S,vi A,vi j]],3,0,false,false⟩],_,[],_⟩ (by kernel_rfl) (bc rfl b0) q0 (ce (@ev73 S A j) c0) ?_
 rcases xq H with ⟨d2,H⟩|⟨d2,H⟩
 ·exact Zap (G:=Zab kp97 [] []) 1000 [true] (vb false) (by kernel_rfl) (bc (Zam (i_ne.2 d2)) b0) q0 c0 H
 ·have w3:(List.map vi X).length=X.length:=List.length_map ..
  obtain ⟨k4,H⟩:=H
  have w5:wi ((↑X.length:Int)+2)=(↑X.length:Int)+2:=wI64 k4
  exact Zac (G:=Zab kp97 [] []) 1000 [false] ⟨(atC (cd Try.f97) [1,1,1,0,1,0,0]),[(0,AV.vec f 1 (List.map vi X)),(3,AV.ptr 0 0 0 0),(5,AV.ptr 1 0 0 0),(14,vi (wi ((↑(List.map vi X).length:Int)+2))),(15,vi 0)],[⟨[ag [vi S,vi A,vi j]],3,0,false,false⟩,⟨[ag [vi 0,vi 0]],2,0,false,false⟩],_,[],_⟩ (by kernel_rfl) (bc (Zal (fun h=>d2 (i_ne.1 h))) (bc rfl b0)) q0 c0 (by (try rw [w3]);(try rw [w5]);all_goals exact H)
noncomputable abbrev zCxD5 (X:List Int) (i:Int) (S:Int) (v:Int) (A:Int):=bif !N.wi (X.getD i.toNat default) 0 S then true else !N.wi (X.getD i.toNat default-v) (0-A) A
noncomputable abbrev zCxD6 (X:List Int) (i:Int) (S:Int) (v:Int) (A:Int) (a:Int) (j:Int):=bif bif !N.wi (X.getD i.toNat default) 0 S then true else !N.wi (X.getD i.toNat default-v) (0-A) A then true else !N.wi (X.getD i.toNat default-v-a) (0-j) j
noncomputable abbrev zCxD7 (S:Int) (A:Int) (j:Int):=ag [vi S,vi A,vi j]
noncomputable abbrev zCxD8 (S:Int) (v:Int) (A:Int):=bif !N.wi 0 0 S then true else !N.wi (0-v) (0-A) A
noncomputable abbrev zCxD9 (S:Int) (v:Int) (A:Int) (a:Int) (j:Int):=bif bif !N.wi 0 0 S then true else !N.wi (0-v) (0-A) A then true else !N.wi (0-v-a) (0-j) j
theorem shL (S A j:Int) (v a:Int) (f:Bool) (X:List Int) (n i:Int)  (dq:AV) (H :
  ((i<n)->((i<(↑X.length:Int))->(0<=i) /\
    (i.toNat<X.length) /\
    (-9223372036854775808<=X.getD i.toNat default-v/\X.getD i.toNat default-v<=9223372036854775807) /\
    (-9223372036854775808<=0-A/\0-A<=9223372036854775807) /\
    (-9223372036854775808<=X.getD i.toNat default-v-a/\X.getD i.toNat default-v-a<=9223372036854775807) /\
    (-9223372036854775808<=0-j/\0-j<=9223372036854775807) /\
    ((((¬(N.wi (X.getD i.toNat default) 0 S=true))\/(¬(N.wi (X.getD i.toNat default-v) (0-A) A=true)))\/(¬(N.wi (X.getD i.toNat default-v-a) (0-j) j=true)))->vb false=dq) /\
    (¬(((¬(N.wi (X.getD i.toNat default) 0 S=true))\/(¬(N.wi (X.getD i.toNat default-v) (0-A) A=true)))\/(¬(N.wi (X.getD i.toNat default-v-a) (0-j) j=true)))->(-9223372036854775808<=i+1/\i+1<=9223372036854775807) /\
     Zgu S A j (X.getD i.toNat default) (X.getD i.toNat default-v) f X n (i+1) (Zaj dq))) /\
   (¬(i<(↑X.length:Int))->(-9223372036854775808<=0-v/\0-v<=9223372036854775807) /\
    (-9223372036854775808<=0-A/\0-A<=9223372036854775807) /\
    (-9223372036854775808<=0-v-a/\0-v-a<=9223372036854775807) /\
    (-9223372036854775808<=0-j/\0-j<=9223372036854775807) /\
    ((((¬(N.wi 0 0 S=true))\/(¬(N.wi (0-v) (0-A) A=true)))\/(¬(N.wi (0-v-a) (0-j) j=true)))->vb false=dq) /\
    (¬(((¬(N.wi 0 0 S=true))\/(¬(N.wi (0-v) (0-A) A=true)))\/(¬(N.wi (0-v-a) (0-j) j=true)))->(-9223372036854775808<=i+1/\i+1<=9223372036854775807) /\
     Zgu S A j 0 (0-v) f X n (i+1) (Zaj dq)))) /\
  (¬(i<n)->vb true=dq)) :
 Zgu S A j v a f X n i (Zaj dq):=by
 unfold Zgu
 rcases xq H with ⟨d2,H⟩|⟨d2,H⟩
 ·have w3:(List.map vi X).length=X.length:=List.length_map ..
  have i4:(decide (i<(↑(List.map vi X).length:Int)))=true ↔ (i<(↑X.length:Int)):=(by (try rw [w3]);all_goals exact Zad)
  rcases xq H with ⟨d5,H⟩|⟨d5,H⟩
  ·obtain ⟨k7,H⟩:=H
   have i8:(decide (i.toNat<(List.map vi X).length))=true ↔ (i.toNat<X.length):=(by (try rw [w3]);all_goals exact Zad)
   obtain ⟨k9,k10,H⟩:=H
   have w11:wi (X.getD i.toNat default-v)=X.getD i.toNat default-v:=wI64 k10
   obtain ⟨k12,H⟩:=H
   have w13:wi (0-A)=0-A:=wI64 k12
   obtain ⟨k15,H⟩:=H
   have w16:wi (X.getD i.toNat default-v-a)=X.getD i.toNat default-v-a:=wI64 k15
   obtain ⟨k17,H⟩:=H
   have w18:wi (0-j)=0-j:=wI64 k17
   refine Zac (G:=Zab kp97 [(9,3,.elem (vi (X.getD i.toNat default))),(10,3,.call (vb (N.wi (X.getD i.toNat default) 0 S)) none),(10,15,.call (vb (N.wi (X.getD i.toNat default-v) (0-A) A)) none),(10,31,.call (vb (N.wi (X.getD i.toNat default-v-a) (0-j) j)) none)] []) 19 [true,true] ⟨(atC (cd Try.f97) [1,1,1,0,1,0,0,1,1,0,0,1,1,1,0,1]),[(0,AV.vec f 1 (List.map vi X)),(3,AV.ptr 0 0 0 0),(5,AV.ptr 1 0 0 0),(7,vi (X.getD i.toNat default)),(14,vi n),(15,vi i),(59,vb (zCxD6 X i S v A a j))],[⟨[(zCxD7 S A j)],3,0,false,false⟩,⟨[ag [vi v,vi a]],2,0,false,false⟩],[(decide (i<n))==true,(decide (i<(↑(List.map vi X).length:Int)))==true,decide (0<=i),decide (i.toNat<(List.map vi X).length),true,!((!N.wi (X.getD i.toNat default) 0 S)==false&&true)||true,!((!N.wi (X.getD i.toNat default) 0 S)==false&&true)||true,!((!N.wi (X.getD i.toNat default) 0 S)==false&&true)||true,!((zCxD5 X i S v A)==false&&true)||true,!((zCxD5 X i S v A)==false&&true)||true,!((zCxD5 X i S v A)==false&&true)||true,!((zCxD5 X i S v A)==false&&true)||true],[((List.map vi X).get?Internal i.toNat=some (vi (X.getD i.toNat default)))],[⟨true,false,81,[vi (X.getD i.toNat default),vi 0,vi S],[],vb (N.wi (X.getD i.toNat default) 0 S),[]⟩,⟨(!N.wi (X.getD i.toNat default) 0 S)==false&&true&&true,false,81,[vi (wi (X.getD i.toNat default-v)),vi (wi (0-A)),vi A],[],vb (N.wi (X.getD i.toNat default-v) (0-A) A),[]⟩,⟨(zCxD5 X i S v A)==false&&true&&true,false,81,[vi (wi (wi (X.getD i.toNat default-v)-a)),vi (wi (0-j)),vi j],[],vb (N.wi (X.getD i.toNat default-v-a) (0-j) j),[]⟩]⟩ (by kernel_rfl) (bc (Zam (Zad.2 d2)) (bc (Zam (i4.2 d5)) (bc (Zad.2 k7) (bc (i8.2 k9) (bc rfl (bc (Bool.or_true _) (bc (Bool.or_true _) (bc (Bool.or_true _) (bc (Bool.or_true _) (bc (Bool.or_true _) (bc (Bool.or_true _) (bc (Bool.or_true _) b0)))))))))))) (qc (Zaz k9) q0) (cc (fun _=>(@ev81 (X.getD i.toNat default) 0 S)) (cc (fun hc=>((by (try rw [w11]);(try rw [w13]);all_goals exact (@ev81 (X.getD i.toNat default-v) (0-A) A)):Ev M1 (Conf.pure 81 [vi (wi (X.getD i.toNat default-v)),vi (wi (0-A)),vi A]) (vb (N.wi (X.getD i.toNat default-v) (0-A) A)) [])) (cc (fun hc=>((by (try rw [w11]);(try rw [w16]);(try rw [w18]);all_goals exact (@ev81 (X.getD i.toNat default-v-a) (0-j) j)):Ev M1 (Conf.pure 81 [vi (wi (wi (X.getD i.toNat default-v)-a)),vi (wi (0-j)),vi j]) (vb (N.wi (X.getD i.toNat default-v-a) (0-j) j)) [])) c0))) ?_
   rcases xq H with ⟨d21,H⟩|⟨d21,H⟩
   ·exact Zap (G:=Zab kp97 [] []) 1000 [true] (asm:=[(zCxD6 X i S v A a j)==true]) (vb false) (by kernel_rfl) (bc (Zam ((ZaD (ZaD (Zay (Zas _)) (Zay (Zas _))) (Zay (Zas _))).2 d21)) b0) q0 c0 H
   ·obtain ⟨k22,H⟩:=H
    have w23:wi (i+1)=i+1:=wI64 k22
    exact Zac (G:=Zab kp97 [] []) 1000 [false] ⟨(atC (cd Try.f97) [1,1,1,0,1,0,0]),[(0,AV.vec f 1 (List.map vi X)),(3,AV.ptr 0 0 0 0),(5,AV.ptr 1 0 0 0),(14,vi n),(15,vi (wi (i+1)))],[⟨[(zCxD7 S A j)],3,0,false,false⟩,⟨[ag [vi (X.getD i.toNat default),vi (wi (X.getD i.toNat default-v))]],2,0,false,false⟩],[(zCxD6 X i S v A a j)==false,true,true],[],_⟩ (by kernel_rfl) (bc (Zal (fun h=>d21 ((ZaD (ZaD (Zay (Zas _)) (Zay (Zas _))) (Zay (Zas _))).1 h))) (bc rfl (bc rfl b0))) q0 c0 (by (try rw [w11]);(try rw [w23]);all_goals exact H)
  ·obtain ⟨k24,H⟩:=H
   have w25:wi (0-v)=0-v:=wI64 k24
   obtain ⟨k26,H⟩:=H
   have w27:wi (0-A)=0-A:=wI64 k26
   obtain ⟨k29,H⟩:=H
   have w30:wi (0-v-a)=0-v-a:=wI64 k29
   obtain ⟨k31,H⟩:=H
   have w32:wi (0-j)=0-j:=wI64 k31
   refine Zac (G:=Zab kp97 [(10,3,.call (vb (N.wi 0 0 S)) none),(10,15,.call (vb (N.wi (0-v) (0-A) A)) none),(10,31,.call (vb (N.wi (0-v-a) (0-j) j)) none)] []) 19 [true,false] ⟨(atC (cd Try.f97) [1,1,1,0,1,0,0,1,1,0,0,1,1,1,0,1]),[(0,AV.vec f 1 (List.map vi X)),(3,AV.ptr 0 0 0 0),(5,AV.ptr 1 0 0 0),(7,vi 0),(14,vi n),(15,vi i),(59,vb (zCxD9 S v A a j))],[⟨[(zCxD7 S A j)],3,0,false,false⟩,⟨[ag [vi v,vi a]],2,0,false,false⟩],[(decide (i<n))==true,(decide (i<(↑(List.map vi X).length:Int)))==false,true,!((!N.wi 0 0 S)==false&&true)||true,!((!N.wi 0 0 S)==false&&true)||true,!((!N.wi 0 0 S)==false&&true)||true,!((zCxD8 S v A)==false&&true)||true,!((zCxD8 S v A)==false&&true)||true,!((zCxD8 S v A)==false&&true)||true,!((zCxD8 S v A)==false&&true)||true],[],[⟨true,false,81,[vi 0,vi 0,vi S],[],vb (N.wi 0 0 S),[]⟩,⟨(!N.wi 0 0 S)==false&&true&&true,false,81,[vi (wi (0-v)),vi (wi (0-A)),vi A],[],vb (N.wi (0-v) (0-A) A),[]⟩,⟨(zCxD8 S v A)==false&&true&&true,false,81,[vi (wi (wi (0-v)-a)),vi (wi (0-j)),vi j],[],vb (N.wi (0-v-a) (0-j) j),[]⟩]⟩ (by kernel_rfl) (bc (Zam (Zad.2 d2)) (bc (Zal (fun h=>d5 (i4.1 h))) (bc rfl (bc (Bool.or_true _) (bc (Bool.or_true _) (bc (Bool.or_true _) (bc (Bool.or_true _) (bc (Bool.or_true _) (bc (Bool.or_true _) (bc (Bool.or_true _) b0)))))))))) q0 (cc (fun _=>(@ev81 0 0 S)) (cc (fun hc=>((by (try rw [w25]);(try rw [w27]);all_goals exact (@ev81 (0-v) (0-A) A)):Ev M1 (Conf.pure 81 [vi (wi (0-v)),vi (wi (0-A)),vi A]) (vb (N.wi (0-v) (0-A) A)) [])) (cc (fun hc=>((by (try rw [w25]);(try rw [w30]);(try rw [w32]);all_goals exact (@ev81 (0-v-a) (0-j) j)):Ev M1 (Conf.pure 81 [vi (wi (wi (0-v)-a)),vi (wi (0-j)),vi j]) (vb (N.wi (0-v-a) (0-j) j)) [])) c0))) ?_
   rcases xq H with ⟨d35,H⟩|⟨d35,H⟩
   ·exact Zap (G:=Zab kp97 [] []) 1000 [true] (asm:=[(zCxD9 S v A a j)==true]) (vb false) (by kernel_rfl) (bc (Zam ((ZaD (ZaD (Zay (Zas _)) (Zay (Zas _))) (Zay (Zas _))).2 d35)) b0) q0 c0 H
   ·obtain ⟨k36,H⟩:=H
    have w37:wi (i+1)=i+1:=wI64 k36
    exact Zac (G:=Zab kp97 [] []) 1000 [false] ⟨(atC (cd Try.f97) [1,1,1,0,1,0,0]),[(0,AV.vec f 1 (List.map vi X)),(3,AV.ptr 0 0 0 0),(5,AV.ptr 1 0 0 0),(14,vi n),(15,vi (wi (i+1)))],[⟨[(zCxD7 S A j)],3,0,false,false⟩,⟨[ag [vi 0,vi (wi (0-v))]],2,0,false,false⟩],[(zCxD9 S v A a j)==false,true,true],[],_⟩ (by kernel_rfl) (bc (Zal (fun h=>d35 ((ZaD (ZaD (Zay (Zas _)) (Zay (Zas _))) (Zay (Zas _))).1 h))) (bc rfl (bc rfl b0))) q0 c0 (by (try rw [w25]);(try rw [w37]);all_goals exact H)
 ·exact Zap (G:=Zab kp97 [] []) 1000 [false] (vb true) (by kernel_rfl) (bc (Zal (fun h=>d2 (Zad.1 h))) b0) q0 c0 H
noncomputable abbrev zCxD10 (S:Int) (A:Int) (j:Int):=ag [vi S,vi A,vi j]
theorem nfA (S A j:Int) (v a r b:Int)  (dq:AV) (H :
  (-9223372036854775808<=v+b/\v+b<=9223372036854775807) /\
  ((v+b<=r)->(N.okS S A j (v+b) b)) /\
  (((v+b<=r)/\(N.sfB S A j (v+b) b=true))->(N.okB3 S A j (v+b) b)) /\
  vb (bif bif decide (v+b<=r) then N.sfB S A j (v+b) b else false then decide (N.dis S A j (v+b) b<=IntKind.i64.wrap (r-(v+b))) else false)=dq) :
 nfA_at S A j v a r b (Zaj dq):=by
 unfold nfA_at
 obtain ⟨k1,H⟩:=H
 have w2:wi (v+b)=v+b:=wI64 k1
 have i3:(decide (wi (v+b)<=r)==true&&true&&true)=true ↔ (v+b<=r):=(by (try rw [w2]);all_goals exact (i_at (i_at (i_bt Zad))))
 obtain ⟨k4,H⟩:=H
 have i5:((bif decide (wi (v+b)<=r) then N.sfB S A j (v+b) b else false)==true&&true&&true)=true ↔ ((v+b<=r)/\(N.sfB S A j (v+b) b=true)):=(by (try rw [w2]);all_goals exact (i_at (i_at (i_bt (Za9 Zad (Zas _))))))
 obtain ⟨k6,H⟩:=H
 exact Zap (G:=Zab kp112 [(2,7,.call (vb (N.sfB S A j (v+b) b)) none),(2,12,.call (vi (N.dis S A j (v+b) b)) none)] []) 1000 [] (asm:=[true,true,!(decide (wi (v+b)<=r)==true&&true)||true,!((bif decide (wi (v+b)<=r) then N.sfB S A j (v+b) b else false)==true&&true)||true,!((bif decide (wi (v+b)<=r) then N.sfB S A j (v+b) b else false)==true&&true)||true]) (calls:=[⟨decide (wi (v+b)<=r)==true&&true&&true,false,98,[(zCxD10 S A j),ag [vi (wi (v+b)),vi b]],[],vb (N.sfB S A j (v+b) b),[]⟩,⟨(bif decide (wi (v+b)<=r) then N.sfB S A j (v+b) b else false)==true&&true&&true,false,79,[(zCxD10 S A j),ag [vi (wi (v+b)),vi b]],[],vi (N.dis S A j (v+b) b),[]⟩]) (vb (bif bif decide (wi (v+b)<=r) then N.sfB S A j (v+b) b else false then decide (N.dis S A j (v+b) b<=wi (r-wi (v+b))) else false)) (by kernel_rfl) (bc rfl (bc rfl (bc (Bool.or_true _) (bc (Bool.or_true _) (bc (Bool.or_true _) b0))))) q0 (cc (fun hc=>((by (try rw [w2]);all_goals exact (@ev98 S A j (v+b) b (k4 (i3.1 hc)))):Ev M1 (Conf.pure 98 [(zCxD10 S A j),ag [vi (wi (v+b)),vi b]]) (vb (N.sfB S A j (v+b) b)) [])) (cc (fun hc=>((by (try rw [w2]);all_goals exact (@ev79 S A j (v+b) b (k6 (i5.1 hc)))):Ev M1 (Conf.pure 79 [(zCxD10 S A j),ag [vi (wi (v+b)),vi b]]) (vi (N.dis S A j (v+b) b)) [])) c0)) (by (try rw [w2]);all_goals exact H)
end Go.Av

namespace Go.Av
open Go.Proofs
namespace N
def tkE (S A j n:Int):Int:=if ¬vlE S A j=0\/n<0 then 1 else if n>1000000000000 then 3 else 0
def tkV (S A j n:Int):Int:=if ¬vlE S A j=0\/n<0 then 0 else if n>1000000000000 then 0 else (n+sim S A j-1).tdiv (sim S A j)
def okP (x u p n:Int):Prop:=((-40000000<=x/\x<=40000000) /\ -40000000<=u/\u<=40000000)/\(0<=p/\p<=n)/\1<=n/\n<=1000000000
def okX (X:List Int):Prop:=X.length<=1000000000 /\ ∀ x ∈ X,-1000000000000<=x/\x<=1000000000000
def smF (S A j:Int) (X:List Int):Nat->Int->Int->Int->Bool
 | 0,_,_,_=>true
 | k+1,i,v,a=>if ((¬wi (X.getD i.toNat default) 0 S=true)\/(¬wi (X.getD i.toNat default-v) (0-A) A=true))\/(¬wi (X.getD i.toNat default-v-a) (0-j) j=true) then false else smF S A j X k (i+1) (X.getD i.toNat default) (X.getD i.toNat default-v)
def smo (S A j:Int) (X:List Int):Bool:=if ¬vlE S A j=0 then false else smF S A j X (X.length+2) 0 0 0
def okN (S A j v r b:Int):Prop:=Zbv S A j/\(-1000000000<=v/\v<=1000000000)/\(-1000000000000<=r/\r<=1000000000000) /\ -1000000000<=b/\b<=1000000000
noncomputable def nfB (S A j v r b:Int):Bool:=bif bif decide (v+b<=r) then sfB S A j (v+b) b else false then decide (dis S A j (v+b) b<=r-(v+b)) else false
end N
theorem ZcW {a a' b b':AV} (h:Weak a a') (k:Weak b b'):Weak (.tup [a,b]) (.tup [a',b']):=by
 refine .tup _ _ rfl fun i x y hx hy => ?_
 match i with
 | 0=>simp at hx hy;subst hx;subst hy;exact h
 | 1=>simp at hx hy;subst hx;subst hy;exact k
 | i+2=>simp at hx
theorem sim_pos {S A j:Int} (hl:N.Zbv S A j):1<=N.sim S A j/\N.sim S A j<=100000:=by
 unfold N.Zbv at hl
 unfold N.sim
 rw [Int.tdiv_eq_ediv_of_nonneg (by omega)]
 omega
theorem ev75 (S A j n:Int):Ev M1 (.pure 75 [.int .i64 n,.agg [.int .i64 S,.int .i64 A,.int .i64 j]]) (.tup [.int .i64 (N.tkV S A j n),.int .i64 (N.tkE S A j n)]) []:=by
 refine call75 (tkA S A j n _ ⟨fun h => ?_,fun h=>⟨fun h2 => ?_,fun h2 => ?_⟩⟩)
 ·unfold N.tkV N.tkE;rw [if_pos h,if_pos h]
 ·unfold N.tkV N.tkE;rw [if_neg h,if_neg h,if_pos h2,if_pos h2]
 ·have hl:N.Zbv S A j:=ZdE.1 (Classical.byContradiction fun y=>h (.inl y))
  have hn:¬n<0:=fun y=>h (.inr y)
  have hs:=sim_pos hl
  have hq:0<=(n+N.sim S A j-1).tdiv (N.sim S A j)/\(n+N.sim S A j-1).tdiv (N.sim S A j)<=n+N.sim S A j-1:=by
   rw [Int.tdiv_eq_ediv_of_nonneg (by omega)]
   exact ⟨Int.ediv_nonneg (by omega) (by omega),Int.ediv_le_self _ (by omega)⟩
  unfold N.Zbv at hl
  refine ⟨⟨by omega,by omega⟩,by omega,by omega,by omega,by omega,?_⟩
  unfold N.tkV N.tkE;rw [if_neg h,if_neg h,if_neg h2,if_neg h2]
theorem mul_bd {a b B C:Int} (h1:-B<=a/\a<=B) (h2:0<=b/\b<=C) (hB:0<=B):-(B*C)<=a*b/\a*b<=B*C:=by
 have hC:0<=C:=by omega
 constructor
 ·rcases Int.lt_or_le a 0 with h | h
  ·have:=Int.mul_le_mul (show -a<=B by omega) h2.2 h2.1 hB
   rw [Int.neg_mul] at this;omega
  ·have:=Int.mul_nonneg h h2.1
   have:=Int.mul_nonneg hB hC
   omega
 ·rcases Int.lt_or_le a 0 with h | h
  ·have:=Int.mul_nonneg (show 0 <= -a by omega) h2.1
   rw [Int.neg_mul] at this
   have:=Int.mul_nonneg hB hC
   omega
  ·exact Int.mul_le_mul h1.2 h2.2 h2.1 hB
theorem pt_bd {x u p n:Int} (h:N.okP x u p n):-200000000<=(2*(u-x)*p+n) / (2*n)/\(2*(u-x)*p+n) / (2*n)<=200000000:=by
 obtain ⟨h1,h2,h3⟩:=h
 have hb:-(160000000*n)<=2*(u-x)*p/\2*(u-x)*p<=160000000*n:=mul_bd ⟨by omega,by omega⟩ h2 (by omega)
 constructor
 ·refine (Int.le_ediv_iff_mul_le (by omega)).2 ?_
  rw [show (-200000000:Int)*(2*n) = -(400000000*n) by omega]
  omega
 ·refine Int.le_of_lt_add_one ((Int.ediv_lt_iff_lt_mul (by omega)).2 ?_)
  rw [show (200000000+1:Int)*(2*n)=400000002*n by omega]
  omega
theorem ev82 (x u p n:Int) (h:N.okP x u p n):Ev M1 (.pure 82 [.int .i64 x,.int .i64 u,.eptr 1 [.int .i64 p] 0 0,.eptr 1 [.int .i64 n] 0 0]) (.int .i64 (N.pt x u p n)) []:=by
 have hq:=pt_bd h
 obtain ⟨h1,h2,h3⟩:=h
 have hb:-(160000000*1000000000)<=2*(u-x)*p/\2*(u-x)*p<=160000000*1000000000:=mul_bd ⟨by omega,by omega⟩ ⟨h2.1,by omega⟩ (by omega)
 refine call82 (pjA x u p n _ ⟨by omega,by omega,by omega,by omega,by omega,⟨by omega,by omega,by omega⟩,?_,rfl⟩)
 unfold N.fd
 omega
theorem smo_loop {S A j:Int} (f:Bool) {X:List Int} (hl:N.Zbv S A j) (hX:N.okX X):∀ (k:Nat) (i v a:Int),0<=i->(X.length:Int)+2-i=k->(0<=v/\v<=S)->(-A<=a/\a<=A)->Zgu S A j v a f X ((X.length:Int)+2) i (Zaj (.bool (N.smF S A j X k i v a))):=by
 obtain ⟨hx1,hx2⟩:=hX
 have hl':=hl
 unfold N.Zbv at hl'
 intro k
 induction k with
 | zero =>
  intro i v a h0 hk hv ha
  exact shL _ _ _ _ _ _ _ _ _ _ ⟨fun z=>absurd z (by omega),fun _=>rfl⟩
 | succ k ih =>
  intro i v a h0 hk hv ha
  refine shL _ _ _ _ _ _ _ _ _ _ ⟨fun _=>⟨fun hi => ?_,fun hi => ?_⟩,fun z=>absurd z (by omega)⟩
  ·have hm:X.getD i.toNat default ∈ X:=by
    rw [List.getD_eq_getElem?_getD,List.getElem?_eq_getElem (by omega)]
    exact List.getElem_mem _
   have hb:=hx2 _ hm
   refine ⟨h0,by omega,by omega,by omega,by omega,by omega,fun hc => ?_,fun hc=>⟨by omega,?_⟩⟩
   ·unfold N.smF;rw [if_pos hc]
   ·unfold N.smF
    rw [if_neg hc]
    have c1:=ZbW.1 (Classical.byContradiction fun y=>hc (.inl (.inl y)))
    have c2:=ZbW.1 (Classical.byContradiction fun y=>hc (.inl (.inr y)))
    exact ih _ _ _ (by omega) (by omega) c1 ⟨by omega,by omega⟩
  ·have hd:X.getD i.toNat default=0:=by
    rw [List.getD_eq_getElem?_getD,List.getElem?_eq_none (by omega)];rfl
   refine ⟨by omega,by omega,by omega,by omega,fun hc => ?_,fun hc=>⟨by omega,?_⟩⟩
   ·unfold N.smF;rw [hd,if_pos hc]
   ·unfold N.smF
    rw [hd,if_neg hc]
    have c2:=ZbW.1 (Classical.byContradiction fun y=>hc (.inl (.inr y)))
    exact ih _ _ _ (by omega) (by omega) ⟨by omega,by omega⟩ ⟨by omega,by omega⟩
theorem ev97 (S A j:Int) (f:Bool) (X:List Int) (h:N.okX X):Ev M1 (.pure 97 [.vec f 1 (X.map (.int .i64)),.agg [.int .i64 S,.int .i64 A,.int .i64 j]]) (.bool (N.smo S A j X)) []:=by
 refine call97 (shA S A j f X _ ⟨fun hv => ?_,fun hv=>⟨by have:=h.1;omega,?_⟩⟩)
 ·unfold N.smo;rw [if_pos hv]
 ·have hl:=ZdE.1 (Classical.not_not.1 hv)
  have:=smo_loop f hl h (X.length+2) 0 0 0 (by omega) (by omega) (by unfold N.Zbv at hl;omega) (by unfold N.Zbv at hl;omega)
  unfold N.smo;rw [if_neg hv]
  exact this
theorem ev112 (S A j v a r b:Int) (h:N.okN S A j v r b):Ev M1 (.pure 112 [.int .i64 b,.eptr 2 [.agg [.int .i64 v,.int .i64 a]] 0 0,.eptr 1 [.int .i64 r] 0 0,.eptr 3 [.agg [.int .i64 S,.int .i64 A,.int .i64 j]] 0 0]) (.bool (N.nfB S A j v r b)) []:=by
 obtain ⟨hl,hv,hr,hb⟩:=h
 refine call112 (nfA S A j v a r b _ ⟨by omega,fun _=>⟨hl,by omega,by omega⟩,fun h=>⟨hl,safe_inv hl (sfB_iff.1 h.2)⟩,?_⟩)
 rw [wI64 (n:=r-(v+b)) ⟨by omega,by omega⟩]
 rfl
end Go.Av

namespace Go.Av
open Go.Proofs
set_option maxRecDepth 100000
def fi50:Fi:=⟨69,[.cell 8 42,.tmp 9]⟩
def kp50:List (Nat × List Nat):=[(0,[4,5,6,7,8]),(1,[4,5,6,7,8,23]),(2,[8,9]),(3,[4,5,6,7,8,38,39,40]),(4,[4,5,6,7,8,38,39,40,41]),(5,[4,5,6,7,8,11,38,39,40]),(6,[4,5,6,7,8,38,39,40,46]),(7,[8,9]),(8,[4,5,6,7,8,38,39,40]),(9,[4,5,8,12]),(10,[8,9])]
def fi96:Fi:=⟨65,[.cell 6 149,.tmp 7]⟩
def kp96:List (Nat × List Nat):=[(0,[3,4,5,6]),(1,[3,4,5,6,8]),(2,[4,6,8,9,10]),(3,[4,6,8,9,10,41]),(4,[6,7]),(5,[4,6,8,9,10,45]),(6,[4,6,8,9,10,11]),(7,[4,6,8,9,10,11,55]),(8,[4,6,8,9,10]),(9,[4,6,8,9,10]),(10,[6,7])]
def nxA_at (S A j:Int) (v a r:Int) (Q:AV->Heap->Prop):Prop:=Wp M1 (.run fi96 (atC (cd Try.f96) []) [(0,.agg [.int .i64 S,.int .i64 A,.int .i64 j]),(1,.agg [.int .i64 v,.int .i64 a]),(2,.int .i64 r)] []) Q
def psA_at (ax ay az bx by_ bz p n:Int) (Q:AV->Heap->Prop):Prop:=Wp M1 (.run fi50 (atC (cd Try.f50) []) [(0,.agg [.int .i64 ax,.int .i64 ay,.int .i64 az]),(1,.agg [.int .i64 bx,.int .i64 by_,.int .i64 bz]),(2,.int .i64 p),(3,.int .i64 n)] []) Q
def ZgE (S A j:Int) (v a r lo hi:Int) (Q:AV->Heap->Prop):Prop:=Wp M1 (.run fi96 (atC (cd Try.f96) [1,1,1,1,0,0,0]) [(4,.ptr 0 0 0 0),(6,.ptr 1 0 0 0),(8,.func (.func 112) [] [.ptr 0 0 0 0,.ptr 2 0 0 0,.ptr 3 0 0 0]),(9,.int .i64 lo),(10,.int .i64 hi)] [⟨[.agg [.int .i64 v,.int .i64 a]],2,0,false,false⟩,⟨[.agg [.int .i64 0,.int .i64 0]],2,0,false,false⟩,⟨[.int .i64 r],1,0,false,false⟩,⟨[.agg [.int .i64 S,.int .i64 A,.int .i64 j]],3,0,false,false⟩]) Q
def psL_at (ax ay az bx by_ bz p n:Int) (Z:List Int) (i:Int) (Q:AV->Heap->Prop):Prop:=Wp M1 (.run fi50 (atC (cd Try.f50) [1,1,0,1,0,0]) [(4,.ptr 0 0 0 0),(5,.ptr 1 0 0 0),(6,.ptr 2 0 0 0),(7,.ptr 3 0 0 0),(8,.ptr 4 0 0 0),(38,.vec true 1 (Z.map (.int .i64))),(39,.int .i64 7),(40,.int .i64 i)] [⟨[.agg [.int .i64 ax,.int .i64 ay,.int .i64 az]],3,0,false,false⟩,⟨[.agg [.int .i64 bx,.int .i64 by_,.int .i64 bz]],3,0,false,false⟩,⟨[.int .i64 p],1,0,false,false⟩,⟨[.int .i64 n],1,0,false,false⟩,⟨[.agg [.int .i64 0,.int .i64 0,.int .i64 0]],3,0,false,false⟩]) Q
theorem call50 {args:List AV} {d:AV} (h:wc M1 fi50 Try.f50 args d):Ev M1 (.pure 50 args) d []:=pcl _ _ (by kernel_rfl) h
theorem call96 {args:List AV} {d:AV} (h:wc M1 fi96 Try.f96 args d):Ev M1 (.pure 96 args) d []:=pcl _ _ (by kernel_rfl) h
noncomputable abbrev zCxE1 (S:Int) (A:Int) (j:Int):=ag [vi S,vi A,vi j]
noncomputable abbrev zCxE2 (v:Int) (a:Int):=ag [vi v,vi a]
noncomputable abbrev zCxE3:=ag [vi 0,vi 0]
theorem nxA (S A j:Int) (v a r:Int)  (dq:AV) (H :
  (N.okB3 S A j v a) /\
  (-9223372036854775808<=1-v/\1-v<=9223372036854775807) /\
  (-9223372036854775808<=r-v/\r-v<=9223372036854775807) /\
  (-9223372036854775808<=a+j/\a+j<=9223372036854775807) /\
  ((¬((if 1-v>N.brk S A j v a then 1-v else N.brk S A j v a)>if r-v<if a+j<A then a+j else A then r-v else if a+j<A then a+j else A))->(N.okN S A j v r (if 1-v>N.brk S A j v a then 1-v else N.brk S A j v a))) /\
  ((((if 1-v>N.brk S A j v a then 1-v else N.brk S A j v a)>if r-v<if a+j<A then a+j else A then r-v else if a+j<A then a+j else A)\/(¬(N.nfB S A j v r (if 1-v>N.brk S A j v a then 1-v else N.brk S A j v a)=true)))->tu [ag [vi 0,vi 0],vb false]=dq) /\
  (¬(((if 1-v>N.brk S A j v a then 1-v else N.brk S A j v a)>if r-v<if a+j<A then a+j else A then r-v else if a+j<A then a+j else A)\/(¬(N.nfB S A j v r (if 1-v>N.brk S A j v a then 1-v else N.brk S A j v a)=true)))->ZgE S A j v a r (if 1-v>N.brk S A j v a then 1-v else N.brk S A j v a) (if r-v<if a+j<A then a+j else A then r-v else if a+j<A then a+j else A) (Zaj dq))) :
 nxA_at S A j v a r (Zaj dq):=by
 unfold nxA_at
 obtain ⟨k1,k2,H⟩:=H
 have w3:wi (1-v)=1-v:=wI64 k2
 obtain ⟨k4,H⟩:=H
 have w5:wi (r-v)=r-v:=wI64 k4
 obtain ⟨k6,H⟩:=H
 have w7:wi (a+j)=a+j:=wI64 k6
 have i8:(decide ((if wi (1-v)>N.brk S A j v a then wi (1-v) else N.brk S A j v a)>if wi (r-v)<if wi (a+j)<A then wi (a+j) else A then wi (r-v) else if wi (a+j)<A then wi (a+j) else A)==false&&true&&true)=true ↔ (¬((if 1-v>N.brk S A j v a then 1-v else N.brk S A j v a)>if r-v<if a+j<A then a+j else A then r-v else if a+j<A then a+j else A)):=(by (try rw [w3]);(try rw [w5]);(try rw [w7]);all_goals exact (i_at (i_at (i_bf Zad))))
 obtain ⟨k9,H⟩:=H
 have i10:(bif decide ((if wi (1-v)>N.brk S A j v a then wi (1-v) else N.brk S A j v a)>if wi (r-v)<if wi (a+j)<A then wi (a+j) else A then wi (r-v) else if wi (a+j)<A then wi (a+j) else A) then true else !N.nfB S A j v r (if 1-v>N.brk S A j v a then 1-v else N.brk S A j v a))=true ↔ (((if 1-v>N.brk S A j v a then 1-v else N.brk S A j v a)>if r-v<if a+j<A then a+j else A then r-v else if a+j<A then a+j else A)\/(¬(N.nfB S A j v r (if 1-v>N.brk S A j v a then 1-v else N.brk S A j v a)=true))):=(by (try rw [w3]);(try rw [w5]);(try rw [w7]);all_goals exact (ZaD Zad (Zay (Zas _))))
 refine Zac (G:=Zab kp96 [(2,2,.call (ag [vi (v+N.brk S A j v a),vi (N.brk S A j v a)]) none),(3,6,.call (vb (N.nfB S A j v r (if 1-v>N.brk S A j v a then 1-v else N.brk S A j v a))) none)] []) 9 [] ⟨(atC (cd Try.f96) [1,1,1,0,1]),[(4,AV.ptr 1 0 0 0),(6,AV.ptr 3 0 0 0),(8,AV.func (Fn.func 112) [] [AV.ptr 1 0 0 0,AV.ptr 2 0 0 0,AV.ptr 0 0 0 0]),(9,vi (if wi (1-v)>N.brk S A j v a then wi (1-v) else N.brk S A j v a)),(10,vi (if wi (r-v)<if wi (a+j)<A then wi (a+j) else A then wi (r-v) else if wi (a+j)<A then wi (a+j) else A)),(41,vb (bif decide ((if wi (1-v)>N.brk S A j v a then wi (1-v) else N.brk S A j v a)>if wi (r-v)<if wi (a+j)<A then wi (a+j) else A then wi (r-v) else if wi (a+j)<A then wi (a+j) else A) then true else !N.nfB S A j v r (if 1-v>N.brk S A j v a then 1-v else N.brk S A j v a)))],[⟨[(zCxE1 S A j)],3,0,false,false⟩,⟨[(zCxE2 v a)],2,0,false,false⟩,⟨[vi r],1,0,false,false⟩,⟨[zCxE3],2,0,false,false⟩],[true,true,true,true,true,true,true,true,!(decide ((if wi (1-v)>N.brk S A j v a then wi (1-v) else N.brk S A j v a)>if wi (r-v)<if wi (a+j)<A then wi (a+j) else A then wi (r-v) else if wi (a+j)<A then wi (a+j) else A)==false&&true)||true,!(decide ((if wi (1-v)>N.brk S A j v a then wi (1-v) else N.brk S A j v a)>if wi (r-v)<if wi (a+j)<A then wi (a+j) else A then wi (r-v) else if wi (a+j)<A then wi (a+j) else A)==false&&true)||true,!(decide ((if wi (1-v)>N.brk S A j v a then wi (1-v) else N.brk S A j v a)>if wi (r-v)<if wi (a+j)<A then wi (a+j) else A then wi (r-v) else if wi (a+j)<A then wi (a+j) else A)==false&&true)||true],[],[⟨true,false,80,[(zCxE1 S A j),(zCxE2 v a)],[],ag [vi (v+N.brk S A j v a),vi (N.brk S A j v a)],[]⟩,⟨decide ((if wi (1-v)>N.brk S A j v a then wi (1-v) else N.brk S A j v a)>if wi (r-v)<if wi (a+j)<A then wi (a+j) else A then wi (r-v) else if wi (a+j)<A then wi (a+j) else A)==false&&true&&true,false,112,[vi (if wi (1-v)>N.brk S A j v a then wi (1-v) else N.brk S A j v a),AV.eptr 2 [(zCxE2 v a)] 0 0,AV.eptr 1 [vi r] 0 0,AV.eptr 3 [(zCxE1 S A j)] 0 0],[],vb (N.nfB S A j v r (if 1-v>N.brk S A j v a then 1-v else N.brk S A j v a)),[]⟩]⟩ (by kernel_rfl) (bc rfl (bc rfl (bc rfl (bc rfl (bc rfl (bc rfl (bc rfl (bc rfl (bc (Bool.or_true _) (bc (Bool.or_true _) (bc (Bool.or_true _) b0))))))))))) q0 (cc (fun _=>(@ev80 S A j v a k1)) (cc (fun hc=>((by (try rw [w3]);all_goals exact (@ev112 S A j v a r (if 1-v>N.brk S A j v a then 1-v else N.brk S A j v a) (k9 (i8.1 hc)))):Ev M1 (Conf.pure 112 [vi (if wi (1-v)>N.brk S A j v a then wi (1-v) else N.brk S A j v a),AV.eptr 2 [(zCxE2 v a)] 0 0,AV.eptr 1 [vi r] 0 0,AV.eptr 3 [(zCxE1 S A j)] 0 0]) (vb (N.nfB S A j v r (if 1-v>N.brk S A j v a then 1-v else N.brk S A j v a))) [])) c0)) ?_
 rcases xq H with ⟨d11,H⟩|⟨d11,H⟩
 ·exact Zap (G:=Zab kp96 [] []) 1000 [true] (tu [zCxE3,vb false]) (by kernel_rfl) (bc (Zam (i10.2 d11)) (bc rfl b0)) q0 c0 H
 ·exact Zac (G:=Zab kp96 [] []) 1000 [false] ⟨(atC (cd Try.f96) [1,1,1,1,0,0,0]),[(4,AV.ptr 1 0 0 0),(6,AV.ptr 3 0 0 0),(8,AV.func (Fn.func 112) [] [AV.ptr 1 0 0 0,AV.ptr 2 0 0 0,AV.ptr 0 0 0 0]),(9,vi (if wi (1-v)>N.brk S A j v a then wi (1-v) else N.brk S A j v a)),(10,vi (if wi (r-v)<if wi (a+j)<A then wi (a+j) else A then wi (r-v) else if wi (a+j)<A then wi (a+j) else A)),(41,vb (bif decide ((if wi (1-v)>N.brk S A j v a then wi (1-v) else N.brk S A j v a)>if wi (r-v)<if wi (a+j)<A then wi (a+j) else A then wi (r-v) else if wi (a+j)<A then wi (a+j) else A) then true else !N.nfB S A j v r (if 1-v>N.brk S A j v a then 1-v else N.brk S A j v a)))],[⟨[(zCxE1 S A j)],3,0,false,false⟩,⟨[(zCxE2 v a)],2,0,false,false⟩,⟨[vi r],1,0,false,false⟩,⟨[zCxE3],2,0,false,false⟩],_,[],_⟩ (by kernel_rfl) (bc (Zal (fun h=>d11 (i10.1 h))) b0) q0 c0 (by (try rw [w3]);(try rw [w5]);(try rw [w7]);all_goals exact Wp.less [4,6,8,9,10] (Zan [1,3,2,0] (by kernel_rfl) H))
noncomputable abbrev zCxE4 (n:Int) (p:Int):=bif decide (n<1) then true else decide (p<0)
theorem psA (ax ay az bx by_ bz p n:Int)  (dq:AV) (H :
  ((((n<1)\/(p<0))\/(p>n))->tu [ag [vi 0,vi 0,vi 0],vi 1]=dq) /\
  (¬(((n<1)\/(p<0))\/(p>n))->Wp M1 (.run fi50 (atC (cd Try.f50) [1,1,0,1,0,0]) [(4,AV.ptr 0 0 0 0),(5,AV.ptr 1 0 0 0),(6,AV.ptr 2 0 0 0),(7,AV.ptr 3 0 0 0),(8,AV.ptr 4 0 0 0),(38,AV.vec true 1 [vi n,vi ax,vi ay,vi az,vi bx,vi by_,vi bz]),(39,vi 7),(40,vi 0)] [{ elems:=[ag [vi ax,vi ay,vi az]],es:=3,ver:=0,frozen:=false,clean:=false },{ elems:=[ag [vi bx,vi by_,vi bz]],es:=3,ver:=0,frozen:=false,clean:=false },{ elems:=[vi p],es:=1,ver:=0,frozen:=false,clean:=false },{ elems:=[vi n],es:=1,ver:=0,frozen:=false,clean:=false },{ elems:=[ag [vi 0,vi 0,vi 0]],es:=3,ver:=0,frozen:=false,clean:=false }]) (Zaj dq))) :
 psA_at ax ay az bx by_ bz p n (Zaj dq):=by
 unfold psA_at
 rcases xq H with ⟨d2,H⟩|⟨d2,H⟩
 ·exact Zap (G:=Zab kp50 [] []) 1000 [true] (asm:=[true,!(decide (n<1)==false&&true)||true,!((zCxE4 n p)==false&&true)||true,!((zCxE4 n p)==false&&true)||true,(bif bif decide (n<1) then true else decide (p<0) then true else decide (p>n))==true,true]) (tu [ag [vi 0,vi 0,vi 0],vi 1]) (by kernel_rfl) (bc rfl (bc (Bool.or_true _) (bc (Bool.or_true _) (bc (Bool.or_true _) (bc (Zam ((ZaD (ZaD Zad Zad) Zad).2 d2)) (bc rfl b0)))))) q0 c0 H
 ·exact Zac (G:=Zab kp50 [] []) 1000 [false] ⟨(atC (cd Try.f50) [1,1,0,1,0,0]),[(4,AV.ptr 0 0 0 0),(5,AV.ptr 1 0 0 0),(6,AV.ptr 2 0 0 0),(7,AV.ptr 3 0 0 0),(8,AV.ptr 4 0 0 0),(38,AV.vec true 1 [vi n,vi ax,vi ay,vi az,vi bx,vi by_,vi bz]),(39,vi 7),(40,vi 0)],[⟨[ag [vi ax,vi ay,vi az]],3,0,false,false⟩,⟨[ag [vi bx,vi by_,vi bz]],3,0,false,false⟩,⟨[vi p],1,0,false,false⟩,⟨[vi n],1,0,false,false⟩,⟨[ag [vi 0,vi 0,vi 0]],3,0,false,false⟩],[true,!(decide (n<1)==false&&true)||true,!((zCxE4 n p)==false&&true)||true,!((zCxE4 n p)==false&&true)||true,(bif bif decide (n<1) then true else decide (p<0) then true else decide (p>n))==false,true,true,true,true,true,true,true],[],_⟩ (by kernel_rfl) (bc rfl (bc (Bool.or_true _) (bc (Bool.or_true _) (bc (Bool.or_true _) (bc (Zal (fun h=>d2 ((ZaD (ZaD Zad Zad) Zad).1 h))) (bc rfl (bc rfl (bc rfl (bc rfl (bc rfl (bc rfl (bc rfl b0)))))))))))) q0 c0 H
noncomputable abbrev zCxE5 (S:Int) (A:Int) (j:Int):=ag [vi S,vi A,vi j]
noncomputable abbrev zCxE6 (v:Int) (a:Int):=ag [vi v,vi a]
noncomputable abbrev zCxE7:=ag [vi 0,vi 0]
theorem nxL (S A j:Int) (v a r lo hi:Int)  (dq:AV) (H :
  ((lo<hi)->(-9223372036854775808<=hi-lo/\hi-lo<=9223372036854775807) /\
   (-9223372036854775808<=hi-lo+1/\hi-lo+1<=9223372036854775807) /\
   (-9223372036854775808<=(hi-lo+1).tdiv 2/\(hi-lo+1).tdiv 2<=9223372036854775807) /\
   (-9223372036854775808<=lo+(hi-lo+1).tdiv 2/\lo+(hi-lo+1).tdiv 2<=9223372036854775807) /\
   (N.okN S A j v r (lo+(hi-lo+1).tdiv 2)) /\
   ((N.nfB S A j v r (lo+(hi-lo+1).tdiv 2)=true)->ZgE S A j v a r (lo+(hi-lo+1).tdiv 2) hi (Zaj dq)) /\
   (¬(N.nfB S A j v r (lo+(hi-lo+1).tdiv 2)=true)->(-9223372036854775808<=lo+(hi-lo+1).tdiv 2-1/\lo+(hi-lo+1).tdiv 2-1<=9223372036854775807) /\
    ZgE S A j v a r lo (lo+(hi-lo+1).tdiv 2-1) (Zaj dq))) /\
  (¬(lo<hi)->(-9223372036854775808<=v+lo/\v+lo<=9223372036854775807) /\
   tu [ag [vi (v+lo),vi lo],vb true]=dq)) :
 ZgE S A j v a r lo hi (Zaj dq):=by
 unfold ZgE
 rcases xq H with ⟨d2,H⟩|⟨d2,H⟩
 ·obtain ⟨k3,H⟩:=H
  have w4:wi (hi-lo)=hi-lo:=wI64 k3
  obtain ⟨k5,H⟩:=H
  have w6:wi (hi-lo+1)=hi-lo+1:=wI64 k5
  obtain ⟨k7,H⟩:=H
  have w8:wi ((hi-lo+1).tdiv 2)=(hi-lo+1).tdiv 2:=wI64 k7
  obtain ⟨k9,H⟩:=H
  have w10:wi (lo+(hi-lo+1).tdiv 2)=lo+(hi-lo+1).tdiv 2:=wI64 k9
  obtain ⟨k11,H⟩:=H
  refine Zac (G:=Zab kp96 [(7,2,.call (vb (N.nfB S A j v r (lo+(hi-lo+1).tdiv 2))) none)] []) 10 [true] ⟨(atC (cd Try.f96) [1,1,1,1,0,0,0,1,0,1,1]),[(4,AV.ptr 0 0 0 0),(6,AV.ptr 1 0 0 0),(8,AV.func (Fn.func 112) [] [AV.ptr 0 0 0 0,AV.ptr 2 0 0 0,AV.ptr 3 0 0 0]),(9,vi lo),(10,vi hi),(11,vi (wi (lo+wi ((wi (wi (hi-lo)+1)).tdiv 2)))),(55,vb (N.nfB S A j v r (lo+(hi-lo+1).tdiv 2)))],[⟨[(zCxE6 v a)],2,0,false,false⟩,⟨[zCxE7],2,0,false,false⟩,⟨[vi r],1,0,false,false⟩,⟨[(zCxE5 S A j)],3,0,false,false⟩],[(decide (lo<hi))==true,true,0==0,0==0,0==0],[],[pc 112 [vi (wi (lo+wi ((wi (wi (hi-lo)+1)).tdiv 2))),AV.eptr 2 [(zCxE6 v a)] 0 0,AV.eptr 1 [vi r] 0 0,AV.eptr 3 [(zCxE5 S A j)] 0 0] (vb (N.nfB S A j v r (lo+(hi-lo+1).tdiv 2)))]⟩ (by kernel_rfl) (bc (Zam (Zad.2 d2)) (bc rfl (bc (beq_self_eq_true _) (bc (beq_self_eq_true _) (bc (beq_self_eq_true _) b0))))) q0 (ce (by (try rw [w4]);(try rw [w6]);(try rw [w8]);(try rw [w10]);all_goals exact (@ev112 S A j v a r (lo+(hi-lo+1).tdiv 2) k11)) c0) ?_
  rcases xq H with ⟨d13,H⟩|⟨d13,H⟩
  ·exact Zac (G:=Zab kp96 [] []) 1000 [true] ⟨(atC (cd Try.f96) [1,1,1,1,0,0,0]),[(4,AV.ptr 0 0 0 0),(6,AV.ptr 1 0 0 0),(8,AV.func (Fn.func 112) [] [AV.ptr 0 0 0 0,AV.ptr 2 0 0 0,AV.ptr 3 0 0 0]),(9,vi (wi (lo+wi ((wi (wi (hi-lo)+1)).tdiv 2)))),(10,vi hi)],[⟨[(zCxE6 v a)],2,0,false,false⟩,⟨[zCxE7],2,0,false,false⟩,⟨[vi r],1,0,false,false⟩,⟨[(zCxE5 S A j)],3,0,false,false⟩],[(N.nfB S A j v r (lo+(hi-lo+1).tdiv 2))==true],[],_⟩ (by kernel_rfl) (bc (Zam ((Zas _).2 d13)) b0) q0 c0 (by (try rw [w4]);(try rw [w6]);(try rw [w8]);(try rw [w10]);all_goals exact H)
  ·obtain ⟨k14,H⟩:=H
   have w15:wi (lo+(hi-lo+1).tdiv 2-1)=lo+(hi-lo+1).tdiv 2-1:=wI64 k14
   exact Zac (G:=Zab kp96 [] []) 1000 [false] ⟨(atC (cd Try.f96) [1,1,1,1,0,0,0]),[(4,AV.ptr 0 0 0 0),(6,AV.ptr 1 0 0 0),(8,AV.func (Fn.func 112) [] [AV.ptr 0 0 0 0,AV.ptr 2 0 0 0,AV.ptr 3 0 0 0]),(9,vi lo),(10,vi (wi (wi (lo+wi ((wi (wi (hi-lo)+1)).tdiv 2))-1)))],[⟨[(zCxE6 v a)],2,0,false,false⟩,⟨[zCxE7],2,0,false,false⟩,⟨[vi r],1,0,false,false⟩,⟨[(zCxE5 S A j)],3,0,false,false⟩],[(N.nfB S A j v r (lo+(hi-lo+1).tdiv 2))==false],[],_⟩ (by kernel_rfl) (bc (Zal (fun h=>d13 ((Zas _).1 h))) b0) q0 c0 (by (try rw [w4]);(try rw [w6]);(try rw [w8]);(try rw [w10]);(try rw [w15]);all_goals exact H)
 ·obtain ⟨k16,H⟩:=H
  have w17:wi (v+lo)=v+lo:=wI64 k16
  exact Zap (G:=Zab kp96 [] []) 1000 [false] (tu [ag [vi (wi (v+lo)),vi lo],vb true]) (by kernel_rfl) (bc (Zal (fun h=>d2 (Zad.1 h))) (bc rfl (bc rfl b0))) q0 c0 (by (try rw [w17]);all_goals exact H)
noncomputable abbrev zCxE8:=ag [vi 0,vi 0,vi 0]
theorem psL (ax ay az bx by_ bz p n:Int) (Z:List Int) (i:Int)  (dq:AV) (H :
  ((i<7)->(0<=i) /\
   (i.toNat<Z.length) /\
   ((¬(N.wi (Z.getD i.toNat default) (-40000000) 40000000=true))->tu [ag [vi 0,vi 0,vi 0],vi 11]=dq) /\
   (¬(¬(N.wi (Z.getD i.toNat default) (-40000000) 40000000=true))->(-9223372036854775808<=i+1/\i+1<=9223372036854775807) /\
    psL_at ax ay az bx by_ bz p n Z (i+1) (Zaj dq))) /\
  (¬(i<7)->(N.okP ax bx p n) /\
   (N.okP ay by_ p n) /\
   (N.okP az bz p n) /\
   tu [ag [vi (N.pt ax bx p n),vi (N.pt ay by_ p n),vi (N.pt az bz p n)],vi 0]=dq)) :
 psL_at ax ay az bx by_ bz p n Z i (Zaj dq):=by
 unfold psL_at
 rcases xq H with ⟨d2,H⟩|⟨d2,H⟩
 ·obtain ⟨k4,H⟩:=H
  have w5:(List.map vi Z).length=Z.length:=List.length_map ..
  have i6:(decide (i.toNat<(List.map vi Z).length))=true ↔ (i.toNat<Z.length):=(by (try rw [w5]);all_goals exact Zad)
  obtain ⟨k7,H⟩:=H
  refine Zac (G:=Zab kp50 [(5,1,.elem (vi (Z.getD i.toNat default))),(6,1,.call (vb (N.wi (Z.getD i.toNat default) (-40000000) 40000000)) none)] []) 11 [true] ⟨(atC (cd Try.f50) [1,1,0,1,0,0,1,1,0,0,1,1]),[(4,AV.ptr 0 0 0 0),(5,AV.ptr 1 0 0 0),(6,AV.ptr 2 0 0 0),(7,AV.ptr 3 0 0 0),(8,AV.ptr 4 0 0 0),(38,AV.vec true 1 (List.map vi Z)),(39,vi 7),(40,vi i),(46,vb !N.wi (Z.getD i.toNat default) (-40000000) 40000000)],[⟨[ag [vi ax,vi ay,vi az]],3,0,false,false⟩,⟨[ag [vi bx,vi by_,vi bz]],3,0,false,false⟩,⟨[vi p],1,0,false,false⟩,⟨[vi n],1,0,false,false⟩,⟨[zCxE8],3,0,false,false⟩],_,[((List.map vi Z).get?Internal i.toNat=some (vi (Z.getD i.toNat default)))],_⟩ (by kernel_rfl) (bc (Zam (Zad.2 d2)) (bc (Zad.2 k4) (bc (i6.2 k7) b0))) (qc (Zaz k7) q0) (ce (@ev81 (Z.getD i.toNat default) (-40000000) 40000000) c0) ?_
  rcases xq H with ⟨d9,H⟩|⟨d9,H⟩
  ·exact Zap (G:=Zab kp50 [] []) 1000 [true] (asm:=[(!N.wi (Z.getD i.toNat default) (-40000000) 40000000)==true,true]) (tu [zCxE8,vi 11]) (by kernel_rfl) (bc (Zam ((Zay (Zas _)).2 d9)) (bc rfl b0)) q0 c0 H
  ·obtain ⟨k10,H⟩:=H
   have w11:wi (i+1)=i+1:=wI64 k10
   exact Zac (G:=Zab kp50 [] []) 1000 [false] ⟨(atC (cd Try.f50) [1,1,0,1,0,0]),[(4,AV.ptr 0 0 0 0),(5,AV.ptr 1 0 0 0),(6,AV.ptr 2 0 0 0),(7,AV.ptr 3 0 0 0),(8,AV.ptr 4 0 0 0),(38,AV.vec true 1 (List.map vi Z)),(39,vi 7),(40,vi (wi (i+1)))],[⟨[ag [vi ax,vi ay,vi az]],3,0,false,false⟩,⟨[ag [vi bx,vi by_,vi bz]],3,0,false,false⟩,⟨[vi p],1,0,false,false⟩,⟨[vi n],1,0,false,false⟩,⟨[zCxE8],3,0,false,false⟩],[(!N.wi (Z.getD i.toNat default) (-40000000) 40000000)==false],[],_⟩ (by kernel_rfl) (bc (Zal (fun h=>d9 ((Zay (Zas _)).1 h))) b0) q0 c0 (by (try rw [w11]);all_goals exact H)
 ·obtain ⟨k12,k13,k14,H⟩:=H
  exact Zap (G:=Zab kp50 [(10,5,.call (vi (N.pt ax bx p n)) none),(10,11,.call (vi (N.pt ay by_ p n)) none),(10,17,.call (vi (N.pt az bz p n)) none)] []) 1000 [false] (tu [ag [vi (N.pt ax bx p n),vi (N.pt ay by_ p n),vi (N.pt az bz p n)],vi 0]) (by kernel_rfl) (bc (Zal (fun h=>d2 (Zad.1 h))) (bc rfl (bc rfl (bc rfl (bc rfl (bc rfl (bc rfl (bc rfl (bc rfl (bc rfl (bc rfl (bc rfl (bc rfl (bc rfl b0)))))))))))))) q0 (ce (@ev82 ax bx p n k12) (ce (@ev82 ay by_ p n k13) (ce (@ev82 az bz p n k14) c0))) H
end Go.Av

namespace Go.Av
open Go.Proofs
namespace N
def okNx (S A j v a r:Int):Prop:=(Zbv S A j/\inv S A j v a)/\0<=r/\r<=1000000000000
def nxP (S A j v a r:Int) (t:Int × Int × Bool):Prop:=Ev M1 (.pure 96 [.agg [.int .i64 S,.int .i64 A,.int .i64 j],.agg [.int .i64 v,.int .i64 a],.int .i64 r]) (.tup [.agg [.int .i64 t.1,.int .i64 t.2.1],.bool t.2.2]) []/\(t.2.2=true->(1<=t.1/\t.1<=r)/\safe S A j t.1 t.2.1)
noncomputable def nx (S A j v a r:Int):Int × Int × Bool:=Classical.epsilon (nxP S A j v a r)
noncomputable def nxv (S A j v a r:Int):Int:=(nx S A j v a r).1
noncomputable def nxa (S A j v a r:Int):Int:=(nx S A j v a r).2.1
noncomputable def nxo (S A j v a r:Int):Bool:=(nx S A j v a r).2.2
def okPs (ax ay az bx by_ bz p n:Int):Prop:=(okP ax bx p n/\okP ay by_ p n/\okP az bz p n)/\n<=40000000
end N
theorem nfB_of {S A j v r b:Int} (h:N.nfB S A j v r b=true):v+b<=r/\N.safe S A j (v+b) b:=by
 unfold N.nfB at h
 by_cases h1:v+b<=r
 ·refine ⟨h1,sfB_iff.1 ?_⟩
  rw [decide_eq_true h1] at h
  cases h2:N.sfB S A j (v+b) b with
  | true=>rfl
  | false=>rw [h2] at h;cases h
 ·rw [decide_eq_false h1] at h;cases h
theorem nx_loop {S A j v a r:Int} (h:N.okNx S A j v a r):∀ (k:Nat) (lo hi:Int),hi-lo<=k->lo<=hi -> -1000000<=lo->hi<=1000000->1<=v+lo->N.nfB S A j v r lo=true ->
  ∃ t:Int × Int × Bool,ZgE S A j v a r lo hi (Zaj (.tup [.agg [.int .i64 t.1,.int .i64 t.2.1],.bool t.2.2]))/\(t.2.2=true->(1<=t.1/\t.1<=r)/\N.safe S A j t.1 t.2.1):=by
 obtain ⟨⟨hl,hi⟩,hr⟩:=h
 have hl':=hl
 unfold N.Zbv at hl'
 obtain ⟨hv,hi2,hi3⟩:=hi
 have hf:=ZbI (j:=j) (a:=a) (by omega)
 intro k
 induction k with
 | zero =>
  intro lo hi hk hle h1 h2 h3 hn
  obtain ⟨g1,g2⟩:=nfB_of hn
  exact ⟨(v+lo,lo,true),nxL _ _ _ _ _ _ _ _ _ ⟨fun z=>absurd z (by omega),fun _=>⟨by omega,rfl⟩⟩,fun _=>⟨⟨h3,g1⟩,g2⟩⟩
 | succ k ih =>
  intro lo hi hk hle h1 h2 h3 hn
  by_cases hlt:lo<hi
  ·obtain ⟨m,hm⟩:∃ m,lo+(hi-lo+1).tdiv 2=m:=⟨_,rfl⟩
   have hq:(hi-lo+1).tdiv 2=(hi-lo+1) / 2:=Int.tdiv_eq_ediv_of_nonneg (by omega)
   have hmr:lo<m/\m<=hi:=by omega
   have hok:N.okN S A j v r m:=⟨hl,by omega,by omega,by omega,by omega⟩
   by_cases hc:N.nfB S A j v r m=true
   ·obtain ⟨t,g1,g2⟩:=ih m hi (by omega) hmr.2 (by omega) h2 (by omega) hc
    refine ⟨t,nxL _ _ _ _ _ _ _ _ _ ⟨fun _ => ?_,fun z=>absurd hlt z⟩,g2⟩
    rw [hm]
    exact ⟨by omega,by omega,by omega,by omega,hok,fun _=>g1,fun z=>absurd hc z⟩
   ·obtain ⟨t,g1,g2⟩:=ih lo (m-1) (by omega) (by omega) h1 (by omega) h3 hn
    refine ⟨t,nxL _ _ _ _ _ _ _ _ _ ⟨fun _ => ?_,fun z=>absurd hlt z⟩,g2⟩
    rw [hm]
    exact ⟨by omega,by omega,by omega,by omega,hok,fun z=>absurd z hc,fun _=>⟨by omega,g1⟩⟩
  ·obtain ⟨g1,g2⟩:=nfB_of hn
   exact ⟨(v+lo,lo,true),nxL _ _ _ _ _ _ _ _ _ ⟨fun z=>absurd z hlt,fun _=>⟨by omega,rfl⟩⟩,fun _=>⟨⟨h3,g1⟩,g2⟩⟩
theorem nx_ex {S A j v a r:Int} (h:N.okNx S A j v a r):∃ t,N.nxP S A j v a r t:=by
 have hl:=h.1.1
 have hi:=h.1.2
 obtain ⟨r1,_⟩:=brk_room hl hi
 obtain ⟨b1,b2,b3⟩:=brk_ok hl v a hi
 have hr:=h.2
 have hl':=hl
 unfold N.Zbv at hl'
 have hv:=hi.1
 have hS:=hi.2.2
 have hf:=ZbI (j:=j) (a:=a) (by omega)
 obtain ⟨lo,hlo⟩:∃ lo,(if 1-v>N.brk S A j v a then 1-v else N.brk S A j v a)=lo:=⟨_,rfl⟩
 obtain ⟨hh,hhi⟩:∃ hh,(if r-v<if a+j<A then a+j else A then r-v else if a+j<A then a+j else A)=hh:=⟨_,rfl⟩
 have hlo2:1-v<=lo/\N.brk S A j v a<=lo/\lo<=100000:=by
  rw [<- hlo]
  split <;> omega
 have hhi2:hh<=A:=by rw [<- hhi];split <;> split <;> omega
 by_cases hc:(lo>hh)\/(¬(N.nfB S A j v r lo=true))
 ·refine ⟨(0,0,false),call96 (nxA S A j v a r _ ?_),fun z=>nomatch z⟩
  rw [hlo,hhi]
  exact ⟨⟨hl,hi⟩,by omega,by omega,by omega,fun _=>⟨hl,by omega,by omega,by omega,by omega⟩,fun _=>rfl,fun z=>absurd hc z⟩
 ·obtain ⟨t,g1,g2⟩:=nx_loop h (hh-lo).toNat lo hh (by omega) (Int.not_lt.1 fun y=>hc (.inl y)) (by omega) (by omega) (by omega) (Classical.byContradiction fun y=>hc (.inr y))
  refine ⟨t,call96 (nxA S A j v a r _ ?_),g2⟩
  rw [hlo,hhi]
  exact ⟨⟨hl,hi⟩,by omega,by omega,by omega,fun _=>⟨hl,by omega,by omega,by omega,by omega⟩,fun z=>absurd z hc,fun _=>g1⟩
theorem nx_sp {S A j v a r:Int} (h:N.okNx S A j v a r):N.nxP S A j v a r (N.nx S A j v a r):=Classical.epsilon_spec (nx_ex h)
theorem ev96 (S A j v a r:Int) (h:N.okNx S A j v a r):Ev M1 (.pure 96 [.agg [.int .i64 S,.int .i64 A,.int .i64 j],.agg [.int .i64 v,.int .i64 a],.int .i64 r]) (.tup [.agg [.int .i64 (N.nxv S A j v a r),.int .i64 (N.nxa S A j v a r)],.bool (N.nxo S A j v a r)]) []:=(nx_sp h).1
theorem nxo_ok {S A j v a r:Int} (h:N.okNx S A j v a r) (ho:N.nxo S A j v a r=true):(1<=N.nxv S A j v a r/\N.nxv S A j v a r<=r)/\N.safe S A j (N.nxv S A j v a r) (N.nxa S A j v a r):=(nx_sp h).2 ho
theorem ps_loop {ax ay az bx by_ bz p n:Int} (h:N.okPs ax ay az bx by_ bz p n) {Z:List Int} (hZ:Z.length=7) (hw:∀ x ∈ Z,-40000000<=x/\x<=40000000):∀ (k:Nat) (i:Int),0<=i->7-i=k->psL_at ax ay az bx by_ bz p n Z i (Zaj (.tup [.agg [.int .i64 (N.pt ax bx p n),.int .i64 (N.pt ay by_ p n),.int .i64 (N.pt az bz p n)],.int .i64 0])):=by
 intro k
 induction k with
 | zero =>
  intro i h0 hk
  exact psL _ _ _ _ _ _ _ _ _ _ _ ⟨fun z=>absurd z (by omega),fun _=>⟨h.1.1,h.1.2.1,h.1.2.2,rfl⟩⟩
 | succ k ih =>
  intro i h0 hk
  have hm:Z.getD i.toNat default ∈ Z:=by
   rw [List.getD_eq_getElem?_getD,List.getElem?_eq_getElem (by omega)]
   exact List.getElem_mem _
  have hb:=ZbW.2 (hw _ hm)
  exact psL _ _ _ _ _ _ _ _ _ _ _ ⟨fun _=>⟨h0,by omega,fun z=>absurd hb z,fun _=>⟨by omega,ih _ (by omega) (by omega)⟩⟩,fun z=>absurd z (by omega)⟩
theorem ev50 (ax ay az bx by_ bz p n:Int) (h:N.okPs ax ay az bx by_ bz p n):Ev M1 (.pure 50 [.agg [.int .i64 ax,.int .i64 ay,.int .i64 az],.agg [.int .i64 bx,.int .i64 by_,.int .i64 bz],.int .i64 p,.int .i64 n]) (.tup [.agg [.int .i64 (N.pt ax bx p n),.int .i64 (N.pt ay by_ p n),.int .i64 (N.pt az bz p n)],.int .i64 0]) []:=by
 have h':=h
 obtain ⟨⟨⟨h1,h2,h3⟩,⟨h4,_⟩,⟨h5,_⟩⟩,h6⟩:=h'
 refine call50 (psA ax ay az bx by_ bz p n _ ⟨fun hc=>absurd hc (by omega),fun _ => ?_⟩)
 have hw:∀ x ∈ [n,ax,ay,az,bx,by_,bz],-40000000<=x/\x<=40000000:=by
  intro x hx
  simp only [List.mem_cons,List.not_mem_nil,or_false] at hx
  rcases hx with e | e | e | e | e | e | e <;> subst e <;> omega
 exact ps_loop h (Z:=[n,ax,ay,az,bx,by_,bz]) rfl hw 7 0 (by omega) rfl
end Go.Av

namespace Go.Av
open Go.Proofs
set_option maxRecDepth 100000
def fi76:Fi:=⟨62,[.tmp 6,.tmp 7]⟩
def kp76:List (Nat × List Nat):=[(0,[1,2,3]),(1,[1,2,3,28]),(2,[6,7]),(3,[1,2,3,8]),(4,[1,2,3,8,9]),(5,[2,3,8,9,10]),(6,[2,3,8,9,10,32]),(7,[2,3,8,9,10]),(8,[2,3,8,9,10,11,12]),(9,[2,3,8,9,10,11,51]),(10,[6,7]),(11,[2,3,8,9,10]),(12,[2,3,8,9,10]),(13,[6,7])]
def fsA_at (S A j:Int) (n m:Int) (Q:AV->Heap->Prop):Prop:=Wp M1 (.run fi76 (atC (cd Try.f76) []) [(0,.agg [.int .i64 S,.int .i64 A,.int .i64 j]),(1,.int .i64 n),(2,.int .i64 m)] []) Q
def fsN_at (S A j:Int) (v a r m:Int) (Q:AV->Heap->Prop):Prop:=Wp M1 (.run fi76 (atC (cd Try.f76) [1,1,1,1,0,1,0,0]) [(2,.int .i64 m),(3,.ptr 0 0 0 0),(8,.vnil),(9,.ptr 1 0 0 0),(10,.int .i64 r)] [⟨[.agg [.int .i64 S,.int .i64 A,.int .i64 j]],3,0,false,false⟩,⟨[.agg [.int .i64 v,.int .i64 a]],2,0,false,false⟩]) Q
def fsL_at (S A j:Int) (v a r m:Int) (o:List Int) (w:Nat) (Q:AV->Heap->Prop):Prop:=Wp M1 (.run fi76 (atC (cd Try.f76) [1,1,1,1,0,1,0,0]) [(2,.int .i64 m),(3,.ptr 0 0 0 0),(8,.row 1 w),(9,.ptr 2 0 0 0),(10,.int .i64 r)] [⟨[.agg [.int .i64 S,.int .i64 A,.int .i64 j]],3,0,false,false⟩,⟨o.map (.int .i64),1,w,false,true⟩,⟨[.agg [.int .i64 v,.int .i64 a]],2,0,false,false⟩]) Q
theorem call76 {args:List AV} {d:AV} (h:wc M1 fi76 Try.f76 args d):Ev M1 (.pure 76 args) d []:=pcl _ _ (by kernel_rfl) h
noncomputable abbrev zCxF1 (S:Int) (A:Int) (j:Int):=wi (wi (S.tdiv A)+wi (A.tdiv j))>100
theorem fsA (S A j:Int) (n m:Int)  (dq:AV) (H :
  ((¬(m>5000))->(¬A=0)) /\
  ((¬(m>5000))->(¬j=0)) /\
  (((m>5000)\/(IntKind.i64.wrap (IntKind.i64.wrap (S.tdiv A)+IntKind.i64.wrap (A.tdiv j))>100))->Weak (tu [AV.vnil,vb false]) dq) /\
  (¬((m>5000)\/(IntKind.i64.wrap (IntKind.i64.wrap (S.tdiv A)+IntKind.i64.wrap (A.tdiv j))>100))->fsN_at S A j 0 0 n m (Zaj dq))) :
 fsA_at S A j n m (Zaj dq):=by
 unfold fsA_at
 obtain ⟨k2,k4,H⟩:=H
 rcases xq H with ⟨d6,H⟩|⟨d6,H⟩
 ·exact ZaX (G:=Zab kp76 [] []) 1000 [true] (asm:=[!(decide (m>5000)==false&&true)||true,!(decide (m>5000)==false&&true)||true,!(decide (m>5000)==false&&true) || !A==0,!(decide (m>5000)==false&&true)||true,!(decide (m>5000)==false&&true)||true,!(decide (m>5000)==false&&true) || !j==0,(bif decide (m>5000) then true else decide (zCxF1 S A j))==true]) (tu [AV.vnil,vb false]) (by kernel_rfl) (bc (Bool.or_true _) (bc (Bool.or_true _) (bc ((Zdf (i_at (i_bf Zad)) ZeU).2 k2) (bc (Bool.or_true _) (bc (Bool.or_true _) (bc ((Zdf (i_at (i_bf Zad)) ZeU).2 k4) (bc (Zam ((ZaD Zad Zad).2 d6)) b0))))))) q0 c0 H
 ·exact Zac (G:=Zab kp76 [] []) 1000 [false] ⟨(atC (cd Try.f76) [1,1,1,1,0,1,0,0]),[(2,vi m),(3,AV.ptr 0 0 0 0),(8,AV.vnil),(9,AV.ptr 1 0 0 0),(10,vi n)],[⟨[ag [vi S,vi A,vi j]],3,0,false,false⟩,⟨[ag [vi 0,vi 0]],2,0,false,false⟩],[!(decide (m>5000)==false&&true)||true,!(decide (m>5000)==false&&true)||true,!(decide (m>5000)==false&&true) || !A==0,!(decide (m>5000)==false&&true)||true,!(decide (m>5000)==false&&true)||true,!(decide (m>5000)==false&&true) || !j==0,(bif decide (m>5000) then true else decide (zCxF1 S A j))==false,true],[],_⟩ (by kernel_rfl) (bc (Bool.or_true _) (bc (Bool.or_true _) (bc ((Zdf (i_at (i_bf Zad)) ZeU).2 k2) (bc (Bool.or_true _) (bc (Bool.or_true _) (bc ((Zdf (i_at (i_bf Zad)) ZeU).2 k4) (bc (Zal (fun h=>d6 ((ZaD Zad Zad).1 h))) (bc rfl b0)))))))) q0 c0 H
noncomputable abbrev zCxF2 (S:Int) (A:Int) (j:Int) (v:Int) (a:Int) (r:Int):=ag [vi (N.nxv S A j v a r),vi (N.nxa S A j v a r)]
theorem fsN (S A j:Int) (v a r m:Int)  (dq:AV) (H :
  ((r>0)->(N.okNx S A j v a r) /\
   (((¬(N.nxo S A j v a r=true))\/(0=m))->Weak (tu [AV.vnil,vb false]) dq) /\
   (¬((¬(N.nxo S A j v a r=true))\/(0=m))->(-9223372036854775808<=r-N.nxv S A j v a r/\r-N.nxv S A j v a r<=9223372036854775807) /\
    fsL_at S A j (N.nxv S A j v a r) (N.nxa S A j v a r) (r-N.nxv S A j v a r) m ([N.nxv S A j v a r]) 0 (Zaj dq))) /\
  (¬(r>0) -> ∃ (b1:Bool),
   (Ev M1 (Conf.pure 97 [AV.vnil,ag [vi S,vi A,vi j]]) (vb b1) []) /\
   Weak (tu [AV.vnil,vb b1]) dq)) :
 fsN_at S A j v a r m (Zaj dq):=by
 unfold fsN_at
 rcases xq H with ⟨d2,H⟩|⟨d2,H⟩
 ·obtain ⟨k3,H⟩:=H
  refine Zac (G:=Zab kp76 [(8,3,.call (tu [(zCxF2 S A j v a r),vb (N.nxo S A j v a r)]) none)] []) 12 [true] ⟨(atC (cd Try.f76) [1,1,1,1,0,1,0,0,1,0,0,1,0,1]),[(2,vi m),(3,AV.ptr 0 0 0 0),(8,AV.vnil),(9,AV.ptr 1 0 0 0),(10,vi r),(11,AV.ptr 2 0 0 0),(51,vb (bif !N.nxo S A j v a r then true else 0==m))],[⟨[ag [vi S,vi A,vi j]],3,0,false,false⟩,⟨[ag [vi v,vi a]],2,0,false,false⟩,⟨[(zCxF2 S A j v a r)],2,0,false,false⟩],_,[],_⟩ (by kernel_rfl) (bc (Zam (Zad.2 d2)) (bc rfl (bc rfl (bc rfl b0)))) q0 (ce (@ev96 S A j v a r k3) c0) ?_
  rcases xq H with ⟨d5,H⟩|⟨d5,H⟩
  ·exact ZaX (G:=Zab kp76 [] []) 1000 [true] (asm:=[(bif !N.nxo S A j v a r then true else 0==m)==true]) (tu [AV.vnil,vb false]) (by kernel_rfl) (bc (Zam ((ZaD (Zay (Zas _)) i_eq).2 d5)) b0) q0 c0 H
  ·obtain ⟨k6,H⟩:=H
   have w7:wi (r-N.nxv S A j v a r)=r-N.nxv S A j v a r:=wI64 k6
   have w8:[vi (N.nxv S A j v a r)]=List.map vi [N.nxv S A j v a r]:=rfl
   exact Zac (G:=Zab kp76 [] []) 1000 [false] ⟨(atC (cd Try.f76) [1,1,1,1,0,1,0,0]),[(2,vi m),(3,AV.ptr 0 0 0 0),(8,AV.row 3 0),(9,AV.ptr 1 0 0 0),(10,vi (wi (r-N.nxv S A j v a r)))],[⟨[ag [vi S,vi A,vi j]],3,0,false,false⟩,⟨[(zCxF2 S A j v a r)],2,0,false,false⟩,⟨[(zCxF2 S A j v a r)],2,0,false,false⟩,⟨[vi (N.nxv S A j v a r)],1,0,false,true⟩],[(bif !N.nxo S A j v a r then true else 0==m)==false,true,true,true,true,true],[],_⟩ (by kernel_rfl) (bc (Zal (fun h=>d5 ((ZaD (Zay (Zas _)) i_eq).1 h))) (bc rfl (bc rfl (bc rfl (bc rfl (bc rfl b0)))))) q0 c0 (by (try rw [w7]);(try rw [w8]);all_goals exact Zan [0,3,1] (by kernel_rfl) H)
 ·obtain ⟨b1,k9,H⟩:=H
  exact ZaX (G:=Zab kp76 [(13,3,.call (vb b1) none)] []) 1000 [false] (tu [AV.vnil,vb b1]) (by kernel_rfl) (bc (Zal (fun h=>d2 (Zad.1 h))) (bc rfl b0)) q0 (ce k9 c0) H
noncomputable abbrev zCxF3 (S:Int) (A:Int) (j:Int):=ag [vi S,vi A,vi j]
noncomputable abbrev zCxF4 (S:Int) (A:Int) (j:Int) (v:Int) (a:Int) (r:Int):=ag [vi (N.nxv S A j v a r),vi (N.nxa S A j v a r)]
theorem fsL (S A j:Int) (v a r m:Int) (o:List Int) (w:Nat)  (dq:AV) (H :
  ((r>0)->(N.okNx S A j v a r) /\
   (((¬(N.nxo S A j v a r=true))\/((↑o.length:Int)=m))->Weak (tu [AV.vnil,vb false]) dq) /\
   (¬((¬(N.nxo S A j v a r=true))\/((↑o.length:Int)=m))->((o.length+1)*8<=1099511627776) /\
    (-9223372036854775808<=r-N.nxv S A j v a r/\r-N.nxv S A j v a r<=9223372036854775807) /\
    fsL_at S A j (N.nxv S A j v a r) (N.nxa S A j v a r) (r-N.nxv S A j v a r) m (o++[N.nxv S A j v a r]) (w+1) (Zaj dq))) /\
  (¬(r>0)->(N.okX o) /\
   Weak (tu [vf (List.map vi o),vb (N.smo S A j o)]) dq)) :
 fsL_at S A j v a r m o w (Zaj dq):=by
 unfold fsL_at
 rcases xq H with ⟨d2,H⟩|⟨d2,H⟩
 ·obtain ⟨k3,H⟩:=H
  have w5:(List.map vi o).length=o.length:=List.length_map ..
  have i6:(bif !N.nxo S A j v a r then true else (↑(List.map vi o).length:Int)==m)=true ↔ ((¬(N.nxo S A j v a r=true))\/((↑o.length:Int)=m)):=(by (try rw [w5]);all_goals exact (ZaD (Zay (Zas _)) i_eq))
  refine Zac (G:=Zab kp76 [(8,3,.call (tu [(zCxF4 S A j v a r),vb (N.nxo S A j v a r)]) none)] []) 12 [true] ⟨(atC (cd Try.f76) [1,1,1,1,0,1,0,0,1,0,0,1,0,1]),[(2,vi m),(3,AV.ptr 0 0 0 0),(8,AV.row 1 w),(9,AV.ptr 2 0 0 0),(10,vi r),(11,AV.ptr 3 0 0 0),(51,vb (bif !N.nxo S A j v a r then true else (↑(List.map vi o).length:Int)==m))],[⟨[(zCxF3 S A j)],3,0,false,false⟩,⟨List.map vi o,1,w,false,true⟩,⟨[ag [vi v,vi a]],2,0,false,false⟩,⟨[(zCxF4 S A j v a r)],2,0,false,false⟩],[(decide (r>0))==true,true,true,true,!((!N.nxo S A j v a r)==false&&true)||w==w],[],_⟩ (by kernel_rfl) (bc (Zam (Zad.2 d2)) (bc rfl (bc rfl (bc rfl (bc ((Zdf (i_at (i_bf (Zay (Zas _)))) i_eq).2 (fun _=>rfl)) b0))))) q0 (ce (@ev96 S A j v a r k3) c0) ?_
  rcases xq H with ⟨d7,H⟩|⟨d7,H⟩
  ·exact ZaX (G:=Zab kp76 [] []) 1000 [true] (tu [AV.vnil,vb false]) (by kernel_rfl) (bc (Zam (i6.2 d7)) b0) q0 c0 H
  ·have i8:(decide (((List.map vi o).length+1)*8<=1099511627776))=true ↔ ((o.length+1)*8<=1099511627776):=(by (try rw [w5]);all_goals exact Zad)
   obtain ⟨k9,H⟩:=H
   have w10:List.map vi o++[vi (N.nxv S A j v a r)]=List.map vi (o++[N.nxv S A j v a r]):=(Zdd rfl rfl)
   obtain ⟨k11,H⟩:=H
   have w12:wi (r-N.nxv S A j v a r)=r-N.nxv S A j v a r:=wI64 k11
   exact Zac (G:=Zab kp76 [] []) 1000 [false] ⟨(atC (cd Try.f76) [1,1,1,1,0,1,0,0]),[(2,vi m),(3,AV.ptr 0 0 0 0),(8,AV.row 1 (w+1)),(9,AV.ptr 2 0 0 0),(10,vi (wi (r-N.nxv S A j v a r)))],[⟨[(zCxF3 S A j)],3,0,false,false⟩,⟨List.map vi o++[vi (N.nxv S A j v a r)],1,w+1,false,true⟩,⟨[(zCxF4 S A j v a r)],2,0,false,false⟩,⟨[(zCxF4 S A j v a r)],2,0,false,false⟩],[(bif !N.nxo S A j v a r then true else (↑(List.map vi o).length:Int)==m)==false,true,true,true,w==w,decide (((List.map vi o).length+1)*8<=1099511627776),true],[],_⟩ (by kernel_rfl) (bc (Zal (fun h=>d7 (i6.1 h))) (bc rfl (bc rfl (bc rfl (bc (beq_self_eq_true _) (bc (i8.2 k9) (bc rfl b0))))))) q0 c0 (by (try rw [w10]);(try rw [w12]);all_goals exact Zan [0,1,2] (by kernel_rfl) H)
 ·obtain ⟨k13,H⟩:=H
  exact Zai (G:=Zab kp76 [(13,3,.call (vb (N.smo S A j o)) none)] []) 1000 [false] (k:=((atC (cd Try.f76) [1,1,1,1,1,1])).tail) (env':=[(6,AV.row 1 w),(7,vb (N.smo S A j o))]) (L':=[⟨[(zCxF3 S A j)],3,0,false,false⟩,⟨List.map vi o,1,w,false,true⟩,⟨[ag [vi v,vi a]],2,0,false,false⟩]) (asm:=[(decide (r>0))==false,true,w==w]) (eqs:=[]) (calls:=[⟨true,false,97,[vf (List.map vi o),(zCxF3 S A j)],[],vb (N.smo S A j o),[]⟩]) (tu [AV.row 1 w,vb (N.smo S A j o)]) (by kernel_rfl) (by kernel_rfl) (Zaa (Zal (fun h=>d2 (Zad.1 h))) (Zaa rfl (Zaa (beq_self_eq_true _) Zae))) Zaf (Zaq (fun _=>(@ev97 S A j false o k13)) Zag) (Zes (d:=(tu [vf (List.map vi o),vb (N.smo S A j o)])) (bs:=[w==w]) (by kernel_rfl) (by kernel_rfl) (Zaa (beq_self_eq_true _) Zae) (by kernel_rfl) H)
end Go.Av

namespace Go.Av
open Go.RowKit
theorem ev_weak {M:Mach} (hm:(M.P ()).follows .mixedOrders=true) {f:FuncId} {args args':List AV} {d:AV} (h:Ev M (.pure f args') d []) (hl:args.length=args'.length) (hc:cleanL args=true) (hw:∀ (i:Nat) a a',args[i]? = some a->args'[i]? = some a'->Weak a a'):Ev M (.pure f args) d []:=by
 refine .sem fun base acc w cargs h1 h2 h3=>(Zbe hm (c:=.pure f args') h:PureR M f args' _) base acc w cargs h1 h2 ⟨hl.symm.trans h3.1,fun i c v hi hv => ?_⟩
 have hlt:i<args.length:=by rw [hl];exact Zah hi
 have ha:args[i]? = some args[i]:=List.getElem?_eq_getElem hlt
 exact .data _ _ (ZeW (hw i _ _ ha hi) (ZaJ (h3.2 i _ v ha hv) (Zbb hc i _ ha)))
end Go.Av

namespace Go.Av
open Go.Proofs
namespace N
def okFs (S A j n m:Int):Prop:=Zbv S A j/\(0<=n/\n<=1000000)/\0<=m/\m<=1000000000000
def spd (X:List Int) (n m:Int):Prop:=(X.sum=n /\ ∀ x ∈ X,1<=x)/\(X.length:Int)<=m
def fsP (S A j n m:Int) (t:List Int × Bool):Prop:=Ev M1 (.pure 76 [.agg [.int .i64 S,.int .i64 A,.int .i64 j],.int .i64 n,.int .i64 m]) (.tup [.vec false 1 (t.1.map (.int .i64)),.bool t.2]) []/\(t.2=true->spd t.1 n m)
noncomputable def fs (S A j n m:Int):List Int × Bool:=Classical.epsilon (fsP S A j n m)
noncomputable def fsX (S A j n m:Int):List Int:=(fs S A j n m).1
noncomputable def fsB (S A j n m:Int):Bool:=(fs S A j n m).2
end N
theorem rest_ok {S A j:Int} (hl:N.Zbv S A j):N.inv S A j 0 0:=by
 unfold N.Zbv at hl
 refine ⟨⟨by omega,by omega,by omega⟩,?_,?_⟩
 ·rw [show -(0:Int)=0 by omega,ZaO (by omega)];omega
 ·rw [ZaO (by omega)];omega
theorem spd_ok {X:List Int} {n m:Int} (h:N.spd X n m) (hn:n<=1000000):N.okX X:=by
 obtain ⟨⟨h1,h2⟩,_⟩:=h
 have hl:=ZcZ X h2
 refine ⟨by omega,fun x hx => ?_⟩
 have h3:=h2 x hx
 have:∀ l:List Int,(∀ x ∈ l,1<=x)->x ∈ l->x<=l.sum:=by
  intro l
  induction l with
  | nil=>intro _ h;cases h
  | cons y l ih =>
   intro hl hx
   have hy:=hl y (List.mem_cons_self ..)
   have hs:=ZcZ l fun z hz=>hl z (List.mem_cons_of_mem _ hz)
   rw [List.sum_cons]
   rcases List.mem_cons.1 hx with e | e
   ·omega
   ·have:=ih (fun z hz=>hl z (List.mem_cons_of_mem _ hz)) e
    omega
 have:=this X h2 hx
 omega
theorem smo_nil (S A j:Int):Ev M1 (.pure 97 [.vnil,.agg [.int .i64 S,.int .i64 A,.int .i64 j]]) (.bool (N.smo S A j [])) []:=by
 refine ev_weak (by rfl) (ev97 S A j false [] ⟨by simp,fun x hx=>nomatch hx⟩) rfl rfl (fun i x y hx hy => ?_)
 match i with
 | 0=>simp at hx hy;subst hx;subst hy;exact .vnil 1
 | 1=>simp at hx hy;subst hx;subst hy;exact .refl _
 | i+2=>simp at hx
theorem fs_loop {S A j n m:Int} (hl:N.Zbv S A j) (hn:n<=1000000):∀ (k:Nat) (v a r:Int) (o:List Int) (w:Nat),r<=k->0<=r->N.inv S A j v a->N.spd o (n-r) m ->
  ∃ t:List Int × Bool,fsL_at S A j v a r m o w (Zaj (.tup [.vec false 1 (t.1.map (.int .i64)),.bool t.2]))/\(t.2=true->N.spd t.1 n m):=by
 intro k
 induction k with
 | zero =>
  intro v a r o w hk h0 hi ho
  have:r=0:=by omega
  subst this
  rw [Int.sub_zero] at ho
  exact ⟨(o,N.smo S A j o),fsL _ _ _ _ _ _ _ _ _ _ ⟨fun z=>absurd z (by omega),fun _=>⟨spd_ok ho hn,.refl _⟩⟩,fun _=>ho⟩
 | succ k ih =>
  intro v a r o w hk h0 hi ho
  by_cases hr:r>0
  ·have hlen:=ZcZ o ho.1.2
   have hsum:=ho.1.1
   have hok:N.okNx S A j v a r:=⟨⟨hl,hi⟩,by omega,by omega⟩
   by_cases hc:(¬(N.nxo S A j v a r=true))\/((o.length:Int)=m)
   ·exact ⟨([],false),fsL _ _ _ _ _ _ _ _ _ _ ⟨fun _=>⟨hok,fun _=>ZcW (.vnil 1) (.refl _),fun z=>absurd hc z⟩,fun z=>absurd hr z⟩,fun z=>nomatch z⟩
   ·obtain ⟨g1,g2⟩:=nxo_ok hok (Classical.byContradiction fun y=>hc (.inl y))
    obtain ⟨⟨h1,h2⟩,h3⟩:=ho
    have ho2:N.spd (o++[N.nxv S A j v a r]) (n-(r-N.nxv S A j v a r)) m:=by
     refine ⟨⟨?_,fun x hx => ?_⟩,?_⟩
     ·rw [List.sum_append,h1];simp;omega
     ·rcases List.mem_append.1 hx with e | e
      ·exact h2 x e
      ·rw [List.mem_singleton.1 e];exact g1.1
     ·rw [List.length_append,List.length_singleton]
      have:¬(o.length:Int)=m:=fun y=>hc (.inr y)
      omega
    obtain ⟨t,q1,q2⟩:=ih (N.nxv S A j v a r) (N.nxa S A j v a r) (r-N.nxv S A j v a r) (o++[N.nxv S A j v a r]) (w+1) (by omega) (by omega) (safe_inv hl g2) ho2
    exact ⟨t,fsL _ _ _ _ _ _ _ _ _ _ ⟨fun _=>⟨hok,fun z=>absurd z hc,fun _=>⟨by omega,by omega,q1⟩⟩,fun z=>absurd hr z⟩,q2⟩
  ·have:r=0:=by omega
   subst this
   rw [Int.sub_zero] at ho
   exact ⟨(o,N.smo S A j o),fsL _ _ _ _ _ _ _ _ _ _ ⟨fun z=>absurd z (by omega),fun _=>⟨spd_ok ho hn,.refl _⟩⟩,fun _=>ho⟩
theorem fs_ex {S A j n m:Int} (h:N.okFs S A j n m):∃ t,N.fsP S A j n m t:=by
 obtain ⟨hl,hn,hm⟩:=h
 have hl':=hl
 unfold N.Zbv at hl'
 by_cases hc:(m>5000)\/(IntKind.i64.wrap (IntKind.i64.wrap (S.tdiv A)+IntKind.i64.wrap (A.tdiv j))>100)
 ·exact ⟨([],false),call76 (fsA S A j n m _ ⟨fun _=>by omega,fun _=>by omega,fun _=>ZcW (.vnil 1) (.refl _),fun z=>absurd hc z⟩),fun z=>nomatch z⟩
 ·suffices ∃ t:List Int × Bool,fsN_at S A j 0 0 n m (Zaj (.tup [.vec false 1 (t.1.map (.int .i64)),.bool t.2]))/\(t.2=true->N.spd t.1 n m) by
   obtain ⟨t,q1,q2⟩:=this
   exact ⟨t,call76 (fsA S A j n m _ ⟨fun _=>by omega,fun _=>by omega,fun z=>absurd z hc,fun _=>q1⟩),q2⟩
  by_cases hr:n>0
  ·have hok:N.okNx S A j 0 0 n:=⟨⟨hl,rest_ok hl⟩,by omega,by omega⟩
   by_cases hc:(¬(N.nxo S A j 0 0 n=true))\/(0=m)
   ·exact ⟨([],false),fsN _ _ _ _ _ _ _ _ ⟨fun _=>⟨hok,fun _=>ZcW (.vnil 1) (.refl _),fun z=>absurd hc z⟩,fun z=>absurd hr z⟩,fun z=>nomatch z⟩
   ·obtain ⟨g1,g2⟩:=nxo_ok hok (Classical.byContradiction fun y=>hc (.inl y))
    have hm1:1<=m:=by
     have:¬(0:Int)=m:=fun y=>hc (.inr y)
     omega
    have ho2:N.spd [N.nxv S A j 0 0 n] (n-(n-N.nxv S A j 0 0 n)) m:=by
     refine ⟨⟨?_,fun x hx => ?_⟩,?_⟩
     ·simp;omega
     ·rw [List.mem_singleton.1 hx];exact g1.1
     ·rw [List.length_singleton];omega
    obtain ⟨t,q1,q2⟩:=fs_loop (m:=m) hl hn.2 (n-N.nxv S A j 0 0 n).toNat (N.nxv S A j 0 0 n) (N.nxa S A j 0 0 n) (n-N.nxv S A j 0 0 n) [N.nxv S A j 0 0 n] 0 (by omega) (by omega) (safe_inv hl g2) ho2
    exact ⟨t,fsN _ _ _ _ _ _ _ _ ⟨fun _=>⟨hok,fun z=>absurd z hc,fun _=>⟨by omega,q1⟩⟩,fun z=>absurd hr z⟩,q2⟩
  ·have:n=0:=by omega
   subst this
   refine ⟨([],N.smo S A j []),fsN _ _ _ _ _ _ _ _ ⟨fun z=>absurd z (by omega),fun _=>⟨_,smo_nil S A j,ZcW (.vnil 1) (.refl _)⟩⟩,fun _=>⟨⟨rfl,fun x hx=>nomatch hx⟩,hm.1⟩⟩
theorem fs_sp {S A j n m:Int} (h:N.okFs S A j n m):N.fsP S A j n m (N.fs S A j n m):=Classical.epsilon_spec (fs_ex h)
theorem ev76 (S A j n m:Int) (h:N.okFs S A j n m):Ev M1 (.pure 76 [.agg [.int .i64 S,.int .i64 A,.int .i64 j],.int .i64 n,.int .i64 m]) (.tup [.vec false 1 ((N.fsX S A j n m).map (.int .i64)),.bool (N.fsB S A j n m)]) []:=(fs_sp h).1
end Go.Av

namespace Go.Av
open Go.Proofs
set_option maxRecDepth 100000
def fi44:Fi:=⟨55,[.tmp 4,.tmp 5]⟩
def kp44:List (Nat × List Nat):=[(0,[0,3]),(1,[0,3,6,7]),(2,[0,3,6,7,20]),(3,[4,5]),(4,[0,3,6,23]),(5,[4,5]),(6,[0,3,8,9]),(7,[0,3,8,31]),(8,[4,5]),(9,[0,3,10]),(10,[0,10,11]),(11,[10,11,12]),(12,[10,11,12,37]),(13,[10,11,12]),(14,[10,11,12]),(15,[4,5])]
def stA_at (S A j:Int) (n:Int) (Q:AV->Heap->Prop):Prop:=Wp M1 (.run fi44 (atC (cd Try.f44) []) [(0,.int .i64 n),(1,.agg [.int .i64 S,.int .i64 A,.int .i64 j])] []) Q
def stN_at (u r:Int) (Q:AV->Heap->Prop):Prop:=Wp M1 (.run fi44 (atC (cd Try.f44) [1,1,1,1,1,1,1,0,1,0,0]) [(10,.vnil),(11,.int .i64 u),(12,.int .i64 r)] []) Q
def stM_at (u r:Int) (o:List Int) (w:Nat) (Q:AV->Heap->Prop):Prop:=Wp M1 (.run fi44 (atC (cd Try.f44) [1,1,1,1,1,1,1,0,1,0,0]) [(10,.row 0 w),(11,.int .i64 u),(12,.int .i64 r)] [⟨o.map (.int .i64),1,w,false,true⟩]) Q
theorem call44 {args:List AV} {d:AV} (h:wc M1 fi44 Try.f44 args d):Ev M1 (.pure 44 args) d []:=pcl _ _ (by kernel_rfl) h
noncomputable abbrev zCxG1 (S:Int) (A:Int) (j:Int):=ag [vi S,vi A,vi j]
theorem stA (S A j:Int) (n:Int)  (dq:AV) (H :
  ((¬N.tkE S A j n=0)->Weak (tu [AV.vnil,vi (N.tkE S A j n)]) dq) /\
  (¬(¬N.tkE S A j n=0)->((N.tkV S A j n>100000)->Weak (tu [AV.vnil,vi 3]) dq) /\
   (¬(N.tkV S A j n>100000)->(N.okFs S A j n (N.tkV S A j n)) /\
    ((N.fsB S A j n (N.tkV S A j n)=true)->Weak (tu [vf (List.map vi (N.fsX S A j n (N.tkV S A j n))),vi 0]) dq) /\
    (¬(N.fsB S A j n (N.tkV S A j n)=true)->(N.okI j) /\
     stN_at (N.sim S A j) n (Zaj dq))))) :
 stA_at S A j n (Zaj dq):=by
 unfold stA_at
 refine Zac (G:=Zab kp44 [(1,2,.call (tu [vi (N.tkV S A j n),vi (N.tkE S A j n)]) none)] []) 7 [] ⟨(atC (cd Try.f44) [1,1,0,1]),[(0,vi n),(3,AV.ptr 0 0 0 0),(6,vi (N.tkV S A j n)),(7,vi (N.tkE S A j n)),(20,vb (N.tkE S A j n != 0))],[⟨[(zCxG1 S A j)],3,0,false,false⟩],_,[],_⟩ (by kernel_rfl) (bc rfl b0) q0 (ce (@ev75 S A j n) c0) ?_
 rcases xq H with ⟨d2,H⟩|⟨d2,H⟩
 ·exact ZaX (G:=Zab kp44 [] []) 1000 [true] (tu [AV.vnil,vi (N.tkE S A j n)]) (by kernel_rfl) (bc (Zam (i_ne.2 d2)) b0) q0 c0 H
 ·rcases xq H with ⟨d4,H⟩|⟨d4,H⟩
  ·exact ZaX (G:=Zab kp44 [] []) 1000 [false,true] (tu [AV.vnil,vi 3]) (by kernel_rfl) (bc (Zal (fun h=>d2 (i_ne.1 h))) (bc (Zam (Zad.2 d4)) b0)) q0 c0 H
  ·obtain ⟨k5,H⟩:=H
   refine Zac (G:=Zab kp44 [(6,3,.call (tu [vf (List.map vi (N.fsX S A j n (N.tkV S A j n))),vb (N.fsB S A j n (N.tkV S A j n))]) none)] []) 12 [false,false] ⟨(atC (cd Try.f44) [1,1,1,1,0,1,1]),[(0,vi n),(3,AV.ptr 0 0 0 0),(8,vf (List.map vi (N.fsX S A j n (N.tkV S A j n)))),(31,vb (N.fsB S A j n (N.tkV S A j n)))],[⟨[(zCxG1 S A j)],3,0,false,false⟩],_,[],_⟩ (by kernel_rfl) (bc (Zal (fun h=>d2 (i_ne.1 h))) (bc (Zal (fun h=>d4 (Zad.1 h))) (bc rfl b0))) q0 (ce (@ev76 S A j n (N.tkV S A j n) k5) c0) ?_
   rcases xq H with ⟨d7,H⟩|⟨d7,H⟩
   ·exact ZaX (G:=Zab kp44 [] []) 1000 [true] (asm:=[(N.fsB S A j n (N.tkV S A j n))==true]) (tu [vf (List.map vi (N.fsX S A j n (N.tkV S A j n))),vi 0]) (by kernel_rfl) (bc (Zam ((Zas _).2 d7)) b0) q0 c0 H
   ·obtain ⟨k8,H⟩:=H
    exact Zac (G:=Zab kp44 [(10,1,.call (vi (N.sim S A j)) none)] []) 1000 [false] ⟨(atC (cd Try.f44) [1,1,1,1,1,1,1,0,1,0,0]),[(10,AV.vnil),(11,vi (N.sim S A j)),(12,vi n)],[⟨[(zCxG1 S A j)],3,0,false,false⟩],[(N.fsB S A j n (N.tkV S A j n))==false,true],[],_⟩ (by kernel_rfl) (bc (Zal (fun h=>d7 ((Zas _).1 h))) (bc rfl b0)) q0 (ce (@ev77 S A j k8) c0) (Zan [] (by kernel_rfl) H)
theorem stN (u r:Int)  (dq:AV) (H :
  ((r>0)->(¬u=0) /\
   (-9223372036854775808<=r-1/\r-1<=9223372036854775807) /\
   (-9223372036854775808<=(r-1).tmod u+1/\(r-1).tmod u+1<=9223372036854775807) /\
   (-9223372036854775808<=r-((r-1).tmod u+1)/\r-((r-1).tmod u+1)<=9223372036854775807) /\
   stM_at u (r-((r-1).tmod u+1)) ([(r-1).tmod u+1]) 0 (Zaj dq)) /\
  (¬(r>0)->Weak (tu [AV.vnil,vi 0]) dq)) :
 stN_at u r (Zaj dq):=by
 unfold stN_at
 rcases xq H with ⟨d2,H⟩|⟨d2,H⟩
 ·obtain ⟨k4,k5,H⟩:=H
  have w6:wi (r-1)=r-1:=wI64 k5
  obtain ⟨k7,H⟩:=H
  have w8:wi ((r-1).tmod u+1)=(r-1).tmod u+1:=wI64 k7
  obtain ⟨k9,H⟩:=H
  have w10:wi (r-((r-1).tmod u+1))=r-((r-1).tmod u+1):=wI64 k9
  have w11:[vi ((r-1).tmod u+1)]=List.map vi [(r-1).tmod u+1]:=rfl
  exact Zac (G:=Zab kp44 [] []) 1000 [true] ⟨(atC (cd Try.f44) [1,1,1,1,1,1,1,0,1,0,0]),[(10,AV.row 0 0),(11,vi u),(12,vi (wi (r-wi ((wi (r-1)).tmod u+1))))],[⟨[vi (wi ((wi (r-1)).tmod u+1))],1,0,false,true⟩],_,[],_⟩ (by kernel_rfl) (bc (Zam (Zad.2 d2)) (bc (ZeU.2 k4) (bc rfl (bc rfl (bc rfl (bc rfl (bc rfl (bc rfl b0)))))))) q0 c0 (by (try rw [w6]);(try rw [w8]);(try rw [w10]);(try rw [w11]);all_goals exact H)
 ·exact ZaX (G:=Zab kp44 [] []) 1000 [false] (tu [AV.vnil,vi 0]) (by kernel_rfl) (bc (Zal (fun h=>d2 (Zad.1 h))) b0) q0 c0 H
theorem stM (u r:Int) (o:List Int) (w:Nat)  (dq:AV) (H :
  ((r>0)->(¬u=0) /\
   (-9223372036854775808<=r-1/\r-1<=9223372036854775807) /\
   (-9223372036854775808<=(r-1).tmod u+1/\(r-1).tmod u+1<=9223372036854775807) /\
   ((o.length+1)*8<=1099511627776) /\
   (-9223372036854775808<=(↑(o++[(r-1).tmod u+1]).length:Int)-1/\(↑(o++[(r-1).tmod u+1]).length:Int)-1<=9223372036854775807) /\
   (0<=(↑(o++[(r-1).tmod u+1]).length:Int)-1) /\
   (((↑(o++[(r-1).tmod u+1]).length:Int)-1).toNat<(o++[(r-1).tmod u+1]).length) /\
   (-9223372036854775808<=r-(o++[(r-1).tmod u+1]).getD ((↑(o++[(r-1).tmod u+1]).length:Int)-1).toNat default/\r-(o++[(r-1).tmod u+1]).getD ((↑(o++[(r-1).tmod u+1]).length:Int)-1).toNat default<=9223372036854775807) /\
   stM_at u (r-(o++[(r-1).tmod u+1]).getD ((↑(o++[(r-1).tmod u+1]).length:Int)-1).toNat default) (o++[(r-1).tmod u+1]) (w+1) (Zaj dq)) /\
  (¬(r>0)->Weak (tu [vf (List.map vi o),vi 0]) dq)) :
 stM_at u r o w (Zaj dq):=by
 unfold stM_at
 rcases xq H with ⟨d2,H⟩|⟨d2,H⟩
 ·obtain ⟨k4,H⟩:=H
  have w5:(List.map vi o).length=o.length:=List.length_map ..
  obtain ⟨k6,H⟩:=H
  have w7:wi (r-1)=r-1:=wI64 k6
  obtain ⟨k8,H⟩:=H
  have w9:wi ((r-1).tmod u+1)=(r-1).tmod u+1:=wI64 k8
  have i10:(decide (((List.map vi o).length+1)*8<=1099511627776))=true ↔ ((o.length+1)*8<=1099511627776):=(by (try rw [w5]);(try rw [w7]);(try rw [w9]);all_goals exact Zad)
  obtain ⟨k11,H⟩:=H
  have w12:List.map vi o++[vi ((r-1).tmod u+1)]=List.map vi (o++[(r-1).tmod u+1]):=(Zdd rfl rfl)
  have w13:(List.map vi (o++[(r-1).tmod u+1])).length=(o++[(r-1).tmod u+1]).length:=List.length_map ..
  obtain ⟨k14,H⟩:=H
  have w15:wi ((↑(o++[(r-1).tmod u+1]).length:Int)-1)=(↑(o++[(r-1).tmod u+1]).length:Int)-1:=wI64 k14
  have i16:(decide (0<=wi ((↑(List.map vi o++[vi (wi ((wi (r-1)).tmod u+1))]).length:Int)-1)))=true ↔ (0<=(↑(o++[(r-1).tmod u+1]).length:Int)-1):=(by (try rw [w7]);(try rw [w9]);(try rw [w12]);(try rw [w13]);(try rw [w15]);all_goals exact Zad)
  obtain ⟨k17,H⟩:=H
  have i18:(decide ((wi ((↑(List.map vi o++[vi (wi ((wi (r-1)).tmod u+1))]).length:Int)-1)).toNat<(List.map vi o++[vi (wi ((wi (r-1)).tmod u+1))]).length))=true ↔ (((↑(o++[(r-1).tmod u+1]).length:Int)-1).toNat<(o++[(r-1).tmod u+1]).length):=(by (try rw [w7]);(try rw [w9]);(try rw [w12]);(try rw [w13]);(try rw [w15]);all_goals exact Zad)
  obtain ⟨k19,k20,H⟩:=H
  have w21:wi (r-(o++[(r-1).tmod u+1]).getD ((↑(o++[(r-1).tmod u+1]).length:Int)-1).toNat default)=r-(o++[(r-1).tmod u+1]).getD ((↑(o++[(r-1).tmod u+1]).length:Int)-1).toNat default:=wI64 k20
  exact Zac (G:=Zab kp44 [(13,6,.elem (vi ((o++[(r-1).tmod u+1]).getD ((↑(o++[(r-1).tmod u+1]).length:Int)-1).toNat default)))] []) 1000 [true] ⟨(atC (cd Try.f44) [1,1,1,1,1,1,1,0,1,0,0]),[(10,AV.row 0 (w+1)),(11,vi u),(12,vi (wi (r-(o++[(r-1).tmod u+1]).getD ((↑(o++[(r-1).tmod u+1]).length:Int)-1).toNat default)))],[⟨List.map vi o++[vi (wi ((wi (r-1)).tmod u+1))],1,w+1,false,true⟩],[(decide (r>0))==true,!u==0,w==w,decide (((List.map vi o).length+1)*8<=1099511627776),w+1==w+1,w+1==w+1,decide (0<=wi ((↑(List.map vi o++[vi (wi ((wi (r-1)).tmod u+1))]).length:Int)-1)),decide ((wi ((↑(List.map vi o++[vi (wi ((wi (r-1)).tmod u+1))]).length:Int)-1)).toNat<(List.map vi o++[vi (wi ((wi (r-1)).tmod u+1))]).length),w+1==w+1],[((List.map vi o++[vi (wi ((wi (r-1)).tmod u+1))]).get?Internal (wi ((↑(List.map vi o++[vi (wi ((wi (r-1)).tmod u+1))]).length:Int)-1)).toNat=some (vi ((o++[(r-1).tmod u+1]).getD ((↑(o++[(r-1).tmod u+1]).length:Int)-1).toNat default)))],_⟩ (by kernel_rfl) (bc (Zam (Zad.2 d2)) (bc (ZeU.2 k4) (bc (beq_self_eq_true _) (bc (i10.2 k11) (bc (beq_self_eq_true _) (bc (beq_self_eq_true _) (bc (i16.2 k17) (bc (i18.2 k19) (bc (beq_self_eq_true _) b0))))))))) (qc (by (try rw [w7]);(try rw [w9]);(try rw [w12]);(try rw [w13]);(try rw [w15]);all_goals exact (Zaz k19)) q0) c0 (by (try rw [w7]);(try rw [w9]);(try rw [w12]);(try rw [w21]);all_goals exact H)
 ·exact Zai (G:=Zab kp44 [] []) 1000 [false] (k:=((atC (cd Try.f44) [1,1,1,1,1,1,1,1,1])).tail) (env':=[(4,AV.row 0 w),(5,vi 0)]) (L':=[⟨List.map vi o,1,w,false,true⟩]) (asm:=[(decide (r>0))==false]) (eqs:=[]) (calls:=[]) (tu [AV.row 0 w,vi 0]) (by kernel_rfl) (by kernel_rfl) (Zaa (Zal (fun h=>d2 (Zad.1 h))) Zae) Zaf Zag (Zes (d:=(tu [vf (List.map vi o),vi 0])) (bs:=[w==w]) (by kernel_rfl) (by kernel_rfl) (Zaa (beq_self_eq_true _) Zae) (by kernel_rfl) H)
end Go.Av

namespace Go.Av
open Go.Proofs
namespace N
def okSt (n:Int):Prop:=n<=1000000
def stE (S A j n:Int):Int:=if ¬tkE S A j n=0 then tkE S A j n else if tkV S A j n>100000 then 3 else 0
def stR (u:Int):Nat->Int->List Int
 | 0,_=>[]
 | k+1,r=>if r>0 then ((r-1).tmod u+1)::stR u k (r-((r-1).tmod u+1)) else []
noncomputable def stX (S A j n:Int):List Int:=if ¬tkE S A j n=0 then [] else if tkV S A j n>100000 then [] else if fsB S A j n (tkV S A j n)=true then fsX S A j n (tkV S A j n) else stR (sim S A j) n.toNat n
end N
theorem last_getD (o:List Int) (x:Int):(o++[x]).getD (((o++[x]).length:Int)-1).toNat default=x:=by
 rw [List.length_append,List.length_singleton]
 have:(((o.length+1:Nat):Int)-1).toNat=o.length:=by omega
 rw [this,List.getD_eq_getElem?_getD,List.getElem?_append_right (Nat.le_refl _),Nat.sub_self];rfl
theorem tm_bd {r u:Int} (hr:r>0) (hu:1<=u):(1<=(r-1).tmod u+1/\(r-1).tmod u+1<=u)/\(r-1).tmod u+1<=r/\r=(r-1).tdiv u*u+((r-1).tmod u+1)/\0<=(r-1).tdiv u:=by
 have h1:=Int.tmod_nonneg u (show 0<=r-1 by omega)
 have h2:=Int.tmod_lt_of_pos (r-1) (show 0<u by omega)
 have h3:=Int.mul_tdiv_add_tmod (r-1) u
 have h4:0<=(r-1).tdiv u:=by rw [Int.tdiv_eq_ediv_of_nonneg (by omega)];exact Int.ediv_nonneg (by omega) (by omega)
 have h5:=Int.mul_nonneg (show 0<=u by omega) h4
 rw [Int.mul_comm] at h3 h5
 omega
theorem stR_ok {u:Int} (hu:1<=u):∀ (k:Nat) (r:Int),0<=r->r<=k->(N.stR u k r).sum=r/\(∀ x ∈ N.stR u k r,1<=x) /\ ∀ q:Int,0<=q->r<=q*u->((N.stR u k r).length:Int)<=q:=by
 intro k
 induction k with
 | zero =>
  intro r h0 h1
  have:r=0:=by omega
  subst this
  exact ⟨rfl,(fun x hx=>nomatch hx),fun q hq _=>hq⟩
 | succ k ih =>
  intro r h0 h1
  unfold N.stR
  by_cases hr:r>0
  ·rw [if_pos hr]
   obtain ⟨b1,b2,b3,b4⟩:=tm_bd hr hu
   obtain ⟨g1,g2,g3⟩:=ih (r-((r-1).tmod u+1)) (by omega) (by omega)
   refine ⟨by rw [List.sum_cons,g1];omega,fun x hx => ?_,fun q hq hru => ?_⟩
   ·rcases List.mem_cons.1 hx with e | e
    ·rw [e];exact b1.1
    ·exact g2 x e
   ·rw [List.length_cons]
    have hq1:(r-1).tdiv u<q:=by
     rw [Int.tdiv_eq_ediv_of_nonneg (by omega)]
     exact (Int.ediv_lt_iff_lt_mul (by omega)).2 (by omega)
    have:=g3 (q-1) (by omega) (by
     have:(r-1).tdiv u*u<=(q-1)*u:=Int.mul_le_mul_of_nonneg_right (by omega) (by omega)
     omega)
    omega
  ·rw [if_neg hr]
   have:r=0:=by omega
   subst this
   exact ⟨rfl,(fun x hx=>nomatch hx),fun q hq _=>hq⟩
theorem st_loop {u:Int} (hu:1<=u/\u<=1000000):∀ (k:Nat) (r:Int) (o:List Int) (w:Nat),0<=r->r<=k->o.length+k<=10000000->stM_at u r o w (Zaj (.tup [.vec false 1 ((o++N.stR u k r).map (.int .i64)),.int .i64 0])):=by
 intro k
 induction k with
 | zero =>
  intro r o w h0 h1 _
  have e:o++N.stR u 0 r=o:=List.append_nil _
  rw [e]
  exact stM _ _ _ _ _ ⟨fun z=>absurd z (by omega),fun _ => .refl _⟩
 | succ k ih =>
  intro r o w h0 h1 h2
  unfold N.stR
  by_cases hr:r>0
  ·rw [if_pos hr]
   obtain ⟨b1,b2,b3,b4⟩:=tm_bd hr hu.1
   have hlast:=last_getD o ((r-1).tmod u+1)
   have hlen:(o++[(r-1).tmod u+1]).length=o.length+1:=by rw [List.length_append,List.length_singleton]
   have g:=ih (r-((r-1).tmod u+1)) (o++[(r-1).tmod u+1]) (w+1) (by omega) (by omega) (by rw [hlen];omega)
   rw [List.append_assoc,List.singleton_append] at g
   refine stM _ _ _ _ _ ⟨fun _=>⟨by omega,by omega,by omega,by omega,by rw [hlen];omega,by rw [hlen];omega,by rw [hlen];omega,by rw [hlast];omega,?_⟩,fun z=>absurd hr z⟩
   rw [hlast]
   exact g
  ·rw [if_neg hr,List.append_nil]
   exact stM _ _ _ _ _ ⟨fun z=>absurd z hr,fun _ => .refl _⟩
theorem st_loopN {u:Int} (hu:1<=u/\u<=1000000) (k:Nat) (r:Int) (_:0<=r) (h1:r<=k) (h2:k<=1000000):stN_at u r (Zaj (.tup [.vec false 1 ((N.stR u k r).map (.int .i64)),.int .i64 0])):=by
 by_cases hr:r>0
 ·obtain ⟨k,rfl⟩:∃ m,k=m+1:=⟨k-1,by omega⟩
  obtain ⟨b1,b2,b3,b4⟩:=tm_bd hr hu.1
  have g:=st_loop hu k (r-((r-1).tmod u+1)) [(r-1).tmod u+1] 0 (by omega) (by omega) (by rw [List.length_singleton];omega)
  unfold N.stR
  rw [if_pos hr]
  exact stN _ _ _ ⟨fun _=>⟨by omega,by omega,by omega,by omega,g⟩,fun z=>absurd hr z⟩
 ·have e:N.stR u k r=[]:=by
   cases k with
   | zero=>rfl
   | succ k=>unfold N.stR;rw [if_neg hr]
  rw [e]
  exact stN _ _ _ ⟨fun z=>absurd z hr,fun _=>ZcW (.vnil 1) (.refl _)⟩
theorem tkE_lims {S A j n:Int} (h:N.tkE S A j n=0):N.Zbv S A j/\0<=n:=by
 unfold N.tkE at h
 by_cases hc:¬N.vlE S A j=0\/n<0
 ·rw [if_pos hc] at h;cases h
 ·exact ⟨ZdE.1 (Classical.byContradiction fun y=>hc (.inl y)),Int.not_lt.1 fun y=>hc (.inr y)⟩
theorem tkV_ok {S A j n:Int} (h:N.tkE S A j n=0):(0<=N.tkV S A j n/\N.tkV S A j n<=2000000000000)/\n<=N.tkV S A j n*N.sim S A j/\(N.tkV S A j n-1)*N.sim S A j<n:=by
 have hl:=tkE_lims h
 have hs:=sim_pos hl.1
 unfold N.tkE at h
 unfold N.tkV
 by_cases hc:¬N.vlE S A j=0\/n<0
 ·rw [if_pos hc] at h;cases h
 ·rw [if_neg hc] at h ⊢
  by_cases h2:n>1000000000000
  ·rw [if_pos h2] at h;cases h
  ·rw [if_neg h2]
   obtain ⟨u,hu⟩:∃ u,N.sim S A j=u:=⟨_,rfl⟩
   rw [hu] at hs ⊢
   have hn:=hl.2
   rw [Int.tdiv_eq_ediv_of_nonneg (by omega)]
   obtain ⟨q,hq⟩:∃ q,(n+u-1) / u=q:=⟨_,rfl⟩
   have h3:=Int.emod_add_mul_ediv (n+u-1) u
   have h4:=Int.emod_nonneg (n+u-1) (show u ≠ 0 by omega)
   have h5:=Int.emod_lt_of_pos (n+u-1) (show 0<u by omega)
   have h6:0<=(n+u-1) / u:=Int.ediv_nonneg (by omega) (by omega)
   have h7:(n+u-1) / u<=n+u-1:=Int.ediv_le_self _ (by omega)
   rw [hq] at h3 h6 h7 ⊢
   rw [Int.mul_comm u q] at h3
   rw [Int.sub_mul,Int.one_mul]
   omega
theorem stX_ok {S A j n:Int} (hn:n<=1000000) (h:N.stE S A j n=0):(N.Zbv S A j/\0<=n)/\N.spd (N.stX S A j n) n (N.tkV S A j n)/\N.tkV S A j n<=100000/\N.tkE S A j n=0:=by
 unfold N.stE at h
 unfold N.stX
 by_cases h1:¬N.tkE S A j n=0
 ·rw [if_pos h1] at h;exact absurd h h1
 ·rw [if_neg h1] at h ⊢
  have h1:=Classical.not_not.1 h1
  by_cases h2:N.tkV S A j n>100000
  ·rw [if_pos h2] at h;cases h
  ·rw [if_neg h2]
   have hl:=tkE_lims h1
   have hv:=tkV_ok h1
   have hs:=sim_pos hl.1
   refine ⟨hl,?_,by omega,h1⟩
   by_cases h3:N.fsB S A j n (N.tkV S A j n)=true
   ·rw [if_pos h3]
    exact (fs_sp (S:=S) (A:=A) (j:=j) (n:=n) (m:=N.tkV S A j n) ⟨hl.1,⟨hl.2,hn⟩,hv.1.1,by omega⟩).2 h3
   ·rw [if_neg h3]
    obtain ⟨g1,g2,g3⟩:=stR_ok hs.1 n.toNat n hl.2 (by have:=hl.2;omega)
    exact ⟨⟨g1,g2⟩,g3 _ hv.1.1 hv.2.1⟩
theorem ev44 (S A j n:Int) (h:N.okSt n):Ev M1 (.pure 44 [.int .i64 n,.agg [.int .i64 S,.int .i64 A,.int .i64 j]]) (.tup [.vec false 1 ((N.stX S A j n).map (.int .i64)),.int .i64 (N.stE S A j n)]) []:=by
 unfold N.okSt at h
 refine call44 (stA S A j n _ ⟨fun h1 => ?_,fun h1=>⟨fun h2 => ?_,fun h2 => ?_⟩⟩)
 ·unfold N.stX N.stE;rw [if_pos h1,if_pos h1];exact ZcW (.vnil 1) (.refl _)
 ·unfold N.stX N.stE;rw [if_neg h1,if_neg h1,if_pos h2,if_pos h2];exact ZcW (.vnil 1) (.refl _)
 ·have h1':=Classical.not_not.1 h1
  have hl:=tkE_lims h1'
  have hv:=tkV_ok h1'
  have hs:=sim_pos hl.1
  unfold N.stX N.stE;rw [if_neg h1,if_neg h1,if_neg h2,if_neg h2]
  refine ⟨⟨hl.1,⟨hl.2,h⟩,hv.1.1,by omega⟩,fun h3 => ?_,fun h3=>⟨?_,?_⟩⟩
  ·rw [if_pos h3];exact .refl _
  ·have:=hl.1
   unfold N.Zbv at this
   exact ⟨by omega,by omega⟩
  ·rw [if_neg h3]
   exact st_loopN ⟨hs.1,by omega⟩ n.toNat n hl.2 (by have:=hl.2;omega) (by omega)
end Go.Av

namespace Go.Av
open Go.Proofs
set_option maxRecDepth 100000
def fi13:Fi:=⟨62,[.cell 2 42]⟩
def kp13:List (Nat × List Nat):=[(0,[0,2]),(1,[0,2,6]),(2,[2]),(3,[0,2,14]),(4,[2]),(5,[0,2,3]),(6,[2,4]),(7,[2])]
def fi43:Fi:=⟨13,[.tmp 2]⟩
def kp43:List (Nat × List Nat):=[(0,[0]),(1,[2])]
def fi45:Fi:=⟨19,[.tmp 2]⟩
def kp45:List (Nat × List Nat):=[(0,[0]),(1,[2])]
def fi46:Fi:=⟨18,[.cell 4 31]⟩
def kp46:List (Nat × List Nat):=[(0,[2,3,4]),(1,[2,3,4,7]),(2,[3,4]),(3,[4])]
def lmA_at (x y z u v w r t b S A j:Int) (Q:AV->Heap->Prop):Prop:=Wp M1 (.run fi46 (atC (cd Try.f46) []) [(0,.agg [.int .i64 x,.int .i64 y,.int .i64 z,.int .i64 u,.int .i64 v,.int .i64 w,.int .i64 r,.int .i64 t,.int .i64 b]),(1,.agg [.int .i64 S,.int .i64 A,.int .i64 j])] []) Q
def rsA_at (fm:Bool) (l:List Mo) (S A j ix p k:Int) (bk hd br:Bool) (qx qy qz:Int) (Q:AV->Heap->Prop):Prop:=Wp M1 (.run fi43 (atC (cd Try.f43) []) [(0,.ptr 0 0 0 0)] [⟨[.agg [.vec fm 9 (l.map Mo.a),.int .i64 S,.int .i64 A,.int .i64 j,.int .i64 ix,.int .i64 p,.vnil,.int .i64 k,.bool bk,.bool hd,.bool br,.vnil,.int .i64 qx,.int .i64 qy,.int .i64 qz]],15,0,false,false⟩]) Q
def rsB_at (fm:Bool) (l:List Mo) (S A j ix p k:Int) (bk hd br:Bool) (qx qy qz:Int) (P:List Mo) (w:Nat) (fz:Bool) (Q:AV->Heap->Prop):Prop:=Wp M1 (.run fi43 (atC (cd Try.f43) []) [(0,.ptr 0 0 0 0)] [⟨[.agg [.vec fm 9 (l.map Mo.a),.int .i64 S,.int .i64 A,.int .i64 j,.int .i64 ix,.int .i64 p,.vnil,.int .i64 k,.bool bk,.bool hd,.bool br,.row 1 w,.int .i64 qx,.int .i64 qy,.int .i64 qz]],15,0,false,false⟩,⟨P.map Mo.a,9,w,fz,true⟩]) Q
def rsC_at (fm:Bool) (l:List Mo) (S A j ix p k:Int) (bk hd br:Bool) (qx qy qz:Int) (X:List Int) (Q:AV->Heap->Prop):Prop:=Wp M1 (.run fi43 (atC (cd Try.f43) []) [(0,.ptr 0 0 0 0)] [⟨[.agg [.vec fm 9 (l.map Mo.a),.int .i64 S,.int .i64 A,.int .i64 j,.int .i64 ix,.int .i64 p,.vec false 1 (X.map (.int .i64)),.int .i64 k,.bool bk,.bool hd,.bool br,.vnil,.int .i64 qx,.int .i64 qy,.int .i64 qz]],15,0,false,false⟩]) Q
def rsD_at (fm:Bool) (l:List Mo) (S A j ix p k:Int) (bk hd br:Bool) (qx qy qz:Int) (X:List Int) (P:List Mo) (w:Nat) (fz:Bool) (Q:AV->Heap->Prop):Prop:=Wp M1 (.run fi43 (atC (cd Try.f43) []) [(0,.ptr 0 0 0 0)] [⟨[.agg [.vec fm 9 (l.map Mo.a),.int .i64 S,.int .i64 A,.int .i64 j,.int .i64 ix,.int .i64 p,.vec false 1 (X.map (.int .i64)),.int .i64 k,.bool bk,.bool hd,.bool br,.row 1 w,.int .i64 qx,.int .i64 qy,.int .i64 qz]],15,0,false,false⟩,⟨P.map Mo.a,9,w,fz,true⟩]) Q
def lfA_at (fm:Bool) (l:List Mo) (S A j ix p k:Int) (bk hd br:Bool) (qx qy qz:Int) (Q:AV->Heap->Prop):Prop:=Wp M1 (.run fi45 (atC (cd Try.f45) []) [(0,.ptr 0 0 0 0)] [⟨[.agg [.vec fm 9 (l.map Mo.a),.int .i64 S,.int .i64 A,.int .i64 j,.int .i64 ix,.int .i64 p,.vnil,.int .i64 k,.bool bk,.bool hd,.bool br,.vnil,.int .i64 qx,.int .i64 qy,.int .i64 qz]],15,0,false,false⟩]) Q
def lfB_at (fm:Bool) (l:List Mo) (S A j ix p k:Int) (bk hd br:Bool) (qx qy qz:Int) (P:List Mo) (w:Nat) (fz:Bool) (Q:AV->Heap->Prop):Prop:=Wp M1 (.run fi45 (atC (cd Try.f45) []) [(0,.ptr 0 0 0 0)] [⟨[.agg [.vec fm 9 (l.map Mo.a),.int .i64 S,.int .i64 A,.int .i64 j,.int .i64 ix,.int .i64 p,.vnil,.int .i64 k,.bool bk,.bool hd,.bool br,.row 1 w,.int .i64 qx,.int .i64 qy,.int .i64 qz]],15,0,false,false⟩,⟨P.map Mo.a,9,w,fz,true⟩]) Q
def lfC_at (fm:Bool) (l:List Mo) (S A j ix p k:Int) (bk hd br:Bool) (qx qy qz:Int) (X:List Int) (Q:AV->Heap->Prop):Prop:=Wp M1 (.run fi45 (atC (cd Try.f45) []) [(0,.ptr 0 0 0 0)] [⟨[.agg [.vec fm 9 (l.map Mo.a),.int .i64 S,.int .i64 A,.int .i64 j,.int .i64 ix,.int .i64 p,.vec false 1 (X.map (.int .i64)),.int .i64 k,.bool bk,.bool hd,.bool br,.vnil,.int .i64 qx,.int .i64 qy,.int .i64 qz]],15,0,false,false⟩]) Q
def lfD_at (fm:Bool) (l:List Mo) (S A j ix p k:Int) (bk hd br:Bool) (qx qy qz:Int) (X:List Int) (P:List Mo) (w:Nat) (fz:Bool) (Q:AV->Heap->Prop):Prop:=Wp M1 (.run fi45 (atC (cd Try.f45) []) [(0,.ptr 0 0 0 0)] [⟨[.agg [.vec fm 9 (l.map Mo.a),.int .i64 S,.int .i64 A,.int .i64 j,.int .i64 ix,.int .i64 p,.vec false 1 (X.map (.int .i64)),.int .i64 k,.bool bk,.bool hd,.bool br,.row 1 w,.int .i64 qx,.int .i64 qy,.int .i64 qz]],15,0,false,false⟩,⟨P.map Mo.a,9,w,fz,true⟩]) Q
def poA_at (fm:Bool) (l:List Mo) (S A j ix p k:Int) (bk hd br:Bool) (qx qy qz:Int) (Q:AV->Heap->Prop):Prop:=Wp M1 (.run fi13 (atC (cd Try.f13) []) [(0,.ptr 0 0 0 0)] [⟨[.agg [.vec fm 9 (l.map Mo.a),.int .i64 S,.int .i64 A,.int .i64 j,.int .i64 ix,.int .i64 p,.vnil,.int .i64 k,.bool bk,.bool hd,.bool br,.vnil,.int .i64 qx,.int .i64 qy,.int .i64 qz]],15,0,false,false⟩]) Q
def poB_at (fm:Bool) (l:List Mo) (S A j ix p k:Int) (bk hd br:Bool) (qx qy qz:Int) (P:List Mo) (w:Nat) (fz:Bool) (Q:AV->Heap->Prop):Prop:=Wp M1 (.run fi13 (atC (cd Try.f13) []) [(0,.ptr 0 0 0 0)] [⟨[.agg [.vec fm 9 (l.map Mo.a),.int .i64 S,.int .i64 A,.int .i64 j,.int .i64 ix,.int .i64 p,.vnil,.int .i64 k,.bool bk,.bool hd,.bool br,.row 1 w,.int .i64 qx,.int .i64 qy,.int .i64 qz]],15,0,false,false⟩,⟨P.map Mo.a,9,w,fz,true⟩]) Q
def poC_at (fm:Bool) (l:List Mo) (S A j ix p k:Int) (bk hd br:Bool) (qx qy qz:Int) (X:List Int) (Q:AV->Heap->Prop):Prop:=Wp M1 (.run fi13 (atC (cd Try.f13) []) [(0,.ptr 0 0 0 0)] [⟨[.agg [.vec fm 9 (l.map Mo.a),.int .i64 S,.int .i64 A,.int .i64 j,.int .i64 ix,.int .i64 p,.vec false 1 (X.map (.int .i64)),.int .i64 k,.bool bk,.bool hd,.bool br,.vnil,.int .i64 qx,.int .i64 qy,.int .i64 qz]],15,0,false,false⟩]) Q
def poD_at (fm:Bool) (l:List Mo) (S A j ix p k:Int) (bk hd br:Bool) (qx qy qz:Int) (X:List Int) (P:List Mo) (w:Nat) (fz:Bool) (Q:AV->Heap->Prop):Prop:=Wp M1 (.run fi13 (atC (cd Try.f13) []) [(0,.ptr 0 0 0 0)] [⟨[.agg [.vec fm 9 (l.map Mo.a),.int .i64 S,.int .i64 A,.int .i64 j,.int .i64 ix,.int .i64 p,.vec false 1 (X.map (.int .i64)),.int .i64 k,.bool bk,.bool hd,.bool br,.row 1 w,.int .i64 qx,.int .i64 qy,.int .i64 qz]],15,0,false,false⟩,⟨P.map Mo.a,9,w,fz,true⟩]) Q
theorem Zdw {args:List AV} {L:Heap} {v:AV} {K:Heap} (hk:ZaB L.length v K=true) (h:Wp M1 (.run fi13 [.code (cd Try.f13)] (ZaN 0 args) L) (Zat v K)):Ev M1 (.own 13 args L) v K:=
 Zb3 Try.f13 fi13 (by kernel_rfl) (by kernel_rfl) (by kernel_rfl) (by kernel_rfl) hk h
theorem Zdu {args:List AV} {L:Heap} {v:AV} {K:Heap} (hk:ZaB L.length v K=true) (h:Wp M1 (.run fi43 [.code (cd Try.f43)] (ZaN 0 args) L) (Zat v K)):Ev M1 (.own 43 args L) v K:=
 Zb3 Try.f43 fi43 (by kernel_rfl) (by kernel_rfl) (by kernel_rfl) (by kernel_rfl) hk h
theorem Zdt {args:List AV} {L:Heap} {v:AV} {K:Heap} (hk:ZaB L.length v K=true) (h:Wp M1 (.run fi45 [.code (cd Try.f45)] (ZaN 0 args) L) (Zat v K)):Ev M1 (.own 45 args L) v K:=
 Zb3 Try.f45 fi45 (by kernel_rfl) (by kernel_rfl) (by kernel_rfl) (by kernel_rfl) hk h
theorem call46 {args:List AV} {d:AV} (h:wc M1 fi46 Try.f46 args d):Ev M1 (.pure 46 args) d []:=pcl _ _ (by kernel_rfl) h
theorem lmA (x y z u v w r t b S A j:Int)  (dq:AV) (H :
  ((r>0)->(-9223372036854775808<=r-1/\r-1<=9223372036854775807) /\
   (-9223372036854775808<=(r-1).tdiv 1000/\(r-1).tdiv 1000<=9223372036854775807) /\
   (-9223372036854775808<=(r-1).tdiv 1000+1/\(r-1).tdiv 1000+1<=9223372036854775807) /\
   ag [vi (if (r-1).tdiv 1000+1<S then (r-1).tdiv 1000+1 else S),vi A,vi j]=dq) /\
  (¬(r>0)->ag [vi S,vi A,vi j]=dq)) :
 lmA_at x y z u v w r t b S A j (Zaj dq):=by
 unfold lmA_at
 rcases xq H with ⟨d2,H⟩|⟨d2,H⟩
 ·obtain ⟨k3,H⟩:=H
  have w4:wi (r-1)=r-1:=wI64 k3
  obtain ⟨k5,H⟩:=H
  have w6:wi ((r-1).tdiv 1000)=(r-1).tdiv 1000:=wI64 k5
  obtain ⟨k7,H⟩:=H
  have w8:wi ((r-1).tdiv 1000+1)=(r-1).tdiv 1000+1:=wI64 k7
  exact Zap (G:=Zab kp46 [] []) 1000 [true] (ag [vi (if wi (wi ((wi (r-1)).tdiv 1000)+1)<S then wi (wi ((wi (r-1)).tdiv 1000)+1) else S),vi A,vi j]) (by kernel_rfl) (bc rfl (bc (Zam (Zad.2 d2)) (bc rfl (bc rfl (bc rfl (bc rfl (bc rfl (bc rfl b0)))))))) q0 c0 (by (try rw [w4]);(try rw [w6]);(try rw [w8]);all_goals exact H)
 ·exact Zap (G:=Zab kp46 [] []) 1000 [false] (ag [vi S,vi A,vi j]) (by kernel_rfl) (bc rfl (bc (Zal (fun h=>d2 (Zad.1 h))) (bc rfl (bc rfl b0)))) q0 c0 H
theorem rsA (fm:Bool) (l:List Mo) (S A j ix p k:Int) (bk hd br:Bool) (qx qy qz:Int)  (dv:AV) (dK:Heap) (_:ZaB 1 dv dK=true) (H :
  (Zat dv dK) (vb (k==0)) [{ elems:=[ag [AV.vec fm 9 (List.map Mo.a l),vi S,vi A,vi j,vi ix,vi p,AV.vnil,vi k,vb bk,vb hd,vb br,AV.vnil,vi qx,vi qy,vi qz]],es:=15,ver:=0,frozen:=false,clean:=false }]) :
 rsA_at fm l S A j ix p k bk hd br qx qy qz (Zat dv dK):=by
 unfold rsA_at
 exact Zai (G:=Zab kp43 [] []) 1000 [] (k:=((atC (cd Try.f43) [1,1])).tail) (env':=[(2,vb (k==0))]) (L':=[⟨[ag [AV.vec fm 9 (List.map Mo.a l),vi S,vi A,vi j,vi ix,vi p,AV.vnil,vi k,vb bk,vb hd,vb br,AV.vnil,vi qx,vi qy,vi qz]],15,0,false,false⟩]) (asm:=[true,true]) (eqs:=[]) (calls:=[]) (vb (k==0)) (by kernel_rfl) (by kernel_rfl) (Zaa rfl (Zaa rfl Zae)) Zaf Zag H
theorem rsB (fm:Bool) (l:List Mo) (S A j ix p k:Int) (bk hd br:Bool) (qx qy qz:Int) (P:List Mo) (w:Nat) (fz:Bool)  (dv:AV) (dK:Heap) (_:ZaB 2 dv dK=true) (H :
  (Zat dv dK) (vb (k==0)) [{ elems:=[ag [AV.vec fm 9 (List.map Mo.a l),vi S,vi A,vi j,vi ix,vi p,AV.vnil,vi k,vb bk,vb hd,vb br,AV.row 1 w,vi qx,vi qy,vi qz]],es:=15,ver:=0,frozen:=false,clean:=false },{ elems:=List.map Mo.a P,es:=9,ver:=w,frozen:=fz,clean:=true }]) :
 rsB_at fm l S A j ix p k bk hd br qx qy qz P w fz (Zat dv dK):=by
 unfold rsB_at
 exact Zai (G:=Zab kp43 [] []) 1000 [] (k:=((atC (cd Try.f43) [1,1])).tail) (env':=[(2,vb (k==0))]) (L':=[⟨[ag [AV.vec fm 9 (List.map Mo.a l),vi S,vi A,vi j,vi ix,vi p,AV.vnil,vi k,vb bk,vb hd,vb br,AV.row 1 w,vi qx,vi qy,vi qz]],15,0,false,false⟩,⟨List.map Mo.a P,9,w,fz,true⟩]) (asm:=[true,true]) (eqs:=[]) (calls:=[]) (vb (k==0)) (by kernel_rfl) (by kernel_rfl) (Zaa rfl (Zaa rfl Zae)) Zaf Zag H
theorem rsC (fm:Bool) (l:List Mo) (S A j ix p k:Int) (bk hd br:Bool) (qx qy qz:Int) (X:List Int)  (dv:AV) (dK:Heap) (_:ZaB 1 dv dK=true) (H :
  (Zat dv dK) (vb (k==(↑X.length:Int))) [{ elems:=[ag [AV.vec fm 9 (List.map Mo.a l),vi S,vi A,vi j,vi ix,vi p,vf (List.map vi X),vi k,vb bk,vb hd,vb br,AV.vnil,vi qx,vi qy,vi qz]],es:=15,ver:=0,frozen:=false,clean:=false }]) :
 rsC_at fm l S A j ix p k bk hd br qx qy qz X (Zat dv dK):=by
 unfold rsC_at
 have w1:(List.map vi X).length=X.length:=List.length_map ..
 exact Zai (G:=Zab kp43 [] []) 1000 [] (k:=((atC (cd Try.f43) [1,1])).tail) (env':=[(2,vb (k==(↑(List.map vi X).length:Int)))]) (L':=[⟨[ag [AV.vec fm 9 (List.map Mo.a l),vi S,vi A,vi j,vi ix,vi p,vf (List.map vi X),vi k,vb bk,vb hd,vb br,AV.vnil,vi qx,vi qy,vi qz]],15,0,false,false⟩]) (asm:=[true,true]) (eqs:=[]) (calls:=[]) (vb (k==(↑(List.map vi X).length:Int))) (by kernel_rfl) (by kernel_rfl) (Zaa rfl (Zaa rfl Zae)) Zaf Zag (by (try rw [w1]);all_goals exact H)
theorem rsD (fm:Bool) (l:List Mo) (S A j ix p k:Int) (bk hd br:Bool) (qx qy qz:Int) (X:List Int) (P:List Mo) (w:Nat) (fz:Bool)  (dv:AV) (dK:Heap) (_:ZaB 2 dv dK=true) (H :
  (Zat dv dK) (vb (k==(↑X.length:Int))) [{ elems:=[ag [AV.vec fm 9 (List.map Mo.a l),vi S,vi A,vi j,vi ix,vi p,vf (List.map vi X),vi k,vb bk,vb hd,vb br,AV.row 1 w,vi qx,vi qy,vi qz]],es:=15,ver:=0,frozen:=false,clean:=false },{ elems:=List.map Mo.a P,es:=9,ver:=w,frozen:=fz,clean:=true }]) :
 rsD_at fm l S A j ix p k bk hd br qx qy qz X P w fz (Zat dv dK):=by
 unfold rsD_at
 have w1:(List.map vi X).length=X.length:=List.length_map ..
 exact Zai (G:=Zab kp43 [] []) 1000 [] (k:=((atC (cd Try.f43) [1,1])).tail) (env':=[(2,vb (k==(↑(List.map vi X).length:Int)))]) (L':=[⟨[ag [AV.vec fm 9 (List.map Mo.a l),vi S,vi A,vi j,vi ix,vi p,vf (List.map vi X),vi k,vb bk,vb hd,vb br,AV.row 1 w,vi qx,vi qy,vi qz]],15,0,false,false⟩,⟨List.map Mo.a P,9,w,fz,true⟩]) (asm:=[true,true]) (eqs:=[]) (calls:=[]) (vb (k==(↑(List.map vi X).length:Int))) (by kernel_rfl) (by kernel_rfl) (Zaa rfl (Zaa rfl Zae)) Zaf Zag (by (try rw [w1]);all_goals exact H)
noncomputable abbrev zCxH1 (l:List Mo) (ix:Int):=ag [vi (l.getD ix.toNat default).x,vi (l.getD ix.toNat default).y,vi (l.getD ix.toNat default).z,vi (l.getD ix.toNat default).u,vi (l.getD ix.toNat default).v,vi (l.getD ix.toNat default).w,vi (l.getD ix.toNat default).r,vi (l.getD ix.toNat default).t,vi (l.getD ix.toNat default).b]
noncomputable abbrev zCxH2 (l:List Mo) (ix:Int):=N.len ((l.getD ix.toNat default).u-(l.getD ix.toNat default).x) ((l.getD ix.toNat default).v-(l.getD ix.toNat default).y) ((l.getD ix.toNat default).w-(l.getD ix.toNat default).z)
theorem lfA (fm:Bool) (l:List Mo) (S A j ix p k:Int) (bk hd br:Bool) (qx qy qz:Int)  (dv:AV) (dK:Heap) (_:ZaB 1 dv dK=true) (H :
  (N.cl ((l.getD ix.toNat default).u-(l.getD ix.toNat default).x)/\N.cl ((l.getD ix.toNat default).v-(l.getD ix.toNat default).y)/\N.cl ((l.getD ix.toNat default).w-(l.getD ix.toNat default).z)) /\
  (0<=ix) /\
  (ix.toNat<l.length) /\
  (-9223372036854775808<=N.len ((l.getD ix.toNat default).u-(l.getD ix.toNat default).x) ((l.getD ix.toNat default).v-(l.getD ix.toNat default).y) ((l.getD ix.toNat default).w-(l.getD ix.toNat default).z)-p/\N.len ((l.getD ix.toNat default).u-(l.getD ix.toNat default).x) ((l.getD ix.toNat default).v-(l.getD ix.toNat default).y) ((l.getD ix.toNat default).w-(l.getD ix.toNat default).z)-p<=9223372036854775807) /\
  (Zat dv dK) (vi (N.len ((l.getD ix.toNat default).u-(l.getD ix.toNat default).x) ((l.getD ix.toNat default).v-(l.getD ix.toNat default).y) ((l.getD ix.toNat default).w-(l.getD ix.toNat default).z)-p)) [{ elems:=[ag [AV.vec fm 9 (List.map Mo.a l),vi S,vi A,vi j,vi ix,vi p,AV.vnil,vi k,vb bk,vb hd,vb br,AV.vnil,vi qx,vi qy,vi qz]],es:=15,ver:=0,frozen:=false,clean:=false }]) :
 lfA_at fm l S A j ix p k bk hd br qx qy qz (Zat dv dK):=by
 unfold lfA_at
 obtain ⟨k1,k3,H⟩:=H
 have w4:(List.map Mo.a l).length=l.length:=List.length_map ..
 have i5:(decide (ix.toNat<(List.map Mo.a l).length))=true ↔ (ix.toNat<l.length):=(by (try rw [w4]);all_goals exact Zad)
 obtain ⟨k6,k7,H⟩:=H
 have w8:wi (N.len ((l.getD ix.toNat default).u-(l.getD ix.toNat default).x) ((l.getD ix.toNat default).v-(l.getD ix.toNat default).y) ((l.getD ix.toNat default).w-(l.getD ix.toNat default).z)-p)=N.len ((l.getD ix.toNat default).u-(l.getD ix.toNat default).x) ((l.getD ix.toNat default).v-(l.getD ix.toNat default).y) ((l.getD ix.toNat default).w-(l.getD ix.toNat default).z)-p:=wI64 k7
 exact Zai (G:=Zab kp45 [(1,9,.elem ((zCxH1 l ix))),(1,10,.call (vi (zCxH2 l ix)) none)] []) 1000 [] (k:=((atC (cd Try.f45) [1,1])).tail) (env':=[(2,vi (wi (N.len ((l.getD ix.toNat default).u-(l.getD ix.toNat default).x) ((l.getD ix.toNat default).v-(l.getD ix.toNat default).y) ((l.getD ix.toNat default).w-(l.getD ix.toNat default).z)-p)))]) (L':=[⟨[ag [AV.vec fm 9 (List.map Mo.a l),vi S,vi A,vi j,vi ix,vi p,AV.vnil,vi k,vb bk,vb hd,vb br,AV.vnil,vi qx,vi qy,vi qz]],15,0,false,false⟩]) (asm:=[true,true,decide (0<=ix),decide (ix.toNat<(List.map Mo.a l).length),true]) (eqs:=[((List.map Mo.a l).get?Internal ix.toNat=some ((zCxH1 l ix)))]) (calls:=[⟨true,false,51,[(zCxH1 l ix)],[],vi (zCxH2 l ix),[]⟩]) (vi (wi (N.len ((l.getD ix.toNat default).u-(l.getD ix.toNat default).x) ((l.getD ix.toNat default).v-(l.getD ix.toNat default).y) ((l.getD ix.toNat default).w-(l.getD ix.toNat default).z)-p))) (by kernel_rfl) (by kernel_rfl) (Zaa rfl (Zaa rfl (Zaa (Zad.2 k3) (Zaa (i5.2 k6) (Zaa rfl Zae))))) (ZaQ (Zaz k6) Zaf) (Zaq (fun _=>(@ev51 ((l.getD ix.toNat default).x) ((l.getD ix.toNat default).y) ((l.getD ix.toNat default).z) ((l.getD ix.toNat default).u) ((l.getD ix.toNat default).v) ((l.getD ix.toNat default).w) ((l.getD ix.toNat default).r) ((l.getD ix.toNat default).t) ((l.getD ix.toNat default).b) k1)) Zag) (by (try rw [w8]);all_goals exact H)
noncomputable abbrev zCxH3 (l:List Mo) (ix:Int):=ag [vi (l.getD ix.toNat default).x,vi (l.getD ix.toNat default).y,vi (l.getD ix.toNat default).z,vi (l.getD ix.toNat default).u,vi (l.getD ix.toNat default).v,vi (l.getD ix.toNat default).w,vi (l.getD ix.toNat default).r,vi (l.getD ix.toNat default).t,vi (l.getD ix.toNat default).b]
noncomputable abbrev zCxH4 (l:List Mo) (ix:Int):=N.len ((l.getD ix.toNat default).u-(l.getD ix.toNat default).x) ((l.getD ix.toNat default).v-(l.getD ix.toNat default).y) ((l.getD ix.toNat default).w-(l.getD ix.toNat default).z)
theorem lfB (fm:Bool) (l:List Mo) (S A j ix p k:Int) (bk hd br:Bool) (qx qy qz:Int) (P:List Mo) (w:Nat) (fz:Bool)  (dv:AV) (dK:Heap) (_:ZaB 2 dv dK=true) (H :
  (N.cl ((l.getD ix.toNat default).u-(l.getD ix.toNat default).x)/\N.cl ((l.getD ix.toNat default).v-(l.getD ix.toNat default).y)/\N.cl ((l.getD ix.toNat default).w-(l.getD ix.toNat default).z)) /\
  (0<=ix) /\
  (ix.toNat<l.length) /\
  (-9223372036854775808<=N.len ((l.getD ix.toNat default).u-(l.getD ix.toNat default).x) ((l.getD ix.toNat default).v-(l.getD ix.toNat default).y) ((l.getD ix.toNat default).w-(l.getD ix.toNat default).z)-p/\N.len ((l.getD ix.toNat default).u-(l.getD ix.toNat default).x) ((l.getD ix.toNat default).v-(l.getD ix.toNat default).y) ((l.getD ix.toNat default).w-(l.getD ix.toNat default).z)-p<=9223372036854775807) /\
  (Zat dv dK) (vi (N.len ((l.getD ix.toNat default).u-(l.getD ix.toNat default).x) ((l.getD ix.toNat default).v-(l.getD ix.toNat default).y) ((l.getD ix.toNat default).w-(l.getD ix.toNat default).z)-p)) [{ elems:=[ag [AV.vec fm 9 (List.map Mo.a l),vi S,vi A,vi j,vi ix,vi p,AV.vnil,vi k,vb bk,vb hd,vb br,AV.row 1 w,vi qx,vi qy,vi qz]],es:=15,ver:=0,frozen:=false,clean:=false },{ elems:=List.map Mo.a P,es:=9,ver:=w,frozen:=fz,clean:=true }]) :
 lfB_at fm l S A j ix p k bk hd br qx qy qz P w fz (Zat dv dK):=by
 unfold lfB_at
 obtain ⟨k1,k3,H⟩:=H
 have w4:(List.map Mo.a l).length=l.length:=List.length_map ..
 have i5:(decide (ix.toNat<(List.map Mo.a l).length))=true ↔ (ix.toNat<l.length):=(by (try rw [w4]);all_goals exact Zad)
 obtain ⟨k6,k7,H⟩:=H
 have w8:wi (N.len ((l.getD ix.toNat default).u-(l.getD ix.toNat default).x) ((l.getD ix.toNat default).v-(l.getD ix.toNat default).y) ((l.getD ix.toNat default).w-(l.getD ix.toNat default).z)-p)=N.len ((l.getD ix.toNat default).u-(l.getD ix.toNat default).x) ((l.getD ix.toNat default).v-(l.getD ix.toNat default).y) ((l.getD ix.toNat default).w-(l.getD ix.toNat default).z)-p:=wI64 k7
 exact Zai (G:=Zab kp45 [(1,9,.elem ((zCxH3 l ix))),(1,10,.call (vi (zCxH4 l ix)) none)] []) 1000 [] (k:=((atC (cd Try.f45) [1,1])).tail) (env':=[(2,vi (wi (N.len ((l.getD ix.toNat default).u-(l.getD ix.toNat default).x) ((l.getD ix.toNat default).v-(l.getD ix.toNat default).y) ((l.getD ix.toNat default).w-(l.getD ix.toNat default).z)-p)))]) (L':=[⟨[ag [AV.vec fm 9 (List.map Mo.a l),vi S,vi A,vi j,vi ix,vi p,AV.vnil,vi k,vb bk,vb hd,vb br,AV.row 1 w,vi qx,vi qy,vi qz]],15,0,false,false⟩,⟨List.map Mo.a P,9,w,fz,true⟩]) (asm:=[true,true,decide (0<=ix),decide (ix.toNat<(List.map Mo.a l).length),true]) (eqs:=[((List.map Mo.a l).get?Internal ix.toNat=some ((zCxH3 l ix)))]) (calls:=[⟨true,false,51,[(zCxH3 l ix)],[],vi (zCxH4 l ix),[]⟩]) (vi (wi (N.len ((l.getD ix.toNat default).u-(l.getD ix.toNat default).x) ((l.getD ix.toNat default).v-(l.getD ix.toNat default).y) ((l.getD ix.toNat default).w-(l.getD ix.toNat default).z)-p))) (by kernel_rfl) (by kernel_rfl) (Zaa rfl (Zaa rfl (Zaa (Zad.2 k3) (Zaa (i5.2 k6) (Zaa rfl Zae))))) (ZaQ (Zaz k6) Zaf) (Zaq (fun _=>(@ev51 ((l.getD ix.toNat default).x) ((l.getD ix.toNat default).y) ((l.getD ix.toNat default).z) ((l.getD ix.toNat default).u) ((l.getD ix.toNat default).v) ((l.getD ix.toNat default).w) ((l.getD ix.toNat default).r) ((l.getD ix.toNat default).t) ((l.getD ix.toNat default).b) k1)) Zag) (by (try rw [w8]);all_goals exact H)
noncomputable abbrev zCxH5 (l:List Mo) (ix:Int):=ag [vi (l.getD ix.toNat default).x,vi (l.getD ix.toNat default).y,vi (l.getD ix.toNat default).z,vi (l.getD ix.toNat default).u,vi (l.getD ix.toNat default).v,vi (l.getD ix.toNat default).w,vi (l.getD ix.toNat default).r,vi (l.getD ix.toNat default).t,vi (l.getD ix.toNat default).b]
noncomputable abbrev zCxH6 (l:List Mo) (ix:Int):=N.len ((l.getD ix.toNat default).u-(l.getD ix.toNat default).x) ((l.getD ix.toNat default).v-(l.getD ix.toNat default).y) ((l.getD ix.toNat default).w-(l.getD ix.toNat default).z)
theorem lfC (fm:Bool) (l:List Mo) (S A j ix p k:Int) (bk hd br:Bool) (qx qy qz:Int) (X:List Int)  (dv:AV) (dK:Heap) (_:ZaB 1 dv dK=true) (H :
  (N.cl ((l.getD ix.toNat default).u-(l.getD ix.toNat default).x)/\N.cl ((l.getD ix.toNat default).v-(l.getD ix.toNat default).y)/\N.cl ((l.getD ix.toNat default).w-(l.getD ix.toNat default).z)) /\
  (0<=ix) /\
  (ix.toNat<l.length) /\
  (-9223372036854775808<=N.len ((l.getD ix.toNat default).u-(l.getD ix.toNat default).x) ((l.getD ix.toNat default).v-(l.getD ix.toNat default).y) ((l.getD ix.toNat default).w-(l.getD ix.toNat default).z)-p/\N.len ((l.getD ix.toNat default).u-(l.getD ix.toNat default).x) ((l.getD ix.toNat default).v-(l.getD ix.toNat default).y) ((l.getD ix.toNat default).w-(l.getD ix.toNat default).z)-p<=9223372036854775807) /\
  (Zat dv dK) (vi (N.len ((l.getD ix.toNat default).u-(l.getD ix.toNat default).x) ((l.getD ix.toNat default).v-(l.getD ix.toNat default).y) ((l.getD ix.toNat default).w-(l.getD ix.toNat default).z)-p)) [{ elems:=[ag [AV.vec fm 9 (List.map Mo.a l),vi S,vi A,vi j,vi ix,vi p,vf (List.map vi X),vi k,vb bk,vb hd,vb br,AV.vnil,vi qx,vi qy,vi qz]],es:=15,ver:=0,frozen:=false,clean:=false }]) :
 lfC_at fm l S A j ix p k bk hd br qx qy qz X (Zat dv dK):=by
 unfold lfC_at
 obtain ⟨k1,k3,H⟩:=H
 have w4:(List.map Mo.a l).length=l.length:=List.length_map ..
 have i5:(decide (ix.toNat<(List.map Mo.a l).length))=true ↔ (ix.toNat<l.length):=(by (try rw [w4]);all_goals exact Zad)
 obtain ⟨k6,k7,H⟩:=H
 have w8:wi (N.len ((l.getD ix.toNat default).u-(l.getD ix.toNat default).x) ((l.getD ix.toNat default).v-(l.getD ix.toNat default).y) ((l.getD ix.toNat default).w-(l.getD ix.toNat default).z)-p)=N.len ((l.getD ix.toNat default).u-(l.getD ix.toNat default).x) ((l.getD ix.toNat default).v-(l.getD ix.toNat default).y) ((l.getD ix.toNat default).w-(l.getD ix.toNat default).z)-p:=wI64 k7
 exact Zai (G:=Zab kp45 [(1,9,.elem ((zCxH5 l ix))),(1,10,.call (vi (zCxH6 l ix)) none)] []) 1000 [] (k:=((atC (cd Try.f45) [1,1])).tail) (env':=[(2,vi (wi (N.len ((l.getD ix.toNat default).u-(l.getD ix.toNat default).x) ((l.getD ix.toNat default).v-(l.getD ix.toNat default).y) ((l.getD ix.toNat default).w-(l.getD ix.toNat default).z)-p)))]) (L':=[⟨[ag [AV.vec fm 9 (List.map Mo.a l),vi S,vi A,vi j,vi ix,vi p,vf (List.map vi X),vi k,vb bk,vb hd,vb br,AV.vnil,vi qx,vi qy,vi qz]],15,0,false,false⟩]) (asm:=[true,true,decide (0<=ix),decide (ix.toNat<(List.map Mo.a l).length),true]) (eqs:=[((List.map Mo.a l).get?Internal ix.toNat=some ((zCxH5 l ix)))]) (calls:=[⟨true,false,51,[(zCxH5 l ix)],[],vi (zCxH6 l ix),[]⟩]) (vi (wi (N.len ((l.getD ix.toNat default).u-(l.getD ix.toNat default).x) ((l.getD ix.toNat default).v-(l.getD ix.toNat default).y) ((l.getD ix.toNat default).w-(l.getD ix.toNat default).z)-p))) (by kernel_rfl) (by kernel_rfl) (Zaa rfl (Zaa rfl (Zaa (Zad.2 k3) (Zaa (i5.2 k6) (Zaa rfl Zae))))) (ZaQ (Zaz k6) Zaf) (Zaq (fun _=>(@ev51 ((l.getD ix.toNat default).x) ((l.getD ix.toNat default).y) ((l.getD ix.toNat default).z) ((l.getD ix.toNat default).u) ((l.getD ix.toNat default).v) ((l.getD ix.toNat default).w) ((l.getD ix.toNat default).r) ((l.getD ix.toNat default).t) ((l.getD ix.toNat default).b) k1)) Zag) (by (try rw [w8]);all_goals exact H)
noncomputable abbrev zCxH7 (l:List Mo) (ix:Int):=ag [vi (l.getD ix.toNat default).x,vi (l.getD ix.toNat default).y,vi (l.getD ix.toNat default).z,vi (l.getD ix.toNat default).u,vi (l.getD ix.toNat default).v,vi (l.getD ix.toNat default).w,vi (l.getD ix.toNat default).r,vi (l.getD ix.toNat default).t,vi (l.getD ix.toNat default).b]
noncomputable abbrev zCxH8 (l:List Mo) (ix:Int):=N.len ((l.getD ix.toNat default).u-(l.getD ix.toNat default).x) ((l.getD ix.toNat default).v-(l.getD ix.toNat default).y) ((l.getD ix.toNat default).w-(l.getD ix.toNat default).z)
theorem lfD (fm:Bool) (l:List Mo) (S A j ix p k:Int) (bk hd br:Bool) (qx qy qz:Int) (X:List Int) (P:List Mo) (w:Nat) (fz:Bool)  (dv:AV) (dK:Heap) (_:ZaB 2 dv dK=true) (H :
  (N.cl ((l.getD ix.toNat default).u-(l.getD ix.toNat default).x)/\N.cl ((l.getD ix.toNat default).v-(l.getD ix.toNat default).y)/\N.cl ((l.getD ix.toNat default).w-(l.getD ix.toNat default).z)) /\
  (0<=ix) /\
  (ix.toNat<l.length) /\
  (-9223372036854775808<=N.len ((l.getD ix.toNat default).u-(l.getD ix.toNat default).x) ((l.getD ix.toNat default).v-(l.getD ix.toNat default).y) ((l.getD ix.toNat default).w-(l.getD ix.toNat default).z)-p/\N.len ((l.getD ix.toNat default).u-(l.getD ix.toNat default).x) ((l.getD ix.toNat default).v-(l.getD ix.toNat default).y) ((l.getD ix.toNat default).w-(l.getD ix.toNat default).z)-p<=9223372036854775807) /\
  (Zat dv dK) (vi (N.len ((l.getD ix.toNat default).u-(l.getD ix.toNat default).x) ((l.getD ix.toNat default).v-(l.getD ix.toNat default).y) ((l.getD ix.toNat default).w-(l.getD ix.toNat default).z)-p)) [{ elems:=[ag [AV.vec fm 9 (List.map Mo.a l),vi S,vi A,vi j,vi ix,vi p,vf (List.map vi X),vi k,vb bk,vb hd,vb br,AV.row 1 w,vi qx,vi qy,vi qz]],es:=15,ver:=0,frozen:=false,clean:=false },{ elems:=List.map Mo.a P,es:=9,ver:=w,frozen:=fz,clean:=true }]) :
 lfD_at fm l S A j ix p k bk hd br qx qy qz X P w fz (Zat dv dK):=by
 unfold lfD_at
 obtain ⟨k1,k3,H⟩:=H
 have w4:(List.map Mo.a l).length=l.length:=List.length_map ..
 have i5:(decide (ix.toNat<(List.map Mo.a l).length))=true ↔ (ix.toNat<l.length):=(by (try rw [w4]);all_goals exact Zad)
 obtain ⟨k6,k7,H⟩:=H
 have w8:wi (N.len ((l.getD ix.toNat default).u-(l.getD ix.toNat default).x) ((l.getD ix.toNat default).v-(l.getD ix.toNat default).y) ((l.getD ix.toNat default).w-(l.getD ix.toNat default).z)-p)=N.len ((l.getD ix.toNat default).u-(l.getD ix.toNat default).x) ((l.getD ix.toNat default).v-(l.getD ix.toNat default).y) ((l.getD ix.toNat default).w-(l.getD ix.toNat default).z)-p:=wI64 k7
 exact Zai (G:=Zab kp45 [(1,9,.elem ((zCxH7 l ix))),(1,10,.call (vi (zCxH8 l ix)) none)] []) 1000 [] (k:=((atC (cd Try.f45) [1,1])).tail) (env':=[(2,vi (wi (N.len ((l.getD ix.toNat default).u-(l.getD ix.toNat default).x) ((l.getD ix.toNat default).v-(l.getD ix.toNat default).y) ((l.getD ix.toNat default).w-(l.getD ix.toNat default).z)-p)))]) (L':=[⟨[ag [AV.vec fm 9 (List.map Mo.a l),vi S,vi A,vi j,vi ix,vi p,vf (List.map vi X),vi k,vb bk,vb hd,vb br,AV.row 1 w,vi qx,vi qy,vi qz]],15,0,false,false⟩,⟨List.map Mo.a P,9,w,fz,true⟩]) (asm:=[true,true,decide (0<=ix),decide (ix.toNat<(List.map Mo.a l).length),true]) (eqs:=[((List.map Mo.a l).get?Internal ix.toNat=some ((zCxH7 l ix)))]) (calls:=[⟨true,false,51,[(zCxH7 l ix)],[],vi (zCxH8 l ix),[]⟩]) (vi (wi (N.len ((l.getD ix.toNat default).u-(l.getD ix.toNat default).x) ((l.getD ix.toNat default).v-(l.getD ix.toNat default).y) ((l.getD ix.toNat default).w-(l.getD ix.toNat default).z)-p))) (by kernel_rfl) (by kernel_rfl) (Zaa rfl (Zaa rfl (Zaa (Zad.2 k3) (Zaa (i5.2 k6) (Zaa rfl Zae))))) (ZaQ (Zaz k6) Zaf) (Zaq (fun _=>(@ev51 ((l.getD ix.toNat default).x) ((l.getD ix.toNat default).y) ((l.getD ix.toNat default).z) ((l.getD ix.toNat default).u) ((l.getD ix.toNat default).v) ((l.getD ix.toNat default).w) ((l.getD ix.toNat default).r) ((l.getD ix.toNat default).t) ((l.getD ix.toNat default).b) k1)) Zag) (by (try rw [w8]);all_goals exact H)
noncomputable abbrev zCxH10 (l:List Mo) (ix:Int):=ag [vi (l.getD ix.toNat default).x,vi (l.getD ix.toNat default).y,vi (l.getD ix.toNat default).z,vi (l.getD ix.toNat default).u,vi (l.getD ix.toNat default).v,vi (l.getD ix.toNat default).w,vi (l.getD ix.toNat default).r,vi (l.getD ix.toNat default).t,vi (l.getD ix.toNat default).b]
noncomputable abbrev Zfe (l:List Mo) (ix:Int):=N.len ((l.getD ix.toNat default).u-(l.getD ix.toNat default).x) ((l.getD ix.toNat default).v-(l.getD ix.toNat default).y) ((l.getD ix.toNat default).w-(l.getD ix.toNat default).z)
noncomputable abbrev zCxH9 (l:List Mo) (ix:Int) (p:Int):=ag [vi (N.pt (l.getD ix.toNat default).x (l.getD ix.toNat default).u p (Zfe l ix)),vi (N.pt (l.getD ix.toNat default).y (l.getD ix.toNat default).v p (Zfe l ix)),vi (N.pt (l.getD ix.toNat default).z (l.getD ix.toNat default).w p (Zfe l ix))]
noncomputable abbrev zCxH12 (l:List Mo) (ix:Int):=ag [vi (l.getD (ix-1).toNat default).x,vi (l.getD (ix-1).toNat default).y,vi (l.getD (ix-1).toNat default).z,vi (l.getD (ix-1).toNat default).u,vi (l.getD (ix-1).toNat default).v,vi (l.getD (ix-1).toNat default).w,vi (l.getD (ix-1).toNat default).r,vi (l.getD (ix-1).toNat default).t,vi (l.getD (ix-1).toNat default).b]
noncomputable abbrev zCxH13 (l:List Mo) (ix:Int):=ag [vi (l.getD (ix-1).toNat default).u,vi (l.getD (ix-1).toNat default).v,vi (l.getD (ix-1).toNat default).w]
theorem poA (fm:Bool) (l:List Mo) (S A j ix p k:Int) (bk hd br:Bool) (qx qy qz:Int)  (dv:AV) (dK:Heap) (_:ZaB 1 dv dK=true) (H :
  (((↑l.length:Int)=0)->(Zat dv dK) (ag [vi 0,vi 0,vi 0]) [{ elems:=[ag [AV.vec fm 9 (List.map Mo.a l),vi S,vi A,vi j,vi ix,vi p,AV.vnil,vi k,vb bk,vb hd,vb br,AV.vnil,vi qx,vi qy,vi qz]],es:=15,ver:=0,frozen:=false,clean:=false },{ elems:=[ag [vi 0,vi 0,vi 0]],es:=3,ver:=0,frozen:=false,clean:=false }]) /\
  (¬((↑l.length:Int)=0)->((ix=(↑l.length:Int))->(-9223372036854775808<=ix-1/\ix-1<=9223372036854775807) /\
    (0<=ix-1) /\
    ((ix-1).toNat<l.length) /\
    (Zat dv dK) (ag [vi (l.getD (ix-1).toNat default).u,vi (l.getD (ix-1).toNat default).v,vi (l.getD (ix-1).toNat default).w]) [{ elems:=[ag [AV.vec fm 9 (List.map Mo.a l),vi S,vi A,vi j,vi ix,vi p,AV.vnil,vi k,vb bk,vb hd,vb br,AV.vnil,vi qx,vi qy,vi qz]],es:=15,ver:=0,frozen:=false,clean:=false },{ elems:=[ag [vi (l.getD (ix-1).toNat default).u,vi (l.getD (ix-1).toNat default).v,vi (l.getD (ix-1).toNat default).w]],es:=3,ver:=0,frozen:=false,clean:=false }]) /\
   (¬(ix=(↑l.length:Int))->(0<=ix) /\
    (ix.toNat<l.length) /\
    (N.cl ((l.getD ix.toNat default).u-(l.getD ix.toNat default).x)/\N.cl ((l.getD ix.toNat default).v-(l.getD ix.toNat default).y)/\N.cl ((l.getD ix.toNat default).w-(l.getD ix.toNat default).z)) /\
    (N.okPs (l.getD ix.toNat default).x (l.getD ix.toNat default).y (l.getD ix.toNat default).z (l.getD ix.toNat default).u (l.getD ix.toNat default).v (l.getD ix.toNat default).w p (N.len ((l.getD ix.toNat default).u-(l.getD ix.toNat default).x) ((l.getD ix.toNat default).v-(l.getD ix.toNat default).y) ((l.getD ix.toNat default).w-(l.getD ix.toNat default).z))) /\
    (Zat dv dK) (ag [vi (N.pt (l.getD ix.toNat default).x (l.getD ix.toNat default).u p (N.len ((l.getD ix.toNat default).u-(l.getD ix.toNat default).x) ((l.getD ix.toNat default).v-(l.getD ix.toNat default).y) ((l.getD ix.toNat default).w-(l.getD ix.toNat default).z))),vi (N.pt (l.getD ix.toNat default).y (l.getD ix.toNat default).v p (N.len ((l.getD ix.toNat default).u-(l.getD ix.toNat default).x) ((l.getD ix.toNat default).v-(l.getD ix.toNat default).y) ((l.getD ix.toNat default).w-(l.getD ix.toNat default).z))),vi (N.pt (l.getD ix.toNat default).z (l.getD ix.toNat default).w p (N.len ((l.getD ix.toNat default).u-(l.getD ix.toNat default).x) ((l.getD ix.toNat default).v-(l.getD ix.toNat default).y) ((l.getD ix.toNat default).w-(l.getD ix.toNat default).z)))]) [{ elems:=[ag [AV.vec fm 9 (List.map Mo.a l),vi S,vi A,vi j,vi ix,vi p,AV.vnil,vi k,vb bk,vb hd,vb br,AV.vnil,vi qx,vi qy,vi qz]],es:=15,ver:=0,frozen:=false,clean:=false },{ elems:=[ag [vi (N.pt (l.getD ix.toNat default).x (l.getD ix.toNat default).u p (N.len ((l.getD ix.toNat default).u-(l.getD ix.toNat default).x) ((l.getD ix.toNat default).v-(l.getD ix.toNat default).y) ((l.getD ix.toNat default).w-(l.getD ix.toNat default).z))),vi (N.pt (l.getD ix.toNat default).y (l.getD ix.toNat default).v p (N.len ((l.getD ix.toNat default).u-(l.getD ix.toNat default).x) ((l.getD ix.toNat default).v-(l.getD ix.toNat default).y) ((l.getD ix.toNat default).w-(l.getD ix.toNat default).z))),vi (N.pt (l.getD ix.toNat default).z (l.getD ix.toNat default).w p (N.len ((l.getD ix.toNat default).u-(l.getD ix.toNat default).x) ((l.getD ix.toNat default).v-(l.getD ix.toNat default).y) ((l.getD ix.toNat default).w-(l.getD ix.toNat default).z)))]],es:=3,ver:=0,frozen:=false,clean:=false },{ elems:=[ag [vi (l.getD ix.toNat default).x,vi (l.getD ix.toNat default).y,vi (l.getD ix.toNat default).z,vi (l.getD ix.toNat default).u,vi (l.getD ix.toNat default).v,vi (l.getD ix.toNat default).w,vi (l.getD ix.toNat default).r,vi (l.getD ix.toNat default).t,vi (l.getD ix.toNat default).b]],es:=9,ver:=0,frozen:=false,clean:=false },{ elems:=[ag [vi (N.pt (l.getD ix.toNat default).x (l.getD ix.toNat default).u p (N.len ((l.getD ix.toNat default).u-(l.getD ix.toNat default).x) ((l.getD ix.toNat default).v-(l.getD ix.toNat default).y) ((l.getD ix.toNat default).w-(l.getD ix.toNat default).z))),vi (N.pt (l.getD ix.toNat default).y (l.getD ix.toNat default).v p (N.len ((l.getD ix.toNat default).u-(l.getD ix.toNat default).x) ((l.getD ix.toNat default).v-(l.getD ix.toNat default).y) ((l.getD ix.toNat default).w-(l.getD ix.toNat default).z))),vi (N.pt (l.getD ix.toNat default).z (l.getD ix.toNat default).w p (N.len ((l.getD ix.toNat default).u-(l.getD ix.toNat default).x) ((l.getD ix.toNat default).v-(l.getD ix.toNat default).y) ((l.getD ix.toNat default).w-(l.getD ix.toNat default).z)))]],es:=3,ver:=0,frozen:=false,clean:=false }]))) :
 poA_at fm l S A j ix p k bk hd br qx qy qz (Zat dv dK):=by
 unfold poA_at
 have w1:(List.map Mo.a l).length=l.length:=List.length_map ..
 have i2:((↑(List.map Mo.a l).length:Int)==0)=true ↔ ((↑l.length:Int)=0):=(by (try rw [w1]);all_goals exact i_eq)
 rcases xq H with ⟨d3,H⟩|⟨d3,H⟩
 ·exact Zai (G:=Zab kp13 [] []) 1000 [true] (k:=((atC (cd Try.f13) [1,0,0,1,0,1])).tail) (env':=[(2,AV.ptr 1 0 0 0)]) (L':=[⟨[ag [AV.vec fm 9 (List.map Mo.a l),vi S,vi A,vi j,vi ix,vi p,AV.vnil,vi k,vb bk,vb hd,vb br,AV.vnil,vi qx,vi qy,vi qz]],15,0,false,false⟩,⟨[ag [vi 0,vi 0,vi 0]],3,0,false,false⟩]) (asm:=[true,((↑(List.map Mo.a l).length:Int)==0)==true,true]) (eqs:=[]) (calls:=[]) (ag [vi 0,vi 0,vi 0]) (by kernel_rfl) (by kernel_rfl) (Zaa rfl (Zaa (Zam (i2.2 d3)) (Zaa rfl Zae))) Zaf Zag H
 ·have i4:(ix==(↑(List.map Mo.a l).length:Int))=true ↔ (ix=(↑l.length:Int)):=(by (try rw [w1]);all_goals exact i_eq)
  rcases xq H with ⟨d5,H⟩|⟨d5,H⟩
  ·obtain ⟨k6,H⟩:=H
   have w7:wi (ix-1)=ix-1:=wI64 k6
   have i8:(decide (0<=wi (ix-1)))=true ↔ (0<=ix-1):=(by (try rw [w7]);all_goals exact Zad)
   obtain ⟨k9,H⟩:=H
   have i10:(decide ((wi (ix-1)).toNat<(List.map Mo.a l).length))=true ↔ ((ix-1).toNat<l.length):=(by (try rw [w1]);(try rw [w7]);all_goals exact Zad)
   obtain ⟨k11,H⟩:=H
   exact Zai (G:=Zab kp13 [(4,11,.elem (zCxH12 l ix))] []) 1000 [false,true] (k:=((atC (cd Try.f13) [1,0,0,1,1,1,0,1])).tail) (env':=[(2,AV.ptr 1 0 0 0)]) (L':=[⟨[ag [AV.vec fm 9 (List.map Mo.a l),vi S,vi A,vi j,vi ix,vi p,AV.vnil,vi k,vb bk,vb hd,vb br,AV.vnil,vi qx,vi qy,vi qz]],15,0,false,false⟩,⟨[(zCxH13 l ix)],3,0,false,false⟩]) (asm:=[true,((↑(List.map Mo.a l).length:Int)==0)==false,true,true,(ix==(↑(List.map Mo.a l).length:Int))==true,true,true,decide (0<=wi (ix-1)),decide ((wi (ix-1)).toNat<(List.map Mo.a l).length),true]) (eqs:=[((List.map Mo.a l).get?Internal (wi (ix-1)).toNat=some (zCxH12 l ix))]) (calls:=[]) ((zCxH13 l ix)) (by kernel_rfl) (by kernel_rfl) (Zaa rfl (Zaa (Zal (fun h=>d3 (i2.1 h))) (Zaa rfl (Zaa rfl (Zaa (Zam (i4.2 d5)) (Zaa rfl (Zaa rfl (Zaa (i8.2 k9) (Zaa (i10.2 k11) (Zaa rfl Zae)))))))))) (ZaQ (by (try rw [w7]);all_goals exact (Zaz k11)) Zaf) Zag H
  ·obtain ⟨k13,H⟩:=H
   have i14:(decide (ix.toNat<(List.map Mo.a l).length))=true ↔ (ix.toNat<l.length):=(by (try rw [w1]);all_goals exact Zad)
   obtain ⟨k15,k16,k17,H⟩:=H
   exact Zai (G:=Zab kp13 [(5,9,.elem ((zCxH10 l ix))),(6,9,.call (vi (Zfe l ix)) none),(6,10,.call (tu [(zCxH9 l ix p),vi 0]) none)] []) 1000 [false,false] (k:=((atC (cd Try.f13) [1,1,1,1,1])).tail) (env':=[(2,AV.ptr 1 0 0 0)]) (L':=[⟨[ag [AV.vec fm 9 (List.map Mo.a l),vi S,vi A,vi j,vi ix,vi p,AV.vnil,vi k,vb bk,vb hd,vb br,AV.vnil,vi qx,vi qy,vi qz]],15,0,false,false⟩,⟨[(zCxH9 l ix p)],3,0,false,false⟩,⟨[(zCxH10 l ix)],9,0,false,false⟩,⟨[(zCxH9 l ix p)],3,0,false,false⟩]) (asm:=[true,((↑(List.map Mo.a l).length:Int)==0)==false,true,true,(ix==(↑(List.map Mo.a l).length:Int))==false,true,true,decide (0<=ix),decide (ix.toNat<(List.map Mo.a l).length),true,true,true,true,true,true,true,true]) (eqs:=[((List.map Mo.a l).get?Internal ix.toNat=some ((zCxH10 l ix)))]) (calls:=[⟨true,false,51,[(zCxH10 l ix)],[],vi (Zfe l ix),[]⟩,⟨true,false,50,[ag [vi (l.getD ix.toNat default).x,vi (l.getD ix.toNat default).y,vi (l.getD ix.toNat default).z],ag [vi (l.getD ix.toNat default).u,vi (l.getD ix.toNat default).v,vi (l.getD ix.toNat default).w],vi p,vi (Zfe l ix)],[],tu [(zCxH9 l ix p),vi 0],[]⟩]) ((zCxH9 l ix p)) (by kernel_rfl) (by kernel_rfl) (Zaa rfl (Zaa (Zal (fun h=>d3 (i2.1 h))) (Zaa rfl (Zaa rfl (Zaa (Zal (fun h=>d5 (i4.1 h))) (Zaa rfl (Zaa rfl (Zaa (Zad.2 k13) (Zaa (i14.2 k15) (Zaa rfl (Zaa rfl (Zaa rfl (Zaa rfl (Zaa rfl (Zaa rfl (Zaa rfl (Zaa rfl Zae))))))))))))))))) (ZaQ (Zaz k15) Zaf) (Zaq (fun _=>(@ev51 ((l.getD ix.toNat default).x) ((l.getD ix.toNat default).y) ((l.getD ix.toNat default).z) ((l.getD ix.toNat default).u) ((l.getD ix.toNat default).v) ((l.getD ix.toNat default).w) ((l.getD ix.toNat default).r) ((l.getD ix.toNat default).t) ((l.getD ix.toNat default).b) k16)) (Zaq (fun _=>(@ev50 ((l.getD ix.toNat default).x) ((l.getD ix.toNat default).y) ((l.getD ix.toNat default).z) ((l.getD ix.toNat default).u) ((l.getD ix.toNat default).v) ((l.getD ix.toNat default).w) p (Zfe l ix) k17)) Zag)) H
noncomputable abbrev zCxH15 (l:List Mo) (ix:Int):=ag [vi (l.getD ix.toNat default).x,vi (l.getD ix.toNat default).y,vi (l.getD ix.toNat default).z,vi (l.getD ix.toNat default).u,vi (l.getD ix.toNat default).v,vi (l.getD ix.toNat default).w,vi (l.getD ix.toNat default).r,vi (l.getD ix.toNat default).t,vi (l.getD ix.toNat default).b]
noncomputable abbrev Zfd (l:List Mo) (ix:Int):=N.len ((l.getD ix.toNat default).u-(l.getD ix.toNat default).x) ((l.getD ix.toNat default).v-(l.getD ix.toNat default).y) ((l.getD ix.toNat default).w-(l.getD ix.toNat default).z)
noncomputable abbrev zCxH14 (l:List Mo) (ix:Int) (p:Int):=ag [vi (N.pt (l.getD ix.toNat default).x (l.getD ix.toNat default).u p (Zfd l ix)),vi (N.pt (l.getD ix.toNat default).y (l.getD ix.toNat default).v p (Zfd l ix)),vi (N.pt (l.getD ix.toNat default).z (l.getD ix.toNat default).w p (Zfd l ix))]
noncomputable abbrev zCxH17 (l:List Mo) (ix:Int):=ag [vi (l.getD (ix-1).toNat default).x,vi (l.getD (ix-1).toNat default).y,vi (l.getD (ix-1).toNat default).z,vi (l.getD (ix-1).toNat default).u,vi (l.getD (ix-1).toNat default).v,vi (l.getD (ix-1).toNat default).w,vi (l.getD (ix-1).toNat default).r,vi (l.getD (ix-1).toNat default).t,vi (l.getD (ix-1).toNat default).b]
noncomputable abbrev zCxH18 (l:List Mo) (ix:Int):=ag [vi (l.getD (ix-1).toNat default).u,vi (l.getD (ix-1).toNat default).v,vi (l.getD (ix-1).toNat default).w]
theorem poB (fm:Bool) (l:List Mo) (S A j ix p k:Int) (bk hd br:Bool) (qx qy qz:Int) (P:List Mo) (w:Nat) (fz:Bool)  (dv:AV) (dK:Heap) (_:ZaB 2 dv dK=true) (H :
  (((↑l.length:Int)=0)->(Zat dv dK) (ag [vi 0,vi 0,vi 0]) [{ elems:=[ag [AV.vec fm 9 (List.map Mo.a l),vi S,vi A,vi j,vi ix,vi p,AV.vnil,vi k,vb bk,vb hd,vb br,AV.row 1 w,vi qx,vi qy,vi qz]],es:=15,ver:=0,frozen:=false,clean:=false },{ elems:=List.map Mo.a P,es:=9,ver:=w,frozen:=fz,clean:=true },{ elems:=[ag [vi 0,vi 0,vi 0]],es:=3,ver:=0,frozen:=false,clean:=false }]) /\
  (¬((↑l.length:Int)=0)->((ix=(↑l.length:Int))->(-9223372036854775808<=ix-1/\ix-1<=9223372036854775807) /\
    (0<=ix-1) /\
    ((ix-1).toNat<l.length) /\
    (Zat dv dK) (ag [vi (l.getD (ix-1).toNat default).u,vi (l.getD (ix-1).toNat default).v,vi (l.getD (ix-1).toNat default).w]) [{ elems:=[ag [AV.vec fm 9 (List.map Mo.a l),vi S,vi A,vi j,vi ix,vi p,AV.vnil,vi k,vb bk,vb hd,vb br,AV.row 1 w,vi qx,vi qy,vi qz]],es:=15,ver:=0,frozen:=false,clean:=false },{ elems:=List.map Mo.a P,es:=9,ver:=w,frozen:=fz,clean:=true },{ elems:=[ag [vi (l.getD (ix-1).toNat default).u,vi (l.getD (ix-1).toNat default).v,vi (l.getD (ix-1).toNat default).w]],es:=3,ver:=0,frozen:=false,clean:=false }]) /\
   (¬(ix=(↑l.length:Int))->(0<=ix) /\
    (ix.toNat<l.length) /\
    (N.cl ((l.getD ix.toNat default).u-(l.getD ix.toNat default).x)/\N.cl ((l.getD ix.toNat default).v-(l.getD ix.toNat default).y)/\N.cl ((l.getD ix.toNat default).w-(l.getD ix.toNat default).z)) /\
    (N.okPs (l.getD ix.toNat default).x (l.getD ix.toNat default).y (l.getD ix.toNat default).z (l.getD ix.toNat default).u (l.getD ix.toNat default).v (l.getD ix.toNat default).w p (N.len ((l.getD ix.toNat default).u-(l.getD ix.toNat default).x) ((l.getD ix.toNat default).v-(l.getD ix.toNat default).y) ((l.getD ix.toNat default).w-(l.getD ix.toNat default).z))) /\
    (Zat dv dK) (ag [vi (N.pt (l.getD ix.toNat default).x (l.getD ix.toNat default).u p (N.len ((l.getD ix.toNat default).u-(l.getD ix.toNat default).x) ((l.getD ix.toNat default).v-(l.getD ix.toNat default).y) ((l.getD ix.toNat default).w-(l.getD ix.toNat default).z))),vi (N.pt (l.getD ix.toNat default).y (l.getD ix.toNat default).v p (N.len ((l.getD ix.toNat default).u-(l.getD ix.toNat default).x) ((l.getD ix.toNat default).v-(l.getD ix.toNat default).y) ((l.getD ix.toNat default).w-(l.getD ix.toNat default).z))),vi (N.pt (l.getD ix.toNat default).z (l.getD ix.toNat default).w p (N.len ((l.getD ix.toNat default).u-(l.getD ix.toNat default).x) ((l.getD ix.toNat default).v-(l.getD ix.toNat default).y) ((l.getD ix.toNat default).w-(l.getD ix.toNat default).z)))]) [{ elems:=[ag [AV.vec fm 9 (List.map Mo.a l),vi S,vi A,vi j,vi ix,vi p,AV.vnil,vi k,vb bk,vb hd,vb br,AV.row 1 w,vi qx,vi qy,vi qz]],es:=15,ver:=0,frozen:=false,clean:=false },{ elems:=List.map Mo.a P,es:=9,ver:=w,frozen:=fz,clean:=true },{ elems:=[ag [vi (N.pt (l.getD ix.toNat default).x (l.getD ix.toNat default).u p (N.len ((l.getD ix.toNat default).u-(l.getD ix.toNat default).x) ((l.getD ix.toNat default).v-(l.getD ix.toNat default).y) ((l.getD ix.toNat default).w-(l.getD ix.toNat default).z))),vi (N.pt (l.getD ix.toNat default).y (l.getD ix.toNat default).v p (N.len ((l.getD ix.toNat default).u-(l.getD ix.toNat default).x) ((l.getD ix.toNat default).v-(l.getD ix.toNat default).y) ((l.getD ix.toNat default).w-(l.getD ix.toNat default).z))),vi (N.pt (l.getD ix.toNat default).z (l.getD ix.toNat default).w p (N.len ((l.getD ix.toNat default).u-(l.getD ix.toNat default).x) ((l.getD ix.toNat default).v-(l.getD ix.toNat default).y) ((l.getD ix.toNat default).w-(l.getD ix.toNat default).z)))]],es:=3,ver:=0,frozen:=false,clean:=false },{ elems:=[ag [vi (l.getD ix.toNat default).x,vi (l.getD ix.toNat default).y,vi (l.getD ix.toNat default).z,vi (l.getD ix.toNat default).u,vi (l.getD ix.toNat default).v,vi (l.getD ix.toNat default).w,vi (l.getD ix.toNat default).r,vi (l.getD ix.toNat default).t,vi (l.getD ix.toNat default).b]],es:=9,ver:=0,frozen:=false,clean:=false },{ elems:=[ag [vi (N.pt (l.getD ix.toNat default).x (l.getD ix.toNat default).u p (N.len ((l.getD ix.toNat default).u-(l.getD ix.toNat default).x) ((l.getD ix.toNat default).v-(l.getD ix.toNat default).y) ((l.getD ix.toNat default).w-(l.getD ix.toNat default).z))),vi (N.pt (l.getD ix.toNat default).y (l.getD ix.toNat default).v p (N.len ((l.getD ix.toNat default).u-(l.getD ix.toNat default).x) ((l.getD ix.toNat default).v-(l.getD ix.toNat default).y) ((l.getD ix.toNat default).w-(l.getD ix.toNat default).z))),vi (N.pt (l.getD ix.toNat default).z (l.getD ix.toNat default).w p (N.len ((l.getD ix.toNat default).u-(l.getD ix.toNat default).x) ((l.getD ix.toNat default).v-(l.getD ix.toNat default).y) ((l.getD ix.toNat default).w-(l.getD ix.toNat default).z)))]],es:=3,ver:=0,frozen:=false,clean:=false }]))) :
 poB_at fm l S A j ix p k bk hd br qx qy qz P w fz (Zat dv dK):=by
 unfold poB_at
 have w1:(List.map Mo.a l).length=l.length:=List.length_map ..
 have i2:((↑(List.map Mo.a l).length:Int)==0)=true ↔ ((↑l.length:Int)=0):=(by (try rw [w1]);all_goals exact i_eq)
 rcases xq H with ⟨d3,H⟩|⟨d3,H⟩
 ·exact Zai (G:=Zab kp13 [] []) 1000 [true] (k:=((atC (cd Try.f13) [1,0,0,1,0,1])).tail) (env':=[(2,AV.ptr 2 0 0 0)]) (L':=[⟨[ag [AV.vec fm 9 (List.map Mo.a l),vi S,vi A,vi j,vi ix,vi p,AV.vnil,vi k,vb bk,vb hd,vb br,AV.row 1 w,vi qx,vi qy,vi qz]],15,0,false,false⟩,⟨List.map Mo.a P,9,w,fz,true⟩,⟨[ag [vi 0,vi 0,vi 0]],3,0,false,false⟩]) (asm:=[true,((↑(List.map Mo.a l).length:Int)==0)==true,true]) (eqs:=[]) (calls:=[]) (ag [vi 0,vi 0,vi 0]) (by kernel_rfl) (by kernel_rfl) (Zaa rfl (Zaa (Zam (i2.2 d3)) (Zaa rfl Zae))) Zaf Zag H
 ·have i4:(ix==(↑(List.map Mo.a l).length:Int))=true ↔ (ix=(↑l.length:Int)):=(by (try rw [w1]);all_goals exact i_eq)
  rcases xq H with ⟨d5,H⟩|⟨d5,H⟩
  ·obtain ⟨k6,H⟩:=H
   have w7:wi (ix-1)=ix-1:=wI64 k6
   have i8:(decide (0<=wi (ix-1)))=true ↔ (0<=ix-1):=(by (try rw [w7]);all_goals exact Zad)
   obtain ⟨k9,H⟩:=H
   have i10:(decide ((wi (ix-1)).toNat<(List.map Mo.a l).length))=true ↔ ((ix-1).toNat<l.length):=(by (try rw [w1]);(try rw [w7]);all_goals exact Zad)
   obtain ⟨k11,H⟩:=H
   exact Zai (G:=Zab kp13 [(4,11,.elem (zCxH17 l ix))] []) 1000 [false,true] (k:=((atC (cd Try.f13) [1,0,0,1,1,1,0,1])).tail) (env':=[(2,AV.ptr 2 0 0 0)]) (L':=[⟨[ag [AV.vec fm 9 (List.map Mo.a l),vi S,vi A,vi j,vi ix,vi p,AV.vnil,vi k,vb bk,vb hd,vb br,AV.row 1 w,vi qx,vi qy,vi qz]],15,0,false,false⟩,⟨List.map Mo.a P,9,w,fz,true⟩,⟨[(zCxH18 l ix)],3,0,false,false⟩]) (asm:=[true,((↑(List.map Mo.a l).length:Int)==0)==false,true,true,(ix==(↑(List.map Mo.a l).length:Int))==true,true,true,decide (0<=wi (ix-1)),decide ((wi (ix-1)).toNat<(List.map Mo.a l).length),true]) (eqs:=[((List.map Mo.a l).get?Internal (wi (ix-1)).toNat=some (zCxH17 l ix))]) (calls:=[]) ((zCxH18 l ix)) (by kernel_rfl) (by kernel_rfl) (Zaa rfl (Zaa (Zal (fun h=>d3 (i2.1 h))) (Zaa rfl (Zaa rfl (Zaa (Zam (i4.2 d5)) (Zaa rfl (Zaa rfl (Zaa (i8.2 k9) (Zaa (i10.2 k11) (Zaa rfl Zae)))))))))) (ZaQ (by (try rw [w7]);all_goals exact (Zaz k11)) Zaf) Zag H
  ·obtain ⟨k13,H⟩:=H
   have i14:(decide (ix.toNat<(List.map Mo.a l).length))=true ↔ (ix.toNat<l.length):=(by (try rw [w1]);all_goals exact Zad)
   obtain ⟨k15,k16,k17,H⟩:=H
   exact Zai (G:=Zab kp13 [(5,9,.elem ((zCxH15 l ix))),(6,9,.call (vi (Zfd l ix)) none),(6,10,.call (tu [(zCxH14 l ix p),vi 0]) none)] []) 1000 [false,false] (k:=((atC (cd Try.f13) [1,1,1,1,1])).tail) (env':=[(2,AV.ptr 2 0 0 0)]) (L':=[⟨[ag [AV.vec fm 9 (List.map Mo.a l),vi S,vi A,vi j,vi ix,vi p,AV.vnil,vi k,vb bk,vb hd,vb br,AV.row 1 w,vi qx,vi qy,vi qz]],15,0,false,false⟩,⟨List.map Mo.a P,9,w,fz,true⟩,⟨[(zCxH14 l ix p)],3,0,false,false⟩,⟨[(zCxH15 l ix)],9,0,false,false⟩,⟨[(zCxH14 l ix p)],3,0,false,false⟩]) (asm:=[true,((↑(List.map Mo.a l).length:Int)==0)==false,true,true,(ix==(↑(List.map Mo.a l).length:Int))==false,true,true,decide (0<=ix),decide (ix.toNat<(List.map Mo.a l).length),true,true,true,true,true,true,true,true]) (eqs:=[((List.map Mo.a l).get?Internal ix.toNat=some ((zCxH15 l ix)))]) (calls:=[⟨true,false,51,[(zCxH15 l ix)],[],vi (Zfd l ix),[]⟩,⟨true,false,50,[ag [vi (l.getD ix.toNat default).x,vi (l.getD ix.toNat default).y,vi (l.getD ix.toNat default).z],ag [vi (l.getD ix.toNat default).u,vi (l.getD ix.toNat default).v,vi (l.getD ix.toNat default).w],vi p,vi (Zfd l ix)],[],tu [(zCxH14 l ix p),vi 0],[]⟩]) ((zCxH14 l ix p)) (by kernel_rfl) (by kernel_rfl) (Zaa rfl (Zaa (Zal (fun h=>d3 (i2.1 h))) (Zaa rfl (Zaa rfl (Zaa (Zal (fun h=>d5 (i4.1 h))) (Zaa rfl (Zaa rfl (Zaa (Zad.2 k13) (Zaa (i14.2 k15) (Zaa rfl (Zaa rfl (Zaa rfl (Zaa rfl (Zaa rfl (Zaa rfl (Zaa rfl (Zaa rfl Zae))))))))))))))))) (ZaQ (Zaz k15) Zaf) (Zaq (fun _=>(@ev51 ((l.getD ix.toNat default).x) ((l.getD ix.toNat default).y) ((l.getD ix.toNat default).z) ((l.getD ix.toNat default).u) ((l.getD ix.toNat default).v) ((l.getD ix.toNat default).w) ((l.getD ix.toNat default).r) ((l.getD ix.toNat default).t) ((l.getD ix.toNat default).b) k16)) (Zaq (fun _=>(@ev50 ((l.getD ix.toNat default).x) ((l.getD ix.toNat default).y) ((l.getD ix.toNat default).z) ((l.getD ix.toNat default).u) ((l.getD ix.toNat default).v) ((l.getD ix.toNat default).w) p (Zfd l ix) k17)) Zag)) H
noncomputable abbrev zCxH20 (l:List Mo) (ix:Int):=ag [vi (l.getD ix.toNat default).x,vi (l.getD ix.toNat default).y,vi (l.getD ix.toNat default).z,vi (l.getD ix.toNat default).u,vi (l.getD ix.toNat default).v,vi (l.getD ix.toNat default).w,vi (l.getD ix.toNat default).r,vi (l.getD ix.toNat default).t,vi (l.getD ix.toNat default).b]
noncomputable abbrev Zfc (l:List Mo) (ix:Int):=N.len ((l.getD ix.toNat default).u-(l.getD ix.toNat default).x) ((l.getD ix.toNat default).v-(l.getD ix.toNat default).y) ((l.getD ix.toNat default).w-(l.getD ix.toNat default).z)
noncomputable abbrev zCxH19 (l:List Mo) (ix:Int) (p:Int):=ag [vi (N.pt (l.getD ix.toNat default).x (l.getD ix.toNat default).u p (Zfc l ix)),vi (N.pt (l.getD ix.toNat default).y (l.getD ix.toNat default).v p (Zfc l ix)),vi (N.pt (l.getD ix.toNat default).z (l.getD ix.toNat default).w p (Zfc l ix))]
noncomputable abbrev zCxH22 (l:List Mo) (ix:Int):=ag [vi (l.getD (ix-1).toNat default).x,vi (l.getD (ix-1).toNat default).y,vi (l.getD (ix-1).toNat default).z,vi (l.getD (ix-1).toNat default).u,vi (l.getD (ix-1).toNat default).v,vi (l.getD (ix-1).toNat default).w,vi (l.getD (ix-1).toNat default).r,vi (l.getD (ix-1).toNat default).t,vi (l.getD (ix-1).toNat default).b]
noncomputable abbrev zCxH23 (l:List Mo) (ix:Int):=ag [vi (l.getD (ix-1).toNat default).u,vi (l.getD (ix-1).toNat default).v,vi (l.getD (ix-1).toNat default).w]
theorem poC (fm:Bool) (l:List Mo) (S A j ix p k:Int) (bk hd br:Bool) (qx qy qz:Int) (X:List Int)  (dv:AV) (dK:Heap) (_:ZaB 1 dv dK=true) (H :
  (((↑l.length:Int)=0)->(Zat dv dK) (ag [vi 0,vi 0,vi 0]) [{ elems:=[ag [AV.vec fm 9 (List.map Mo.a l),vi S,vi A,vi j,vi ix,vi p,vf (List.map vi X),vi k,vb bk,vb hd,vb br,AV.vnil,vi qx,vi qy,vi qz]],es:=15,ver:=0,frozen:=false,clean:=false },{ elems:=[ag [vi 0,vi 0,vi 0]],es:=3,ver:=0,frozen:=false,clean:=false }]) /\
  (¬((↑l.length:Int)=0)->((ix=(↑l.length:Int))->(-9223372036854775808<=ix-1/\ix-1<=9223372036854775807) /\
    (0<=ix-1) /\
    ((ix-1).toNat<l.length) /\
    (Zat dv dK) (ag [vi (l.getD (ix-1).toNat default).u,vi (l.getD (ix-1).toNat default).v,vi (l.getD (ix-1).toNat default).w]) [{ elems:=[ag [AV.vec fm 9 (List.map Mo.a l),vi S,vi A,vi j,vi ix,vi p,vf (List.map vi X),vi k,vb bk,vb hd,vb br,AV.vnil,vi qx,vi qy,vi qz]],es:=15,ver:=0,frozen:=false,clean:=false },{ elems:=[ag [vi (l.getD (ix-1).toNat default).u,vi (l.getD (ix-1).toNat default).v,vi (l.getD (ix-1).toNat default).w]],es:=3,ver:=0,frozen:=false,clean:=false }]) /\
   (¬(ix=(↑l.length:Int))->(0<=ix) /\
    (ix.toNat<l.length) /\
    (N.cl ((l.getD ix.toNat default).u-(l.getD ix.toNat default).x)/\N.cl ((l.getD ix.toNat default).v-(l.getD ix.toNat default).y)/\N.cl ((l.getD ix.toNat default).w-(l.getD ix.toNat default).z)) /\
    (N.okPs (l.getD ix.toNat default).x (l.getD ix.toNat default).y (l.getD ix.toNat default).z (l.getD ix.toNat default).u (l.getD ix.toNat default).v (l.getD ix.toNat default).w p (N.len ((l.getD ix.toNat default).u-(l.getD ix.toNat default).x) ((l.getD ix.toNat default).v-(l.getD ix.toNat default).y) ((l.getD ix.toNat default).w-(l.getD ix.toNat default).z))) /\
    (Zat dv dK) (ag [vi (N.pt (l.getD ix.toNat default).x (l.getD ix.toNat default).u p (N.len ((l.getD ix.toNat default).u-(l.getD ix.toNat default).x) ((l.getD ix.toNat default).v-(l.getD ix.toNat default).y) ((l.getD ix.toNat default).w-(l.getD ix.toNat default).z))),vi (N.pt (l.getD ix.toNat default).y (l.getD ix.toNat default).v p (N.len ((l.getD ix.toNat default).u-(l.getD ix.toNat default).x) ((l.getD ix.toNat default).v-(l.getD ix.toNat default).y) ((l.getD ix.toNat default).w-(l.getD ix.toNat default).z))),vi (N.pt (l.getD ix.toNat default).z (l.getD ix.toNat default).w p (N.len ((l.getD ix.toNat default).u-(l.getD ix.toNat default).x) ((l.getD ix.toNat default).v-(l.getD ix.toNat default).y) ((l.getD ix.toNat default).w-(l.getD ix.toNat default).z)))]) [{ elems:=[ag [AV.vec fm 9 (List.map Mo.a l),vi S,vi A,vi j,vi ix,vi p,vf (List.map vi X),vi k,vb bk,vb hd,vb br,AV.vnil,vi qx,vi qy,vi qz]],es:=15,ver:=0,frozen:=false,clean:=false },{ elems:=[ag [vi (N.pt (l.getD ix.toNat default).x (l.getD ix.toNat default).u p (N.len ((l.getD ix.toNat default).u-(l.getD ix.toNat default).x) ((l.getD ix.toNat default).v-(l.getD ix.toNat default).y) ((l.getD ix.toNat default).w-(l.getD ix.toNat default).z))),vi (N.pt (l.getD ix.toNat default).y (l.getD ix.toNat default).v p (N.len ((l.getD ix.toNat default).u-(l.getD ix.toNat default).x) ((l.getD ix.toNat default).v-(l.getD ix.toNat default).y) ((l.getD ix.toNat default).w-(l.getD ix.toNat default).z))),vi (N.pt (l.getD ix.toNat default).z (l.getD ix.toNat default).w p (N.len ((l.getD ix.toNat default).u-(l.getD ix.toNat default).x) ((l.getD ix.toNat default).v-(l.getD ix.toNat default).y) ((l.getD ix.toNat default).w-(l.getD ix.toNat default).z)))]],es:=3,ver:=0,frozen:=false,clean:=false },{ elems:=[ag [vi (l.getD ix.toNat default).x,vi (l.getD ix.toNat default).y,vi (l.getD ix.toNat default).z,vi (l.getD ix.toNat default).u,vi (l.getD ix.toNat default).v,vi (l.getD ix.toNat default).w,vi (l.getD ix.toNat default).r,vi (l.getD ix.toNat default).t,vi (l.getD ix.toNat default).b]],es:=9,ver:=0,frozen:=false,clean:=false },{ elems:=[ag [vi (N.pt (l.getD ix.toNat default).x (l.getD ix.toNat default).u p (N.len ((l.getD ix.toNat default).u-(l.getD ix.toNat default).x) ((l.getD ix.toNat default).v-(l.getD ix.toNat default).y) ((l.getD ix.toNat default).w-(l.getD ix.toNat default).z))),vi (N.pt (l.getD ix.toNat default).y (l.getD ix.toNat default).v p (N.len ((l.getD ix.toNat default).u-(l.getD ix.toNat default).x) ((l.getD ix.toNat default).v-(l.getD ix.toNat default).y) ((l.getD ix.toNat default).w-(l.getD ix.toNat default).z))),vi (N.pt (l.getD ix.toNat default).z (l.getD ix.toNat default).w p (N.len ((l.getD ix.toNat default).u-(l.getD ix.toNat default).x) ((l.getD ix.toNat default).v-(l.getD ix.toNat default).y) ((l.getD ix.toNat default).w-(l.getD ix.toNat default).z)))]],es:=3,ver:=0,frozen:=false,clean:=false }]))) :
 poC_at fm l S A j ix p k bk hd br qx qy qz X (Zat dv dK):=by
 unfold poC_at
 have w1:(List.map Mo.a l).length=l.length:=List.length_map ..
 have i2:((↑(List.map Mo.a l).length:Int)==0)=true ↔ ((↑l.length:Int)=0):=(by (try rw [w1]);all_goals exact i_eq)
 rcases xq H with ⟨d3,H⟩|⟨d3,H⟩
 ·exact Zai (G:=Zab kp13 [] []) 1000 [true] (k:=((atC (cd Try.f13) [1,0,0,1,0,1])).tail) (env':=[(2,AV.ptr 1 0 0 0)]) (L':=[⟨[ag [AV.vec fm 9 (List.map Mo.a l),vi S,vi A,vi j,vi ix,vi p,vf (List.map vi X),vi k,vb bk,vb hd,vb br,AV.vnil,vi qx,vi qy,vi qz]],15,0,false,false⟩,⟨[ag [vi 0,vi 0,vi 0]],3,0,false,false⟩]) (asm:=[true,((↑(List.map Mo.a l).length:Int)==0)==true,true]) (eqs:=[]) (calls:=[]) (ag [vi 0,vi 0,vi 0]) (by kernel_rfl) (by kernel_rfl) (Zaa rfl (Zaa (Zam (i2.2 d3)) (Zaa rfl Zae))) Zaf Zag H
 ·have i4:(ix==(↑(List.map Mo.a l).length:Int))=true ↔ (ix=(↑l.length:Int)):=(by (try rw [w1]);all_goals exact i_eq)
  rcases xq H with ⟨d5,H⟩|⟨d5,H⟩
  ·obtain ⟨k6,H⟩:=H
   have w7:wi (ix-1)=ix-1:=wI64 k6
   have i8:(decide (0<=wi (ix-1)))=true ↔ (0<=ix-1):=(by (try rw [w7]);all_goals exact Zad)
   obtain ⟨k9,H⟩:=H
   have i10:(decide ((wi (ix-1)).toNat<(List.map Mo.a l).length))=true ↔ ((ix-1).toNat<l.length):=(by (try rw [w1]);(try rw [w7]);all_goals exact Zad)
   obtain ⟨k11,H⟩:=H
   exact Zai (G:=Zab kp13 [(4,11,.elem (zCxH22 l ix))] []) 1000 [false,true] (k:=((atC (cd Try.f13) [1,0,0,1,1,1,0,1])).tail) (env':=[(2,AV.ptr 1 0 0 0)]) (L':=[⟨[ag [AV.vec fm 9 (List.map Mo.a l),vi S,vi A,vi j,vi ix,vi p,vf (List.map vi X),vi k,vb bk,vb hd,vb br,AV.vnil,vi qx,vi qy,vi qz]],15,0,false,false⟩,⟨[(zCxH23 l ix)],3,0,false,false⟩]) (asm:=[true,((↑(List.map Mo.a l).length:Int)==0)==false,true,true,(ix==(↑(List.map Mo.a l).length:Int))==true,true,true,decide (0<=wi (ix-1)),decide ((wi (ix-1)).toNat<(List.map Mo.a l).length),true]) (eqs:=[((List.map Mo.a l).get?Internal (wi (ix-1)).toNat=some (zCxH22 l ix))]) (calls:=[]) ((zCxH23 l ix)) (by kernel_rfl) (by kernel_rfl) (Zaa rfl (Zaa (Zal (fun h=>d3 (i2.1 h))) (Zaa rfl (Zaa rfl (Zaa (Zam (i4.2 d5)) (Zaa rfl (Zaa rfl (Zaa (i8.2 k9) (Zaa (i10.2 k11) (Zaa rfl Zae)))))))))) (ZaQ (by (try rw [w7]);all_goals exact (Zaz k11)) Zaf) Zag H
  ·obtain ⟨k13,H⟩:=H
   have i14:(decide (ix.toNat<(List.map Mo.a l).length))=true ↔ (ix.toNat<l.length):=(by (try rw [w1]);all_goals exact Zad)
   obtain ⟨k15,k16,k17,H⟩:=H
   exact Zai (G:=Zab kp13 [(5,9,.elem ((zCxH20 l ix))),(6,9,.call (vi (Zfc l ix)) none),(6,10,.call (tu [(zCxH19 l ix p),vi 0]) none)] []) 1000 [false,false] (k:=((atC (cd Try.f13) [1,1,1,1,1])).tail) (env':=[(2,AV.ptr 1 0 0 0)]) (L':=[⟨[ag [AV.vec fm 9 (List.map Mo.a l),vi S,vi A,vi j,vi ix,vi p,vf (List.map vi X),vi k,vb bk,vb hd,vb br,AV.vnil,vi qx,vi qy,vi qz]],15,0,false,false⟩,⟨[(zCxH19 l ix p)],3,0,false,false⟩,⟨[(zCxH20 l ix)],9,0,false,false⟩,⟨[(zCxH19 l ix p)],3,0,false,false⟩]) (asm:=[true,((↑(List.map Mo.a l).length:Int)==0)==false,true,true,(ix==(↑(List.map Mo.a l).length:Int))==false,true,true,decide (0<=ix),decide (ix.toNat<(List.map Mo.a l).length),true,true,true,true,true,true,true,true]) (eqs:=[((List.map Mo.a l).get?Internal ix.toNat=some ((zCxH20 l ix)))]) (calls:=[⟨true,false,51,[(zCxH20 l ix)],[],vi (Zfc l ix),[]⟩,⟨true,false,50,[ag [vi (l.getD ix.toNat default).x,vi (l.getD ix.toNat default).y,vi (l.getD ix.toNat default).z],ag [vi (l.getD ix.toNat default).u,vi (l.getD ix.toNat default).v,vi (l.getD ix.toNat default).w],vi p,vi (Zfc l ix)],[],tu [(zCxH19 l ix p),vi 0],[]⟩]) ((zCxH19 l ix p)) (by kernel_rfl) (by kernel_rfl) (Zaa rfl (Zaa (Zal (fun h=>d3 (i2.1 h))) (Zaa rfl (Zaa rfl (Zaa (Zal (fun h=>d5 (i4.1 h))) (Zaa rfl (Zaa rfl (Zaa (Zad.2 k13) (Zaa (i14.2 k15) (Zaa rfl (Zaa rfl (Zaa rfl (Zaa rfl (Zaa rfl (Zaa rfl (Zaa rfl (Zaa rfl Zae))))))))))))))))) (ZaQ (Zaz k15) Zaf) (Zaq (fun _=>(@ev51 ((l.getD ix.toNat default).x) ((l.getD ix.toNat default).y) ((l.getD ix.toNat default).z) ((l.getD ix.toNat default).u) ((l.getD ix.toNat default).v) ((l.getD ix.toNat default).w) ((l.getD ix.toNat default).r) ((l.getD ix.toNat default).t) ((l.getD ix.toNat default).b) k16)) (Zaq (fun _=>(@ev50 ((l.getD ix.toNat default).x) ((l.getD ix.toNat default).y) ((l.getD ix.toNat default).z) ((l.getD ix.toNat default).u) ((l.getD ix.toNat default).v) ((l.getD ix.toNat default).w) p (Zfc l ix) k17)) Zag)) H
noncomputable abbrev zCxH25 (l:List Mo) (ix:Int):=ag [vi (l.getD ix.toNat default).x,vi (l.getD ix.toNat default).y,vi (l.getD ix.toNat default).z,vi (l.getD ix.toNat default).u,vi (l.getD ix.toNat default).v,vi (l.getD ix.toNat default).w,vi (l.getD ix.toNat default).r,vi (l.getD ix.toNat default).t,vi (l.getD ix.toNat default).b]
noncomputable abbrev Zfb (l:List Mo) (ix:Int):=N.len ((l.getD ix.toNat default).u-(l.getD ix.toNat default).x) ((l.getD ix.toNat default).v-(l.getD ix.toNat default).y) ((l.getD ix.toNat default).w-(l.getD ix.toNat default).z)
noncomputable abbrev zCxH24 (l:List Mo) (ix:Int) (p:Int):=ag [vi (N.pt (l.getD ix.toNat default).x (l.getD ix.toNat default).u p (Zfb l ix)),vi (N.pt (l.getD ix.toNat default).y (l.getD ix.toNat default).v p (Zfb l ix)),vi (N.pt (l.getD ix.toNat default).z (l.getD ix.toNat default).w p (Zfb l ix))]
noncomputable abbrev zCxH27 (l:List Mo) (ix:Int):=ag [vi (l.getD (ix-1).toNat default).x,vi (l.getD (ix-1).toNat default).y,vi (l.getD (ix-1).toNat default).z,vi (l.getD (ix-1).toNat default).u,vi (l.getD (ix-1).toNat default).v,vi (l.getD (ix-1).toNat default).w,vi (l.getD (ix-1).toNat default).r,vi (l.getD (ix-1).toNat default).t,vi (l.getD (ix-1).toNat default).b]
noncomputable abbrev zCxH28 (l:List Mo) (ix:Int):=ag [vi (l.getD (ix-1).toNat default).u,vi (l.getD (ix-1).toNat default).v,vi (l.getD (ix-1).toNat default).w]
theorem poD (fm:Bool) (l:List Mo) (S A j ix p k:Int) (bk hd br:Bool) (qx qy qz:Int) (X:List Int) (P:List Mo) (w:Nat) (fz:Bool)  (dv:AV) (dK:Heap) (_:ZaB 2 dv dK=true) (H :
  (((↑l.length:Int)=0)->(Zat dv dK) (ag [vi 0,vi 0,vi 0]) [{ elems:=[ag [AV.vec fm 9 (List.map Mo.a l),vi S,vi A,vi j,vi ix,vi p,vf (List.map vi X),vi k,vb bk,vb hd,vb br,AV.row 1 w,vi qx,vi qy,vi qz]],es:=15,ver:=0,frozen:=false,clean:=false },{ elems:=List.map Mo.a P,es:=9,ver:=w,frozen:=fz,clean:=true },{ elems:=[ag [vi 0,vi 0,vi 0]],es:=3,ver:=0,frozen:=false,clean:=false }]) /\
  (¬((↑l.length:Int)=0)->((ix=(↑l.length:Int))->(-9223372036854775808<=ix-1/\ix-1<=9223372036854775807) /\
    (0<=ix-1) /\
    ((ix-1).toNat<l.length) /\
    (Zat dv dK) (ag [vi (l.getD (ix-1).toNat default).u,vi (l.getD (ix-1).toNat default).v,vi (l.getD (ix-1).toNat default).w]) [{ elems:=[ag [AV.vec fm 9 (List.map Mo.a l),vi S,vi A,vi j,vi ix,vi p,vf (List.map vi X),vi k,vb bk,vb hd,vb br,AV.row 1 w,vi qx,vi qy,vi qz]],es:=15,ver:=0,frozen:=false,clean:=false },{ elems:=List.map Mo.a P,es:=9,ver:=w,frozen:=fz,clean:=true },{ elems:=[ag [vi (l.getD (ix-1).toNat default).u,vi (l.getD (ix-1).toNat default).v,vi (l.getD (ix-1).toNat default).w]],es:=3,ver:=0,frozen:=false,clean:=false }]) /\
   (¬(ix=(↑l.length:Int))->(0<=ix) /\
    (ix.toNat<l.length) /\
    (N.cl ((l.getD ix.toNat default).u-(l.getD ix.toNat default).x)/\N.cl ((l.getD ix.toNat default).v-(l.getD ix.toNat default).y)/\N.cl ((l.getD ix.toNat default).w-(l.getD ix.toNat default).z)) /\
    (N.okPs (l.getD ix.toNat default).x (l.getD ix.toNat default).y (l.getD ix.toNat default).z (l.getD ix.toNat default).u (l.getD ix.toNat default).v (l.getD ix.toNat default).w p (N.len ((l.getD ix.toNat default).u-(l.getD ix.toNat default).x) ((l.getD ix.toNat default).v-(l.getD ix.toNat default).y) ((l.getD ix.toNat default).w-(l.getD ix.toNat default).z))) /\
    (Zat dv dK) (ag [vi (N.pt (l.getD ix.toNat default).x (l.getD ix.toNat default).u p (N.len ((l.getD ix.toNat default).u-(l.getD ix.toNat default).x) ((l.getD ix.toNat default).v-(l.getD ix.toNat default).y) ((l.getD ix.toNat default).w-(l.getD ix.toNat default).z))),vi (N.pt (l.getD ix.toNat default).y (l.getD ix.toNat default).v p (N.len ((l.getD ix.toNat default).u-(l.getD ix.toNat default).x) ((l.getD ix.toNat default).v-(l.getD ix.toNat default).y) ((l.getD ix.toNat default).w-(l.getD ix.toNat default).z))),vi (N.pt (l.getD ix.toNat default).z (l.getD ix.toNat default).w p (N.len ((l.getD ix.toNat default).u-(l.getD ix.toNat default).x) ((l.getD ix.toNat default).v-(l.getD ix.toNat default).y) ((l.getD ix.toNat default).w-(l.getD ix.toNat default).z)))]) [{ elems:=[ag [AV.vec fm 9 (List.map Mo.a l),vi S,vi A,vi j,vi ix,vi p,vf (List.map vi X),vi k,vb bk,vb hd,vb br,AV.row 1 w,vi qx,vi qy,vi qz]],es:=15,ver:=0,frozen:=false,clean:=false },{ elems:=List.map Mo.a P,es:=9,ver:=w,frozen:=fz,clean:=true },{ elems:=[ag [vi (N.pt (l.getD ix.toNat default).x (l.getD ix.toNat default).u p (N.len ((l.getD ix.toNat default).u-(l.getD ix.toNat default).x) ((l.getD ix.toNat default).v-(l.getD ix.toNat default).y) ((l.getD ix.toNat default).w-(l.getD ix.toNat default).z))),vi (N.pt (l.getD ix.toNat default).y (l.getD ix.toNat default).v p (N.len ((l.getD ix.toNat default).u-(l.getD ix.toNat default).x) ((l.getD ix.toNat default).v-(l.getD ix.toNat default).y) ((l.getD ix.toNat default).w-(l.getD ix.toNat default).z))),vi (N.pt (l.getD ix.toNat default).z (l.getD ix.toNat default).w p (N.len ((l.getD ix.toNat default).u-(l.getD ix.toNat default).x) ((l.getD ix.toNat default).v-(l.getD ix.toNat default).y) ((l.getD ix.toNat default).w-(l.getD ix.toNat default).z)))]],es:=3,ver:=0,frozen:=false,clean:=false },{ elems:=[ag [vi (l.getD ix.toNat default).x,vi (l.getD ix.toNat default).y,vi (l.getD ix.toNat default).z,vi (l.getD ix.toNat default).u,vi (l.getD ix.toNat default).v,vi (l.getD ix.toNat default).w,vi (l.getD ix.toNat default).r,vi (l.getD ix.toNat default).t,vi (l.getD ix.toNat default).b]],es:=9,ver:=0,frozen:=false,clean:=false },{ elems:=[ag [vi (N.pt (l.getD ix.toNat default).x (l.getD ix.toNat default).u p (N.len ((l.getD ix.toNat default).u-(l.getD ix.toNat default).x) ((l.getD ix.toNat default).v-(l.getD ix.toNat default).y) ((l.getD ix.toNat default).w-(l.getD ix.toNat default).z))),vi (N.pt (l.getD ix.toNat default).y (l.getD ix.toNat default).v p (N.len ((l.getD ix.toNat default).u-(l.getD ix.toNat default).x) ((l.getD ix.toNat default).v-(l.getD ix.toNat default).y) ((l.getD ix.toNat default).w-(l.getD ix.toNat default).z))),vi (N.pt (l.getD ix.toNat default).z (l.getD ix.toNat default).w p (N.len ((l.getD ix.toNat default).u-(l.getD ix.toNat default).x) ((l.getD ix.toNat default).v-(l.getD ix.toNat default).y) ((l.getD ix.toNat default).w-(l.getD ix.toNat default).z)))]],es:=3,ver:=0,frozen:=false,clean:=false }]))) :
 poD_at fm l S A j ix p k bk hd br qx qy qz X P w fz (Zat dv dK):=by
 unfold poD_at
 have w1:(List.map Mo.a l).length=l.length:=List.length_map ..
 have i2:((↑(List.map Mo.a l).length:Int)==0)=true ↔ ((↑l.length:Int)=0):=(by (try rw [w1]);all_goals exact i_eq)
 rcases xq H with ⟨d3,H⟩|⟨d3,H⟩
 ·exact Zai (G:=Zab kp13 [] []) 1000 [true] (k:=((atC (cd Try.f13) [1,0,0,1,0,1])).tail) (env':=[(2,AV.ptr 2 0 0 0)]) (L':=[⟨[ag [AV.vec fm 9 (List.map Mo.a l),vi S,vi A,vi j,vi ix,vi p,vf (List.map vi X),vi k,vb bk,vb hd,vb br,AV.row 1 w,vi qx,vi qy,vi qz]],15,0,false,false⟩,⟨List.map Mo.a P,9,w,fz,true⟩,⟨[ag [vi 0,vi 0,vi 0]],3,0,false,false⟩]) (asm:=[true,((↑(List.map Mo.a l).length:Int)==0)==true,true]) (eqs:=[]) (calls:=[]) (ag [vi 0,vi 0,vi 0]) (by kernel_rfl) (by kernel_rfl) (Zaa rfl (Zaa (Zam (i2.2 d3)) (Zaa rfl Zae))) Zaf Zag H
 ·have i4:(ix==(↑(List.map Mo.a l).length:Int))=true ↔ (ix=(↑l.length:Int)):=(by (try rw [w1]);all_goals exact i_eq)
  rcases xq H with ⟨d5,H⟩|⟨d5,H⟩
  ·obtain ⟨k6,H⟩:=H
   have w7:wi (ix-1)=ix-1:=wI64 k6
   have i8:(decide (0<=wi (ix-1)))=true ↔ (0<=ix-1):=(by (try rw [w7]);all_goals exact Zad)
   obtain ⟨k9,H⟩:=H
   have i10:(decide ((wi (ix-1)).toNat<(List.map Mo.a l).length))=true ↔ ((ix-1).toNat<l.length):=(by (try rw [w1]);(try rw [w7]);all_goals exact Zad)
   obtain ⟨k11,H⟩:=H
   exact Zai (G:=Zab kp13 [(4,11,.elem (zCxH27 l ix))] []) 1000 [false,true] (k:=((atC (cd Try.f13) [1,0,0,1,1,1,0,1])).tail) (env':=[(2,AV.ptr 2 0 0 0)]) (L':=[⟨[ag [AV.vec fm 9 (List.map Mo.a l),vi S,vi A,vi j,vi ix,vi p,vf (List.map vi X),vi k,vb bk,vb hd,vb br,AV.row 1 w,vi qx,vi qy,vi qz]],15,0,false,false⟩,⟨List.map Mo.a P,9,w,fz,true⟩,⟨[(zCxH28 l ix)],3,0,false,false⟩]) (asm:=[true,((↑(List.map Mo.a l).length:Int)==0)==false,true,true,(ix==(↑(List.map Mo.a l).length:Int))==true,true,true,decide (0<=wi (ix-1)),decide ((wi (ix-1)).toNat<(List.map Mo.a l).length),true]) (eqs:=[((List.map Mo.a l).get?Internal (wi (ix-1)).toNat=some (zCxH27 l ix))]) (calls:=[]) ((zCxH28 l ix)) (by kernel_rfl) (by kernel_rfl) (Zaa rfl (Zaa (Zal (fun h=>d3 (i2.1 h))) (Zaa rfl (Zaa rfl (Zaa (Zam (i4.2 d5)) (Zaa rfl (Zaa rfl (Zaa (i8.2 k9) (Zaa (i10.2 k11) (Zaa rfl Zae)))))))))) (ZaQ (by (try rw [w7]);all_goals exact (Zaz k11)) Zaf) Zag H
  ·obtain ⟨k13,H⟩:=H
   have i14:(decide (ix.toNat<(List.map Mo.a l).length))=true ↔ (ix.toNat<l.length):=(by (try rw [w1]);all_goals exact Zad)
   obtain ⟨k15,k16,k17,H⟩:=H
   exact Zai (G:=Zab kp13 [(5,9,.elem ((zCxH25 l ix))),(6,9,.call (vi (Zfb l ix)) none),(6,10,.call (tu [(zCxH24 l ix p),vi 0]) none)] []) 1000 [false,false] (k:=((atC (cd Try.f13) [1,1,1,1,1])).tail) (env':=[(2,AV.ptr 2 0 0 0)]) (L':=[⟨[ag [AV.vec fm 9 (List.map Mo.a l),vi S,vi A,vi j,vi ix,vi p,vf (List.map vi X),vi k,vb bk,vb hd,vb br,AV.row 1 w,vi qx,vi qy,vi qz]],15,0,false,false⟩,⟨List.map Mo.a P,9,w,fz,true⟩,⟨[(zCxH24 l ix p)],3,0,false,false⟩,⟨[(zCxH25 l ix)],9,0,false,false⟩,⟨[(zCxH24 l ix p)],3,0,false,false⟩]) (asm:=[true,((↑(List.map Mo.a l).length:Int)==0)==false,true,true,(ix==(↑(List.map Mo.a l).length:Int))==false,true,true,decide (0<=ix),decide (ix.toNat<(List.map Mo.a l).length),true,true,true,true,true,true,true,true]) (eqs:=[((List.map Mo.a l).get?Internal ix.toNat=some ((zCxH25 l ix)))]) (calls:=[⟨true,false,51,[(zCxH25 l ix)],[],vi (Zfb l ix),[]⟩,⟨true,false,50,[ag [vi (l.getD ix.toNat default).x,vi (l.getD ix.toNat default).y,vi (l.getD ix.toNat default).z],ag [vi (l.getD ix.toNat default).u,vi (l.getD ix.toNat default).v,vi (l.getD ix.toNat default).w],vi p,vi (Zfb l ix)],[],tu [(zCxH24 l ix p),vi 0],[]⟩]) ((zCxH24 l ix p)) (by kernel_rfl) (by kernel_rfl) (Zaa rfl (Zaa (Zal (fun h=>d3 (i2.1 h))) (Zaa rfl (Zaa rfl (Zaa (Zal (fun h=>d5 (i4.1 h))) (Zaa rfl (Zaa rfl (Zaa (Zad.2 k13) (Zaa (i14.2 k15) (Zaa rfl (Zaa rfl (Zaa rfl (Zaa rfl (Zaa rfl (Zaa rfl (Zaa rfl (Zaa rfl Zae))))))))))))))))) (ZaQ (Zaz k15) Zaf) (Zaq (fun _=>(@ev51 ((l.getD ix.toNat default).x) ((l.getD ix.toNat default).y) ((l.getD ix.toNat default).z) ((l.getD ix.toNat default).u) ((l.getD ix.toNat default).v) ((l.getD ix.toNat default).w) ((l.getD ix.toNat default).r) ((l.getD ix.toNat default).t) ((l.getD ix.toNat default).b) k16)) (Zaq (fun _=>(@ev50 ((l.getD ix.toNat default).x) ((l.getD ix.toNat default).y) ((l.getD ix.toNat default).z) ((l.getD ix.toNat default).u) ((l.getD ix.toNat default).v) ((l.getD ix.toNat default).w) p (Zfb l ix) k17)) Zag)) H
end Go.Av
