/- PART 6 of the texts of a claim, joined by a program: what each part shows stands at its head. -/
import Derived.Test.YtojapcnhajomcaaPart6f3782a09a

namespace Go.Av
open Go.RowKit
def Zel (x:Nat):List Nat->List (List Nat)
 | []=>[[x]]
 | y::l=>(x::y::l)::(Zel x l).map (y :: ·)
def perms:List Nat->List (List Nat)
 | []=>[[]]
 | x::l=>(perms l).flatMap (Zel x)
theorem Zfy {x:Nat}:∀ (s t:List Nat),s++x::t ∈ Zel x (s++t)
 | [],[]=>by simp [Zel]
 | [],y::t=>by simp [Zel]
 | y::s,t=>by
  simp only [List.cons_append,Zel]
  exact List.mem_cons_of_mem _ (List.mem_map.2 ⟨_,Zfy s t,rfl⟩)
theorem perms_mem:∀ (l:List Nat) {σ:List Nat},σ.Perm l->σ ∈ perms l
 | [],σ,h=>by rw [List.Perm.eq_nil h];simp [perms]
 | x::l,σ,h=>by
  obtain ⟨s,t,rfl⟩:=List.append_of_mem (h.mem_iff.2 (List.mem_cons_self ..))
  have:(s++t).Perm l:=List.Perm.cons_inv ((List.perm_middle (a:=x) (l₁:=s) (l₂:=t)).symm.trans h)
  exact List.mem_flatMap.2 ⟨_,perms_mem l this,Zfy s t⟩
def Ahead (l:List Nat) (i j:Nat):Prop:=Zap l i<Zap l j
structure OrdOk (ops:Array Oper) (C σ:List Nat) (hot:Nat->Nat) (l:List Nat):Prop where
 edge:∀ (j:Nat) (o:Oper),ops[j]? = some o -> ∀ e ∈ o.after,Region.binds .any e=true->e.on<j/\¬Ahead l j e.on
 swap:∀ i j a b,Ahead l i j->ops[i]? = some a->ops[j]? = some b->(i ∈ C/\j ∈ C/\Zap σ i<Zap σ j)\/Zcc hot ops i j a b=true\/ZeM ops i ops.size j=true
section
variable {M:Mach} {call:Zax} {n:Nat} {ops:Array Oper} {ans:Nat->Option Ans} {Q:Exit->Act->World->Prop}
def Alts (M:Mach) (call:Zax) (n:Nat) (ops:Array Oper) (ans:Nat->Option Ans) (Q:Exit->Act->World->Prop) (C:List Nat) (hot:List Nat->Nat->Nat) (l:List Nat->List Nat) (fuel:Nat) (listed:Array Bool) (s:RS) (S:St) (a:Act) (π:List Nat):Prop:=
 ∀ σ:List Nat,σ.Perm C->π <+: σ -> ∃ rest f,Left M call n ops ans (hot σ) (Ahead (l σ)) listed rest s f/\rest.length<=fuel /\
  (∀ b ∈ f.asm,b=true)/\(∀ q ∈ f.eqs,q)/\(∀ c ∈ f.calls,c.cond=true->ZbO M c) /\
  (∀ S' a',HeapOk S'->Ext S S'->S'.L=f.L->TRel S' f.env a'.tmps->a'.tmps.size=a.tmps.size->a'.defers=a.defers->Q .normal a' S'.w)
theorem draw_any {C:List Nat} {hot:List Nat->Nat->Nat} {l:List Nat->List Nat} (hnd:C.Nodup) (hok:∀ σ:List Nat,σ.Perm C->OrdOk ops C σ (hot σ) (l σ)) :
  ∀ (fuel:Nat) (listed:Array Bool) (s:RS) (S:St) (a:Act) (π:List Nat),(∃ σ:List Nat,σ.Perm C/\π <+: σ)->(∀ c ∈ C,c ∈ π ↔ listed.getD c false=true)->Alts M call n ops ans Q C hot l fuel listed s S a π ->
  HeapOk S->S.L=s.L->TRel S s.env a.tmps->n<=a.tmps.size->wpAny (M.P ()) .any ops Q fuel listed a S.w:=by
 intro fuel
 induction fuel with
 | zero =>
  intro listed s S a π ⟨σ,p1,p2⟩ hC hA hS hL hT hn
  obtain ⟨rest,f,hl,hlen,_,_,_,hK⟩:=hA σ p1 p2
  have:rest=[]:=List.length_eq_zero_iff.1 (Nat.le_zero.1 hlen)
  subst this
  have h:=hl.run
  simp only [Zau,Option.some.injEq] at h;subst h
  refine ⟨?_,hK S a hS (Ext.refl S) hL hT rfl rfl⟩
  apply List.eq_nil_iff_forall_not_mem.2
  intro j hj
  obtain ⟨h1,o,h2,_⟩:=mem_ready.1 hj
  have:=(hl.mem j).2 ⟨(Array.getElem?_eq_some_iff.1 h2).1,h1⟩
  cases this
 | succ fuel ih =>
  intro listed s S a π ⟨σ0,p1,p2⟩ hC hA hS hL hT hn
  refine ⟨fun hnil => ?_,fun j hj => ?_⟩
  ·obtain ⟨rest,f,hl,hlen,_,_,_,hK⟩:=hA σ0 p1 p2
   have:=hl.none (hok σ0 p1).edge hnil
   subst this
   have h:=hl.run
   simp only [Zau,Option.some.injEq] at h;subst h
   exact hK S a hS (Ext.refl S) hL hT rfl rfl
  ·obtain ⟨j1,oj0,j2,_⟩:=mem_ready.1 hj
   have hjs:j<ops.size:=(Array.getElem?_eq_some_iff.1 j2).1
   have hsz:listed.size=ops.size:=by
    obtain ⟨rest,f,hl,_⟩:=hA σ0 p1 p2
    exact hl.size
   obtain ⟨π',hπ',hpre,hex,hCj⟩:∃ π':List Nat,(j ∈ C->π'=π++[j])/\(∀ σ:List Nat,π' <+: σ->π <+: σ)/\(∃ σ:List Nat,σ.Perm C/\π' <+: σ)/\(∀ c ∈ C,c ∈ π' ↔ (listed.setIfInBounds j true).getD c false=true):=by
    by_cases hjC:j ∈ C
    ·refine ⟨π++[j],fun _=>rfl,fun σ h=>(List.prefix_append π [j]).trans h,?_,fun c hc => ?_⟩
     ·obtain ⟨τ,rfl⟩:=p2
      have hjn:j ∉ π:=fun h=>by
       have:=(hC j hjC).1 h
       rw [ZcB (by omega) false true] at this
       rw [j1] at this;cases this
      have hjt:j ∈ τ:=by
       rcases List.mem_append.1 (p1.mem_iff.2 hjC) with h | h
       ·exact absurd h hjn
       ·exact h
      refine ⟨π++[j]++τ.erase j,?_,List.prefix_append _ _⟩
      rw [List.append_assoc]
      exact ((List.perm_cons_erase hjt).symm.append_left π).trans p1
     ·by_cases e:j=c
      ·subst e
       simp [show j<listed.size by omega]
      ·rw [getD_set_ne false e,<- hC c hc]
       simp only [List.mem_append,List.mem_singleton]
       exact ⟨fun h=>h.resolve_right fun h=>e h.symm,.inl⟩
    ·refine ⟨π,fun h=>absurd h hjC,fun σ h=>h,⟨σ0,p1,p2⟩,fun c hc => ?_⟩
     rw [getD_set_ne false (fun e:j=c=>hjC (by rw [e];exact hc)),<- hC c hc]
   have pick:∀ σ:List Nat,σ.Perm C->π' <+: σ -> ∃ oj s1 f f' rest',ops[j]? = some oj/\Zbk M.P M.inl call n ops (ans j) (hot σ j) oj s=some s1/\Left M call n ops ans (hot σ) (Ahead (l σ)) (listed.setIfInBounds j true) rest' s1 f'/\RSEq f f'/\rest'.length<=fuel /\
     (∀ b ∈ f.asm,b=true)/\(∀ q ∈ f.eqs,q)/\(∀ c ∈ f.calls,c.cond=true->ZbO M c) /\
     (∀ S' a',HeapOk S'->Ext S S'->S'.L=f.L->TRel S' f.env a'.tmps->a'.tmps.size=a.tmps.size->a'.defers=a.defers->Q .normal a' S'.w):=by
    intro σ q1 q2
    obtain ⟨rest,f,hl,hlen,f1,f2,f3,f4⟩:=hA σ q1 (hpre σ q2)
    have hl2:Left M call n ops ans (hot σ) (fun i k=>Ahead (l σ) i k/\listed.getD i true=false) listed rest s f:=
     ⟨hl.size,hl.pw.imp_of_mem fun {x y} hx _ h=>⟨h,((hl.mem x).1 hx).2⟩,hl.mem,hl.closed,hl.run⟩
    obtain ⟨oj,s1,f',rest',g1,g2,g3,g4,g5⟩:=hl2.pick (fun i h=>Nat.lt_irrefl _ h.1) hj fun i a b h hi hb=>by
     rcases (hok σ q1).swap i j a b h.1 hi hb with ⟨c1,c2,c3⟩ | h
     ·exfalso
      rw [hπ' c2] at q2
      obtain ⟨τ,rfl⟩:=q2
      have hnd2:(π++[j]++τ).Nodup:=q1.nodup_iff.2 hnd
      have e1:Zap (π++[j]++τ) j=π.length:=ZcN hnd2 (by simp)
      rw [e1] at c3
      have e2:=ZbA (q1.mem_iff.2 c1)
      rw [List.append_assoc,List.getElem?_append_left (by rw [List.append_assoc] at c3;exact c3)] at e2
      have:=(hC i c1).1 (List.mem_of_getElem? e2)
      rw [ZcB (by rw [hsz];exact (Array.getElem?_eq_some_iff.1 hi).1) false true,h.2] at this
      cases this
     ·exact h
    exact ⟨oj,s1,f,f',rest',g1,g2,⟨g3.size,g3.pw.imp fun h=>h.1,g3.mem,g3.closed,g3.run⟩,g4,by omega,f1,f2,f3,f4⟩
   obtain ⟨σ1,r1,r2⟩:=hex
   obtain ⟨oj,s1,f,f',rest',hoj,h2,hl',k2,_,f1,f2,f3,_⟩:=pick σ1 r1 r2
   obtain ⟨env,L,x,y,z,he,_⟩:=ZaW _ hl'.run
   have hA':∀ b ∈ f'.asm,b=true:=fun b hb=>f1 b ((k2.a b).2 hb)
   have hQ':∀ b ∈ f'.eqs,b:=fun b hb=>f2 b ((k2.q b).2 hb)
   have hC':∀ c ∈ f'.calls,c.cond=true->ZbO M c:=fun b hb=>f3 b ((k2.k b).2 hb)
   refine Zck hS hL hT hn hoj h2 (fun b hb=>hA' b (by rw [he];simp [hb])) (fun b hb=>hQ' b (by rw [he];simp [hb])) (fun b hb=>hC' b (by rw [he];simp [hb])) fun S' a' m1 m2 m3 m4 m5 m6 => ?_
   refine ih _ s1 S' a' π' ⟨σ1,r1,r2⟩ hCj (fun σ q1 q2 => ?_) m1 m3 m4 (by rw [m5];exact hn)
   obtain ⟨oj2,s2,g,g',rest2,hoj2,h22,hl2',kk2,hlen2,g1,g2,g3,g4⟩:=pick σ q1 q2
   rw [hoj] at hoj2;cases hoj2
   have:=runOp_hot h2 h22
   subst this
   exact ⟨rest2,g',hl2',hlen2,fun b hb=>g1 b ((kk2.a b).2 hb),fun b hb=>g2 b ((kk2.q b).2 hb),fun b hb=>g3 b ((kk2.k b).2 hb),
    fun S'' a'' q1 q2 q3 q4 q5 q6=>g4 S'' a'' q1 (m2.trans q2) (q3.trans kk2.L.symm) (q4.congr fun t=>(kk2.get t).symm) (q5.trans m5) (q6.trans m6)⟩
end
def ordOk (ops:Array Oper) (C σ:List Nat) (hot:Nat->Nat) (l:List Nat):Bool:=
 (Zft l&&(((List.range ops.size).all fun i=>l.contains i)&&l.all fun i=>Nat.blt i ops.size)) &&
 ((List.range ops.size).all fun j=>match ops[j]? with
  | some o=>o.after.toList.all fun e => !Region.binds .any e||(Nat.blt e.on j&&Nat.ble (Zap l e.on) (Zap l j))
  | none=>true) &&
 ((List.range ops.size).all fun j=>(List.range ops.size).all fun i => !Nat.blt (Zap l i) (Zap l j)||((C.contains i&&(C.contains j&&Nat.blt (Zap σ i) (Zap σ j))) ||
  match ops[i]?,ops[j]? with
  | some a,some b=>Zcc hot ops i j a b||ZeM ops i ops.size j
  | _,_=>true))
theorem Zgv {ops:Array Oper} {C σ:List Nat} {hot:Nat->Nat} {l:List Nat} (h:ordOk ops C σ hot l=true):OrdOk ops C σ hot l/\l.Nodup/\(∀ i,i ∈ l ↔ i<ops.size):=by
 unfold ordOk at h
 simp only [Bool.and_eq_true,List.all_eq_true,List.mem_range,List.contains_iff_mem,Nat.blt_eq] at h
 obtain ⟨⟨⟨h1,h2,h3⟩,h4⟩,h5⟩:=h
 have hnd:=(Zbm l).1 h1
 refine ⟨⟨fun j o ho e he hb => ?_,fun i j a b hij hi hj => ?_⟩,hnd,fun i=>⟨h3 i,fun hi => ?_⟩⟩
 ·have:=h4 j (Array.getElem?_eq_some_iff.1 ho).1
  rw [ho] at this
  have:=List.all_eq_true.1 this e (by simpa using he)
  rw [hb] at this
  simp only [Bool.not_true,Bool.false_or,Bool.and_eq_true,Nat.blt_eq,Nat.ble_eq] at this
  exact ⟨this.1,Nat.not_lt.2 this.2⟩
 ·have:=h5 j (Array.getElem?_eq_some_iff.1 hj).1 i (Array.getElem?_eq_some_iff.1 hi).1
  rw [hi,hj] at this
  simp only [Bool.or_eq_true,Bool.not_eq_true',Bool.and_eq_true,List.contains_iff_mem,Nat.blt_eq] at this
  rcases this with h | h | h
  ·have:=Nat.blt_eq.mpr hij
   rw [this] at h;cases h
  ·exact .inl ⟨h.1,h.2.1,h.2.2⟩
  ·exact .inr h
 ·exact h2 i hi
def ordRun (M:Mach) (call:Zax) (n:Nat) (ops:Array Oper) (ans:Nat->Option Ans) (hot:Nat->Nat) (keep C σ l rs:List Nat) (env:Vars) (L:Heap):Option (Vars × Heap × List Bool × List Prop × List CF):=
 match ordOk ops C σ hot l,Zau M.P M.inl call n ops ans hot l ⟨lift env,L,[],[],[]⟩ with
 | true,some s=>match Zbp s.L rs (Zbu keep s.env),Nat.beq rs.length s.L.length&&(List.range L.length).all fun i=>(match rs[i]? with | some r=>Nat.beq r i | none=>false) with
  | some (e,K),true=>some (e,K,s.asm,s.eqs,s.calls)
  | _,_=>none
 | _,_=>none
theorem any_sound {M:Mach} (hm:(M.P ()).follows .mixedOrders=true) {fi:Fi} {id:Nat} {ops:Array Oper} {env:Vars} {L:Heap} {call:Zax} {ans:Nat->Option Ans} {keep C:List Nat} {hot:List Nat->Nat->Nat} {l rs:List Nat->List Nat} {e1:Vars} {L1:Heap} (hnd:C.Nodup)
  (h:∀ σ ∈ perms C,∃ asl qs cl,ordRun M call fi.n ops ans (hot σ) keep C σ (l σ) (rs σ) env L=some (e1,L1,asl,qs,cl)/\(∀ b ∈ asl,b=true)/\(∀ q ∈ qs,q)/\(∀ c ∈ cl,c.cond=true->ZbO M c))
  {S:St} {a:Act} (h5:HeapOk S) (h6:S.L=L) (h7:VRel S env a.tmps) (h8:fi.n<=a.tmps.size) :
  RegR (M.P ()) id ops true (fun a' w' => ∃ S':St,S'.w=w'/\HeapOk S'/\Ext S S'/\S'.L=L1/\VRel S' e1 a'.tmps/\a'.tmps.size=a.tmps.size/\a'.defers=a.defers) a S.w:=by
 refine regR_any hm ?_
 obtain ⟨n1,n2⟩:=Zcb h5 (w':={ S.w with drawn:=S.w.drawn+1 }) ⟨rfl,rfl,rfl,Nat.le_refl _,fun _ _=>rfl⟩ (fun _ _=>rfl)
 have key:∀ σ:List Nat,σ.Perm C -> ∃ s asl qs cl,ordOk ops C σ (hot σ) (l σ)=true/\Zau M.P M.inl call fi.n ops ans (hot σ) (l σ) ⟨lift env,L,[],[],[]⟩=some s/\Zbp s.L (rs σ) (Zbu keep s.env)=some (e1,L1) /\
   (∀ r,r<L.length->(rs σ)[r]? = some r)/\(∀ b ∈ s.asm,b=true)/\(∀ q ∈ s.eqs,q)/\(∀ c ∈ s.calls,c.cond=true->ZbO M c)/\asl=s.asm/\qs=s.eqs/\cl=s.calls:=by
  intro σ hσ
  obtain ⟨asl,qs,cl,hr,h1,h2,h3⟩:=h σ (perms_mem C hσ)
  unfold ordRun at hr
  split at hr
  ·rename_i s ho hs
   split at hr
   ·rename_i e K hn hall
    simp only [Option.some.injEq,Prod.mk.injEq] at hr
    obtain ⟨rfl,rfl,rfl,rfl,rfl⟩:=hr
    simp only [Bool.and_eq_true,List.all_eq_true,List.mem_range] at hall
    refine ⟨s,_,_,_,ho,hs,hn,fun r hr => ?_,h1,h2,h3,rfl,rfl,rfl⟩
    have:=hall.2 r hr
    cases h:(rs σ)[r]? with
    | none=>rw [h] at this;simp at this
    | some q=>rw [h] at this;simp only [Nat.beq_eq] at this;rw [this]
   ·simp at hr
  ·simp at hr
 refine draw_any (call:=call) (ans:=ans) (C:=C) (hot:=hot) (l:=l) hnd (fun σ hσ => ?_) ops.size (Array.replicate ops.size false) ⟨lift env,L,[],[],[]⟩ ⟨S.base,S.acc,S.L,S.β,{ S.w with drawn:=S.w.drawn+1 }⟩ a [] ⟨C,.refl _,List.nil_prefix⟩ (fun c hc => ?_) (fun σ hσ _ => ?_) n1 h6 ((Zcm h7).mono n2) h8
 ·obtain ⟨s,_,_,_,ho,_⟩:=key σ hσ
  exact (Zgv ho).1
 ·constructor
  ·intro h;cases h
  ·intro h
   by_cases hlt:c<ops.size <;> simp [hlt] at h
 ·obtain ⟨s,_,_,_,ho,hs,hn,hid,a1,a2,a3,_⟩:=key σ hσ
  obtain ⟨_,hndl,hmem⟩:=Zgv ho
  refine ⟨l σ,s,⟨by simp,?_,fun i => ?_,fun j o _ hj => ?_,hs⟩,?_,a1,a2,a3,fun S' a' k1 k2 k3 k4 k5 k6 => ?_⟩
  ·refine List.pairwise_iff_getElem.2 fun i j hi hj hij => ?_
   show Zap _ _<Zap _ _
   rw [ZcN hndl (List.getElem?_eq_getElem hi),ZcN hndl (List.getElem?_eq_getElem hj)]
   exact hij
  ·rw [hmem]
   constructor
   ·intro h;exact ⟨h,by simp [h]⟩
   ·intro h;exact h.1
  ·by_cases hlt:j<ops.size <;> simp [hlt] at hj
  ·have hp:(l σ).Perm (List.range ops.size):=(List.perm_ext_iff_of_nodup hndl List.nodup_range).2 fun i=>by rw [hmem,List.mem_range]
   rw [hp.length_eq];simp
  ·unfold Zbp at hn
   split at hn
   ·rename_i rows hrows
    split at hn
    ·rename_i hc
     simp only [Option.some.injEq,Prod.mk.injEq] at hn
     obtain ⟨rfl,rfl⟩:=hn
     simp only [Bool.and_eq_true,List.all_eq_true,List.contains_iff_mem] at hc
     obtain ⟨hnd',ha,hcl⟩:=hc
     have hnd':=(Zbm (rs σ)).1 hnd'
     rw [<- k3] at hrows
     obtain ⟨p1,p2,p3⟩:=perm_ok k1 n1 k2 hrows hnd' hcl (fun r hr=>hid r (by rw [<- h6];exact hr))
     refine ⟨⟨S'.base,S'.acc,rows.map (Zaj (Zap (rs σ))),subβ S'.β (rs σ),S'.w⟩,rfl,p1,n2.trans p2,rfl,fun t => ?_,k5,k6⟩
     rw [get_renV]
     exact p3 _ _ (ZbK k4 keep t) fun r hr=>ha r (rows_get hr)
    ·simp at hn
   ·simp at hn
end Go.Av

namespace Go.Av
open Go.RowKit
def tryHot (P:Unit->Program) (inl:FuncId->Bool) (call:Zax) (n:Nat) (ops:Array Oper) (an:Option Ans) (i:Nat) (o:Oper) (s:RS):List (List Nat)->Option (List Nat × RS)
 | []=>none
 | c::cs=>match Zbk P inl call n ops an (hotOf ops c i) o s with
  | some s'=>some (c,s')
  | none=>tryHot P inl call n ops an i o s cs
def hotCands (ρ:Operand->AV) (L:Heap) (i:Nat) (o:Oper):List (List Nat):=
 (match Zfp ρ o with
  | some [r]=>[[i+1000*(r+2)]]
  | some []=>[[i+502000]]
  | _=>[])++(match Zb9 ρ L o with
  | some [r]=>[[i+1000*(r+2)],[i,i+1000*(r+2)]]
  | _=>[])++[[],[i+1000],[i]]
def autoHot (P:Unit->Program) (inl:FuncId->Bool) (call:Zax) (n:Nat) (ops:Array Oper) (ans:Nat->Option Ans):List Nat->RS->List Nat
 | [],_=>[]
 | i::rest,s=>match ops[i]? with
  | none=>autoHot P inl call n ops ans rest s
  | some o=>match tryHot P inl call n ops (ans i) i o s (hotCands (ev s.env []) s.L i o) with
   | some (c,s')=>c++autoHot P inl call n ops ans rest s'
   | none=>[]
def layOps (P:Unit->Program) (inl:FuncId->Bool) (call:Zax) (n:Nat) (ops:Array Oper) (ans:Nat->Option Ans):List Nat->RS->List Nat
 | [],_=>[]
 | i::rest,s=>match ops[i]? with
  | none=>layOps P inl call n ops ans rest s
  | some o=>match Zbk P inl call n ops (ans i) 2 o s with
   | some s'=>bif Nat.blt s.L.length s'.L.length then i::layOps P inl call n ops ans rest s' else layOps P inl call n ops ans rest s'
   | none=>[]
def readyO (ops:Array Oper) (done:List Nat) (i:Nat):Bool:=match ops[i]? with
 | some o=>o.after.toList.all fun e => !Region.binds .any e||done.contains e.on
 | none=>true
def ordGo (ops:Array Oper) (C:List Nat):Nat->List Nat->List Nat->List Nat->List Nat
 | 0,_,_,_=>[]
 | n+1,σ,rest,done=>match rest.find? (fun i=>readyO ops done i&&(!C.contains i||(match σ with
   | c::_=>Nat.beq c i
   | []=>false))) with
  | some i=>i::ordGo ops C n (bif C.contains i then σ.tail else σ) (rest.erase i) (i::done)
  | none=>[]
def hotX (M:Mach) (call:Zax) (n:Nat) (ops:Array Oper) (ans:Nat->Option Ans) (C:List Nat) (env:Vars) (L:Heap) (σ:List Nat):Nat->Nat:=
 hotOf ops (autoHot M.P M.inl call n ops ans (ordGo ops C ops.size σ (List.range ops.size) []) ⟨lift env,L,[],[],[]⟩)
def rsX (M:Mach) (call:Zax) (n:Nat) (ops:Array Oper) (ans:Nat->Option Ans) (C:List Nat) (env:Vars) (L:Heap) (σ:List Nat):List Nat:=
 List.range L.length++(match C with
  | []=>(match Zau M.P M.inl call n ops ans (hotX M call n ops ans C env L σ) (ordGo ops C ops.size σ (List.range ops.size) []) ⟨lift env,L,[],[],[]⟩ with
   | some s=>List.range' L.length (s.L.length-L.length)
   | none=>[])
  | _=>C.map fun c=>L.length+Zap σ c)
def ordX (M:Mach) (call:Zax) (n:Nat) (ops:Array Oper) (ans:Nat->Option Ans) (keep C:List Nat) (env:Vars) (L:Heap) (σ:List Nat):Option (Vars × Heap × List Bool × List Prop × List CF):=
 ordRun M call n ops ans (hotX M call n ops ans C env L σ) keep C σ (ordGo ops C ops.size σ (List.range ops.size) []) (rsX M call n ops ans C env L σ) env L
mutual
def beqB:AV->AV->Bool
 | .any,.any=>true
 | .bool a,.bool b=>a==b
 | .int k n,.int j m=>decide (k=j)&&n==m
 | .str a,.str b=>a==b
 | .flt a,.flt b=>a==b
 | .agg a,.agg b=>beqBL a b
 | .tup a,.tup b=>beqBL a b
 | .vec f es a,.vec g fs b=>f==g&&(es==fs&&beqBL a b)
 | .eptr es a i j,.eptr fs b k l=>es==fs&&(beqBL a b&&(i==k&&j==l))
 | .ptr r v i j,.ptr s u k l=>r==s&&(v==u&&(i==k&&j==l))
 | .row r v,.row s u=>r==s&&v==u
 | .ref r v i j,.ref s u k l=>r==s&&(v==u&&(i==k&&j==l))
 | .nilp,.nilp=>true
 | .vnil,.vnil=>true
 | .nilf,.nilf=>true
 | .nilm,.nilm=>true
 | .mapr r,.mapr s=>r==s
 | _,_=>false
def beqBL:List AV->List AV->Bool
 | [],[]=>true
 | a::l,b::m=>beqB a b&&beqBL l m
 | _,_=>false
end
mutual
theorem beqB_eq:∀ (a b:AV),beqB a b=true->a=b
 | .any,b,h=>by cases b <;> simp [beqB] at h;rfl
 | .bool a,b,h=>by cases b <;> simp [beqB] at h;rw [h]
 | .int k n,b,h=>by cases b <;> simp [beqB] at h;rw [h.1,h.2]
 | .str a,b,h=>by cases b <;> simp [beqB] at h;rw [h]
 | .flt a,b,h=>by cases b <;> simp [beqB] at h;rw [h]
 | .agg a,b,h=>by cases b <;> simp [beqB] at h;rw [beqBL_eq a _ h]
 | .tup a,b,h=>by cases b <;> simp [beqB] at h;rw [beqBL_eq a _ h]
 | .vec f es a,b,h=>by cases b <;> simp [beqB] at h;rw [h.1,h.2.1,beqBL_eq a _ h.2.2]
 | .eptr es a i j,b,h=>by cases b <;> simp [beqB] at h;rw [h.1,beqBL_eq a _ h.2.1,h.2.2.1,h.2.2.2]
 | .ptr r v i j,b,h=>by cases b <;> simp [beqB] at h;rw [h.1,h.2.1,h.2.2.1,h.2.2.2]
 | .row r v,b,h=>by cases b <;> simp [beqB] at h;rw [h.1,h.2]
 | .ref r v i j,b,h=>by cases b <;> simp [beqB] at h;rw [h.1,h.2.1,h.2.2.1,h.2.2.2]
 | .nilp,b,h=>by cases b <;> simp [beqB] at h;rfl
 | .vnil,b,h=>by cases b <;> simp [beqB] at h;rfl
 | .nilf,b,h=>by cases b <;> simp [beqB] at h;rfl
 | .nilm,b,h=>by cases b <;> simp [beqB] at h;rfl
 | .mapr r,b,h=>by cases b <;> simp [beqB] at h;rw [h]
 | .func ..,b,h=>by cases b <;> simp [beqB] at h
theorem beqBL_eq:∀ (a b:List AV),beqBL a b=true->a=b
 | [],b,h=>by cases b <;> simp [beqBL] at h;rfl
 | a::l,b,h=>by
  cases b with
  | nil=>simp [beqBL] at h
  | cons b m=>simp [beqBL] at h;rw [beqB_eq a b h.1,beqBL_eq l m h.2]
end
def ZdO:Vars->Vars->Bool
 | [],[]=>true
 | (t,a)::l,(u,b)::m=>Nat.beq t u&&(beqB a b&&ZdO l m)
 | _,_=>false
def ZbC:Heap->Heap->Bool
 | [],[]=>true
 | a::l,b::m=>beqBL a.elems b.elems&&(Nat.beq a.es b.es&&(Nat.beq a.ver b.ver&&(a.frozen==b.frozen&&(a.clean==b.clean&&ZbC l m))))
 | _,_=>false
theorem ZgU:∀ (a b:Vars),ZdO a b=true->a=b
 | [],b,h=>by cases b <;> simp [ZdO] at h;rfl
 | (t,a)::l,b,h=>by
  match b,h with
  | [],h=>simp [ZdO] at h
  | (u,b)::m,h =>
   simp only [ZdO,Bool.and_eq_true,Nat.beq_eq] at h
   rw [h.1,beqB_eq a b h.2.1,ZgU l m h.2.2]
theorem Zdy:∀ (a b:Heap),ZbC a b=true->a=b
 | [],b,h=>by cases b <;> simp [ZbC] at h;rfl
 | a::l,b,h=>by
  match b,h with
  | [],h=>simp [ZbC] at h
  | b::m,h =>
   simp only [ZbC,Bool.and_eq_true,Nat.beq_eq,beq_iff_eq] at h
   obtain ⟨h1,h2,h3,h4,h5,h6⟩:=h
   rw [Zdy l m h6]
   obtain ⟨ae,a2,a3,a4,a5⟩:=a
   obtain ⟨be,b2,b3,b4,b5⟩:=b
   simp only at h1 h2 h3 h4 h5
   rw [beqBL_eq _ _ h1,h2,h3,h4,h5]
def anyX (M:Mach) (call:Zax) (n:Nat) (ops:Array Oper) (ans:Nat->Option Ans) (keep:List Nat) (env:Vars) (L:Heap) (C:List Nat):Option (Vars × Heap):=
 match ordX M call n ops ans keep C env L C with
 | some (e,K,_,_,_)=>bif Zft C&&(perms C).all (fun σ=>match ordX M call n ops ans keep C env L σ with
   | some (e',K',asm,[],_)=>(asm.all fun b=>b)&&(ZdO e' e&&ZbC K' K)
   | _=>false) then some (e,K) else none
 | none=>none
theorem good_snd {M:Mach} (hm:(M.P ()).follows .mixedOrders=true) {call:Zax} (hc:AnsOk M call) {cs:List CF} (h:∀ c ∈ cs,Zf5 M.inl call c):∀ c ∈ cs,c.cond=true->ZbO M c:=by
 intro c hcm _
 unfold ZbO
 cases hown:c.own with
 | true =>
  refine OwnQ.snd (Zbn hm (c:=.own c.f c.args c.L) ?_)
  rcases h c hcm with ⟨_,h2,o,h3,h4⟩ | ⟨h2,L1,h3⟩ | ⟨h2,_⟩
  ·rw [h4];exact (hc _ _ _ _ _ h3).1 h2
  ·have:=((hc _ _ _ _ _ h3).2 h2).1;simp at this
  ·rw [hown] at h2;simp at h2
 | false =>
  refine PureR.snd (Zbn hm (c:=.pure c.f c.args) ?_)
  rcases h c hcm with ⟨h2,_⟩ | ⟨h2,L1,h3⟩ | ⟨_,h2,h3⟩
  ·rw [hown] at h2;simp at h2
  ·have:=((hc _ _ _ _ _ h3).2 h2).1;simp at this
  ·exact ((hc _ _ _ _ _ h3).2 h2).2
theorem ordRun_good {M:Mach} {call:Zax} {n:Nat} {ops:Array Oper} {ans:Nat->Option Ans} (hans:∀ i,ans i=none\/ans i=some .keep) {hot:Nat->Nat} {keep C σ l rs:List Nat} {env:Vars} {L:Heap} {e:Vars} {K:Heap} {asm:List Bool} {qs:List Prop} {cs:List CF}
  (h:ordRun M call n ops ans hot keep C σ l rs env L=some (e,K,asm,qs,cs)):∀ c ∈ cs,Zf5 M.inl call c:=by
 unfold ordRun at h
 split at h
 ·rename_i s _ hs
  split at h
  ·simp only [Option.some.injEq,Prod.mk.injEq] at h
   obtain ⟨_,_,_,_,rfl⟩:=h
   exact ZdA hans _ hs (by intro c hc;cases hc)
  ·simp at h
 ·simp at h
theorem ZgW {M:Mach} (hm:(M.P ()).follows .mixedOrders=true) {call:Zax} (hc:AnsOk M call) {fi:Fi} {id:Nat} {ops:Array Oper} {ans:Nat->Option Ans} (hans:∀ i,ans i=none\/ans i=some .keep) {keep C:List Nat} {env e1:Vars} {L L1:Heap} {k:List Item} {Q:AV->Heap->Prop}
  (h:anyX M call fi.n ops ans keep env L C=some (e1,L1)) (hk:Wp M (.run fi k e1 L1) Q):Wp M (.run fi (.code (.region id ops true)::k) env L) Q:=by
 unfold anyX at h
 split at h
 ·rename_i e K _ _ _ he
  cases hb:(Zft C&&(perms C).all (fun σ=>match ordX M call fi.n ops ans keep C env L σ with
   | some (e',K',asm,[],_)=>(asm.all fun b=>b)&&(ZdO e' e&&ZbC K' K)
   | _=>false)) with
  | false=>rw [hb] at h;simp at h
  | true =>
   rw [hb] at h
   simp only [cond_true,Option.some.injEq,Prod.mk.injEq] at h
   obtain ⟨rfl,rfl⟩:=h
   simp only [Bool.and_eq_true,List.all_eq_true] at hb
   obtain ⟨b1,b2⟩:=hb
   refine .sem (ZaV.after fun S a h5 h6 h7 h8 b k2 cs hbb => ?_)
   obtain ⟨a',w',⟨S',e0,n1,n2,n3,n4,n5,n6⟩,hs⟩:=any_sound hm (id:=id) (fi:=fi) (ops:=ops) (env:=env) (L:=L) (call:=call) (ans:=ans) (keep:=keep) (C:=C)
    (hot:=hotX M call fi.n ops ans C env L) (l:=fun σ=>ordGo ops C ops.size σ (List.range ops.size) []) (rs:=rsX M call fi.n ops ans C env L) (e1:=e) (L1:=K) ((Zbm C).1 b1) (fun σ hσ=>by
      have:=b2 σ hσ
      split at this
      ·rename_i e' K' asm cs' ho
       simp only [Bool.and_eq_true,List.all_eq_true] at this
       obtain ⟨t1,t2,t3⟩:=this
       have:=ZgU _ _ t2;subst this
       have:=Zdy _ _ t3;subst this
       exact ⟨asm,[],cs',ho,t1,by simp,good_snd hm hc (ordRun_good hans ho)⟩
      ·simp at this) h5 h6 h7 h8 b k2 cs hbb
   exact ⟨a',w',⟨S',e,e0,n1,n2,n3.symm ▸ Zbn hm hk,n4,n5,n6⟩,hs⟩
 ·simp at h
def anyXX (M:Mach) (call:Zax) (n:Nat) (ops:Array Oper) (ans:Nat->Option Ans) (keep:List Nat) (env:Vars) (L:Heap):Option (Vars × Heap):=
 match anyX M call n ops ans keep env L [] with
 | some r=>some r
 | none=>anyX M call n ops ans keep env L (layOps M.P M.inl call n ops ans (List.range ops.size) ⟨lift env,L,[],[],[]⟩)
def toI:AV->Int
 | .int _ n=>n
 | _=>0
def Zfm (M:Mach) (n:Nat) (p0 p1:Tmp) (opsA:Array Oper) (keepA:List Nat) (env:Vars) (run:Vars->Heap->Option (AV × Heap)):List (AV × AV)->Heap->Option Heap
 | [],L=>some L
 | x::xs,L=>match Zau M.P M.inl (fun _ _ _=>none) n opsA (fun _=>none) (fun _=>2) (List.range opsA.size) ⟨lift ((p1,x.2)::(p0,x.1)::env),L,[],[],[]⟩ with
  | some ⟨e,K,[],[],[]⟩=>bif ZbC K L then (match run (Zbu keepA e) L with
   | some (_,L1)=>Zfm M n p0 p1 opsA keepA env run xs L1
   | none=>none) else none
  | _=>none
def isIt:Option FuncId->Nat->Bool
 | some j,it=>Nat.beq it j
 | none,_=>false
theorem isIt_eq {o:Option FuncId} {it:Nat} (h:isIt o it=true):o=some it:=by
 cases o with
 | none=>simp [isIt] at h
 | some j=>simp [isIt] at h;rw [h]
def runZ (M:Mach) (itf:Option FuncId) (fi:Fi) (kp kr:List (Nat × List Nat)) (call:Zax):Nat->List Item->Vars->Heap->Option (AV × Heap)
 | 0,_,_,_=>none
 | n+1,todo,env,L =>
  match todo with
  | []=>match finish M.P fi env L with
   | some v=>some (v,L)
   | none=>none
  | .inBlock _::k=>runZ M itf fi kp kr call n k env L
  | .inLoop b::k=>runZ M itf fi kp kr call n (.code b :: .inLoop b::k) env L
  | .code c::k =>
   match c with
   | .skip=>runZ M itf fi kp kr call n k env L
   | .seq a b=>runZ M itf fi kp kr call n (.code a :: .code b::k) env L
   | .cond c a b=>match evV env c with
    | .bool t=>runZ M itf fi kp kr call n (.code (bif t then a else b)::k) env L
    | _=>none
   | .block id b=>runZ M itf fi kp kr call n (.code b :: .inBlock id::k) env L
   | .loop b=>runZ M itf fi kp kr call n (.code b :: .inLoop b::k) env L
   | .exit id=>match exitTo id k with
    | some k'=>runZ M itf fi kp kr call n k' env L
    | none=>none
   | .region id ops true=>match anyXX M call fi.n ops (Zdc (ZaE kr id)) (ZaE kp id) env L with
    | some (e,K)=>runZ M itf fi kp kr call n k e K
    | none=>none
   | .region id ops false =>
    match Zau M.P M.inl call fi.n ops (Zdc (ZaE kr id)) (fun _=>2) (List.range ops.size) ⟨lift env,L,[],[],[]⟩ with
    | some s=>match s.asm.all (fun b=>b),s.eqs with
     | true,[]=>runZ M itf fi kp kr call n k (Zbu (ZaE kp id) s.env) s.L
     | _,_=>none
    | none=>none
   | .rangeFunc g ps (.region ida opsA false) body =>
    match evV env g,ps with
    | .func (.func it) [] [.eptr 1 [.vec f 1 xs] 0 0],⟨[p0,p1]⟩ =>
     bif isIt itf it&&(beqBL xs ((xs.map toI).map (.int .i64))&&(Nat.blt xs.length 4611686018427387904&&(Zc7 opsA&&(Zca body&&(Nat.blt p0 fi.n&&Nat.blt p1 fi.n))))) then
      match Zfm M fi.n p0 p1 opsA (ZaE kp ida) env (fun e K=>runZ M itf fi kp kr call n [.code body] e K) (bkX (xs.map toI)) L with
      | some L1=>runZ M itf fi kp kr call n k env L1
      | none=>none
     else none
    | _,_=>none
   | .ret=>match finish M.P fi env L with
    | some v=>some (v,L)
    | none=>none
   | _=>none
  | _=>none
theorem ZdX {M:Mach} (hm:(M.P ()).follows .mixedOrders=true) {fi:Fi} {p0 p1:Tmp} {opsA:Array Oper} {keepA:List Nat} {env:Vars} {body:Code} {run:Vars->Heap->Option (AV × Heap)} (hrun:∀ e K v K',run e K=some (v,K')->Ev M (.run fi [.code body] e K) v K') :
  ∀ (xs:List (AV × AV)) (L L2:Heap),Zfm M fi.n p0 p1 opsA keepA env run xs L=some L2->Rounds M fi p0 p1 opsA body env keepA xs L L2
 | [],L,L2,h=>by simp only [Zfm,Option.some.injEq] at h;subst h;exact .nil L
 | x::xs,L,L2,h=>by
  simp only [Zfm] at h
  split at h
  ·rename_i e K hr
   cases hb:ZbC K L with
   | false=>rw [hb] at h;simp at h
   | true =>
    rw [hb] at h
    have:=Zdy _ _ hb;subst this
    simp only [cond_true] at h
    split at h
    ·rename_i v L1 hr2
     exact .cons e hr (Zbn hm (.mono (hrun _ _ _ _ hr2) fun _ _ h=>h.2)) (ZdX hm hrun xs L1 L2 h)
    ·simp at h
  ·simp at h
theorem runZ_sound {M:Mach} (hm:(M.P ()).follows .mixedOrders=true) {itf:Option FuncId} (hI:∀ it,itf=some it->(∀ args w,(callFunc it args).run (M.P ()) w = .ok (.enter it args) w) /\ ∀ (f:Bool) (X:List Int),X.length<4611686018427387904->ZfY M it (.eptr 1 [.vec f 1 (X.map (.int .i64))] 0 0) (bkX X))
  {fi:Fi} {kp kr:List (Nat × List Nat)} {call:Zax} (hc:AnsOk M call):∀ (n:Nat) {todo:List Item} {env:Vars} {L L':Heap} {v:AV},runZ M itf fi kp kr call n todo env L=some (v,L')->Ev M (.run fi todo env L) v L':=by
 intro n
 induction n with
 | zero=>intro todo env L L' v h;simp [runZ] at h
 | succ n ih =>
  intro todo env L L' v h
  unfold runZ at h
  split at h
  ·split at h
   ·rename_i w hf
    simp only [Option.some.injEq,Prod.mk.injEq] at h
    obtain ⟨rfl,rfl⟩:=h
    exact .done hf ⟨rfl,rfl⟩
   ·simp at h
  ·exact .inBlock (ih h)
  ·exact .inLoop (ih h)
  ·split at h
   ·exact .skip (ih h)
   ·exact .seq (ih h)
   ·split at h
    ·rename_i t ht
     exact .cond t ht (ih h)
    ·simp at h
   ·exact .block (ih h)
   ·exact .loop (ih h)
   ·split at h
    ·rename_i k' hk
     exact .exit hk (ih h)
    ·simp at h
   ·rename_i id ops
    split at h
    ·rename_i e K ha
     unfold anyXX at ha
     split at ha
     ·rename_i r hr
      simp only [Option.some.injEq] at ha;subst ha
      exact ZgW hm hc (Zdv _) hr (ih h)
     ·exact ZgW hm hc (Zdv _) ha (ih h)
    ·simp at h
   ·split at h
    ·rename_i id ops _ s hr
     split at h
     ·rename_i ha he
      have hg:=ZdA (Zdv _) _ hr (by intro c hc;cases hc)
      refine .region call (Zdc (ZaE kr _)) _ _ s (fun h1=>by cases h1) hr (fun b hb => ?_) (fun p hp => ?_) (fun c hcm _ ho => ?_) (fun c hcm _ ho => ?_) (ih h)
      ·exact (List.all_eq_true.1 ha) b hb
      ·rw [he] at hp;cases hp
      ·rcases hg c hcm with ⟨_,h2,o,h3,h4⟩ | ⟨h2,L1,h3⟩ | ⟨h2,_⟩
       ·rw [h4];exact (hc _ _ _ _ _ h3).1 h2
       ·have:=((hc _ _ _ _ _ h3).2 h2).1;simp at this
       ·rw [ho] at h2;simp at h2
      ·rcases hg c hcm with ⟨h2,_⟩ | ⟨h2,L1,h3⟩ | ⟨_,h2,h3⟩
       ·rw [ho] at h2;simp at h2
       ·have:=((hc _ _ _ _ _ h3).2 h2).1;simp at this
       ·exact ((hc _ _ _ _ _ h3).2 h2).2
     ·simp at h
    ·simp at h
   ·rename_i g ps ida opsA body
    split at h
    ·rename_i it f xs p0 p1 hg
     cases hb:(isIt itf it&&(beqBL xs ((xs.map toI).map (.int .i64))&&(Nat.blt xs.length 4611686018427387904&&(Zc7 opsA&&(Zca body&&(Nat.blt p0 fi.n&&Nat.blt p1 fi.n)))))) with
     | false=>rw [hb] at h;simp at h
     | true =>
      rw [hb] at h
      simp only [cond_true] at h
      simp only [Bool.and_eq_true,Nat.beq_eq,Nat.blt_eq] at hb
      obtain ⟨b1,b2,b3,b4,b5,b6,b7⟩:=hb
      obtain ⟨hit,hI⟩:=hI _ (isIt_eq b1)
      split at h
      ·rename_i L1 hr
       have h2:=hI f (xs.map toI) (by rw [List.length_map];exact b3)
       rw [<- beqBL_eq _ _ b2] at h2
       exact .sem (range_rounds hg hit h2 b4 b5 b6 b7 (ZdX hm (fun e K v K' hrun=>ih hrun) _ _ _ hr) (Zbn hm (ih h)))
      ·simp at h
    ·simp at h
   ·split at h
    ·rename_i w hf
     simp only [Option.some.injEq,Prod.mk.injEq] at h
     obtain ⟨rfl,rfl⟩:=h
     exact .ret hf ⟨rfl,rfl⟩
    ·simp at h
   ·simp at h
  ·simp at h
def trimZ (L L':Heap) (v:AV):Heap:=bif ZaA L.length v (L'.take L.length) then L'.take L.length else L'
theorem trimZ_ok {M:Mach} {f:FuncId} {args:List AV} {L L':Heap} {v:AV} (h:Ev M (.own f args L) v L'):Ev M (.own f args L) v (trimZ L L' v):=by
 unfold trimZ
 cases hk:ZaA L.length v (L'.take L.length) with
 | false=>exact h
 | true =>
  simp only [cond_true]
  refine .drop hk (.mono h fun x K ⟨e1,e2⟩ => ?_)
  subst e1;subst e2
  refine ⟨rfl,?_⟩
  unfold ZaA at hk
  simp only [Bool.and_eq_true,Nat.beq_eq] at hk
  rw [hk.1]
def frzZ (L:Heap) (v:AV) (L':Heap):Option (AV × Heap):=match pureA L' v with
 | some d=>bif (versA L' v).all (fun b=>b)&&((rowsA v).all (fun r=>Nat.ble L.length r)&&((rowsA d).isEmpty&&frzOk L.length (L'.take L.length))) then some (d,L'.take L.length) else none
 | none=>none
theorem frzZ_ok {M:Mach} (hm:(M.P ()).follows .mixedOrders=true) {f:FuncId} {args:List AV} {L L' K:Heap} {v d:AV} (h:Ev M (.own f args L) v L') (hz:frzZ L v L'=some (d,K)):Ev M (.own f args L) d K:=by
 unfold frzZ at hz
 split at hz
 ·rename_i d0 hd
  cases hb:((versA L' v).all (fun b=>b)&&((rowsA v).all (fun r=>Nat.ble L.length r)&&((rowsA d0).isEmpty&&frzOk L.length (L'.take L.length)))) with
  | false=>rw [hb] at hz;simp at hz
  | true =>
   rw [hb] at hz
   simp only [cond_true,Option.some.injEq,Prod.mk.injEq] at hz
   obtain ⟨rfl,rfl⟩:=hz
   simp only [Bool.and_eq_true,List.all_eq_true,List.isEmpty_iff,Nat.ble_eq] at hb
   obtain ⟨b1,b2,b3,b4⟩:=hb
   have hl:(L'.take L.length).length=L.length:=by
    unfold frzOk at b4
    simp only [Bool.and_eq_true,Nat.beq_eq] at b4
    exact b4.1
   exact own_freeze hm b4 b3 (.mono h fun x K ⟨e1,e2⟩=>by
    subst e1;subst e2
    exact ⟨hd,b1,fun r hr=>by rw [hl];exact b2 r hr,by rw [hl]⟩)
 ·simp at hz
def outZ (fz:Bool) (L:Heap) (v:AV) (L':Heap):AV × Option Heap:=
 match (bif fz then frzZ L v L' else none) with
 | some (d,K)=>bif ZbC K L then (d,none) else (d,some K)
 | none=>bif ZbC (trimZ L L' v) L then (v,none) else (v,some (trimZ L L' v))
def ansZ (M:Mach) (fz:Nat->Bool) (K:List (Nat × List AV × AV)) (ex:FuncId->List AV->Heap->Option (AV × Heap)):Zax:=fun g args L =>
 match M.inl g with
 | true=>match ex g args L with
  | some (v,L')=>some (outZ (fz g) L v L')
  | none=>none
 | false=>ansY M K ex g args L
theorem outZ_ok {M:Mach} (hm:(M.P ()).follows .mixedOrders=true) {fz:Bool} {f:FuncId} {args:List AV} {L L':Heap} {v:AV} (h:Ev M (.own f args L) v L'):Ev M (.own f args L) (outZ fz L v L').1 ((outZ fz L v L').2.getD L):=by
 have one:∀ {w:AV} {K:Heap},Ev M (.own f args L) w K->Ev M (.own f args L) (bif ZbC K L then (w,none) else (w,some K):AV × Option Heap).1 ((bif ZbC K L then (w,none) else (w,some K):AV × Option Heap).2.getD L):=by
  intro w K h1
  cases hb:ZbC K L with
  | true=>rw [Zdy _ _ hb] at h1;exact h1
  | false=>exact h1
 unfold outZ
 split
 ·rename_i d K hz
  cases fz with
  | false=>simp at hz
  | true=>exact one (frzZ_ok hm h hz)
 ·exact one (trimZ_ok h)
theorem ansZ_ok {M:Mach} (hm:(M.P ()).follows .mixedOrders=true) {fz:Nat->Bool} {G:EG} (hK:Zcr M G) {ex:FuncId->List AV->Heap->Option (AV × Heap)} (h:∀ f args L v L',ex f args L=some (v,L')->Ev M (.own f args L) v L'):AnsOk M (ansZ M fz G.known ex):=by
 intro f args L v o hc
 unfold ansZ at hc
 split at hc
 ·rename_i hi
  refine ⟨fun _ => ?_,fun h2=>by rw [hi] at h2;simp at h2⟩
  split at hc
  ·rename_i w L' he
   have h1:=outZ_ok hm (fz:=fz f) (h _ _ _ _ _ he)
   simp only [Option.some.injEq] at hc
   rw [hc] at h1
   exact h1
  ·simp at hc
 ·exact ansY_ok hm hK h f args L v o hc
def fzOf (l:List (Nat × List (Nat × List Nat))) (f:Nat):Bool:=l.any fun e=>Nat.beq e.1 f
def execZ (M:Mach) (itf:Option FuncId) (G:EG):Nat->FuncId->List AV->Heap->Option (AV × Heap)
 | 0=>fun _ _ _=>none
 | n+1=>fun f args L =>
  match (M.P ()).funcs[f]? with
  | some fn=>match fn.body,fn.name == "runtime.NumGoroutine" with
   | some c,false=>runZ M itf ⟨fn.ntmps,fn.results.toList⟩ (ofFn G.keep f) (ofFn G.rows f) (ansZ M (fzOf G.hot) G.known (execZ M itf G n)) 100000 [.code c] (ZaM 0 args) L
   | _,_=>none
  | none=>none
theorem execZ_sound {M:Mach} (hm:(M.P ()).follows .mixedOrders=true) {itf:Option FuncId} (hI:∀ it,itf=some it->(∀ args w,(callFunc it args).run (M.P ()) w = .ok (.enter it args) w) /\ ∀ (f:Bool) (X:List Int),X.length<4611686018427387904->ZfY M it (.eptr 1 [.vec f 1 (X.map (.int .i64))] 0 0) (bkX X))
  {G:EG} (hK:Zcr M G):∀ (n:Nat) (f:FuncId) (args:List AV) (L:Heap) (v:AV) (L':Heap),execZ M itf G n f args L=some (v,L')->Ev M (.own f args L) v L':=by
 intro n
 induction n with
 | zero=>intro f args L v L' h;simp [execZ] at h
 | succ n ih =>
  intro f args L v L' h
  unfold execZ at h
  split at h
  ·rename_i fn hf
   split at h
   ·rename_i c hb hn
    exact .own fn c hf hb hn (runZ_sound hm hI (ansZ_ok hm hK fun f args L v L' h=>ih f args L v L' h) _ h)
   ·simp at h
  ·simp at h
def execP2 (M:Mach) (itf:Option FuncId) (G:EG) (n:Nat) (f:FuncId) (args:List AV):Option AV:=
 match execZ M itf G n f args [] with
 | some (v,L')=>match deepA L' v with
  | some d=>bif (deepV L' v).all (fun b=>b) then some d else none
  | none=>none
 | none=>none
theorem exec_all {M:Mach} (hm:(M.P ()).follows .mixedOrders=true) {itf:Option FuncId} (hI:∀ it,itf=some it->(∀ args w,(callFunc it args).run (M.P ()) w = .ok (.enter it args) w) /\ ∀ (f:Bool) (X:List Int),X.length<4611686018427387904->ZfY M it (.eptr 1 [.vec f 1 (X.map (.int .i64))] 0 0) (bkX X))
  {G:EG} (hK:Zcr M G) (n:Nat) {f:FuncId} {args:List AV} {d:AV} (h:execP2 M itf G n f args=some d):Ev M (.pure f args) d []:=by
 unfold execP2 at h
 split at h
 ·rename_i v L' he
  split at h
  ·rename_i d0 hd
   cases hb:(deepV L' v).all (fun b=>b) with
   | false=>rw [hb] at h;simp at h
   | true =>
    rw [hb] at h
    simp only [cond_true,Option.some.injEq] at h
    subst h
    exact deep_pure hm (.mono (execZ_sound hm hI hK n _ _ _ _ _ he) fun x K ⟨e1,e2⟩=>by subst e1;subst e2;exact deep_of hd ((Zb6 _).2 fun b hbm=>(List.all_eq_true.1 hb) b hbm))
  ·simp at h
 ·simp at h
end Go.Av

namespace Go.Av
open Go.RowKit
end Go.Av

namespace Go.Av
open Go.RowKit
end Go.Av

namespace Go.Av
theorem Mx.renV {N:Mach} {env:Vars} {L:Heap} {U:Nat} {p q:Nat} (hp:U<=p) (hq:U<=q) (henv:(rowsL (env.map (·.2))).all (fun r=>Nat.blt r U)=true):Go.Av.renV (swp p q) env=env:=by
 have hE:∀ r ∈ rowsL (env.map (·.2)),r<U:=fun r hr=>Nat.blt_eq.mp (List.all_eq_true.1 henv r hr)
 unfold Go.Av.renV
 have:env.map (fun e=>(e.1,renA (swp p q) e.2))=env.map id:=List.map_congr_left fun e he=>by
  have:∀ r ∈ rowsA e.2,swp p q r=(fun r=>r) r:=fun r hr=>swp_fix hp hq (hE r (by
   have hm:e.2 ∈ env.map (·.2):=List.mem_map_of_mem he
   obtain ⟨i,hi⟩:=List.getElem?_of_mem hm
   exact Zbl hi hr))
  rw [renA_ext e.2 this,renA_id];rfl
 rw [this,List.map_id]
end Go.Av

namespace Go.Av
open Go.RowKit
theorem Zfc {M:Mach} {n:Nat} {ops:Array Oper} {ans:Nat->Option Ans} {hot:Nat->Nat} {call:Zax} {Q:Exit->Act->World->Prop} {rest:List Nat}:∀ (l:List Nat) {s sf:RS} {S:St} {a:Act},Zau M.P M.inl call n ops ans hot l s=some sf ->
  (∀ b ∈ sf.asm,b=true)->(∀ q ∈ sf.eqs,q)->(∀ c ∈ sf.calls,c.cond=true->ZbO M c) ->
  HeapOk S->S.L=s.L->TRel S s.env a.tmps->n<=a.tmps.size ->
  (∀ S' a',HeapOk S'->Ext S S'->S'.L=sf.L->TRel S' sf.env a'.tmps->a'.tmps.size=a.tmps.size->a'.defers=a.defers->wpOps (M.P ()) ops Q rest a' S'.w) ->
  wpOps (M.P ()) ops Q (l++rest) a S.w
 | [],s,sf,S,a,h,_,_,_,hS,hL,hT,_,hK=>by
  simp only [Zau,Option.some.injEq] at h;subst h
  exact hK S a hS (Ext.refl S) hL hT rfl rfl
 | i::l,s,sf,S,a,h,hA,hQ,hC,hS,hL,hT,hn,hK=>by
  rw [List.cons_append,wpOps_cons]
  simp only [Zau] at h
  cases ho:ops[i]? with
  | none =>
   rw [ho] at h
   unfold wpOp
   simp only [ho]
   exact Zfc l h hA hQ hC hS hL hT hn hK
  | some o =>
   rw [ho] at h
   simp only at h
   cases h1:Zbk M.P M.inl call n ops (ans i) (hot i) o s with
   | none=>rw [h1] at h;simp at h
   | some s1 =>
    rw [h1] at h
    simp only at h
    obtain ⟨env,L,x,y,z,rfl,_⟩:=ZaW _ h
    refine Zck hS hL hT hn ho h1 (fun b hb=>hA b (by simp [hb])) (fun b hb=>hQ b (by simp [hb])) (fun b hb=>hC b (by simp [hb])) fun S' a' k1 k2 k3 k4 k5 k6 => ?_
    exact Zfc l h hA hQ hC k1 k3 k4 (by rw [k5];exact hn) fun S'' a'' m1 m2 m3 m4 m5 m6=>hK S'' a'' m1 (k2.trans m2) m3 m4 (m5.trans k5) (m6.trans k6)
end Go.Av

namespace Go.Av
open Go.RowKit
def forget2 (keep:List Nat) (env:Env):Vars:=keep.map fun t=>(t,bif Zan env (env.get t).1 then (env.get t).2 else .any)
theorem forget2_rel {S:St} {env:Env} {tm:Array Value} (h:TRel S env tm) (keep:List Nat):VRel S (forget2 keep env) tm:=by
 intro t
 induction keep with
 | nil=>exact .any _
 | cons k keep ih =>
  simp only [forget2,List.map_cons,Vars.get]
  cases hk:k==t with
  | false=>exact ih
  | true =>
   have hk:k=t:=by simpa using hk
   subst hk
   simp only [cond_true]
   cases hc:Zan env (env.get k).1 with
   | true=>exact h.yes k hc
   | false=>exact .any _
def runW (M:Mach) (n:Nat) (ops:Array Oper) (ans:Nat->Option Ans) (l keep:List Nat) (env:Vars) (L:Heap):Option (Vars × Heap × List Bool × List Prop):=
 match Zau M.P M.inl (fun _ _ _=>none) n ops ans (fun _=>2) l ⟨lift env,L,[],[],[]⟩ with
 | some s=>match s.calls with
  | []=>some (forget2 keep s.env,s.L,s.asm,s.eqs)
  | _=>none
 | none=>none
def Zdi (ops:Array Oper) (i:Nat) (env:Vars):Option (Nat × FuncId × List AV):=
 match ops[i]? with
 | some o=>match Za1 ops (lift env) o,o.dst,o.op with
  | some (some c),some d,.call k=>match k.callee with
   | .value f=>match evV env f with
    | .func (.func g) first captured=>bif Zan (lift env) c then some (d,g,first++k.args.toList.map (evV env)++captured) else none
    | _=>none
   | _=>none
  | _,_,_=>none
 | none=>none
theorem call_then2 {M:Mach} {ops:Array Oper} {i d:Nat} {g:FuncId} {args:List AV} {env:Vars} {S:St} {a:Act} {Q:Exit->Act->World->Prop} {rest:List Nat} {Qc:AV->Heap->Prop} (hc:Zdi ops i env=some (d,g,args)) (hS:HeapOk S) (hV:VRel S env a.tmps) (hd:d<a.tmps.size)
  (hO:OwnQ M g args S.L Qc) (hK:∀ v L2 β' w' a',Qc v L2->HeapOk ⟨S.base,S.acc,L2,β',w'⟩->Ext S ⟨S.base,S.acc,L2,β',w'⟩->VRel ⟨S.base,S.acc,L2,β',w'⟩ ((d,v)::env) a'.tmps->a'.tmps.size=a.tmps.size->a'.defers=a.defers->wpOps (M.P ()) ops Q rest a' w') :
  wpOps (M.P ()) ops Q (i::rest) a S.w:=by
 unfold Zdi at hc
 split at hc
 ·rename_i o ho
  split at hc
  ·rename_i ch d' c hg hdst hop
   split at hc
   ·rename_i f hcal
    split at hc
    ·rename_i g' first captured hf
     cases hcv:Zan (lift env) ch with
     | false=>rw [hcv] at hc;simp at hc
     | true =>
     rw [hcv] at hc
     simp only [cond_true,Option.some.injEq,Prod.mk.injEq] at hc
     obtain ⟨rfl,rfl,rfl⟩:=hc
     have hr:=ZeQ (a:=a) hV f
     rw [hf] at hr
     obtain ⟨va,vb,e1,l1,l2,r1,r2⟩:=Zcj hr
     have hrel:RelL S (first++c.args.toList.map (evV env)++captured) (va++c.args.toList.map a.eval++vb):=
      RelL.append (RelL.append ⟨l1,r1⟩ (RelL.map fun x=>ZeQ (a:=a) hV x)) ⟨l2,r2⟩
     obtain ⟨m1,m2⟩:=hO S _ hS rfl hrel
     have hrun:(execOp a.eval o).run (M.P ()) S.w=(callFunc g' ⟨va++c.args.toList.map a.eval++vb⟩).run (M.P ()) S.w:=by
      have e2:(⟨va⟩:Array Value)++c.args.map a.eval++⟨vb⟩=⟨va++c.args.toList.map a.eval++vb⟩:=by
       apply Array.ext';simp
      simp only [execOp,hop,resolve,hcal,e1,Deferred.ofValue,Sem.run_bind,Sem.run_pure,Result.andThen_ok,invoke,e2]
     rw [wpOps_cons]
     unfold wpOp
     have hw:Region.wanted o (yielded ops a.tmps)=true:=by
      rw [(ZdN (Zcm hV) hg).2,hcv]
     simp only [ho,hw,if_true]
     left
     unfold Oper.wp
     rw [hrun,m1,Oper.upon_enter]
     refine Calls.mono m2 fun e w' he => ?_
     cases e with
     | returned cv =>
      obtain ⟨v,L2,β',q1,q2,q3,q4⟩:=he
      refine hK v L2 β' w' _ q1 q2 q3 ?_ (ZcG _ _ _) (by rw [hdst];rfl)
      rw [hdst]
      exact vrel_set (fun t=>(hV t).mono q3) hd q4
     | panicked c=>exact he.elim
     | outgrown=>exact he.elim
    ·simp at hc
   ·simp at hc
  ·simp at hc
 ·simp at hc
def ZeO (M:Mach) (n:Nat) (ops:Array Oper) (l:List Nat) (env:Vars) (L:Heap) (K:Vars->Heap->Prop):Prop:=
 ∀ (S:St) (a:Act) (Q:Exit->Act->World->Prop),HeapOk S->S.L=L->VRel S env a.tmps->n<=a.tmps.size ->
  (∀ (S':St) a' env',HeapOk S'->Ext S S'->VRel S' env' a'.tmps->K env' S'.L->a'.tmps.size=a.tmps.size->a'.defers=a.defers->Q .normal a' S'.w)->wpOps (M.P ()) ops Q l a S.w
theorem ZeO.nil {M:Mach} {n:Nat} {ops:Array Oper} {env:Vars} {L:Heap} {K:Vars->Heap->Prop} (h:K env L):ZeO M n ops [] env L K:=fun S a _ hS hL hV _ hK=>hK S a env hS (Ext.refl S) hV (by rw [hL];exact h) rfl rfl
theorem ZeO.run {M:Mach} {n:Nat} {ops:Array Oper} {env env1:Vars} {L L1:Heap} {K:Vars->Heap->Prop} {ans:Nat->Option Ans} {asm:List Bool} {eqs:List Prop} {rest:List Nat} (l keep:List Nat) (h:runW M n ops ans l keep env L=some (env1,L1,asm,eqs)) (hA:allB asm) (hQ:allP eqs) (hk:ZeO M n ops rest env1 L1 K):ZeO M n ops (l++rest) env L K:=by
 intro S a Q hS hL hV hn hK
 unfold runW at h
 split at h
 ·rename_i s hs
  split at h
  ·rename_i hc
   simp only [Option.some.injEq,Prod.mk.injEq] at h
   obtain ⟨rfl,rfl,rfl,rfl⟩:=h
   refine Zfc l hs ((Zb6 _).1 hA) ((allP_iff _).1 hQ) (by rw [hc];simp) hS hL (Zcm hV) hn fun S' a' k1 k2 k3 k4 k5 k6 => ?_
   exact hk S' a' Q k1 k3 (forget2_rel k4 keep) (by rw [k5];exact hn) fun S'' a'' env' m1 m2 m3 m4 m5 m6=>hK S'' a'' env' m1 (k2.trans m2) m3 m4 (m5.trans k5) (m6.trans k6)
  ·simp at h
 ·simp at h
theorem ZeO.last {M:Mach} {n:Nat} {ops:Array Oper} {env env1:Vars} {L L1:Heap} {K:Vars->Heap->Prop} {ans:Nat->Option Ans} {asm:List Bool} {eqs:List Prop} (l keep:List Nat) (h:runW M n ops ans l keep env L=some (env1,L1,asm,eqs)) (hA:allB asm) (hQ:allP eqs) (hk:K env1 L1):ZeO M n ops l env L K:=by
 have:=ZeO.run (K:=K) (rest:=[]) l keep h hA hQ (.nil hk)
 rwa [List.append_nil] at this
theorem ZeO.call {M:Mach} (hm:(M.P ()).follows .mixedOrders=true) {n:Nat} {ops:Array Oper} {env:Vars} {L:Heap} {K:Vars->Heap->Prop} {i d:Nat} {g:FuncId} {args:List AV} {rest:List Nat} {Qc:AV->Heap->Prop} (hc:Zdi ops i env=some (d,g,args)) (hd:d<n) (hO:Wp M (.own g args L) Qc) (hk:∀ v L2,Qc v L2->ZeO M n ops rest ((d,v)::env) L2 K):ZeO M n ops (i::rest) env L K:=by
 intro S a Q hS hL hV hn hK
 refine call_then2 (M:=M) hc hS hV (Nat.lt_of_lt_of_le hd hn) (Qc:=Qc) (by rw [hL];exact Zbn hm (c:=.own g args L) hO) fun v L2 β' w' a2 m1 m2 m3 m4 m5 m6 => ?_
 exact hk v L2 m1 _ a2 Q m2 rfl m4 (by rw [m5];exact hn) fun S'' a'' env' p1 p2 p3 p4 p5 p6=>hK S'' a'' env' p1 (m3.trans p2) p3 p4 (p5.trans m5) (p6.trans m6)
theorem Zee {M:Mach} (hm:(M.P ()).follows .mixedOrders=true) {fi:Fi} {id:Nat} {ops:Array Oper} {k:List Item} {env:Vars} {L:Heap} {Q:AV->Heap->Prop} (l:List Nat) (hl:List.range ops.size=l) (h:ZeO M fi.n ops l env L fun env' L'=>Wp M (.run fi k env' L') Q):Wp M (.run fi (.code (.region id ops false)::k) env L) Q:=by
 refine .sem (ZaV.after fun S a h5 h6 h7 h8=>ZdY ?_)
 rw [hl]
 refine h S a _ h5 h6 h7 h8 fun S' a' env' m1 m2 m3 m4 m5 m6 => ?_
 exact ⟨S',env',rfl,m1,m2,Zbn hm (c:=.run fi k env' S'.L) m4,m3,m5,m6⟩
end Go.Av

namespace Go.Av
open Go.Proofs
set_option maxRecDepth 100000
def fi16:Fi:=⟨19,[.tmp 4]⟩
def kp16:List (Nat × List Nat):=[(0,[0,1]),(1,[0,1,5]),(2,[0,1,5,9]),(3,[0,1,5]),(4,[0,1,5,18]),(5,[4]),(6,[4])]
def fiA_at (n:Int) (L:Heap) (Q:AV->Heap->Prop):Prop:=Wp M1 (.run fi16 (atC (cd Try.f16) []) [(0,.ptr 0 0 0 0),(1,.int .i64 n)] L) Q
def ZgM (n i:Int) (L:Heap) (Q:AV->Heap->Prop):Prop:=Wp M1 (.run fi16 (atC (cd Try.f16) [1,0,1,0,0]) [(0,.ptr 0 0 0 0),(1,.int .i64 n),(5,.int .i64 i)] L) Q
def fiC_at (n i:Int) (b:Bool) (L:Heap) (Q:AV->Heap->Prop):Prop:=Wp M1 (.run fi16 (atC (cd Try.f16) [1,0,1,0,0,0,1]) [(0,.ptr 0 0 0 0),(1,.int .i64 n),(5,.int .i64 i),(9,.bool b)] L) Q
def fiD_at (n i:Int) (b:Bool) (L:Heap) (Q:AV->Heap->Prop):Prop:=Wp M1 (.run fi16 (atC (cd Try.f16) [1,0,1,0,0,1,0,0,1]) [(0,.ptr 0 0 0 0),(1,.int .i64 n),(5,.int .i64 i),(18,.bool b)] L) Q
theorem owncall16 {args:List AV} {L:Heap} {Q:AV->Heap->Prop} (h:Wp M1 (.run fi16 [.code (cd Try.f16)] (ZaM 0 args) L) Q):Wp M1 (.own 16 args L) Q:=
 Zfr Try.f16 fi16 (by kernel_rfl) (by kernel_rfl) (by kernel_rfl) (by kernel_rfl) h
theorem fiA (n:Int) (L:Heap)  (Q:AV->Heap->Prop) (H :
  ZgM n 0 L Q) :
 fiA_at n L Q:=by
 unfold fiA_at
 exact Zac (G:=Zab kp16 [] []) 1000 [] ⟨(atC (cd Try.f16) [1,0,1,0,0]),[(0,AV.ptr 0 0 0 0),(1,vi n),(5,vi 0)],L,_,[],_⟩ (by kernel_rfl) b0 q0 c0 H
theorem fiL (n i:Int) (L:Heap)  (Q:AV->Heap->Prop) (H :
  Wp M1 (.run fi16 (atC (cd Try.f16) [1,0,1,0,0,0,0]) [(0,AV.ptr 0 0 0 0),(1,vi n),(5,vi i)] L) Q) :
 ZgM n i L Q:=by
 unfold ZgM
 exact Zac (G:=Zab kp16 [] []) 2 [] ⟨(atC (cd Try.f16) [1,0,1,0,0,0,0]),[(0,AV.ptr 0 0 0 0),(1,vi n),(5,vi i)],L,_,[],_⟩ (by kernel_rfl) b0 q0 c0 H
theorem fiC (n i:Int) (b:Bool) (L:Heap)  (Q:AV->Heap->Prop) (H :
  ((b=true)->Wp M1 (.run fi16 (atC (cd Try.f16) [1,0,1,0,0,1,0,0,0]) [(0,AV.ptr 0 0 0 0),(1,vi n),(5,vi i),(9,vb b)] L) Q) /\
  (¬(b=true)->Q (vb true) L)) :
 fiC_at n i b L Q:=by
 unfold fiC_at
 rcases xq H with ⟨d2,H⟩|⟨d2,H⟩
 ·exact Zac (G:=Zab kp16 [] []) 5 [true] ⟨(atC (cd Try.f16) [1,0,1,0,0,1,0,0,0]),[(0,AV.ptr 0 0 0 0),(1,vi n),(5,vi i),(9,vb b)],L,[(b)==true],[],_⟩ (by kernel_rfl) (bc (Zam ((Zas _).2 d2)) b0) q0 c0 H
 ·exact Zai (G:=Zab kp16 [] []) 1000 [false] (k:=((atC (cd Try.f16) [1,1,1])).tail) (env':=[(4,vb true)]) (L':=L) (asm:=[(b)==false]) (eqs:=[]) (calls:=[]) (vb true) (by kernel_rfl) (by kernel_rfl) (Zaa (Zal (fun h=>d2 ((Zas _).1 h))) Zad) Zaf Zag H
theorem fiD (n i:Int) (b:Bool) (L:Heap)  (Q:AV->Heap->Prop) (H :
  ((b=true)->Q (vb false) L) /\
  (¬(b=true)->(-9223372036854775808<=i+1/\i+1<=9223372036854775807) /\
   ZgM n (i+1) L Q)) :
 fiD_at n i b L Q:=by
 unfold fiD_at
 rcases xq H with ⟨d2,H⟩|⟨d2,H⟩
 ·exact Zai (G:=Zab kp16 [] []) 1000 [true] (k:=((atC (cd Try.f16) [1,0,1,0,0,1,0,0,1,0,1])).tail) (env':=[(4,vb false)]) (L':=L) (asm:=[(b)==true]) (eqs:=[]) (calls:=[]) (vb false) (by kernel_rfl) (by kernel_rfl) (Zaa (Zam ((Zas _).2 d2)) Zad) Zaf Zag H
 ·obtain ⟨k3,H⟩:=H
  have w4:wi (i+1)=i+1:=wI64 k3
  exact Zac (G:=Zab kp16 [] []) 1000 [false] ⟨(atC (cd Try.f16) [1,0,1,0,0]),[(0,AV.ptr 0 0 0 0),(1,vi n),(5,vi (wi (i+1)))],L,[(b)==false],[],_⟩ (by kernel_rfl) (bc (Zal (fun h=>d2 ((Zas _).1 h))) b0) q0 c0 (by (try rw [w4]);all_goals exact H)
end Go.Av

namespace Go.Av
open Go.Proofs
def cNo:Nat->Option Ans:=fun _=>none
theorem cB0:allB []:=trivial
theorem cP0:allP []:=trivial
section
variable {l:List Mo} {B S A j:Int} {fm:Bool}
theorem index_hq {s:Cs} (hs:Iv l B s) (f:Option Nat):Ev M1 (.own 14 [.ptr 0 0 0 0] (O.hq fm l S A j s f)) (.int .i64 s.ix) (O.hq fm l S A j s f):=by
 obtain ⟨ix,p,X,k,bk,hd,br,P,q⟩:=s
 cases X with
 | none =>
  obtain ⟨hk0,hb0,_⟩:=hs.rest rfl
  simp only at hk0 hb0
  subst hk0;subst hb0
  cases f with
  | none=>exact evo14_a fm l S A j ix p hd br q.x q.y q.z
  | some w=>exact evo14_b fm l S A j ix p hd br q.x q.y q.z P w false
 | some X =>
  cases f with
  | none=>exact evo14_c fm l S A j ix p k bk hd br q.x q.y q.z X
  | some w=>exact evo14_d fm l S A j ix p k bk hd br q.x q.y q.z X P w false
end
section
variable {l:List Mo} {S A j:Int}
theorem stF_none {ix p qx qy qz:Int} {f:Option Nat} (h:O.stF l ix p qx qy qz f=none):f=none:=by
 cases f with
 | none=>rfl
 | some w=>cases h
theorem advF_none {s:Cs} {X:List Int} {k:Int} {f:Option Nat} (h:O.advF l s X k f=none):f=none:=by
 unfold O.advF at h
 split at h
 ·exact stF_none h
 ·exact h
theorem tickF_none {s:Cs} {f:Option Nat} (h:O.Zef l S A j s f=none):f=none:=by
 unfold O.Zef at h
 split at h
 ·exact h
 ·split at h
  ·exact advF_none h
  ·split at h
   ·exact h
   ·split at h
    ·exact h
    ·exact advF_none h
end
noncomputable def fiO2:Array Oper:=match atC (cd Try.f16) [1,0,1,0,0,0,0] with
 | .code (.region _ ops _)::_=>ops
 | _ => #[]
noncomputable def fiO4:Array Oper:=match atC (cd Try.f16) [1,0,1,0,0,1,0,0,0] with
 | .code (.region _ ops _)::_=>ops
 | _ => #[]
theorem fiC2:atC (cd Try.f16) [1,0,1,0,0,0,0] = .code (.region 2 fiO2 false)::atC (cd Try.f16) [1,0,1,0,0,0,1]:=by kernel_rfl
theorem fiC4:atC (cd Try.f16) [1,0,1,0,0,1,0,0,0] = .code (.region 4 fiO4 false)::atC (cd Try.f16) [1,0,1,0,0,1,0,0,1]:=by kernel_rfl
theorem fiR2:List.range fiO2.size=[0]++1::[2,3]:=by kernel_rfl
theorem fiR4:List.range fiO4.size=[0,1,2]++([3]++4::[5,6]):=by kernel_rfl
section
variable (n i:Int) (L:Heap)
def fiE:Vars:=[(0,.ptr 0 0 0 0),(1,.int .i64 n),(5,.int .i64 i)]
theorem fiV2:runW M1 fi16.n fiO2 cNo [0] [0,1,5,6] (fiE n i) L=some (fiE n i++[(6,.ptr 0 0 0 0)],L,[],[]):=by kernel_rfl
theorem fiK2:Zdi fiO2 1 (fiE n i++[(6,.ptr 0 0 0 0)])=some (7,14,[.ptr 0 0 0 0]):=by kernel_rfl
theorem fiW2 (x:Int):runW M1 fi16.n fiO2 cNo [2,3] [0,1,5,9] ((7,.int .i64 x)::(fiE n i++[(6,.ptr 0 0 0 0)])) L=some (fiE n i++[(9,.bool (decide (x<n)))],L,[],[]):=by kernel_rfl
theorem fiV4:runW M1 fi16.n fiO4 cNo [0,1,2] [0,1,5,14] (fiE n i) L=some (fiE n i++[(14,.bool (decide (i>20000)))],L,[],[]):=by kernel_rfl
theorem fiU4:runW M1 fi16.n fiO4 cNo [3] [0,1,5,14,15] (fiE n i++[(14,.bool false)]) L=some (fiE n i++[(14,.bool false),(15,.ptr 0 0 0 0)],L,[],[]):=by kernel_rfl
theorem fiK4:Zdi fiO4 4 (fiE n i++[(14,.bool false),(15,.ptr 0 0 0 0)])=some (16,10,[.ptr 0 0 0 0]):=by kernel_rfl
theorem fiW4 (b:Bool):runW M1 fi16.n fiO4 cNo [5,6] [0,1,5,18] ((16,.bool b)::(fiE n i++[(14,.bool false),(15,.ptr 0 0 0 0)])) L=some (fiE n i++[(18,.bool (!b))],L,[],[]):=by kernel_rfl
end
section
variable {l:List Mo} {B S A j:Int} (fm:Bool)
theorem fi_loop (hl:O.okL l) (hg:O.good l S A j) (hB:B<=1000000000) {J:Cs->Prop} {m:Cs->Int} (hJ:∀ s,J s->Iv l B s/\0<=m s/\(s.ix<l.length->(O.Zbq l S A j s).2=true/\J (O.Zbq l S A j s).1/\m (O.Zbq l S A j s).1<m s)) :
  ∀ (k:Nat) (i:Int) (s:Cs) (f:Option Nat),J s->m s<=k->0<=i->i+k<=20000->(f=none->s.P=[]) ->
   ∃ s' f',(J s'/\s'.ix=l.length/\(f'=none->s'.P=[])/\(f'=none->f=none))/\ZgM l.length i (O.hq fm l S A j s f) (isR (.bool true) (O.hq fm l S A j s' f')):=by
 intro k
 have hhead:∀ (i:Int) (s:Cs) (f:Option Nat),J s -> ∀ Q,fiC_at l.length i (decide (s.ix<l.length)) (O.hq fm l S A j s f) Q->ZgM l.length i (O.hq fm l S A j s f) Q:=by
  intro i s f hs Q h
  refine fiL _ _ _ _ ?_
  rw [fiC2]
  refine Zee hm1 _ fiR2 (.run _ _ (fiV2 _ _ _) cB0 cP0 (.call hm1 (fiK2 _ _) (by decide) (index_hq (hJ s hs).1 f) fun v L2 ⟨e1,e2⟩ => ?_))
  subst e1;subst e2
  exact .last _ _ (fiW2 _ _ _ _) cB0 cP0 h
 induction k with
 | zero =>
  intro i s f hs hm h0 hi hf
  obtain ⟨hI,hm0,hst⟩:=hJ s hs
  have hix:=hI.ixr
  have he:¬s.ix<l.length:=fun y=>by
   obtain ⟨_,h2,h3⟩:=hst y
   have:=(hJ _ h2).2.1
   omega
  refine ⟨s,f,⟨hs,by omega,hf,fun h=>h⟩,hhead i s f hs _ (fiC _ _ _ _ _ ⟨fun y=>absurd (of_decide_eq_true y) he,fun _=>⟨rfl,rfl⟩⟩)⟩
 | succ k ih =>
  intro i s f hs hm h0 hi hf
  obtain ⟨hI,hm0,hst⟩:=hJ s hs
  have hix:=hI.ixr
  by_cases he:s.ix<l.length
  ·obtain ⟨t1,t2,t3⟩:=hst he
   obtain ⟨s',f',h1,h2⟩:=ih (i+1) _ (O.Zef l S A j s f) t2 (by omega) (by omega) (by omega) (tickF_P hl hg hI hf)
   refine ⟨s',f',⟨h1.1,h1.2.1,h1.2.2.1,fun h=>tickF_none (h1.2.2.2 h)⟩,hhead i s f hs _ (fiC _ _ _ _ _ ⟨fun _ => ?_,fun y=>absurd (decide_eq_true he) y⟩)⟩
   refine .less [0,1,5] ?_
   rw [fiC4]
   refine Zee hm1 _ fiR4 (.run _ _ (fiV4 _ _ _) cB0 cP0 ?_)
   rw [decide_eq_false (show ¬i>20000 by omega)]
   refine .run _ _ (fiU4 _ _ _) cB0 cP0 (.call hm1 (fiK4 _ _) (by decide) (tick_ex hl hg hB hI hf) fun v L2 ⟨e1,e2⟩ => ?_)
   subst e1;subst e2
   refine .last _ _ (fiW4 _ _ _ _) cB0 cP0 ?_
   rw [t1]
   exact fiD _ _ _ _ _ ⟨fun y=>(nomatch y),fun _=>⟨by omega,h2⟩⟩
  ·exact ⟨s,f,⟨hs,by omega,hf,fun h=>h⟩,hhead i s f hs _ (fiC _ _ _ _ _ ⟨fun y=>absurd (of_decide_eq_true y) he,fun _=>⟨rfl,rfl⟩⟩)⟩
theorem finish_ex (hl:O.okL l) (hg:O.good l S A j) (hB:B<=1000000000) {J:Cs->Prop} {m:Cs->Int} (hJ:∀ s,J s->Iv l B s/\0<=m s/\(s.ix<l.length->(O.Zbq l S A j s).2=true/\J (O.Zbq l S A j s).1/\m (O.Zbq l S A j s).1<m s)) {s:Cs} {f:Option Nat} (hs:J s) (hm:m s<=20000) (hf:f=none->s.P=[]) :
  ∃ s' f',(J s'/\s'.ix=l.length/\(f'=none->s'.P=[])/\(f'=none->f=none))/\Ev M1 (.own 16 [.ptr 0 0 0 0,.int .i64 l.length] (O.hq fm l S A j s f)) (.bool true) (O.hq fm l S A j s' f'):=by
 have h0:=(hJ s hs).2.1
 obtain ⟨s',f',h1,h2⟩:=fi_loop fm hl hg hB hJ (m s).toNat 0 s f hs (by omega) (by omega) (by omega) hf
 exact ⟨s',f',h1,owncall16 (fiA _ _ _ h2)⟩
end
end Go.Av

namespace Go.Av
open Go.Proofs
set_option maxRecDepth 100000
def fi3:Fi:=⟨116,[.tmp 4]⟩
def kp3:List (Nat × List Nat):=[(0,[1,2]),(1,[1,5,6,7]),(2,[1,5,6,33]),(3,[4]),(4,[1,5,8,9]),(5,[1,5,8,42]),(6,[4]),(7,[5,8,43,44,45]),(8,[5,8,43,44,45,46]),(9,[5,8,11,43,44,45]),(10,[5,8,43,44,45,49,50]),(11,[5,8,43,44,45,49,50,51]),(12,[5,8,43,44,45,49,50]),(13,[5,8,43,44,45,49,50]),(14,[5,8,43,44,45]),(15,[5,8,12,43,44,45]),(16,[5,8,12,43,44,45,58]),(17,[5,8,12,43,44,45]),(18,[5,8,12,43,44,45,62]),(19,[4]),(20,[5,8,13,14,43,44,45]),(21,[5,8,43,44,45,73]),(22,[4]),(23,[5,8,15,16,43,44,45]),(24,[5,8,43,44,45,91]),(25,[4]),(26,[5,8,43,44,45]),(27,[5,8,43,44,45]),(28,[4])]
def hsA_at (fx fy fz:Int) (fw:Bool) (W:List Wy) (S A j:Int) (hf:Bool) (U:List Int) (Q:AV->Heap->Prop):Prop:=Wp M1 (.run fi3 (atC (cd Try.f3) []) [(0,.agg [.int .i16 fx,.int .i16 fy,.int .i16 fz,.vec fw 4 (W.map Wy.a),.int .i64 S,.int .i64 A,.int .i64 j]),(1,.vec hf 1 (U.map (.int .u8)))] []) Q
def ZgJ (l:List Mo) (hf:Bool) (U:List Int) (m i:Int) (L:Heap) (Q:AV->Heap->Prop):Prop:=Wp M1 (.run fi3 (atC (cd Try.f3) [1,1,1,1,1,0,1,0,0]) [(5,.vec false 9 (l.map Mo.a)),(8,.ptr 0 0 0 0),(43,.vec hf 1 (U.map (.int .u8))),(44,.int .i64 m),(45,.int .i64 i)] L) Q
def hsT_at (l:List Mo) (hf:Bool) (U:List Int) (m i:Int) (h e:Int) (L:Heap) (Q:AV->Heap->Prop):Prop:=Wp M1 (.run fi3 (atC (cd Try.f3) [1,1,1,1,1,0,1,0,0,1,1,0,0,1,0,1,0,0]) [(5,.vec false 9 (l.map Mo.a)),(8,.ptr 0 0 0 0),(43,.vec hf 1 (U.map (.int .u8))),(44,.int .i64 m),(45,.int .i64 i),(49,.int .u8 h),(50,.int .u8 e)] L) Q
def hsU_at (l:List Mo) (hf:Bool) (U:List Int) (m i:Int) (h e:Int) (L:Heap) (Q:AV->Heap->Prop):Prop:=Wp M1 (.run fi3 (atC (cd Try.f3) [1,1,1,1,1,0,1,0,0,1,1,0,0,1,0,1,0,0,1,1,1]) [(5,.vec false 9 (l.map Mo.a)),(8,.ptr 0 0 0 0),(43,.vec hf 1 (U.map (.int .u8))),(44,.int .i64 m),(45,.int .i64 i),(49,.int .u8 h),(50,.int .u8 e)] L) Q
def hsV_at (l:List Mo) (hf:Bool) (U:List Int) (m i:Int) (L:Heap) (Q:AV->Heap->Prop):Prop:=Wp M1 (.run fi3 (atC (cd Try.f3) [1,1,1,1,1,0,1,0,0,1,1,0,0,1,1,1,0]) [(5,.vec false 9 (l.map Mo.a)),(8,.ptr 0 0 0 0),(43,.vec hf 1 (U.map (.int .u8))),(44,.int .i64 m),(45,.int .i64 i)] L) Q
def hsW_at (l:List Mo) (hf:Bool) (U:List Int) (m i:Int) (n:Int) (L:Heap) (Q:AV->Heap->Prop):Prop:=Wp M1 (.run fi3 (atC (cd Try.f3) [1,1,1,1,1,0,1,0,0,1,1,0,0,1,1,1,1,0,0,0]) [(5,.vec false 9 (l.map Mo.a)),(8,.ptr 0 0 0 0),(43,.vec hf 1 (U.map (.int .u8))),(44,.int .i64 m),(45,.int .i64 i),(12,.int .i64 n)] L) Q
def hsX_at (l:List Mo) (hf:Bool) (U:List Int) (m i:Int) (n:Int) (b:Bool) (L:Heap) (Q:AV->Heap->Prop):Prop:=Wp M1 (.run fi3 (atC (cd Try.f3) [1,1,1,1,1,0,1,0,0,1,1,0,0,1,1,1,1,0,0,0,0,1]) [(5,.vec false 9 (l.map Mo.a)),(8,.ptr 0 0 0 0),(43,.vec hf 1 (U.map (.int .u8))),(44,.int .i64 m),(45,.int .i64 i),(12,.int .i64 n),(58,.bool b)] L) Q
def hsYA_at (fm:Bool) (l:List Mo) (S A j ix p:Int) (qx qy qz:Int) (hf:Bool) (U:List Int) (m i:Int) (Q:AV->Heap->Prop):Prop:=Wp M1 (.run fi3 (atC (cd Try.f3) [1,1,1,1,1,0,1,0,0,1,1,0,0,1,1,1,1,1,0,0]) [(5,.vec false 9 (l.map Mo.a)),(8,.ptr 0 0 0 0),(43,.vec hf 1 (U.map (.int .u8))),(44,.int .i64 m),(45,.int .i64 i)] [⟨[.agg [.vec fm 9 (l.map Mo.a),.int .i64 S,.int .i64 A,.int .i64 j,.int .i64 ix,.int .i64 p,.vnil,.int .i64 0,.bool false,.bool true,.bool false,.vnil,.int .i64 qx,.int .i64 qy,.int .i64 qz]],15,0,false,false⟩]) Q
def hsYB_at (fm:Bool) (l:List Mo) (S A j ix p:Int) (qx qy qz:Int) (P:List Mo) (w:Nat) (hf:Bool) (U:List Int) (m i:Int) (Q:AV->Heap->Prop):Prop:=Wp M1 (.run fi3 (atC (cd Try.f3) [1,1,1,1,1,0,1,0,0,1,1,0,0,1,1,1,1,1,0,0]) [(5,.vec false 9 (l.map Mo.a)),(8,.ptr 0 0 0 0),(43,.vec hf 1 (U.map (.int .u8))),(44,.int .i64 m),(45,.int .i64 i)] [⟨[.agg [.vec fm 9 (l.map Mo.a),.int .i64 S,.int .i64 A,.int .i64 j,.int .i64 ix,.int .i64 p,.vnil,.int .i64 0,.bool false,.bool true,.bool false,.row 1 w,.int .i64 qx,.int .i64 qy,.int .i64 qz]],15,0,false,false⟩,⟨P.map Mo.a,9,w,false,true⟩]) Q
def hsZaa_at (fm:Bool) (l:List Mo) (S A j ix p:Int) (qx qy qz:Int) (Q:AV->Heap->Prop):Prop:=Wp M1 (.run fi3 (atC (cd Try.f3) [1,1,1,1,1,1,0]) [(5,.vec false 9 (l.map Mo.a)),(8,.ptr 0 0 0 0)] [⟨[.agg [.vec fm 9 (l.map Mo.a),.int .i64 S,.int .i64 A,.int .i64 j,.int .i64 ix,.int .i64 p,.vnil,.int .i64 0,.bool false,.bool false,.bool false,.vnil,.int .i64 qx,.int .i64 qy,.int .i64 qz]],15,0,false,false⟩]) Q
def hsZab_at (fm:Bool) (l:List Mo) (S A j ix p:Int) (qx qy qz:Int) (Q:AV->Heap->Prop):Prop:=Wp M1 (.run fi3 (atC (cd Try.f3) [1,1,1,1,1,1,0]) [(5,.vec false 9 (l.map Mo.a)),(8,.ptr 0 0 0 0)] [⟨[.agg [.vec fm 9 (l.map Mo.a),.int .i64 S,.int .i64 A,.int .i64 j,.int .i64 ix,.int .i64 p,.vnil,.int .i64 0,.bool false,.bool false,.bool false,.vnil,.int .i64 qx,.int .i64 qy,.int .i64 qz]],15,0,false,false⟩]) Q
def hsZbb_at (fm:Bool) (l:List Mo) (S A j ix p:Int) (qx qy qz:Int) (P:List Mo) (w:Nat) (Q:AV->Heap->Prop):Prop:=Wp M1 (.run fi3 (atC (cd Try.f3) [1,1,1,1,1,1,0]) [(5,.vec false 9 (l.map Mo.a)),(8,.ptr 0 0 0 0)] [⟨[.agg [.vec fm 9 (l.map Mo.a),.int .i64 S,.int .i64 A,.int .i64 j,.int .i64 ix,.int .i64 p,.vnil,.int .i64 0,.bool false,.bool false,.bool false,.row 1 w,.int .i64 qx,.int .i64 qy,.int .i64 qz]],15,0,false,false⟩,⟨P.map Mo.a,9,w,false,true⟩]) Q
theorem call3 {args:List AV} {d:AV} (h:wc M1 fi3 Try.f3 args d):Ev M1 (.pure 3 args) d []:=pcl _ _ (by kernel_rfl) h
noncomputable abbrev zCxY1 (S:Int) (A:Int) (j:Int):=ag [vi S,vi A,vi j]
theorem hsA (fx fy fz:Int) (fw:Bool) (W:List Wy) (S A j:Int) (hf:Bool) (U:List Int)  (dq:AV) (H :
  (O.okTr fx fy fz W) /\
  ∃ (b1:Bool),
  (Ev M1 (Conf.pure 8 []) (vb b1) []) /\
  ((((¬(b1=true))\/(¬(O.trB W S A j=true)))\/((↑U.length:Int)>6)) -> ∃ (b2:Bool),
   (Ev M1 (Conf.pure 8 []) (vb b2) []) /\
   vb b2=dq) /\
  (¬(((¬(b1=true))\/(¬(O.trB W S A j=true)))\/((↑U.length:Int)>6))->(O.okCk (O.trL fx fy fz W S A j) S A j) /\
   ZgJ (O.trL fx fy fz W S A j) hf U ((↑U.length:Int)) 0 ([{ elems:=[ag [AV.vec false 9 (List.map Mo.a (O.trL fx fy fz W S A j)),vi S,vi A,vi j,vi (O.skI (O.trL fx fy fz W S A j) 0),vi 0,AV.vnil,vi 0,vb false,vb false,vb false,AV.vnil,vi (O.q0x (O.trL fx fy fz W S A j)),vi (O.q0y (O.trL fx fy fz W S A j)),vi (O.q0z (O.trL fx fy fz W S A j))]],es:=15,ver:=0,frozen:=false,clean:=false }]) (Zak dq))) :
 hsA_at fx fy fz fw W S A j hf U (Zak dq):=by
 unfold hsA_at
 obtain ⟨k1,b1,k2,H⟩:=H
 have w3:(List.map (AV.int IntKind.u8) U).length=U.length:=List.length_map ..
 have i4:(bif bif !b1 then true else !O.trB W S A j then true else decide ((↑(List.map (AV.int IntKind.u8) U).length:Int)>6))=true ↔ (((¬(b1=true))\/(¬(O.trB W S A j=true)))\/((↑U.length:Int)>6)):=(by (try rw [w3]);all_goals exact (ZaL (ZaL (ZaO (Zas _)) (ZaO (Zas _))) Zae))
 refine Zac (G:=Zab kp3 [(1,1,.call (tu [AV.vec false 9 (List.map Mo.a (O.trL fx fy fz W S A j)),(zCxY1 S A j),vb (O.trB W S A j)]) none),(2,0,.call (vb b1) none)] []) 7 [] ⟨(atC (cd Try.f3) [1,1,0,1]),[(1,AV.vec hf 1 (List.map (AV.int IntKind.u8) U)),(5,AV.vec false 9 (List.map Mo.a (O.trL fx fy fz W S A j))),(6,AV.ptr 1 0 0 0),(33,vb (bif bif !b1 then true else !O.trB W S A j then true else decide ((↑(List.map (AV.int IntKind.u8) U).length:Int)>6)))],[⟨[ag [AV.int IntKind.i16 fx,AV.int IntKind.i16 fy,AV.int IntKind.i16 fz,AV.vec fw 4 (List.map Wy.a W),vi S,vi A,vi j]],7,0,false,false⟩,⟨[(zCxY1 S A j)],3,0,false,false⟩],_,[],_⟩ (by kernel_rfl) (bc rfl (bc rfl b0)) q0 (ce (@ev7 fx fy fz fw W S A j k1) (ce k2 c0)) ?_
 rcases xq H with ⟨d5,H⟩|⟨d5,H⟩
 ·obtain ⟨b2,k6,H⟩:=H
  exact Zao (G:=Zab kp3 [(3,0,.call (vb b2) none)] []) 1000 [true] (vb b2) (by kernel_rfl) (bc (Zam (i4.2 d5)) b0) q0 (ce k6 c0) H
 ·obtain ⟨k7,H⟩:=H
  exact Zac (G:=Zab kp3 [(4,2,.call (tu [AV.ptr 0 0 0 0,vi 0]) (some [⟨[ag [AV.vec false 9 (List.map Mo.a (O.trL fx fy fz W S A j)),vi S,vi A,vi j,vi (O.skI (O.trL fx fy fz W S A j) 0),vi 0,AV.vnil,vi 0,vb false,vb false,vb false,AV.vnil,vi (O.q0x (O.trL fx fy fz W S A j)),vi (O.q0y (O.trL fx fy fz W S A j)),vi (O.q0z (O.trL fx fy fz W S A j))]],15,0,false,false⟩]))] []) 1000 [false,false] ⟨(atC (cd Try.f3) [1,1,1,1,1,0,1,0,0]),[(5,AV.vec false 9 (List.map Mo.a (O.trL fx fy fz W S A j))),(8,AV.ptr 2 0 0 0),(43,AV.vec hf 1 (List.map (AV.int IntKind.u8) U)),(44,vi (↑(List.map (AV.int IntKind.u8) U).length:Int)),(45,vi 0)],[⟨[ag [AV.int IntKind.i16 fx,AV.int IntKind.i16 fy,AV.int IntKind.i16 fz,AV.vec fw 4 (List.map Wy.a W),vi S,vi A,vi j]],7,0,false,false⟩,⟨[(zCxY1 S A j)],3,0,false,false⟩,⟨[ag [AV.vec false 9 (List.map Mo.a (O.trL fx fy fz W S A j)),vi S,vi A,vi j,vi (O.skI (O.trL fx fy fz W S A j) 0),vi 0,AV.vnil,vi 0,vb false,vb false,vb false,AV.vnil,vi (O.q0x (O.trL fx fy fz W S A j)),vi (O.q0y (O.trL fx fy fz W S A j)),vi (O.q0z (O.trL fx fy fz W S A j))]],15,0,false,false⟩],_,[],[⟨true,true,9,[AV.vec false 9 (List.map Mo.a (O.trL fx fy fz W S A j)),(zCxY1 S A j)],[],tu [AV.ptr 0 0 0 0,vi 0],[⟨[ag [AV.vec false 9 (List.map Mo.a (O.trL fx fy fz W S A j)),vi S,vi A,vi j,vi (O.skI (O.trL fx fy fz W S A j) 0),vi 0,AV.vnil,vi 0,vb false,vb false,vb false,AV.vnil,vi (O.q0x (O.trL fx fy fz W S A j)),vi (O.q0y (O.trL fx fy fz W S A j)),vi (O.q0z (O.trL fx fy fz W S A j))]],15,0,false,false⟩]⟩]⟩ (by kernel_rfl) (bc (Zal (fun h=>d5 (i4.1 h))) (bc rfl (bc rfl b0))) q0 (cc (fun _=>(@evo9 false (O.trL fx fy fz W S A j) S A j k7)) c0) (by (try rw [w3]);all_goals exact Zar [2] (by kernel_rfl) H)
theorem hsL (l:List Mo) (hf:Bool) (U:List Int) (m i:Int) (L:Heap)  (dq:AV) (H :
  ((i<m)->(0<=i) /\
   (i.toNat<U.length) /\
   hsT_at l hf U m i (U.getD i.toNat default) 0 L (Zak dq)) /\
  (¬(i<m)->Wp M1 (.run fi3 (atC (cd Try.f3) [1,1,1,1,1,1,0]) [(5,AV.vec false 9 (List.map Mo.a l)),(8,AV.ptr 0 0 0 0)] L) (Zak dq))) :
 ZgJ l hf U m i L (Zak dq):=by
 unfold ZgJ
 rcases xq H with ⟨d2,H⟩|⟨d2,H⟩
 ·obtain ⟨k4,H⟩:=H
  have w5:(List.map (AV.int IntKind.u8) U).length=U.length:=List.length_map ..
  have i6:(decide (i.toNat<(List.map (AV.int IntKind.u8) U).length))=true ↔ (i.toNat<U.length):=(by (try rw [w5]);all_goals exact Zae)
  obtain ⟨k7,H⟩:=H
  exact Zac (G:=Zab kp3 [(9,1,.elem (AV.int IntKind.u8 (U.getD i.toNat default)))] []) 1000 [true] ⟨(atC (cd Try.f3) [1,1,1,1,1,0,1,0,0,1,1,0,0,1,0,1,0,0]),[(5,AV.vec false 9 (List.map Mo.a l)),(8,AV.ptr 0 0 0 0),(43,AV.vec hf 1 (List.map (AV.int IntKind.u8) U)),(44,vi m),(45,vi i),(49,AV.int IntKind.u8 (U.getD i.toNat default)),(50,AV.int IntKind.u8 0)],L,_,[((List.map (AV.int IntKind.u8) U).get?Internal i.toNat=some (AV.int IntKind.u8 (U.getD i.toNat default)))],_⟩ (by kernel_rfl) (bc (Zam (Zae.2 d2)) (bc (Zae.2 k4) (bc (i6.2 k7) b0))) (qc (Zay k7) q0) c0 H
 ·exact Zac (G:=Zab kp3 [] []) 6 [false] ⟨(atC (cd Try.f3) [1,1,1,1,1,1,0]),[(5,AV.vec false 9 (List.map Mo.a l)),(8,AV.ptr 0 0 0 0),(43,AV.vec hf 1 (List.map (AV.int IntKind.u8) U)),(44,vi m),(45,vi i),(46,vb (decide (i<m)))],L,_,[],_⟩ (by kernel_rfl) (bc (Zal (fun h=>d2 (Zae.1 h))) b0) q0 c0 (Wp.less [5,8] H)
theorem hsT (l:List Mo) (hf:Bool) (U:List Int) (m i:Int) (h e:Int) (L:Heap)  (dq:AV) (H :
  ((e<h)->Wp M1 (.run fi3 (atC (cd Try.f3) [1,1,1,1,1,0,1,0,0,1,1,0,0,1,0,1,0,0,1,1,0,0]) [(5,AV.vec false 9 (List.map Mo.a l)),(8,AV.ptr 0 0 0 0),(43,AV.vec hf 1 (List.map (AV.int IntKind.u8) U)),(44,vi m),(45,vi i),(49,AV.int IntKind.u8 h),(50,AV.int IntKind.u8 e),(51,vb (decide (e<h)))] L) (Zak dq)) /\
  (¬(e<h)->Wp M1 (.run fi3 (atC (cd Try.f3) [1,1,1,1,1,0,1,0,0,1,1,0,0,1,1,0]) [(5,AV.vec false 9 (List.map Mo.a l)),(8,AV.ptr 0 0 0 0),(43,AV.vec hf 1 (List.map (AV.int IntKind.u8) U)),(44,vi m),(45,vi i),(49,AV.int IntKind.u8 h),(50,AV.int IntKind.u8 e),(51,vb (decide (e<h)))] L) (Zak dq))) :
 hsT_at l hf U m i h e L (Zak dq):=by
 unfold hsT_at
 rcases xq H with ⟨d2,H⟩|⟨d2,H⟩
 ·exact Zac (G:=Zab kp3 [] []) 7 [true] ⟨(atC (cd Try.f3) [1,1,1,1,1,0,1,0,0,1,1,0,0,1,0,1,0,0,1,1,0,0]),[(5,AV.vec false 9 (List.map Mo.a l)),(8,AV.ptr 0 0 0 0),(43,AV.vec hf 1 (List.map (AV.int IntKind.u8) U)),(44,vi m),(45,vi i),(49,AV.int IntKind.u8 h),(50,AV.int IntKind.u8 e),(51,vb (decide (e<h)))],L,_,[],_⟩ (by kernel_rfl) (bc (Zam (Zae.2 d2)) b0) q0 c0 H
 ·exact Zac (G:=Zab kp3 [] []) 6 [false] ⟨(atC (cd Try.f3) [1,1,1,1,1,0,1,0,0,1,1,0,0,1,1,0]),[(5,AV.vec false 9 (List.map Mo.a l)),(8,AV.ptr 0 0 0 0),(43,AV.vec hf 1 (List.map (AV.int IntKind.u8) U)),(44,vi m),(45,vi i),(49,AV.int IntKind.u8 h),(50,AV.int IntKind.u8 e),(51,vb (decide (e<h)))],L,_,[],_⟩ (by kernel_rfl) (bc (Zal (fun h=>d2 (Zae.1 h))) b0) q0 c0 H
theorem hsU (l:List Mo) (hf:Bool) (U:List Int) (m i:Int) (h e:Int) (L:Heap)  (dq:AV) (H :
  (0<=e+1/\e+1<=255) /\
  hsT_at l hf U m i h (e+1) L (Zak dq)) :
 hsU_at l hf U m i h e L (Zak dq):=by
 unfold hsU_at
 obtain ⟨k1,H⟩:=H
 have w2:IntKind.u8.wrap (e+1)=e+1:=wU8 k1
 exact Zac (G:=Zab kp3 [] []) 1000 [] ⟨(atC (cd Try.f3) [1,1,1,1,1,0,1,0,0,1,1,0,0,1,0,1,0,0]),[(5,AV.vec false 9 (List.map Mo.a l)),(8,AV.ptr 0 0 0 0),(43,AV.vec hf 1 (List.map (AV.int IntKind.u8) U)),(44,vi m),(45,vi i),(49,AV.int IntKind.u8 h),(50,AV.int IntKind.u8 (IntKind.u8.wrap (e+1)))],L,_,[],_⟩ (by kernel_rfl) b0 q0 c0 (by (try rw [w2]);all_goals exact H)
theorem hsV (l:List Mo) (hf:Bool) (U:List Int) (m i:Int) (L:Heap)  (dq:AV) (H :
  hsW_at l hf U m i 0 L (Zak dq)) :
 hsV_at l hf U m i L (Zak dq):=by
 unfold hsV_at
 exact Zac (G:=Zab kp3 [] []) 1000 [] ⟨(atC (cd Try.f3) [1,1,1,1,1,0,1,0,0,1,1,0,0,1,1,1,1,0,0,0]),[(5,AV.vec false 9 (List.map Mo.a l)),(8,AV.ptr 0 0 0 0),(12,vi 0),(43,AV.vec hf 1 (List.map (AV.int IntKind.u8) U)),(44,vi m),(45,vi i)],L,_,[],_⟩ (by kernel_rfl) b0 q0 c0 (Wp.less [5,8,43,44,45,12] H)
theorem hsW (l:List Mo) (hf:Bool) (U:List Int) (m i:Int) (n:Int) (L:Heap)  (dq:AV) (H :
  Wp M1 (.run fi3 (atC (cd Try.f3) [1,1,1,1,1,0,1,0,0,1,1,0,0,1,1,1,1,0,0,0,0,0]) [(5,AV.vec false 9 (List.map Mo.a l)),(8,AV.ptr 0 0 0 0),(43,AV.vec hf 1 (List.map (AV.int IntKind.u8) U)),(44,vi m),(45,vi i),(12,vi n)] L) (Zak dq)) :
 hsW_at l hf U m i n L (Zak dq):=by
 unfold hsW_at
 exact Zac (G:=Zab kp3 [] []) 2 [] ⟨(atC (cd Try.f3) [1,1,1,1,1,0,1,0,0,1,1,0,0,1,1,1,1,0,0,0,0,0]),[(5,AV.vec false 9 (List.map Mo.a l)),(8,AV.ptr 0 0 0 0),(43,AV.vec hf 1 (List.map (AV.int IntKind.u8) U)),(44,vi m),(45,vi i),(12,vi n)],L,_,[],_⟩ (by kernel_rfl) b0 q0 c0 H
theorem hsX (l:List Mo) (hf:Bool) (U:List Int) (m i:Int) (n:Int) (b:Bool) (L:Heap)  (dq:AV) (H :
  ((b=true)->(-9223372036854775808<=n+1/\n+1<=9223372036854775807) /\
   ((n+1>20000)->vb false=dq) /\
   (¬(n+1>20000)->hsW_at l hf U m i (n+1) L (Zak dq))) /\
  (¬(b=true)->Wp M1 (.run fi3 (atC (cd Try.f3) [1,1,1,1,1,0,1,0,0,1,1,0,0,1,1,1,1,1,0,0]) [(5,AV.vec false 9 (List.map Mo.a l)),(8,AV.ptr 0 0 0 0),(43,AV.vec hf 1 (List.map (AV.int IntKind.u8) U)),(44,vi m),(45,vi i)] L) (Zak dq))) :
 hsX_at l hf U m i n b L (Zak dq):=by
 unfold hsX_at
 rcases xq H with ⟨d2,H⟩|⟨d2,H⟩
 ·obtain ⟨k3,H⟩:=H
  have w4:wi (n+1)=n+1:=wI64 k3
  have i5:(decide (wi (n+1)>20000))=true ↔ (n+1>20000):=(by (try rw [w4]);all_goals exact Zae)
  rcases xq H with ⟨d6,H⟩|⟨d6,H⟩
  ·exact Zao (G:=Zab kp3 [] []) 1000 [true,true] (asm:=[(b)==true,(decide (wi (n+1)>20000))==true]) (vb false) (by kernel_rfl) (bc (Zam ((Zas _).2 d2)) (bc (Zam (i5.2 d6)) b0)) q0 c0 H
  ·exact Zac (G:=Zab kp3 [] []) 1000 [true,false] ⟨(atC (cd Try.f3) [1,1,1,1,1,0,1,0,0,1,1,0,0,1,1,1,1,0,0,0]),[(5,AV.vec false 9 (List.map Mo.a l)),(8,AV.ptr 0 0 0 0),(12,vi (wi (n+1))),(43,AV.vec hf 1 (List.map (AV.int IntKind.u8) U)),(44,vi m),(45,vi i),(62,vb (decide (wi (n+1)>20000)))],L,[(b)==true,(decide (wi (n+1)>20000))==false],[],_⟩ (by kernel_rfl) (bc (Zam ((Zas _).2 d2)) (bc (Zal (fun h=>d6 (i5.1 h))) b0)) q0 c0 (by (try rw [w4]);all_goals exact Wp.less [5,8,43,44,45,12] H)
 ·exact Zac (G:=Zab kp3 [] []) 4 [false] ⟨(atC (cd Try.f3) [1,1,1,1,1,0,1,0,0,1,1,0,0,1,1,1,1,1,0,0]),[(5,AV.vec false 9 (List.map Mo.a l)),(8,AV.ptr 0 0 0 0),(43,AV.vec hf 1 (List.map (AV.int IntKind.u8) U)),(44,vi m),(45,vi i),(12,vi n),(58,vb b)],L,[(b)==false],[],_⟩ (by kernel_rfl) (bc (Zal (fun h=>d2 ((Zas _).1 h))) b0) q0 c0 (Wp.less [5,8,43,44,45] H)
noncomputable abbrev zCxY2 (l:List Mo) (ix:Int) (p:Int):=ag [vi (O.pox l ix p),vi (O.poy l ix p),vi (O.poz l ix p)]
theorem hsYA (fm:Bool) (l:List Mo) (S A j ix p:Int) (qx qy qz:Int) (hf:Bool) (U:List Int) (m i:Int)  (dq:AV) (H :
  (O.okC l ix p) /\
  (O.okOff l ix false true) /\
  (((¬((O.pox l ix p=O.pox l ix p)/\((O.poy l ix p=O.poy l ix p)/\(O.poz l ix p=O.poz l ix p))))\/(¬ix=ix))->vb false=dq) /\
  (¬((¬((O.pox l ix p=O.pox l ix p)/\((O.poy l ix p=O.poy l ix p)/\(O.poz l ix p=O.poz l ix p))))\/(¬ix=ix))->(-9223372036854775808<=i+1/\i+1<=9223372036854775807) /\
   ZgJ l hf U m (i+1) ([{ elems:=[ag [AV.vec fm 9 (List.map Mo.a l),vi S,vi A,vi j,vi ix,vi p,AV.vnil,vi 0,vb false,vb false,vb false,AV.vnil,vi qx,vi qy,vi qz]],es:=15,ver:=0,frozen:=false,clean:=false }]) (Zak dq))) :
 hsYA_at fm l S A j ix p qx qy qz hf U m i (Zak dq):=by
 unfold hsYA_at
 obtain ⟨k1,k2,H⟩:=H
 refine Zac (G:=Zab kp3 [(20,1,.call (tu [vb true,vb true]) none),(23,1,.call ((zCxY2 l ix p)) none),(23,3,.call (vi ix) none),(24,1,.call (vb false) none),(24,4,.call ((zCxY2 l ix p)) none),(24,10,.call (vi ix) none)] [(24,[1010,1004,1001])]) 10 [false] ⟨(atC (cd Try.f3) [1,1,1,1,1,0,1,0,0,1,1,0,0,1,1,1,1,1,1,1,0,1]),[(5,AV.vec false 9 (List.map Mo.a l)),(8,AV.ptr 0 0 0 0),(43,AV.vec hf 1 (List.map (AV.int IntKind.u8) U)),(44,vi m),(45,vi i),(91,vb (bif !(O.pox l ix p==O.pox l ix p&&(O.poy l ix p==O.poy l ix p&&(O.poz l ix p==O.poz l ix p&&true))) then true else ix != ix))],[⟨[ag [AV.vec fm 9 (List.map Mo.a l),vi S,vi A,vi j,vi ix,vi p,AV.vnil,vi 0,vb false,vb true,vb false,AV.vnil,vi qx,vi qy,vi qz]],15,0,false,false⟩,⟨[(zCxY2 l ix p)],3,0,false,false⟩],_,[],[⟨true,true,12,[AV.ptr 0 0 0 0],[⟨[ag [AV.vec fm 9 (List.map Mo.a l),vi S,vi A,vi j,vi ix,vi p,AV.vnil,vi 0,vb false,vb true,vb false,AV.vnil,vi qx,vi qy,vi qz]],15,0,false,false⟩],tu [vb true,vb true],[⟨[ag [AV.vec fm 9 (List.map Mo.a l),vi S,vi A,vi j,vi ix,vi p,AV.vnil,vi 0,vb false,vb true,vb false,AV.vnil,vi qx,vi qy,vi qz]],15,0,false,false⟩]⟩,⟨true,true,13,[AV.ptr 0 0 0 0],[⟨[ag [AV.vec fm 9 (List.map Mo.a l),vi S,vi A,vi j,vi ix,vi p,AV.vnil,vi 0,vb false,vb true,vb false,AV.vnil,vi qx,vi qy,vi qz]],15,0,false,false⟩],(zCxY2 l ix p),[⟨[ag [AV.vec fm 9 (List.map Mo.a l),vi S,vi A,vi j,vi ix,vi p,AV.vnil,vi 0,vb false,vb true,vb false,AV.vnil,vi qx,vi qy,vi qz]],15,0,false,false⟩]⟩,⟨true,true,14,[AV.ptr 0 0 0 0],[⟨[ag [AV.vec fm 9 (List.map Mo.a l),vi S,vi A,vi j,vi ix,vi p,AV.vnil,vi 0,vb false,vb true,vb false,AV.vnil,vi qx,vi qy,vi qz]],15,0,false,false⟩],vi ix,[⟨[ag [AV.vec fm 9 (List.map Mo.a l),vi S,vi A,vi j,vi ix,vi p,AV.vnil,vi 0,vb false,vb true,vb false,AV.vnil,vi qx,vi qy,vi qz]],15,0,false,false⟩]⟩,⟨true,true,10,[AV.ptr 0 0 0 0],[⟨[ag [AV.vec fm 9 (List.map Mo.a l),vi S,vi A,vi j,vi ix,vi p,AV.vnil,vi 0,vb false,vb true,vb false,AV.vnil,vi qx,vi qy,vi qz]],15,0,false,false⟩],vb false,[⟨[ag [AV.vec fm 9 (List.map Mo.a l),vi S,vi A,vi j,vi ix,vi p,AV.vnil,vi 0,vb false,vb true,vb false,AV.vnil,vi qx,vi qy,vi qz]],15,0,false,false⟩]⟩,⟨true,true,13,[AV.ptr 0 0 0 0],[⟨[ag [AV.vec fm 9 (List.map Mo.a l),vi S,vi A,vi j,vi ix,vi p,AV.vnil,vi 0,vb false,vb true,vb false,AV.vnil,vi qx,vi qy,vi qz]],15,0,false,false⟩],(zCxY2 l ix p),[⟨[ag [AV.vec fm 9 (List.map Mo.a l),vi S,vi A,vi j,vi ix,vi p,AV.vnil,vi 0,vb false,vb true,vb false,AV.vnil,vi qx,vi qy,vi qz]],15,0,false,false⟩]⟩,⟨(!(O.pox l ix p==O.pox l ix p&&(O.poy l ix p==O.poy l ix p&&(O.poz l ix p==O.poz l ix p&&true))))==false&&true&&true,true,14,[AV.ptr 0 0 0 0],[⟨[ag [AV.vec fm 9 (List.map Mo.a l),vi S,vi A,vi j,vi ix,vi p,AV.vnil,vi 0,vb false,vb true,vb false,AV.vnil,vi qx,vi qy,vi qz]],15,0,false,false⟩],vi ix,[⟨[ag [AV.vec fm 9 (List.map Mo.a l),vi S,vi A,vi j,vi ix,vi p,AV.vnil,vi 0,vb false,vb true,vb false,AV.vnil,vi qx,vi qy,vi qz]],15,0,false,false⟩]⟩]⟩ (by kernel_rfl) (bc rfl (bc rfl (bc rfl b0))) q0 (cc (fun _=>(@evo12_a fm l S A j ix p true false qx qy qz)) (cc (fun _=>(@Zen fm l S A j ix p 0 false true false qx qy qz k1)) (cc (fun _=>(@evo14_a fm l S A j ix p true false qx qy qz)) (cc (fun _=>(@evo10_a fm l S A j ix p true false qx qy qz k2)) (cc (fun _=>(@Zen fm l S A j ix p 0 false true false qx qy qz k1)) (cc (fun hc=>((@evo14_a fm l S A j ix p true false qx qy qz):Ev M1 (Conf.own 14 [AV.ptr 0 0 0 0] [⟨[ag [AV.vec fm 9 (List.map Mo.a l),vi S,vi A,vi j,vi ix,vi p,AV.vnil,vi 0,vb false,vb true,vb false,AV.vnil,vi qx,vi qy,vi qz]],15,0,false,false⟩]) (vi ix) [⟨[ag [AV.vec fm 9 (List.map Mo.a l),vi S,vi A,vi j,vi ix,vi p,AV.vnil,vi 0,vb false,vb true,vb false,AV.vnil,vi qx,vi qy,vi qz]],15,0,false,false⟩])) c0)))))) ?_
 rcases xq H with ⟨d5,H⟩|⟨d5,H⟩
 ·exact Zao (G:=Zab kp3 [] []) 1000 [true] (vb false) (by kernel_rfl) (bc (Zam ((ZaL (ZaO (ZaG i_eq (ZaG i_eq (i_at i_eq)))) i_ne).2 d5)) b0) q0 c0 H
 ·obtain ⟨k6,H⟩:=H
  have w7:wi (i+1)=i+1:=wI64 k6
  exact Zac (G:=Zab kp3 [(26,1,.call (tu []) (some [⟨[ag [AV.vec fm 9 (List.map Mo.a l),vi S,vi A,vi j,vi ix,vi p,AV.vnil,vi 0,vb false,vb false,vb false,AV.vnil,vi qx,vi qy,vi qz]],15,0,false,false⟩]))] []) 1000 [false] ⟨(atC (cd Try.f3) [1,1,1,1,1,0,1,0,0]),[(5,AV.vec false 9 (List.map Mo.a l)),(8,AV.ptr 0 0 0 0),(43,AV.vec hf 1 (List.map (AV.int IntKind.u8) U)),(44,vi m),(45,vi (wi (i+1)))],[⟨[ag [AV.vec fm 9 (List.map Mo.a l),vi S,vi A,vi j,vi ix,vi p,AV.vnil,vi 0,vb false,vb false,vb false,AV.vnil,vi qx,vi qy,vi qz]],15,0,false,false⟩,⟨[(zCxY2 l ix p)],3,0,false,false⟩],_,[],[⟨true,true,15,[AV.ptr 0 0 0 0],[⟨[ag [AV.vec fm 9 (List.map Mo.a l),vi S,vi A,vi j,vi ix,vi p,AV.vnil,vi 0,vb false,vb true,vb false,AV.vnil,vi qx,vi qy,vi qz]],15,0,false,false⟩],tu [],[⟨[ag [AV.vec fm 9 (List.map Mo.a l),vi S,vi A,vi j,vi ix,vi p,AV.vnil,vi 0,vb false,vb false,vb false,AV.vnil,vi qx,vi qy,vi qz]],15,0,false,false⟩]⟩]⟩ (by kernel_rfl) (bc (Zal (fun h=>d5 ((ZaL (ZaO (ZaG i_eq (ZaG i_eq (i_at i_eq)))) i_ne).1 h))) b0) q0 (cc (fun _=>(@evo15_a fm l S A j ix p true false qx qy qz)) c0) (by (try rw [w7]);all_goals exact Zar [0] (by kernel_rfl) H)
noncomputable abbrev zCxY3 (l:List Mo) (ix:Int) (p:Int):=ag [vi (O.pox l ix p),vi (O.poy l ix p),vi (O.poz l ix p)]
theorem hsYB (fm:Bool) (l:List Mo) (S A j ix p:Int) (qx qy qz:Int) (P:List Mo) (w:Nat) (hf:Bool) (U:List Int) (m i:Int)  (dq:AV) (H :
  (O.okC l ix p) /\
  (O.okOff l ix false true) /\
  (((¬((O.pox l ix p=O.pox l ix p)/\((O.poy l ix p=O.poy l ix p)/\(O.poz l ix p=O.poz l ix p))))\/(¬ix=ix))->vb false=dq) /\
  (¬((¬((O.pox l ix p=O.pox l ix p)/\((O.poy l ix p=O.poy l ix p)/\(O.poz l ix p=O.poz l ix p))))\/(¬ix=ix))->(-9223372036854775808<=i+1/\i+1<=9223372036854775807) /\
   ZgJ l hf U m (i+1) ([{ elems:=[ag [AV.vec fm 9 (List.map Mo.a l),vi S,vi A,vi j,vi ix,vi p,AV.vnil,vi 0,vb false,vb false,vb false,AV.row 1 w,vi qx,vi qy,vi qz]],es:=15,ver:=0,frozen:=false,clean:=false },{ elems:=List.map Mo.a P,es:=9,ver:=w,frozen:=false,clean:=true }]) (Zak dq))) :
 hsYB_at fm l S A j ix p qx qy qz P w hf U m i (Zak dq):=by
 unfold hsYB_at
 obtain ⟨k1,k2,H⟩:=H
 refine Zac (G:=Zab kp3 [(20,1,.call (tu [vb true,vb true]) none),(23,1,.call ((zCxY3 l ix p)) none),(23,3,.call (vi ix) none),(24,1,.call (vb false) none),(24,4,.call ((zCxY3 l ix p)) none),(24,10,.call (vi ix) none)] [(24,[1010,1004,1001])]) 10 [false] ⟨(atC (cd Try.f3) [1,1,1,1,1,0,1,0,0,1,1,0,0,1,1,1,1,1,1,1,0,1]),[(5,AV.vec false 9 (List.map Mo.a l)),(8,AV.ptr 0 0 0 0),(43,AV.vec hf 1 (List.map (AV.int IntKind.u8) U)),(44,vi m),(45,vi i),(91,vb (bif !(O.pox l ix p==O.pox l ix p&&(O.poy l ix p==O.poy l ix p&&(O.poz l ix p==O.poz l ix p&&true))) then true else ix != ix))],[⟨[ag [AV.vec fm 9 (List.map Mo.a l),vi S,vi A,vi j,vi ix,vi p,AV.vnil,vi 0,vb false,vb true,vb false,AV.row 1 w,vi qx,vi qy,vi qz]],15,0,false,false⟩,⟨List.map Mo.a P,9,w,false,true⟩,⟨[(zCxY3 l ix p)],3,0,false,false⟩],_,[],[⟨true,true,12,[AV.ptr 0 0 0 0],[⟨[ag [AV.vec fm 9 (List.map Mo.a l),vi S,vi A,vi j,vi ix,vi p,AV.vnil,vi 0,vb false,vb true,vb false,AV.row 1 w,vi qx,vi qy,vi qz]],15,0,false,false⟩,⟨List.map Mo.a P,9,w,false,true⟩],tu [vb true,vb true],[⟨[ag [AV.vec fm 9 (List.map Mo.a l),vi S,vi A,vi j,vi ix,vi p,AV.vnil,vi 0,vb false,vb true,vb false,AV.row 1 w,vi qx,vi qy,vi qz]],15,0,false,false⟩,⟨List.map Mo.a P,9,w,false,true⟩]⟩,⟨true,true,13,[AV.ptr 0 0 0 0],[⟨[ag [AV.vec fm 9 (List.map Mo.a l),vi S,vi A,vi j,vi ix,vi p,AV.vnil,vi 0,vb false,vb true,vb false,AV.row 1 w,vi qx,vi qy,vi qz]],15,0,false,false⟩,⟨List.map Mo.a P,9,w,false,true⟩],(zCxY3 l ix p),[⟨[ag [AV.vec fm 9 (List.map Mo.a l),vi S,vi A,vi j,vi ix,vi p,AV.vnil,vi 0,vb false,vb true,vb false,AV.row 1 w,vi qx,vi qy,vi qz]],15,0,false,false⟩,⟨List.map Mo.a P,9,w,false,true⟩]⟩,⟨true,true,14,[AV.ptr 0 0 0 0],[⟨[ag [AV.vec fm 9 (List.map Mo.a l),vi S,vi A,vi j,vi ix,vi p,AV.vnil,vi 0,vb false,vb true,vb false,AV.row 1 w,vi qx,vi qy,vi qz]],15,0,false,false⟩,⟨List.map Mo.a P,9,w,false,true⟩],vi ix,[⟨[ag [AV.vec fm 9 (List.map Mo.a l),vi S,vi A,vi j,vi ix,vi p,AV.vnil,vi 0,vb false,vb true,vb false,AV.row 1 w,vi qx,vi qy,vi qz]],15,0,false,false⟩,⟨List.map Mo.a P,9,w,false,true⟩]⟩,⟨true,true,10,[AV.ptr 0 0 0 0],[⟨[ag [AV.vec fm 9 (List.map Mo.a l),vi S,vi A,vi j,vi ix,vi p,AV.vnil,vi 0,vb false,vb true,vb false,AV.row 1 w,vi qx,vi qy,vi qz]],15,0,false,false⟩,⟨List.map Mo.a P,9,w,false,true⟩],vb false,[⟨[ag [AV.vec fm 9 (List.map Mo.a l),vi S,vi A,vi j,vi ix,vi p,AV.vnil,vi 0,vb false,vb true,vb false,AV.row 1 w,vi qx,vi qy,vi qz]],15,0,false,false⟩,⟨List.map Mo.a P,9,w,false,true⟩]⟩,⟨true,true,13,[AV.ptr 0 0 0 0],[⟨[ag [AV.vec fm 9 (List.map Mo.a l),vi S,vi A,vi j,vi ix,vi p,AV.vnil,vi 0,vb false,vb true,vb false,AV.row 1 w,vi qx,vi qy,vi qz]],15,0,false,false⟩,⟨List.map Mo.a P,9,w,false,true⟩],(zCxY3 l ix p),[⟨[ag [AV.vec fm 9 (List.map Mo.a l),vi S,vi A,vi j,vi ix,vi p,AV.vnil,vi 0,vb false,vb true,vb false,AV.row 1 w,vi qx,vi qy,vi qz]],15,0,false,false⟩,⟨List.map Mo.a P,9,w,false,true⟩]⟩,⟨(!(O.pox l ix p==O.pox l ix p&&(O.poy l ix p==O.poy l ix p&&(O.poz l ix p==O.poz l ix p&&true))))==false&&true&&true,true,14,[AV.ptr 0 0 0 0],[⟨[ag [AV.vec fm 9 (List.map Mo.a l),vi S,vi A,vi j,vi ix,vi p,AV.vnil,vi 0,vb false,vb true,vb false,AV.row 1 w,vi qx,vi qy,vi qz]],15,0,false,false⟩,⟨List.map Mo.a P,9,w,false,true⟩],vi ix,[⟨[ag [AV.vec fm 9 (List.map Mo.a l),vi S,vi A,vi j,vi ix,vi p,AV.vnil,vi 0,vb false,vb true,vb false,AV.row 1 w,vi qx,vi qy,vi qz]],15,0,false,false⟩,⟨List.map Mo.a P,9,w,false,true⟩]⟩]⟩ (by kernel_rfl) (bc rfl (bc rfl (bc rfl b0))) q0 (cc (fun _=>(@evo12_b fm l S A j ix p true false qx qy qz P w false)) (cc (fun _=>(@ZcP fm l S A j ix p 0 false true false qx qy qz P w false k1)) (cc (fun _=>(@evo14_b fm l S A j ix p true false qx qy qz P w false)) (cc (fun _=>(@evo10_b fm l S A j ix p true false qx qy qz P w k2)) (cc (fun _=>(@ZcP fm l S A j ix p 0 false true false qx qy qz P w false k1)) (cc (fun hc=>((@evo14_b fm l S A j ix p true false qx qy qz P w false):Ev M1 (Conf.own 14 [AV.ptr 0 0 0 0] [⟨[ag [AV.vec fm 9 (List.map Mo.a l),vi S,vi A,vi j,vi ix,vi p,AV.vnil,vi 0,vb false,vb true,vb false,AV.row 1 w,vi qx,vi qy,vi qz]],15,0,false,false⟩,⟨List.map Mo.a P,9,w,false,true⟩]) (vi ix) [⟨[ag [AV.vec fm 9 (List.map Mo.a l),vi S,vi A,vi j,vi ix,vi p,AV.vnil,vi 0,vb false,vb true,vb false,AV.row 1 w,vi qx,vi qy,vi qz]],15,0,false,false⟩,⟨List.map Mo.a P,9,w,false,true⟩])) c0)))))) ?_
 rcases xq H with ⟨d5,H⟩|⟨d5,H⟩
 ·exact Zao (G:=Zab kp3 [] []) 1000 [true] (vb false) (by kernel_rfl) (bc (Zam ((ZaL (ZaO (ZaG i_eq (ZaG i_eq (i_at i_eq)))) i_ne).2 d5)) b0) q0 c0 H
 ·obtain ⟨k6,H⟩:=H
  have w7:wi (i+1)=i+1:=wI64 k6
  exact Zac (G:=Zab kp3 [(26,1,.call (tu []) (some [⟨[ag [AV.vec fm 9 (List.map Mo.a l),vi S,vi A,vi j,vi ix,vi p,AV.vnil,vi 0,vb false,vb false,vb false,AV.row 1 w,vi qx,vi qy,vi qz]],15,0,false,false⟩,⟨List.map Mo.a P,9,w,false,true⟩]))] []) 1000 [false] ⟨(atC (cd Try.f3) [1,1,1,1,1,0,1,0,0]),[(5,AV.vec false 9 (List.map Mo.a l)),(8,AV.ptr 0 0 0 0),(43,AV.vec hf 1 (List.map (AV.int IntKind.u8) U)),(44,vi m),(45,vi (wi (i+1)))],[⟨[ag [AV.vec fm 9 (List.map Mo.a l),vi S,vi A,vi j,vi ix,vi p,AV.vnil,vi 0,vb false,vb false,vb false,AV.row 1 w,vi qx,vi qy,vi qz]],15,0,false,false⟩,⟨List.map Mo.a P,9,w,false,true⟩,⟨[(zCxY3 l ix p)],3,0,false,false⟩],_,[],[⟨true,true,15,[AV.ptr 0 0 0 0],[⟨[ag [AV.vec fm 9 (List.map Mo.a l),vi S,vi A,vi j,vi ix,vi p,AV.vnil,vi 0,vb false,vb true,vb false,AV.row 1 w,vi qx,vi qy,vi qz]],15,0,false,false⟩,⟨List.map Mo.a P,9,w,false,true⟩],tu [],[⟨[ag [AV.vec fm 9 (List.map Mo.a l),vi S,vi A,vi j,vi ix,vi p,AV.vnil,vi 0,vb false,vb false,vb false,AV.row 1 w,vi qx,vi qy,vi qz]],15,0,false,false⟩,⟨List.map Mo.a P,9,w,false,true⟩]⟩]⟩ (by kernel_rfl) (bc (Zal (fun h=>d5 ((ZaL (ZaO (ZaG i_eq (ZaG i_eq (i_at i_eq)))) i_ne).1 h))) b0) q0 (cc (fun _=>(@evo15_b fm l S A j ix p true false qx qy qz P w)) c0) (by (try rw [w7]);all_goals exact Zar [0,1] (by kernel_rfl) H)
noncomputable abbrev zCxY4 (l:List Mo) (iy:Int) (py:Int):=ag [vi (O.pox l iy py),vi (O.poy l iy py),vi (O.poz l iy py)]
noncomputable abbrev zCxY5 (l:List Mo) (iy:Int) (py:Int):=O.enP (O.pox l iy py) (O.poy l iy py) (O.poz l iy py) l
noncomputable abbrev zCxY6 (l:List Mo) (iy:Int) (py:Int):=ag [vi (zCxY5 l iy py).x,vi (zCxY5 l iy py).y,vi (zCxY5 l iy py).z]
theorem hsZaa (fm:Bool) (l:List Mo) (S A j ix p:Int) (qx qy qz:Int) (iy py rx ry rz:Int) (R:List Mo) (wy:Nat) (dq:AV) (H :
  (Ev M1 (Conf.own 16 [AV.ptr 0 0 0 0,vi (↑(List.map Mo.a l).length:Int)] [{ elems:=[ag [AV.vec fm 9 (List.map Mo.a l),vi S,vi A,vi j,vi ix,vi p,AV.vnil,vi 0,vb false,vb false,vb false,AV.vnil,vi qx,vi qy,vi qz]],es:=15,ver:=0,frozen:=false,clean:=false }]) (vb true) [{ elems:=[ag [AV.vec fm 9 (List.map Mo.a l),vi S,vi A,vi j,vi iy,vi py,AV.vnil,vi 0,vb false,vb false,vb false,AV.vnil,vi rx,vi ry,vi rz]],es:=15,ver:=0,frozen:=false,clean:=false }]) /\
  (O.okC l iy py) /\
  ∃ (l1:List Mo),
  (Ev M1 (Conf.pure 18 [AV.vec false 9 []]) (AV.vec false 9 (List.map Mo.a l1)) []) /\
  (O.ZeZ l) /\
  (O.okSm l1 (O.lng l)) /\
  vb (bif O.smM l1 (O.lng l) then O.pox l iy py==(O.enP (O.pox l iy py) (O.poy l iy py) (O.poz l iy py) l).x&&(O.poy l iy py==(O.enP (O.pox l iy py) (O.poy l iy py) (O.poz l iy py) l).y&&(O.poz l iy py==(O.enP (O.pox l iy py) (O.poy l iy py) (O.poz l iy py) l).z&&true)) else false)=dq) :
 hsZaa_at fm l S A j ix p qx qy qz (Zak dq):=by
 unfold hsZaa_at
 obtain ⟨k1,k2,l1,k3,k4,k5,H⟩:=H
 exact Zao (G:=Zab kp3 [(28,3,(.call (.bool true) (some [⟨[.agg [.vec fm 9 (l.map Mo.a),.int .i64 S,.int .i64 A,.int .i64 j,.int .i64 iy,.int .i64 py,.vnil,.int .i64 0,.bool false,.bool false,.bool false,.vnil,.int .i64 rx,.int .i64 ry,.int .i64 rz]],15,0,false,false⟩]):Ans)),(28,6,.call (AV.vec false 9 []) none),(28,7,.call (AV.vec false 9 (List.map Mo.a l1)) none),(28,9,.call (AV.vec false 9 (List.map Mo.a (O.lng l))) none),(28,10,.call (vb (O.smM l1 (O.lng l))) none),(28,14,.call ((zCxY4 l iy py)) none),(28,16,.call ((zCxY4 l iy py)) none),(28,18,.call ((zCxY6 l iy py)) none)] []) 1000 [] (calls:=[⟨true,true,16,[AV.ptr 0 0 0 0,vi (↑(List.map Mo.a l).length:Int)],[⟨[ag [AV.vec fm 9 (List.map Mo.a l),vi S,vi A,vi j,vi ix,vi p,AV.vnil,vi 0,vb false,vb false,vb false,AV.vnil,vi qx,vi qy,vi qz]],15,0,false,false⟩],vb true,[⟨[ag [AV.vec fm 9 (List.map Mo.a l),vi S,vi A,vi j,vi iy,vi py,AV.vnil,vi 0,vb false,vb false,vb false,AV.vnil,vi rx,vi ry,vi rz]],15,0,false,false⟩]⟩,⟨true,true,19,[AV.ptr 0 0 0 0],[⟨[ag [AV.vec fm 9 (List.map Mo.a l),vi S,vi A,vi j,vi iy,vi py,AV.vnil,vi 0,vb false,vb false,vb false,AV.vnil,vi rx,vi ry,vi rz]],15,0,false,false⟩],AV.vec false 9 [],[⟨[ag [AV.vec fm 9 (List.map Mo.a l),vi S,vi A,vi j,vi iy,vi py,AV.vnil,vi 0,vb false,vb false,vb false,AV.vnil,vi rx,vi ry,vi rz]],15,0,false,false⟩]⟩,⟨true,false,18,[AV.vec false 9 []],[],AV.vec false 9 (List.map Mo.a l1),[]⟩,⟨true,false,20,[AV.vec false 9 (List.map Mo.a l)],[],AV.vec false 9 (List.map Mo.a (O.lng l)),[]⟩,⟨true,false,17,[AV.vec false 9 (List.map Mo.a l1),AV.vec false 9 (List.map Mo.a (O.lng l))],[],vb (O.smM l1 (O.lng l)),[]⟩,⟨O.smM l1 (O.lng l)==true&&true&&true,true,13,[AV.ptr 0 0 0 0],[⟨[ag [AV.vec fm 9 (List.map Mo.a l),vi S,vi A,vi j,vi iy,vi py,AV.vnil,vi 0,vb false,vb false,vb false,AV.vnil,vi rx,vi ry,vi rz]],15,0,false,false⟩],(zCxY4 l iy py),[⟨[ag [AV.vec fm 9 (List.map Mo.a l),vi S,vi A,vi j,vi iy,vi py,AV.vnil,vi 0,vb false,vb false,vb false,AV.vnil,vi rx,vi ry,vi rz]],15,0,false,false⟩]⟩,⟨O.smM l1 (O.lng l)==true&&true&&true,true,13,[AV.ptr 0 0 0 0],[⟨[ag [AV.vec fm 9 (List.map Mo.a l),vi S,vi A,vi j,vi iy,vi py,AV.vnil,vi 0,vb false,vb false,vb false,AV.vnil,vi rx,vi ry,vi rz]],15,0,false,false⟩],(zCxY4 l iy py),[⟨[ag [AV.vec fm 9 (List.map Mo.a l),vi S,vi A,vi j,vi iy,vi py,AV.vnil,vi 0,vb false,vb false,vb false,AV.vnil,vi rx,vi ry,vi rz]],15,0,false,false⟩]⟩,⟨O.smM l1 (O.lng l)==true&&true&&true,false,21,[(zCxY4 l iy py),AV.vec false 9 (List.map Mo.a l)],[],(zCxY6 l iy py),[]⟩]) (vb (bif O.smM l1 (O.lng l) then O.pox l iy py==(zCxY5 l iy py).x&&(O.poy l iy py==(zCxY5 l iy py).y&&(O.poz l iy py==(zCxY5 l iy py).z&&true)) else false)) (by kernel_rfl) b0 q0 (cc (fun _=>k1) (cc (fun _=>(@evo19_a fm l S A j iy py false false rx ry rz k2)) (cc (fun _=>k3) (cc (fun _=>(@ev20 false l k4)) (cc (fun _=>(@ev17 false false l1 (O.lng l) k5)) (cc (fun hc=>((@Zen fm l S A j iy py 0 false false false rx ry rz k2):Ev M1 (Conf.own 13 [AV.ptr 0 0 0 0] [⟨[ag [AV.vec fm 9 (List.map Mo.a l),vi S,vi A,vi j,vi iy,vi py,AV.vnil,vi 0,vb false,vb false,vb false,AV.vnil,vi rx,vi ry,vi rz]],15,0,false,false⟩]) ((zCxY4 l iy py)) [⟨[ag [AV.vec fm 9 (List.map Mo.a l),vi S,vi A,vi j,vi iy,vi py,AV.vnil,vi 0,vb false,vb false,vb false,AV.vnil,vi rx,vi ry,vi rz]],15,0,false,false⟩])) (cc (fun hc=>((@Zen fm l S A j iy py 0 false false false rx ry rz k2):Ev M1 (Conf.own 13 [AV.ptr 0 0 0 0] [⟨[ag [AV.vec fm 9 (List.map Mo.a l),vi S,vi A,vi j,vi iy,vi py,AV.vnil,vi 0,vb false,vb false,vb false,AV.vnil,vi rx,vi ry,vi rz]],15,0,false,false⟩]) ((zCxY4 l iy py)) [⟨[ag [AV.vec fm 9 (List.map Mo.a l),vi S,vi A,vi j,vi iy,vi py,AV.vnil,vi 0,vb false,vb false,vb false,AV.vnil,vi rx,vi ry,vi rz]],15,0,false,false⟩])) (cc (fun hc=>((@ev21 (O.pox l iy py) (O.poy l iy py) (O.poz l iy py) false l k4):Ev M1 (Conf.pure 21 [(zCxY4 l iy py),AV.vec false 9 (List.map Mo.a l)]) ((zCxY6 l iy py)) [])) c0)))))))) H
noncomputable abbrev zCxY7 (l:List Mo) (iy:Int) (py:Int):=ag [vi (O.pox l iy py),vi (O.poy l iy py),vi (O.poz l iy py)]
noncomputable abbrev zCxY8 (l:List Mo) (iy:Int) (py:Int):=O.enP (O.pox l iy py) (O.poy l iy py) (O.poz l iy py) l
noncomputable abbrev zCxY9 (l:List Mo) (iy:Int) (py:Int):=ag [vi (zCxY8 l iy py).x,vi (zCxY8 l iy py).y,vi (zCxY8 l iy py).z]
theorem hsZab (fm:Bool) (l:List Mo) (S A j ix p:Int) (qx qy qz:Int) (iy py rx ry rz:Int) (R:List Mo) (wy:Nat) (dq:AV) (H :
  (Ev M1 (Conf.own 16 [AV.ptr 0 0 0 0,vi (↑(List.map Mo.a l).length:Int)] [{ elems:=[ag [AV.vec fm 9 (List.map Mo.a l),vi S,vi A,vi j,vi ix,vi p,AV.vnil,vi 0,vb false,vb false,vb false,AV.vnil,vi qx,vi qy,vi qz]],es:=15,ver:=0,frozen:=false,clean:=false }]) (vb true) [{ elems:=[ag [AV.vec fm 9 (List.map Mo.a l),vi S,vi A,vi j,vi iy,vi py,AV.vnil,vi 0,vb false,vb false,vb false,AV.row 1 wy,vi rx,vi ry,vi rz]],es:=15,ver:=0,frozen:=false,clean:=false },{ elems:=List.map Mo.a R,es:=9,ver:=wy,frozen:=false,clean:=true }]) /\
  (O.okDn l iy py R) /\
  (O.ZeZ R) /\
  (O.ZeZ l) /\
  (O.okSm (O.wh R) (O.lng l)) /\
  ((O.smM (O.wh R) (O.lng l)=true)->(O.okC l iy py)) /\
  vb (bif O.smM (O.wh R) (O.lng l) then O.pox l iy py==(O.enP (O.pox l iy py) (O.poy l iy py) (O.poz l iy py) l).x&&(O.poy l iy py==(O.enP (O.pox l iy py) (O.poy l iy py) (O.poz l iy py) l).y&&(O.poz l iy py==(O.enP (O.pox l iy py) (O.poy l iy py) (O.poz l iy py) l).z&&true)) else false)=dq) :
 hsZab_at fm l S A j ix p qx qy qz (Zak dq):=by
 unfold hsZab_at
 obtain ⟨k1,k2,k3,k4,k5,k7,H⟩:=H
 exact Zao (G:=Zab kp3 [(28,3,(.call (.bool true) (some [⟨[.agg [.vec fm 9 (l.map Mo.a),.int .i64 S,.int .i64 A,.int .i64 j,.int .i64 iy,.int .i64 py,.vnil,.int .i64 0,.bool false,.bool false,.bool false,.row 1 wy,.int .i64 rx,.int .i64 ry,.int .i64 rz]],15,0,false,false⟩,⟨R.map Mo.a,9,wy,false,true⟩]):Ans)),(28,6,.call (AV.vec false 9 (List.map Mo.a R)) (some [⟨[ag [AV.vec fm 9 (List.map Mo.a l),vi S,vi A,vi j,vi iy,vi py,AV.vnil,vi 0,vb false,vb false,vb false,AV.row 1 wy,vi rx,vi ry,vi rz]],15,0,false,false⟩,⟨List.map Mo.a R,9,wy,true,true⟩])),(28,7,.call (AV.vec false 9 (List.map Mo.a (O.wh R))) none),(28,9,.call (AV.vec false 9 (List.map Mo.a (O.lng l))) none),(28,10,.call (vb (O.smM (O.wh R) (O.lng l))) none),(28,14,.call ((zCxY7 l iy py)) none),(28,16,.call ((zCxY7 l iy py)) none),(28,18,.call ((zCxY9 l iy py)) none)] []) 1000 [] (calls:=[⟨true,true,16,[AV.ptr 0 0 0 0,vi (↑(List.map Mo.a l).length:Int)],[⟨[ag [AV.vec fm 9 (List.map Mo.a l),vi S,vi A,vi j,vi ix,vi p,AV.vnil,vi 0,vb false,vb false,vb false,AV.vnil,vi qx,vi qy,vi qz]],15,0,false,false⟩],vb true,[⟨[ag [AV.vec fm 9 (List.map Mo.a l),vi S,vi A,vi j,vi iy,vi py,AV.vnil,vi 0,vb false,vb false,vb false,AV.row 1 wy,vi rx,vi ry,vi rz]],15,0,false,false⟩,⟨List.map Mo.a R,9,wy,false,true⟩]⟩,⟨true,true,19,[AV.ptr 0 0 0 0],[⟨[ag [AV.vec fm 9 (List.map Mo.a l),vi S,vi A,vi j,vi iy,vi py,AV.vnil,vi 0,vb false,vb false,vb false,AV.row 1 wy,vi rx,vi ry,vi rz]],15,0,false,false⟩,⟨List.map Mo.a R,9,wy,false,true⟩],AV.vec false 9 (List.map Mo.a R),[⟨[ag [AV.vec fm 9 (List.map Mo.a l),vi S,vi A,vi j,vi iy,vi py,AV.vnil,vi 0,vb false,vb false,vb false,AV.row 1 wy,vi rx,vi ry,vi rz]],15,0,false,false⟩,⟨List.map Mo.a R,9,wy,true,true⟩]⟩,⟨true,false,18,[AV.vec false 9 (List.map Mo.a R)],[],AV.vec false 9 (List.map Mo.a (O.wh R)),[]⟩,⟨true,false,20,[AV.vec false 9 (List.map Mo.a l)],[],AV.vec false 9 (List.map Mo.a (O.lng l)),[]⟩,⟨true,false,17,[AV.vec false 9 (List.map Mo.a (O.wh R)),AV.vec false 9 (List.map Mo.a (O.lng l))],[],vb (O.smM (O.wh R) (O.lng l)),[]⟩,⟨O.smM (O.wh R) (O.lng l)==true&&true&&true,true,13,[AV.ptr 0 0 0 0],[⟨[ag [AV.vec fm 9 (List.map Mo.a l),vi S,vi A,vi j,vi iy,vi py,AV.vnil,vi 0,vb false,vb false,vb false,AV.row 1 wy,vi rx,vi ry,vi rz]],15,0,false,false⟩,⟨List.map Mo.a R,9,wy,true,true⟩],(zCxY7 l iy py),[⟨[ag [AV.vec fm 9 (List.map Mo.a l),vi S,vi A,vi j,vi iy,vi py,AV.vnil,vi 0,vb false,vb false,vb false,AV.row 1 wy,vi rx,vi ry,vi rz]],15,0,false,false⟩,⟨List.map Mo.a R,9,wy,true,true⟩]⟩,⟨O.smM (O.wh R) (O.lng l)==true&&true&&true,true,13,[AV.ptr 0 0 0 0],[⟨[ag [AV.vec fm 9 (List.map Mo.a l),vi S,vi A,vi j,vi iy,vi py,AV.vnil,vi 0,vb false,vb false,vb false,AV.row 1 wy,vi rx,vi ry,vi rz]],15,0,false,false⟩,⟨List.map Mo.a R,9,wy,true,true⟩],(zCxY7 l iy py),[⟨[ag [AV.vec fm 9 (List.map Mo.a l),vi S,vi A,vi j,vi iy,vi py,AV.vnil,vi 0,vb false,vb false,vb false,AV.row 1 wy,vi rx,vi ry,vi rz]],15,0,false,false⟩,⟨List.map Mo.a R,9,wy,true,true⟩]⟩,⟨O.smM (O.wh R) (O.lng l)==true&&true&&true,false,21,[(zCxY7 l iy py),AV.vec false 9 (List.map Mo.a l)],[],(zCxY9 l iy py),[]⟩]) (vb (bif O.smM (O.wh R) (O.lng l) then O.pox l iy py==(zCxY8 l iy py).x&&(O.poy l iy py==(zCxY8 l iy py).y&&(O.poz l iy py==(zCxY8 l iy py).z&&true)) else false)) (by kernel_rfl) b0 q0 (cc (fun _=>k1) (cc (fun _=>(@evo19_b fm l S A j iy py false false rx ry rz R wy k2)) (cc (fun _=>(@ev18 false R k3)) (cc (fun _=>(@ev20 false l k4)) (cc (fun _=>(@ev17 false false (O.wh R) (O.lng l) k5)) (cc (fun hc=>((@ZcP fm l S A j iy py 0 false false false rx ry rz R wy true (k7 ((i_at (i_at (i_bt (Zas _)))).1 hc))):Ev M1 (Conf.own 13 [AV.ptr 0 0 0 0] [⟨[ag [AV.vec fm 9 (List.map Mo.a l),vi S,vi A,vi j,vi iy,vi py,AV.vnil,vi 0,vb false,vb false,vb false,AV.row 1 wy,vi rx,vi ry,vi rz]],15,0,false,false⟩,⟨List.map Mo.a R,9,wy,true,true⟩]) ((zCxY7 l iy py)) [⟨[ag [AV.vec fm 9 (List.map Mo.a l),vi S,vi A,vi j,vi iy,vi py,AV.vnil,vi 0,vb false,vb false,vb false,AV.row 1 wy,vi rx,vi ry,vi rz]],15,0,false,false⟩,⟨List.map Mo.a R,9,wy,true,true⟩])) (cc (fun hc=>((@ZcP fm l S A j iy py 0 false false false rx ry rz R wy true (k7 ((i_at (i_at (i_bt (Zas _)))).1 hc))):Ev M1 (Conf.own 13 [AV.ptr 0 0 0 0] [⟨[ag [AV.vec fm 9 (List.map Mo.a l),vi S,vi A,vi j,vi iy,vi py,AV.vnil,vi 0,vb false,vb false,vb false,AV.row 1 wy,vi rx,vi ry,vi rz]],15,0,false,false⟩,⟨List.map Mo.a R,9,wy,true,true⟩]) ((zCxY7 l iy py)) [⟨[ag [AV.vec fm 9 (List.map Mo.a l),vi S,vi A,vi j,vi iy,vi py,AV.vnil,vi 0,vb false,vb false,vb false,AV.row 1 wy,vi rx,vi ry,vi rz]],15,0,false,false⟩,⟨List.map Mo.a R,9,wy,true,true⟩])) (cc (fun hc=>((@ev21 (O.pox l iy py) (O.poy l iy py) (O.poz l iy py) false l k4):Ev M1 (Conf.pure 21 [(zCxY7 l iy py),AV.vec false 9 (List.map Mo.a l)]) ((zCxY9 l iy py)) [])) c0)))))))) H
noncomputable abbrev ZeA (l:List Mo) (iy:Int) (py:Int):=ag [vi (O.pox l iy py),vi (O.poy l iy py),vi (O.poz l iy py)]
noncomputable abbrev Zf6 (l:List Mo) (iy:Int) (py:Int):=O.enP (O.pox l iy py) (O.poy l iy py) (O.poz l iy py) l
noncomputable abbrev zCxY12 (l:List Mo) (iy:Int) (py:Int):=ag [vi (Zf6 l iy py).x,vi (Zf6 l iy py).y,vi (Zf6 l iy py).z]
theorem hsZbb (fm:Bool) (l:List Mo) (S A j ix p:Int) (qx qy qz:Int) (P:List Mo) (w:Nat) (iy py rx ry rz:Int) (R:List Mo) (wy:Nat) (dq:AV) (H :
  (Ev M1 (Conf.own 16 [AV.ptr 0 0 0 0,vi (↑(List.map Mo.a l).length:Int)] [{ elems:=[ag [AV.vec fm 9 (List.map Mo.a l),vi S,vi A,vi j,vi ix,vi p,AV.vnil,vi 0,vb false,vb false,vb false,AV.row 1 w,vi qx,vi qy,vi qz]],es:=15,ver:=0,frozen:=false,clean:=false },{ elems:=List.map Mo.a P,es:=9,ver:=w,frozen:=false,clean:=true }]) (vb true) [{ elems:=[ag [AV.vec fm 9 (List.map Mo.a l),vi S,vi A,vi j,vi iy,vi py,AV.vnil,vi 0,vb false,vb false,vb false,AV.row 1 wy,vi rx,vi ry,vi rz]],es:=15,ver:=0,frozen:=false,clean:=false },{ elems:=List.map Mo.a R,es:=9,ver:=wy,frozen:=false,clean:=true }]) /\
  (O.okDn l iy py R) /\
  (O.ZeZ R) /\
  (O.ZeZ l) /\
  (O.okSm (O.wh R) (O.lng l)) /\
  ((O.smM (O.wh R) (O.lng l)=true)->(O.okC l iy py)) /\
  vb (bif O.smM (O.wh R) (O.lng l) then O.pox l iy py==(O.enP (O.pox l iy py) (O.poy l iy py) (O.poz l iy py) l).x&&(O.poy l iy py==(O.enP (O.pox l iy py) (O.poy l iy py) (O.poz l iy py) l).y&&(O.poz l iy py==(O.enP (O.pox l iy py) (O.poy l iy py) (O.poz l iy py) l).z&&true)) else false)=dq) :
 hsZbb_at fm l S A j ix p qx qy qz P w (Zak dq):=by
 unfold hsZbb_at
 obtain ⟨k1,k2,k3,k4,k5,k7,H⟩:=H
 exact Zao (G:=Zab kp3 [(28,3,(.call (.bool true) (some [⟨[.agg [.vec fm 9 (l.map Mo.a),.int .i64 S,.int .i64 A,.int .i64 j,.int .i64 iy,.int .i64 py,.vnil,.int .i64 0,.bool false,.bool false,.bool false,.row 1 wy,.int .i64 rx,.int .i64 ry,.int .i64 rz]],15,0,false,false⟩,⟨R.map Mo.a,9,wy,false,true⟩]):Ans)),(28,6,.call (AV.vec false 9 (List.map Mo.a R)) (some [⟨[ag [AV.vec fm 9 (List.map Mo.a l),vi S,vi A,vi j,vi iy,vi py,AV.vnil,vi 0,vb false,vb false,vb false,AV.row 1 wy,vi rx,vi ry,vi rz]],15,0,false,false⟩,⟨List.map Mo.a R,9,wy,true,true⟩])),(28,7,.call (AV.vec false 9 (List.map Mo.a (O.wh R))) none),(28,9,.call (AV.vec false 9 (List.map Mo.a (O.lng l))) none),(28,10,.call (vb (O.smM (O.wh R) (O.lng l))) none),(28,14,.call ((ZeA l iy py)) none),(28,16,.call ((ZeA l iy py)) none),(28,18,.call ((zCxY12 l iy py)) none)] []) 1000 [] (calls:=[⟨true,true,16,[AV.ptr 0 0 0 0,vi (↑(List.map Mo.a l).length:Int)],[⟨[ag [AV.vec fm 9 (List.map Mo.a l),vi S,vi A,vi j,vi ix,vi p,AV.vnil,vi 0,vb false,vb false,vb false,AV.row 1 w,vi qx,vi qy,vi qz]],15,0,false,false⟩,⟨List.map Mo.a P,9,w,false,true⟩],vb true,[⟨[ag [AV.vec fm 9 (List.map Mo.a l),vi S,vi A,vi j,vi iy,vi py,AV.vnil,vi 0,vb false,vb false,vb false,AV.row 1 wy,vi rx,vi ry,vi rz]],15,0,false,false⟩,⟨List.map Mo.a R,9,wy,false,true⟩]⟩,⟨true,true,19,[AV.ptr 0 0 0 0],[⟨[ag [AV.vec fm 9 (List.map Mo.a l),vi S,vi A,vi j,vi iy,vi py,AV.vnil,vi 0,vb false,vb false,vb false,AV.row 1 wy,vi rx,vi ry,vi rz]],15,0,false,false⟩,⟨List.map Mo.a R,9,wy,false,true⟩],AV.vec false 9 (List.map Mo.a R),[⟨[ag [AV.vec fm 9 (List.map Mo.a l),vi S,vi A,vi j,vi iy,vi py,AV.vnil,vi 0,vb false,vb false,vb false,AV.row 1 wy,vi rx,vi ry,vi rz]],15,0,false,false⟩,⟨List.map Mo.a R,9,wy,true,true⟩]⟩,⟨true,false,18,[AV.vec false 9 (List.map Mo.a R)],[],AV.vec false 9 (List.map Mo.a (O.wh R)),[]⟩,⟨true,false,20,[AV.vec false 9 (List.map Mo.a l)],[],AV.vec false 9 (List.map Mo.a (O.lng l)),[]⟩,⟨true,false,17,[AV.vec false 9 (List.map Mo.a (O.wh R)),AV.vec false 9 (List.map Mo.a (O.lng l))],[],vb (O.smM (O.wh R) (O.lng l)),[]⟩,⟨O.smM (O.wh R) (O.lng l)==true&&true&&true,true,13,[AV.ptr 0 0 0 0],[⟨[ag [AV.vec fm 9 (List.map Mo.a l),vi S,vi A,vi j,vi iy,vi py,AV.vnil,vi 0,vb false,vb false,vb false,AV.row 1 wy,vi rx,vi ry,vi rz]],15,0,false,false⟩,⟨List.map Mo.a R,9,wy,true,true⟩],(ZeA l iy py),[⟨[ag [AV.vec fm 9 (List.map Mo.a l),vi S,vi A,vi j,vi iy,vi py,AV.vnil,vi 0,vb false,vb false,vb false,AV.row 1 wy,vi rx,vi ry,vi rz]],15,0,false,false⟩,⟨List.map Mo.a R,9,wy,true,true⟩]⟩,⟨O.smM (O.wh R) (O.lng l)==true&&true&&true,true,13,[AV.ptr 0 0 0 0],[⟨[ag [AV.vec fm 9 (List.map Mo.a l),vi S,vi A,vi j,vi iy,vi py,AV.vnil,vi 0,vb false,vb false,vb false,AV.row 1 wy,vi rx,vi ry,vi rz]],15,0,false,false⟩,⟨List.map Mo.a R,9,wy,true,true⟩],(ZeA l iy py),[⟨[ag [AV.vec fm 9 (List.map Mo.a l),vi S,vi A,vi j,vi iy,vi py,AV.vnil,vi 0,vb false,vb false,vb false,AV.row 1 wy,vi rx,vi ry,vi rz]],15,0,false,false⟩,⟨List.map Mo.a R,9,wy,true,true⟩]⟩,⟨O.smM (O.wh R) (O.lng l)==true&&true&&true,false,21,[(ZeA l iy py),AV.vec false 9 (List.map Mo.a l)],[],(zCxY12 l iy py),[]⟩]) (vb (bif O.smM (O.wh R) (O.lng l) then O.pox l iy py==(Zf6 l iy py).x&&(O.poy l iy py==(Zf6 l iy py).y&&(O.poz l iy py==(Zf6 l iy py).z&&true)) else false)) (by kernel_rfl) b0 q0 (cc (fun _=>k1) (cc (fun _=>(@evo19_b fm l S A j iy py false false rx ry rz R wy k2)) (cc (fun _=>(@ev18 false R k3)) (cc (fun _=>(@ev20 false l k4)) (cc (fun _=>(@ev17 false false (O.wh R) (O.lng l) k5)) (cc (fun hc=>((@ZcP fm l S A j iy py 0 false false false rx ry rz R wy true (k7 ((i_at (i_at (i_bt (Zas _)))).1 hc))):Ev M1 (Conf.own 13 [AV.ptr 0 0 0 0] [⟨[ag [AV.vec fm 9 (List.map Mo.a l),vi S,vi A,vi j,vi iy,vi py,AV.vnil,vi 0,vb false,vb false,vb false,AV.row 1 wy,vi rx,vi ry,vi rz]],15,0,false,false⟩,⟨List.map Mo.a R,9,wy,true,true⟩]) ((ZeA l iy py)) [⟨[ag [AV.vec fm 9 (List.map Mo.a l),vi S,vi A,vi j,vi iy,vi py,AV.vnil,vi 0,vb false,vb false,vb false,AV.row 1 wy,vi rx,vi ry,vi rz]],15,0,false,false⟩,⟨List.map Mo.a R,9,wy,true,true⟩])) (cc (fun hc=>((@ZcP fm l S A j iy py 0 false false false rx ry rz R wy true (k7 ((i_at (i_at (i_bt (Zas _)))).1 hc))):Ev M1 (Conf.own 13 [AV.ptr 0 0 0 0] [⟨[ag [AV.vec fm 9 (List.map Mo.a l),vi S,vi A,vi j,vi iy,vi py,AV.vnil,vi 0,vb false,vb false,vb false,AV.row 1 wy,vi rx,vi ry,vi rz]],15,0,false,false⟩,⟨List.map Mo.a R,9,wy,true,true⟩]) ((ZeA l iy py)) [⟨[ag [AV.vec fm 9 (List.map Mo.a l),vi S,vi A,vi j,vi iy,vi py,AV.vnil,vi 0,vb false,vb false,vb false,AV.row 1 wy,vi rx,vi ry,vi rz]],15,0,false,false⟩,⟨List.map Mo.a R,9,wy,true,true⟩])) (cc (fun hc=>((@ev21 (O.pox l iy py) (O.poy l iy py) (O.poz l iy py) false l k4):Ev M1 (Conf.pure 21 [(ZeA l iy py),AV.vec false 9 (List.map Mo.a l)]) ((zCxY12 l iy py)) [])) c0)))))))) H
end Go.Av

namespace Go.Av
open Go.Proofs
noncomputable def h12O:Array Oper:=match atC (cd Try.f3) [1,1,1,1,1,0,1,0,0,1,1,0,0,1,0,1,0,0,1,1,0,0] with
 | .code (.region _ ops _)::_=>ops
 | _ => #[]
theorem h12C:atC (cd Try.f3) [1,1,1,1,1,0,1,0,0,1,1,0,0,1,0,1,0,0,1,1,0,0] = .code (.region 12 h12O false) :: .inBlock 3::atC (cd Try.f3) [1,1,1,1,1,0,1,0,0,1,1,0,0,1,0,1,0,0,1,1,1]:=by kernel_rfl
noncomputable def h14O:Array Oper:=match atC (cd Try.f3) [1,1,1,1,1,0,1,0,0,1,1,0,0,1,1,0] with
 | .code (.region _ ops _)::_=>ops
 | _ => #[]
theorem h14C:atC (cd Try.f3) [1,1,1,1,1,0,1,0,0,1,1,0,0,1,1,0] = .code (.region 14 h14O false)::atC (cd Try.f3) [1,1,1,1,1,0,1,0,0,1,1,0,0,1,1,1]:=by kernel_rfl
noncomputable def h16O:Array Oper:=match atC (cd Try.f3) [1,1,1,1,1,0,1,0,0,1,1,0,0,1,1,1,1,0,0,0,0,0] with
 | .code (.region _ ops _)::_=>ops
 | _ => #[]
theorem h16C:atC (cd Try.f3) [1,1,1,1,1,0,1,0,0,1,1,0,0,1,1,1,1,0,0,0,0,0] = .code (.region 16 h16O false)::atC (cd Try.f3) [1,1,1,1,1,0,1,0,0,1,1,0,0,1,1,1,1,0,0,0,0,1]:=by kernel_rfl
theorem h12R:List.range h12O.size=[0]++1::[]:=by kernel_rfl
theorem h14R:List.range h14O.size=[0]++1::[]:=by kernel_rfl
theorem h16R:List.range h16O.size=[0]++1::[]:=by kernel_rfl
section
variable (l:List Mo) (hf:Bool) (U:List Int) (m i:Int) (h e n:Int) (L:Heap) (v:AV)
def hE:Vars:=[(5,.vec false 9 (l.map Mo.a)),(8,.ptr 0 0 0 0),(43,.vec hf 1 (U.map (.int .u8))),(44,.int .i64 m),(45,.int .i64 i)]
def hE2:Vars:=hE l hf U m i++[(49,.int .u8 h),(50,.int .u8 e)]
def hE3:Vars:=hE l hf U m i++[(12,.int .i64 n)]
theorem h12V:runW M1 fi3.n h12O cNo [0] [5,8,43,44,45,49,50,52] (hE2 l hf U m i h e) L=some (hE2 l hf U m i h e++[(52,.ptr 0 0 0 0)],L,[],[]):=by kernel_rfl
theorem h12K:Zdi h12O 1 (hE2 l hf U m i h e++[(52,.ptr 0 0 0 0)])=some (53,10,[.ptr 0 0 0 0]):=by kernel_rfl
theorem h12W:runW M1 fi3.n h12O cNo [] [5,8,43,44,45,49,50] ((53,v)::(hE2 l hf U m i h e++[(52,.ptr 0 0 0 0)])) L=some (hE2 l hf U m i h e,L,[],[]):=by kernel_rfl
theorem h14V:runW M1 fi3.n h14O cNo [0] [5,8,43,44,45,55] (hE l hf U m i) L=some (hE l hf U m i++[(55,.ptr 0 0 0 0)],L,[],[]):=by kernel_rfl
theorem h14K:Zdi h14O 1 (hE l hf U m i++[(55,.ptr 0 0 0 0)])=some (56,11,[.ptr 0 0 0 0]):=by kernel_rfl
theorem h14W:runW M1 fi3.n h14O cNo [] [5,8,43,44,45] ((56,v)::(hE l hf U m i++[(55,.ptr 0 0 0 0)])) L=some (hE l hf U m i,L,[],[]):=by kernel_rfl
theorem h16V:runW M1 fi3.n h16O cNo [0] [5,8,43,44,45,12,57] (hE3 l hf U m i n) L=some (hE3 l hf U m i n++[(57,.ptr 0 0 0 0)],L,[],[]):=by kernel_rfl
theorem h16K:Zdi h16O 1 (hE3 l hf U m i n++[(57,.ptr 0 0 0 0)])=some (58,10,[.ptr 0 0 0 0]):=by kernel_rfl
theorem h16W:runW M1 fi3.n h16O cNo [] [5,8,43,44,45,12,58] ((58,v)::(hE3 l hf U m i n++[(57,.ptr 0 0 0 0)])) L=some (hE3 l hf U m i n++[(58,v)],L,[],[]):=by kernel_rfl
end
section
variable {l:List Mo} {B S A j:Int} {fm:Bool}
theorem Ze8 (ht:O.okT l) (hg:O.good l S A j) {s:Cs} (hs:Iv l B s):Iv l B (O.Zbq l S A j s).1/\((O.Zbq l S A j s).1.hd=s.hd/\(O.Zbq l S A j s).1.br=s.br)/\((O.Zbq l S A j s).2=true->O.D l (O.Zbq l S A j s).1.ix (O.Zbq l S A j s).1.p<O.D l s.ix s.p)/\((O.Zbq l S A j s).2=false->(O.Zbq l S A j s).1=s/\(s.br=false->s.X=none)):=by
 by_cases h1:s.br=true\/s.ix=l.length
 ·rw [Zdl h1]
  refine ⟨hs,⟨rfl,rfl⟩,fun h=>(nomatch h),fun _=>⟨rfl,fun hb => ?_⟩⟩
  rcases h1 with y | y
  ·rw [y] at hb;cases hb
  ·exact (hs.fin y).2
 ·by_cases h2:s.X=none/\s.hd=true
  ·rw [ZeT h1 h2.1 h2.2]
   exact ⟨hs,⟨rfl,rfl⟩,fun h=>(nomatch h),fun _=>⟨rfl,fun _=>h2.1⟩⟩
  ·obtain ⟨k1,k2,k3,k4,k5⟩:=tick_ok ht hg hs h1 fun hX hh=>h2 ⟨hX,hh⟩
   exact ⟨k2,⟨k4,k5⟩,fun _=>k3,fun h=>by rw [k1] at h;cases h⟩
theorem rx_narrow {s:Cs} {L:Heap} {k:List Item} {d:AV} (hf:Bool) (U:List Int) (m i:Int) (h:RX fm l S A j s L) (hk:∀ f:Option Nat,(f=none->s.P=[])->Wp M1 (.run fi3 k (hE l hf U m i) (O.hq fm l S A j s f)) (Zak d)):Wp M1 (.run fi3 k (hE l hf U m i) L) (Zak d):=by
 obtain ⟨ix,p,X,kk,bk,hd,br,P,q⟩:=s
 cases X with
 | none =>
  cases h with
  | nil hP=>exact hk none fun _=>hP
  | row w=>exact hk (some w) fun y=>nomatch y
  | nilx x hP=>exact Zar [0] (by kernel_rfl) (hk none fun _=>hP)
  | rowx x w=>exact Zar [0,2] (by kernel_rfl) (hk (some w) fun y=>nomatch y)
  | roww x w=>exact Zar [0,1] (by kernel_rfl) (hk (some w) fun y=>nomatch y)
 | some X =>
  cases h with
  | nil hP=>exact hk none fun _=>hP
  | row w=>exact hk (some w) fun y=>nomatch y
  | nilx x hP=>exact Zar [0] (by kernel_rfl) (hk none fun _=>hP)
  | rowx x w=>exact Zar [0,2] (by kernel_rfl) (hk (some w) fun y=>nomatch y)
  | roww x w=>exact Zar [0,1] (by kernel_rfl) (hk (some w) fun y=>nomatch y)
theorem hs_ticks (ht:O.okT l) (hg:O.good l S A j) (hB:B<=1000000000) {hf:Bool} {U:List Int} {m i h:Int} {d:AV} (hh:h<=255)
  (hK:∀ s f,Iv l B s->s.br=false->(f=none->s.P=[])->Wp M1 (.run fi3 (atC (cd Try.f3) [1,1,1,1,1,0,1,0,0,1,1,0,0,1,1,0]) (hE l hf U m i) (O.hq fm l S A j s f)) (Zak d)) :
  ∀ (k:Nat) (e:Int) (s:Cs) (f:Option Nat),0<=e->h-e<=k->Iv l B s->s.br=false->(f=none->s.P=[])->hsT_at l hf U m i h e (O.hq fm l S A j s f) (Zak d):=by
 intro k
 induction k with
 | zero =>
  intro e s f h0 he hs hb hfP
  refine hsT _ _ _ _ _ _ _ _ _ ⟨fun y=>absurd y (by omega),fun _ => .less [5,8,43,44,45] ?_⟩
  exact hK s f hs hb hfP
 | succ k ih =>
  intro e s f h0 he hs hb hfP
  by_cases hlt:e<h
  ·refine hsT _ _ _ _ _ _ _ _ _ ⟨fun _ => .less [5,8,43,44,45,49,50] ?_,fun y=>absurd hlt y⟩
   rw [h12C]
   refine Zee hm1 _ h12R (.run _ _ (h12V _ _ _ _ _ _ _ _) cB0 cP0 (.call hm1 (h12K _ _ _ _ _ _ _) (by decide) (tick_ex ht.1 hg hB hs hfP) fun v L2 ⟨e1,e2⟩ => ?_))
   subst e1;subst e2
   refine .last _ _ (h12W _ _ _ _ _ _ _ _ _) cB0 cP0 (.inBlock ?_)
   obtain ⟨q1,⟨q2,q3⟩,_,_⟩:=Ze8 ht hg hs
   exact hsU _ _ _ _ _ _ _ _ _ ⟨by omega,ih (e+1) _ _ (by omega) (by omega) q1 (q3.trans hb) (tickF_P ht.1 hg hs hfP)⟩
  ·refine hsT _ _ _ _ _ _ _ _ _ ⟨fun y=>absurd y hlt,fun _ => .less [5,8,43,44,45] ?_⟩
   exact hK s f hs hb hfP
theorem hs_rest (ht:O.okT l) (hg:O.good l S A j) (hB:B<=1000000000) {hf:Bool} {U:List Int} {m i:Int} {d:AV}
  (hK:∀ s f,Iv l B s->s.br=false->s.hd=true->s.X=none->(f=none->s.P=[])->Wp M1 (.run fi3 (atC (cd Try.f3) [1,1,1,1,1,0,1,0,0,1,1,0,0,1,1,1,1,1,0,0]) (hE l hf U m i) (O.hq fm l S A j s f)) (Zak d)) :
  ∀ (k:Nat) (n:Int) (s:Cs) (f:Option Nat),0<=n->O.D l s.ix s.p<=k->n+k<=20000->Iv l B s->s.br=false->s.hd=true->(f=none->s.P=[])->hsW_at l hf U m i n (O.hq fm l S A j s f) (Zak d):=by
 intro k
 induction k with
 | zero =>
  intro n s f h0 hD hn hs hb hh hfP
  refine hsW _ _ _ _ _ _ _ _ ?_
  rw [h16C]
  refine Zee hm1 _ h16R (.run _ _ (h16V _ _ _ _ _ _ _) cB0 cP0 (.call hm1 (h16K _ _ _ _ _ _) (by decide) (tick_ex ht.1 hg hB hs hfP) fun v L2 ⟨e1,e2⟩ => ?_))
  subst e1;subst e2
  refine .last _ _ (h16W _ _ _ _ _ _ _ _) cB0 cP0 ?_
  obtain ⟨q1,⟨q2,q3⟩,q4,q5⟩:=Ze8 ht hg hs
  have hf2:=tickF_P ht.1 hg hs hfP
  have hD0:=iv_D q1
  refine hsX _ _ _ _ _ _ _ _ _ ⟨fun hv => ?_,fun hv => ?_⟩
  ·have:=q4 hv;omega
  ·have hv:=q5 (by simpa using hv)
   refine hK _ _ q1 (q3.trans hb) (q2.trans hh) (by rw [hv.1];exact hv.2 hb) hf2
 | succ k ih =>
  intro n s f h0 hD hn hs hb hh hfP
  refine hsW _ _ _ _ _ _ _ _ ?_
  rw [h16C]
  refine Zee hm1 _ h16R (.run _ _ (h16V _ _ _ _ _ _ _) cB0 cP0 (.call hm1 (h16K _ _ _ _ _ _) (by decide) (tick_ex ht.1 hg hB hs hfP) fun v L2 ⟨e1,e2⟩ => ?_))
  subst e1;subst e2
  refine .last _ _ (h16W _ _ _ _ _ _ _ _) cB0 cP0 ?_
  obtain ⟨q1,⟨q2,q3⟩,q4,q5⟩:=Ze8 ht hg hs
  have hf2:=tickF_P ht.1 hg hs hfP
  refine hsX _ _ _ _ _ _ _ _ _ ⟨fun hv => ?_,fun hv => ?_⟩
  ·have:=q4 hv
   exact ⟨by omega,fun y=>absurd y (by omega),fun _=>ih (n+1) _ _ (by omega) (by omega) (by omega) q1 (q3.trans hb) (q2.trans hh) hf2⟩
  ·have hv:=q5 (by simpa using hv)
   refine hK _ _ q1 (q3.trans hb) (q2.trans hh) (by rw [hv.1];exact hv.2 hb) hf2
theorem en_po {ix p:Int} (h:ix=l.length) (x y z:Int):¬(l.length:Int)=0->O.enP x y z l=O.po l ix p:=fun h0=>by
 unfold O.enP O.po
 rw [if_neg h0,if_neg h0,if_pos h,h]
theorem en_eq {ix p:Int} (h:ix=l.length):O.enP (O.pox l ix p) (O.poy l ix p) (O.poz l ix p) l=O.po l ix p:=by
 by_cases h0:(l.length:Int)=0
 ·unfold O.enP
  rw [if_pos h0]
  unfold O.pox O.poy O.poz
  rfl
 ·exact en_po h _ _ _ h0
theorem en_b {ix p:Int} (h:ix=l.length) {R:List Mo} (hR:O.wh R=O.lng l):AV.bool (bif O.smM (O.wh R) (O.lng l) then O.pox l ix p==(O.enP (O.pox l ix p) (O.poy l ix p) (O.poz l ix p) l).x&&(O.poy l ix p==(O.enP (O.pox l ix p) (O.poy l ix p) (O.poz l ix p) l).y&&(O.poz l ix p==(O.enP (O.pox l ix p) (O.poy l ix p) (O.poz l ix p) l).z&&true)) else false) = .bool true:=by
 have e:O.smM (O.wh R) (O.lng l)=true:=by unfold O.smM;exact decide_eq_true hR
 rw [e,en_eq h]
 unfold O.pox O.poy O.poz
 simp
theorem hs_end (ht:O.okT l) (hg:O.good l S A j) (hb9:O.hasB l) (hB:B<=20000) {s:Cs} {f:Option Nat} (hs:Iv l B s) (hb:s.br=false) (hh:s.hd=false) (hX:s.X=none) (hfP:f=none->s.P=[]) :
  Wp M1 (.run fi3 (atC (cd Try.f3) [1,1,1,1,1,1,0]) [(5,.vec false 9 (l.map Mo.a)),(8,.ptr 0 0 0 0)] (O.hq fm l S A j s f)) (Zak (.bool true)):=by
 have hfew:=hs.few
 have hD0:=iv_D hs
 obtain ⟨s',f',⟨⟨hI,hb',hh'⟩,hix,hf',hff⟩,hev⟩:=finish_ex (B:=B) fm ht.1 hg (by omega) (J:=fun s=>Iv l B s/\s.br=false/\s.hd=false) (m:=fun s=>O.D l s.ix s.p) (fun s ⟨h1,h2,h3⟩=>⟨h1,iv_D h1,fun hlt=>by
   obtain ⟨k1,k2,k3,k4,k5⟩:=tick_ok ht hg h1 (by rintro (y | y);rw [h2] at y;cases y;omega) (fun _ y=>by rw [h3] at y;cases y)
   exact ⟨k1,⟨k2,k5.trans h2,k4.trans h3⟩,k3⟩⟩) (s:=s) (f:=f) ⟨hs,hb,hh⟩ (show O.D l s.ix s.p<=20000 by split at hfew <;> omega) hfP
 obtain ⟨hp0,hX'⟩:=hI.fin hix
 obtain ⟨hk',hbk',_⟩:=hI.rest hX'
 obtain ⟨hk,hbk,_⟩:=hs.rest hX
 have hW:O.wh s'.P=O.lng l:=by
  rcases hI.wi hb9 with ⟨h1,_⟩ | ⟨h1,_⟩
  ·rw [h1,hix,Int.toNat_natCast,List.take_length]
  ·omega
 have hC:=iv_C ht.1 hI
 have hC':=hC
 have hfew':=hI.few
 have hD':=iv_D hI
 have hll:=ht.1.1
 have hPl:s'.P.length<=1000000000:=by split at hfew' <;> omega
 have hlg:=lng_len l
 have hlf:O.ZeZ l:=by unfold O.ZeZ;omega
 have hsm:O.okSm (O.wh s'.P) (O.lng l):=by rw [hW];unfold O.okSm;omega
 obtain ⟨ix,p,X,k,bk,hd,br,P,q⟩:=s
 obtain ⟨ix',p',X',k',bk',hd',br',P',q'⟩:=s'
 simp only at hX hk hbk hb hh hix hX' hk' hbk' hb' hh' hW hC hPl hsm hf' hff hfP
 subst hX;subst hk;subst hbk;subst hb;subst hh;subst hX';subst hk';subst hbk';subst hb';subst hh'
 have elen:(l.map Mo.a).length=l.length:=List.length_map ..
 rw [<- elen] at hev
 cases f with
 | none =>
  cases f' with
  | none =>
   have hP':=hf' rfl
   subst hP'
   refine hsZaa fm l S A j ix p q.x q.y q.z ix' p' q'.x q'.y q'.z [] 0 _ ⟨hev,hC,O.wh [],ev18 false [] (by unfold O.ZeZ;simp),hlf,hsm,en_b hix hW⟩
  | some w=>exact hsZab fm l S A j ix p q.x q.y q.z ix' p' q'.x q'.y q'.z P' w _ ⟨hev,⟨hC,hPl⟩,hPl,hlf,hsm,fun _=>hC,en_b hix hW⟩
 | some v =>
  cases f' with
  | none=>cases hff rfl
  | some w=>exact hsZbb fm l S A j ix p q.x q.y q.z P v ix' p' q'.x q'.y q'.z P' w _ ⟨hev,⟨hC,hPl⟩,hPl,hlf,hsm,fun _=>hC,en_b hix hW⟩
theorem hs_loop (ht:O.okT l) (hg:O.good l S A j) (hb9:O.hasB l) (hB:B<=20000) {hf:Bool} {U:List Int} (hU:U.length<=1000 /\ ∀ h ∈ U,h<=255) :
  ∀ (k:Nat) (i:Int) (s:Cs) (f:Option Nat),0<=i->U.length-i=k->Iv l B s->s.br=false->s.hd=false->s.X=none->(f=none->s.P=[])->ZgJ l hf U U.length i (O.hq fm l S A j s f) (Zak (.bool true)):=by
 intro k
 induction k with
 | zero =>
  intro i s f h0 hi hs hb hh hX hfP
  exact hsL _ _ _ _ _ _ _ ⟨fun y=>absurd y (by omega),fun _=>hs_end ht hg hb9 hB hs hb hh hX hfP⟩
 | succ k ih =>
  intro i s f h0 hi hs hb hh hX hfP
  refine hsL _ _ _ _ _ _ _ ⟨fun _=>⟨h0,by omega,?_⟩,fun y=>absurd (by omega) y⟩
  have hel:U.getD i.toNat default<=255:=hU.2 _ (by
   rw [List.getD_eq_getElem?_getD,List.getElem?_eq_getElem (by omega)]
   exact List.getElem_mem _)
  refine hs_ticks ht hg (by omega) hel (fun s f hs hb hfP => ?_) (U.getD i.toNat default).toNat 0 s f (by omega) (by omega) hs hb hfP
  rw [h14C]
  refine Zee hm1 _ h14R (.run _ _ (h14V _ _ _ _ _ _) cB0 cP0 (.call hm1 (h14K _ _ _ _ _) (by decide) (hold_wp ht hg (by omega) hs (RM_hq hfP)) fun v L2 ⟨e1,hR⟩ => ?_))
  subst e1
  refine .last _ _ (h14W _ _ _ _ _ _ _) cB0 cP0 ?_
  obtain ⟨q1,q2,q3,q4⟩:=hl_ok (S:=S) (A:=A) (j:=j) ht hs
  refine rx_narrow hf U _ i hR fun f hfP => .seq ?_
  refine hsV _ _ _ _ _ _ _ ?_
  have hfew:=q1.few
  have hD:=iv_D q1
  refine hs_rest ht hg (by omega) (fun s f hs hb hh hX hfP => ?_) 20000 0 _ f (Int.le_refl _) (by split at hfew <;> omega) (by omega) q1 (q3.trans hb) (q2 hb) hfP
  obtain ⟨hk,hbk,_⟩:=hs.rest hX
  have hC:=iv_C ht.1 hs
  have hll:=ht.1.1
  have hn:Iv l B { s with hd:=false }:=⟨hs.ixr,hs.mot,hs.fin,hs.plan,hs.rest,hs.pb,hs.kb,hs.wi,hs.few⟩
  have hnx:=ih (i+1) { s with hd:=false } f (by omega) (by omega) hn hb rfl hX hfP
  obtain ⟨ix,p,X,k,bk,hd,br,P,q⟩:=s
  simp only at hX hk hbk hb hh hC hfP hnx
  subst hX;subst hk;subst hbk;subst hb;subst hh
  cases f with
  | none=>exact hsYA fm l S A j ix p q.x q.y q.z hf U _ i _ ⟨hC,.inr rfl,fun y=>absurd y (by simp),fun _=>⟨by omega,hnx⟩⟩
  | some w=>exact hsYB fm l S A j ix p q.x q.y q.z P w hf U _ i _ ⟨hC,.inr rfl,fun y=>absurd y (by simp),fun _=>⟨by omega,hnx⟩⟩
end
theorem holds_law (ha:Ev M1 (.pure 8 []) (.bool true) []) (fx fy fz:Int) (fw:Bool) (W:List Wy) (S A j:Int) (hf:Bool) (U:List Int) (hW:O.okTr fx fy fz W) (hU:∀ h ∈ U,0<=h/\h<=255) :
  Ev M1 (.pure 3 [.agg [.int .i16 fx,.int .i16 fy,.int .i16 fz,.vec fw 4 (W.map Wy.a),.int .i64 S,.int .i64 A,.int .i64 j],.vec hf 1 (U.map (.int .u8))]) (.bool true) []:=by
 refine call3 (hsA fx fy fz fw W S A j hf U _ ⟨hW,true,ha,fun _=>⟨true,ha,rfl⟩,fun h => ?_⟩)
 have hb:O.trB W S A j=true:=Classical.byContradiction fun y=>h (.inl (.inr y))
 have hn:U.length<=6:=Nat.not_lt.1 fun y=>h (.inr (by omega))
 obtain ⟨_,hbig⟩:=trB_iff.1 hb
 have hok:=trL_ok hW hb
 have hD:=tr_D hok
 have hg:=rts_good hbig hok.r
 obtain ⟨n1,n2⟩:=new_ok (B:=7200) hok.t hD
 exact ⟨rts_ck hbig hok.t (by have:=hok.n;omega) hok.r,hs_loop (B:=7200) hok.t hg hok.b (by omega) ⟨by omega,fun h hh=>(hU h hh).2⟩ U.length 0 (O.newS (O.trL fx fy fz W S A j)) none (Int.le_refl _) (by omega) n1 rfl rfl rfl fun _=>rfl⟩
end Go.Av

namespace Go.Av
open Go.Proofs
def awkT:List (Nat × List (Nat × List Nat)):=[(8,[(0,[]),(1,[1]),(2,[1,2,3]),(3,[1,2,16]),(4,[0]),(5,[1,2,4]),(6,[1,2,4,18]),(7,[1,2,4]),(8,[1,2,4,22]),(9,[0]),(10,[1,2,4,5]),(11,[0])]),
 (9,[(0,[0,3]),(1,[0,3,6]),(2,[0,3,6,12]),(3,[4,5]),(4,[0,7]),(5,[0,7,21]),(6,[7]),(7,[7]),(8,[4,5])]),
 (10,[(0,[0]),(1,[0,20]),(2,[2]),(3,[0,22]),(4,[0,26]),(5,[2]),(6,[0,3,4]),(7,[0,3,54]),(8,[2]),(9,[0]),(10,[0]),(11,[0]),(12,[0,90]),(13,[]),(14,[2])]),
 (13,[(0,[0,2]),(1,[0,2,6]),(2,[2]),(3,[0,2,14]),(4,[2]),(5,[0,2,3]),(6,[2,4]),(7,[2])]),
 (19,[(0,[0]),(1,[0,3]),(2,[0,3,4,5]),(3,[3,4,21]),(4,[3]),(5,[2])]),
 (40,[(0,[0,3]),(1,[0,3,15]),(2,[4]),(3,[0,3,16,17,18]),(4,[0,3,16,17,18,19]),(5,[0,3,5,6,16,17,18]),(6,[0,3,16,17,18,40]),(7,[4]),(8,[0,3,16,17,18]),(9,[0,3,42,43,44]),(10,[0,3,42,43,44,45]),(11,[0,3,8,42,43,44]),(12,[0,3,42,43,44,55]),(13,[4]),(14,[0,3,42,43,44]),(15,[0,3,59]),(16,[4]),(17,[3,60,61,62]),(18,[3,60,61,62,63]),(19,[3,10,60,61,62]),(20,[3,12,60,61,62]),(21,[3,12,60,61,62,76]),(22,[4]),(23,[3,60,61,62]),(24,[4])]),
 (41,[(0,[0]),(1,[0,4]),(2,[2]),(3,[2])]),
 (42,[(0,[0,25]),(1,[0])]),
 (43,[(0,[0]),(1,[2])]),
 (44,[(0,[0,3]),(1,[0,3,6,7]),(2,[0,3,6,7,20]),(3,[4,5]),(4,[0,3,6,23]),(5,[4,5]),(6,[0,3,8,9]),(7,[0,3,8,31]),(8,[4,5]),(9,[0,3,10]),(10,[0,10,11]),(11,[10,11,12]),(12,[10,11,12,37]),(13,[10,11,12]),(14,[10,11,12]),(15,[4,5])]),
 (45,[(0,[0]),(1,[2])]),
 (46,[(0,[2,3,4]),(1,[2,3,4,7]),(2,[3,4]),(3,[4])]),
 (47,[(0,[0]),(1,[0,2,3]),(2,[0,2,18]),(3,[0]),(4,[0]),(5,[0,36]),(6,[0]),(7,[])]),
 (50,[(0,[4,5,6,7,8]),(1,[4,5,6,7,8,23]),(2,[8,9]),(3,[4,5,6,7,8,38,39,40]),(4,[4,5,6,7,8,38,39,40,41]),(5,[4,5,6,7,8,11,38,39,40]),(6,[4,5,6,7,8,38,39,40,46]),(7,[8,9]),(8,[4,5,6,7,8,38,39,40]),(9,[4,5,8,12]),(10,[8,9])]),
 (52,[(0,[0,2]),(1,[0,2,14]),(2,[2,3]),(3,[0,2,4]),(4,[2,4]),(5,[2,3])]),
 (73,[(0,[1]),(1,[15]),(2,[2]),(3,[2])]),
 (74,[(0,[1]),(1,[2])]),
 (75,[(0,[0,3]),(1,[0,3,13]),(2,[4,5]),(3,[0,3,15]),(4,[4,5]),(5,[0,6]),(6,[4,5])]),
 (76,[(0,[1,2,3]),(1,[1,2,3,28]),(2,[6,7]),(3,[1,2,3,8]),(4,[1,2,3,8,9]),(5,[2,3,8,9,10]),(6,[2,3,8,9,10,32]),(7,[2,3,8,9,10]),(8,[2,3,8,9,10,11,12]),(9,[2,3,8,9,10,11,51]),(10,[6,7]),(11,[2,3,8,9,10]),(12,[2,3,8,9,10]),(13,[6,7])]),
 (77,[(0,[1]),(1,[2])]),
 (79,[(0,[2,3]),(1,[2,3,5]),(2,[2,3,5,8]),(3,[2,3,5]),(4,[2,3,5]),(5,[4])]),
 (80,[(0,[2,3,4]),(1,[2,3,4,5,6]),(2,[2,3,4,5,6,27]),(3,[2,3,4,5,6,7]),(4,[2,3,4,5,6,7,41]),(5,[2,3,4,5,6]),(6,[2,3,4,5,6]),(7,[4])]),
 (81,[(0,[0,1,2]),(1,[6])]),
 (82,[(0,[0,1,2,3]),(1,[6])]),
 (83,[(0,[0,1]),(1,[0,1,5]),(2,[5,12]),(3,[5]),(4,[4])]),
 (96,[(0,[3,4,5,6]),(1,[3,4,5,6,8]),(2,[4,6,8,9,10]),(3,[4,6,8,9,10,41]),(4,[6,7]),(5,[4,6,8,9,10,45]),(6,[4,6,8,9,10,11]),(7,[4,6,8,9,10,11,55]),(8,[4,6,8,9,10]),(9,[4,6,8,9,10]),(10,[6,7])]),
 (97,[(0,[0,3]),(1,[0,3,10]),(2,[4]),(3,[0,3,5]),(4,[0,3,5,14,15]),(5,[0,3,5,14,15,16]),(6,[0,3,5,6,14,15]),(7,[0,3,5,6,7,14,15]),(8,[0,3,5,6,7,14,15,21]),(9,[0,3,5,7,14,15]),(10,[0,3,5,7,14,15,59]),(11,[4]),(12,[0,3,5,14,15]),(13,[0,3,5,14,15]),(14,[4])]),
 (98,[(0,[2,3]),(1,[2,3,21]),(2,[4]),(3,[2,3,24]),(4,[4]),(5,[4])]),
 (99,[(0,[1,2]),(1,[1,2,9]),(2,[4]),(3,[1,2,5]),(4,[4])]),
 (112,[(0,[0,1,2,3]),(1,[2,3,6]),(2,[5])])]
end Go.Av

namespace Go.Av
open Go.Proofs
set_option maxRecDepth 1000000 in
theorem nx0:Ev M1 (.pure 96 [.agg [.int .i64 40,.int .i64 50,.int .i64 60],.agg [.int .i64 0,.int .i64 0],.int .i64 539]) (.tup [.agg [.int .i64 40,.int .i64 40],.bool true]) []:=Zbr (G:=⟨awkT,[],[],[]⟩) ZaY 30 (by kernel_rfl)
set_option maxRecDepth 1000000 in
theorem nx1:Ev M1 (.pure 96 [.agg [.int .i64 40,.int .i64 50,.int .i64 60],.agg [.int .i64 40,.int .i64 40],.int .i64 499]) (.tup [.agg [.int .i64 40,.int .i64 0],.bool true]) []:=Zbr (G:=⟨awkT,[],[],[]⟩) ZaY 30 (by kernel_rfl)
set_option maxRecDepth 1000000 in
theorem nx2:Ev M1 (.pure 96 [.agg [.int .i64 40,.int .i64 50,.int .i64 60],.agg [.int .i64 40,.int .i64 0],.int .i64 459]) (.tup [.agg [.int .i64 40,.int .i64 0],.bool true]) []:=Zbr (G:=⟨awkT,[],[],[]⟩) ZaY 30 (by kernel_rfl)
set_option maxRecDepth 1000000 in
theorem nx3:Ev M1 (.pure 96 [.agg [.int .i64 40,.int .i64 50,.int .i64 60],.agg [.int .i64 40,.int .i64 0],.int .i64 419]) (.tup [.agg [.int .i64 40,.int .i64 0],.bool true]) []:=Zbr (G:=⟨awkT,[],[],[]⟩) ZaY 30 (by kernel_rfl)
end Go.Av

namespace Go.Av
open Go.Proofs
set_option maxRecDepth 1000000 in
theorem nx4:Ev M1 (.pure 96 [.agg [.int .i64 40,.int .i64 50,.int .i64 60],.agg [.int .i64 40,.int .i64 0],.int .i64 379]) (.tup [.agg [.int .i64 40,.int .i64 0],.bool true]) []:=Zbr (G:=⟨awkT,[],[],[]⟩) ZaY 30 (by kernel_rfl)
set_option maxRecDepth 1000000 in
theorem nx5:Ev M1 (.pure 96 [.agg [.int .i64 40,.int .i64 50,.int .i64 60],.agg [.int .i64 40,.int .i64 0],.int .i64 339]) (.tup [.agg [.int .i64 40,.int .i64 0],.bool true]) []:=Zbr (G:=⟨awkT,[],[],[]⟩) ZaY 30 (by kernel_rfl)
set_option maxRecDepth 1000000 in
theorem nx6:Ev M1 (.pure 96 [.agg [.int .i64 40,.int .i64 50,.int .i64 60],.agg [.int .i64 40,.int .i64 0],.int .i64 299]) (.tup [.agg [.int .i64 40,.int .i64 0],.bool true]) []:=Zbr (G:=⟨awkT,[],[],[]⟩) ZaY 30 (by kernel_rfl)
set_option maxRecDepth 1000000 in
theorem nx7:Ev M1 (.pure 96 [.agg [.int .i64 40,.int .i64 50,.int .i64 60],.agg [.int .i64 40,.int .i64 0],.int .i64 259]) (.tup [.agg [.int .i64 40,.int .i64 0],.bool true]) []:=Zbr (G:=⟨awkT,[],[],[]⟩) ZaY 30 (by kernel_rfl)
end Go.Av

namespace Go.Av
open Go.Proofs
set_option maxRecDepth 1000000 in
theorem nx8:Ev M1 (.pure 96 [.agg [.int .i64 40,.int .i64 50,.int .i64 60],.agg [.int .i64 40,.int .i64 0],.int .i64 219]) (.tup [.agg [.int .i64 40,.int .i64 0],.bool true]) []:=Zbr (G:=⟨awkT,[],[],[]⟩) ZaY 30 (by kernel_rfl)
set_option maxRecDepth 1000000 in
theorem nx9:Ev M1 (.pure 96 [.agg [.int .i64 40,.int .i64 50,.int .i64 60],.agg [.int .i64 40,.int .i64 0],.int .i64 179]) (.tup [.agg [.int .i64 40,.int .i64 0],.bool true]) []:=Zbr (G:=⟨awkT,[],[],[]⟩) ZaY 30 (by kernel_rfl)
set_option maxRecDepth 1000000 in
theorem nx10:Ev M1 (.pure 96 [.agg [.int .i64 40,.int .i64 50,.int .i64 60],.agg [.int .i64 40,.int .i64 0],.int .i64 139]) (.tup [.agg [.int .i64 40,.int .i64 0],.bool true]) []:=Zbr (G:=⟨awkT,[],[],[]⟩) ZaY 30 (by kernel_rfl)
set_option maxRecDepth 1000000 in
theorem nx11:Ev M1 (.pure 96 [.agg [.int .i64 40,.int .i64 50,.int .i64 60],.agg [.int .i64 40,.int .i64 0],.int .i64 99]) (.tup [.agg [.int .i64 40,.int .i64 0],.bool true]) []:=Zbr (G:=⟨awkT,[],[],[]⟩) ZaY 30 (by kernel_rfl)
end Go.Av

namespace Go.Av
open Go.Proofs
set_option maxRecDepth 1000000 in
theorem nx12:Ev M1 (.pure 96 [.agg [.int .i64 40,.int .i64 50,.int .i64 60],.agg [.int .i64 40,.int .i64 0],.int .i64 59]) (.tup [.agg [.int .i64 40,.int .i64 0],.bool true]) []:=Zbr (G:=⟨awkT,[],[],[]⟩) ZaY 30 (by kernel_rfl)
set_option maxRecDepth 1000000 in
theorem nx13:Ev M1 (.pure 96 [.agg [.int .i64 40,.int .i64 50,.int .i64 60],.agg [.int .i64 40,.int .i64 0],.int .i64 19]) (.tup [.agg [.int .i64 19,.int .i64 (-21)],.bool true]) []:=Zbr (G:=⟨awkT,[],[],[]⟩) ZaY 30 (by kernel_rfl)
end Go.Av

namespace Go.Av
open Go.Proofs
def nxK:List (Nat × List AV × AV):=[(96,[.agg [.int .i64 40,.int .i64 50,.int .i64 60],.agg [.int .i64 0,.int .i64 0],.int .i64 539],.tup [.agg [.int .i64 40,.int .i64 40],.bool true]),
 (96,[.agg [.int .i64 40,.int .i64 50,.int .i64 60],.agg [.int .i64 40,.int .i64 40],.int .i64 499],.tup [.agg [.int .i64 40,.int .i64 0],.bool true]),
 (96,[.agg [.int .i64 40,.int .i64 50,.int .i64 60],.agg [.int .i64 40,.int .i64 0],.int .i64 459],.tup [.agg [.int .i64 40,.int .i64 0],.bool true]),
 (96,[.agg [.int .i64 40,.int .i64 50,.int .i64 60],.agg [.int .i64 40,.int .i64 0],.int .i64 419],.tup [.agg [.int .i64 40,.int .i64 0],.bool true]),
 (96,[.agg [.int .i64 40,.int .i64 50,.int .i64 60],.agg [.int .i64 40,.int .i64 0],.int .i64 379],.tup [.agg [.int .i64 40,.int .i64 0],.bool true]),
 (96,[.agg [.int .i64 40,.int .i64 50,.int .i64 60],.agg [.int .i64 40,.int .i64 0],.int .i64 339],.tup [.agg [.int .i64 40,.int .i64 0],.bool true]),
 (96,[.agg [.int .i64 40,.int .i64 50,.int .i64 60],.agg [.int .i64 40,.int .i64 0],.int .i64 299],.tup [.agg [.int .i64 40,.int .i64 0],.bool true]),
 (96,[.agg [.int .i64 40,.int .i64 50,.int .i64 60],.agg [.int .i64 40,.int .i64 0],.int .i64 259],.tup [.agg [.int .i64 40,.int .i64 0],.bool true]),
 (96,[.agg [.int .i64 40,.int .i64 50,.int .i64 60],.agg [.int .i64 40,.int .i64 0],.int .i64 219],.tup [.agg [.int .i64 40,.int .i64 0],.bool true]),
 (96,[.agg [.int .i64 40,.int .i64 50,.int .i64 60],.agg [.int .i64 40,.int .i64 0],.int .i64 179],.tup [.agg [.int .i64 40,.int .i64 0],.bool true]),
 (96,[.agg [.int .i64 40,.int .i64 50,.int .i64 60],.agg [.int .i64 40,.int .i64 0],.int .i64 139],.tup [.agg [.int .i64 40,.int .i64 0],.bool true]),
 (96,[.agg [.int .i64 40,.int .i64 50,.int .i64 60],.agg [.int .i64 40,.int .i64 0],.int .i64 99],.tup [.agg [.int .i64 40,.int .i64 0],.bool true]),
 (96,[.agg [.int .i64 40,.int .i64 50,.int .i64 60],.agg [.int .i64 40,.int .i64 0],.int .i64 59],.tup [.agg [.int .i64 40,.int .i64 0],.bool true]),
 (96,[.agg [.int .i64 40,.int .i64 50,.int .i64 60],.agg [.int .i64 40,.int .i64 0],.int .i64 19],.tup [.agg [.int .i64 19,.int .i64 (-21)],.bool true])]
theorem nxOk:Zcr M1 ⟨awkT,[],nxK,[]⟩:=by
 intro k hk
 simp only [nxK,List.mem_cons,List.not_mem_nil,or_false] at hk
 rcases hk with rfl | rfl | rfl | rfl | rfl | rfl | rfl | rfl | rfl | rfl | rfl | rfl | rfl | rfl
 ·exact nx0
 ·exact nx1
 ·exact nx2
 ·exact nx3
 ·exact nx4
 ·exact nx5
 ·exact nx6
 ·exact nx7
 ·exact nx8
 ·exact nx9
 ·exact nx10
 ·exact nx11
 ·exact nx12
 ·exact nx13
def awsA:List AV:=[.int .i64 539,.agg [.int .i64 40,.int .i64 50,.int .i64 60]]
def awsD:AV:=.tup [.vec false 1 [.int .i64 40,.int .i64 40,.int .i64 40,.int .i64 40,.int .i64 40,.int .i64 40,.int .i64 40,.int .i64 40,.int .i64 40,.int .i64 40,.int .i64 40,.int .i64 40,.int .i64 40,.int .i64 19],.int .i64 0]
set_option maxRecDepth 1000000 in
theorem steps5:Ev M1 (.pure 44 awsA) awsD []:=Zbr nxOk 30 (by kernel_rfl)
end Go.Av

namespace Go.Av
open Go.Proofs
def mot5:AV:=.agg [.int .i64 0,.int .i64 0,.int .i64 0,.int .i64 500,.int .i64 (-200),.int .i64 0,.int .i64 40000,.int .i64 2,.int .i64 0]
def awkG:EG:=⟨awkT,[],[(51,[mot5],.int .i64 539),(44,awsA,awsD)],[]⟩
theorem awkK:Zcr M1 awkG:=by
 intro k hk
 rcases List.mem_cons.1 hk with rfl | hk
 ·have:=ev51 0 0 0 500 (-200) 0 40000 2 0 ⟨by unfold O.cl;omega,by unfold O.cl;omega,by unfold O.cl;omega⟩
  have e:O.len (500-0) (-200-0) (0-0)=539:=csq_eq ⟨by decide,by decide,.inr (by decide)⟩
  rw [e] at this;exact this
 ·rcases List.mem_cons.1 hk with rfl | hk
  ·exact steps5
  ·exact nomatch hk
set_option maxRecDepth 1000000 in
theorem ev8:Ev M1 (.pure 8 []) (.bool true) []:=exec_all (M:=M1) (by kernel_rfl) (itf:=none) (fun _ h=>nomatch h) awkK 30 (by kernel_rfl)
end Go.Av
