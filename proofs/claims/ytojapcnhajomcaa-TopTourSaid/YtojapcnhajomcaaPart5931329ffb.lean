/- PART 6 of the texts of a claim, joined by a program: what each part shows stands at its head. -/
import Derived.Test.YtojapcnhajomcaaPart0dc34d2074

namespace Go.Av
open Go.RowKit
def inserts (x:Nat):List Nat -> List (List Nat)
 | [] => [[x]]
 | y :: l => (x :: y :: l) :: (inserts x l).map (y :: ·)
def perms:List Nat -> List (List Nat)
 | [] => [[]]
 | x :: l => (perms l).flatMap (inserts x)
theorem inserts_mem {x:Nat}:∀ (s t:List Nat),s ++ x :: t ∈ inserts x (s ++ t)
 | [],[] => by simp [inserts]
 | [],y :: t => by simp [inserts]
 | y :: s,t => by
  simp only [List.cons_append,inserts]
  exact List.mem_cons_of_mem _ (List.mem_map.2 ⟨_,inserts_mem s t,rfl⟩)
theorem perms_mem:∀ (l:List Nat) {σ:List Nat},σ.Perm l -> σ ∈ perms l
 | [],σ,h => by rw [List.Perm.eq_nil h];simp [perms]
 | x :: l,σ,h => by
  obtain ⟨s,t,rfl⟩:=List.append_of_mem (h.mem_iff.2 (List.mem_cons_self ..))
  have:(s ++ t).Perm l:=List.Perm.cons_inv ((List.perm_middle (a:=x) (l₁:=s) (l₂:=t)).symm.trans h)
  exact List.mem_flatMap.2 ⟨_,perms_mem l this,inserts_mem s t⟩
def Ahead (l:List Nat) (i j:Nat):Prop:=posOf l i < posOf l j
structure OrdOk (ops:Array Oper) (C σ:List Nat) (hot:Nat -> Nat) (l:List Nat):Prop where
 edge:∀ (j:Nat) (o:Oper),ops[j]? = some o -> ∀ e ∈ o.after,Region.binds .any e = true -> e.on < j /\ ¬Ahead l j e.on
 swap:∀ i j a b,Ahead l i j -> ops[i]? = some a -> ops[j]? = some b -> (i ∈ C /\ j ∈ C /\ posOf σ i < posOf σ j) \/ maySwap hot ops i j a b = true \/ reach ops i ops.size j = true
section
variable {M:Mach} {call:Answer} {n:Nat} {ops:Array Oper} {ans:Nat -> Option Ans} {Q:Exit -> Act -> World -> Prop}
def Alts (M:Mach) (call:Answer) (n:Nat) (ops:Array Oper) (ans:Nat -> Option Ans) (Q:Exit -> Act -> World -> Prop) (C:List Nat) (hot:List Nat -> Nat -> Nat) (l:List Nat -> List Nat) (fuel:Nat) (listed:Array Bool) (s:RS) (S:St) (a:Act) (π:List Nat):Prop:=
 ∀ σ:List Nat,σ.Perm C -> π <+: σ -> ∃ rest f,Left M call n ops ans (hot σ) (Ahead (l σ)) listed rest s f /\ rest.length <= fuel /\
  (∀ b ∈ f.asm,b = true) /\ (∀ q ∈ f.eqs,q) /\ (∀ c ∈ f.calls,c.cond = true -> CFSnd M c) /\
  (∀ S' a',HeapOk S' -> Ext S S' -> S'.L = f.L -> TRel S' f.env a'.tmps -> a'.tmps.size = a.tmps.size -> a'.defers = a.defers -> Q .normal a' S'.w)
theorem draw_any {C:List Nat} {hot:List Nat -> Nat -> Nat} {l:List Nat -> List Nat} (hnd:C.Nodup) (hok:∀ σ:List Nat,σ.Perm C -> OrdOk ops C σ (hot σ) (l σ)) :
  ∀ (fuel:Nat) (listed:Array Bool) (s:RS) (S:St) (a:Act) (π:List Nat),(∃ σ:List Nat,σ.Perm C /\ π <+: σ) -> (∀ c ∈ C,c ∈ π ↔ listed.getD c false = true) -> Alts M call n ops ans Q C hot l fuel listed s S a π ->
  HeapOk S -> S.L = s.L -> TRel S s.env a.tmps -> n <= a.tmps.size -> wpAny (M.P ()) .any ops Q fuel listed a S.w:=by
 intro fuel
 induction fuel with
 | zero =>
  intro listed s S a π ⟨σ,p1,p2⟩ hC hA hS hL hT hn
  obtain ⟨rest,f,hl,hlen,_,_,_,hK⟩:=hA σ p1 p2
  have:rest = []:=List.length_eq_zero_iff.1 (Nat.le_zero.1 hlen)
  subst this
  have h:=hl.run
  simp only [runOps,Option.some.injEq] at h;subst h
  refine ⟨?_,hK S a hS (Ext.refl S) hL hT rfl rfl⟩
  apply List.eq_nil_iff_forall_not_mem.2
  intro j hj
  obtain ⟨h1,o,h2,_⟩:=mem_ready.1 hj
  have:=(hl.mem j).2 ⟨(Array.getElem?_eq_some_iff.1 h2).1,h1⟩
  cases this
 | succ fuel ih =>
  intro listed s S a π ⟨σ0,p1,p2⟩ hC hA hS hL hT hn
  refine ⟨fun hnil => ?_,fun j hj => ?_⟩
  ·obtain ⟨rest,f,hl,hlen,_,_,_,hK⟩:=hA σ0 p1 p2
   have:=hl.none (hok σ0 p1).edge hnil
   subst this
   have h:=hl.run
   simp only [runOps,Option.some.injEq] at h;subst h
   exact hK S a hS (Ext.refl S) hL hT rfl rfl
  ·obtain ⟨j1,oj0,j2,_⟩:=mem_ready.1 hj
   have hjs:j < ops.size:=(Array.getElem?_eq_some_iff.1 j2).1
   have hsz:listed.size = ops.size:=by
    obtain ⟨rest,f,hl,_⟩:=hA σ0 p1 p2
    exact hl.size
   obtain ⟨π',hπ',hpre,hex,hCj⟩:∃ π':List Nat,(j ∈ C -> π' = π ++ [j]) /\ (∀ σ:List Nat,π' <+: σ -> π <+: σ) /\ (∃ σ:List Nat,σ.Perm C /\ π' <+: σ) /\ (∀ c ∈ C,c ∈ π' ↔ (listed.setIfInBounds j true).getD c false = true):=by
    by_cases hjC:j ∈ C
    ·refine ⟨π ++ [j],fun _ => rfl,fun σ h => (List.prefix_append π [j]).trans h,?_,fun c hc => ?_⟩
     ·obtain ⟨τ,rfl⟩:=p2
      have hjn:j ∉ π:=fun h => by
       have:=(hC j hjC).1 h
       rw [getD_flip (by omega) false true] at this
       rw [j1] at this;cases this
      have hjt:j ∈ τ:=by
       rcases List.mem_append.1 (p1.mem_iff.2 hjC) with h | h
       ·exact absurd h hjn
       ·exact h
      refine ⟨π ++ [j] ++ τ.erase j,?_,List.prefix_append _ _⟩
      rw [List.append_assoc]
      exact ((List.perm_cons_erase hjt).symm.append_left π).trans p1
     ·by_cases e:j = c
      ·subst e
       simp [show j < listed.size by omega]
      ·rw [getD_set_ne false e,<- hC c hc]
       simp only [List.mem_append,List.mem_singleton]
       exact ⟨fun h => h.resolve_right fun h => e h.symm,.inl⟩
    ·refine ⟨π,fun h => absurd h hjC,fun σ h => h,⟨σ0,p1,p2⟩,fun c hc => ?_⟩
     rw [getD_set_ne false (fun e:j = c => hjC (by rw [e];exact hc)),<- hC c hc]
   have pick:∀ σ:List Nat,σ.Perm C -> π' <+: σ -> ∃ oj s1 f f' rest',ops[j]? = some oj /\ runOp M.P M.inl call n ops (ans j) (hot σ j) oj s = some s1 /\ Left M call n ops ans (hot σ) (Ahead (l σ)) (listed.setIfInBounds j true) rest' s1 f' /\ RSEq f f' /\ rest'.length <= fuel /\
     (∀ b ∈ f.asm,b = true) /\ (∀ q ∈ f.eqs,q) /\ (∀ c ∈ f.calls,c.cond = true -> CFSnd M c) /\
     (∀ S' a',HeapOk S' -> Ext S S' -> S'.L = f.L -> TRel S' f.env a'.tmps -> a'.tmps.size = a.tmps.size -> a'.defers = a.defers -> Q .normal a' S'.w):=by
    intro σ q1 q2
    obtain ⟨rest,f,hl,hlen,f1,f2,f3,f4⟩:=hA σ q1 (hpre σ q2)
    have hl2:Left M call n ops ans (hot σ) (fun i k => Ahead (l σ) i k /\ listed.getD i true = false) listed rest s f:=
     ⟨hl.size,hl.pw.imp_of_mem fun {x y} hx _ h => ⟨h,((hl.mem x).1 hx).2⟩,hl.mem,hl.closed,hl.run⟩
    obtain ⟨oj,s1,f',rest',g1,g2,g3,g4,g5⟩:=hl2.pick (fun i h => Nat.lt_irrefl _ h.1) hj fun i a b h hi hb => by
     rcases (hok σ q1).swap i j a b h.1 hi hb with ⟨c1,c2,c3⟩ | h
     ·exfalso
      rw [hπ' c2] at q2
      obtain ⟨τ,rfl⟩:=q2
      have hnd2:(π ++ [j] ++ τ).Nodup:=q1.nodup_iff.2 hnd
      have e1:posOf (π ++ [j] ++ τ) j = π.length:=posOf_at hnd2 (by simp)
      rw [e1] at c3
      have e2:=posOf_get (q1.mem_iff.2 c1)
      rw [List.append_assoc,List.getElem?_append_left (by rw [List.append_assoc] at c3;exact c3)] at e2
      have:=(hC i c1).1 (List.mem_of_getElem? e2)
      rw [getD_flip (by rw [hsz];exact (Array.getElem?_eq_some_iff.1 hi).1) false true,h.2] at this
      cases this
     ·exact h
    exact ⟨oj,s1,f,f',rest',g1,g2,⟨g3.size,g3.pw.imp fun h => h.1,g3.mem,g3.closed,g3.run⟩,g4,by omega,f1,f2,f3,f4⟩
   obtain ⟨σ1,r1,r2⟩:=hex
   obtain ⟨oj,s1,f,f',rest',hoj,h2,hl',k2,_,f1,f2,f3,_⟩:=pick σ1 r1 r2
   obtain ⟨env,L,x,y,z,he,_⟩:=runOps_adds _ hl'.run
   have hA':∀ b ∈ f'.asm,b = true:=fun b hb => f1 b ((k2.a b).2 hb)
   have hQ':∀ b ∈ f'.eqs,b:=fun b hb => f2 b ((k2.q b).2 hb)
   have hC':∀ c ∈ f'.calls,c.cond = true -> CFSnd M c:=fun b hb => f3 b ((k2.k b).2 hb)
   refine op_sound hS hL hT hn hoj h2 (fun b hb => hA' b (by rw [he];simp [hb])) (fun b hb => hQ' b (by rw [he];simp [hb])) (fun b hb => hC' b (by rw [he];simp [hb])) fun S' a' m1 m2 m3 m4 m5 m6 => ?_
   refine ih _ s1 S' a' π' ⟨σ1,r1,r2⟩ hCj (fun σ q1 q2 => ?_) m1 m3 m4 (by rw [m5];exact hn)
   obtain ⟨oj2,s2,g,g',rest2,hoj2,h22,hl2',kk2,hlen2,g1,g2,g3,g4⟩:=pick σ q1 q2
   rw [hoj] at hoj2;cases hoj2
   have:=runOp_hot h2 h22
   subst this
   exact ⟨rest2,g',hl2',hlen2,fun b hb => g1 b ((kk2.a b).2 hb),fun b hb => g2 b ((kk2.q b).2 hb),fun b hb => g3 b ((kk2.k b).2 hb),
    fun S'' a'' q1 q2 q3 q4 q5 q6 => g4 S'' a'' q1 (m2.trans q2) (q3.trans kk2.L.symm) (q4.congr fun t => (kk2.get t).symm) (q5.trans m5) (q6.trans m6)⟩
end
def ordOk (ops:Array Oper) (C σ:List Nat) (hot:Nat -> Nat) (l:List Nat):Bool:=
 (noDup l && (((List.range ops.size).all fun i => l.contains i) && l.all fun i => Nat.blt i ops.size)) &&
 ((List.range ops.size).all fun j => match ops[j]? with
  | some o => o.after.toList.all fun e => !Region.binds .any e || (Nat.blt e.on j && Nat.ble (posOf l e.on) (posOf l j))
  | none => true) &&
 ((List.range ops.size).all fun j => (List.range ops.size).all fun i => !Nat.blt (posOf l i) (posOf l j) || ((C.contains i && (C.contains j && Nat.blt (posOf σ i) (posOf σ j))) ||
  match ops[i]?,ops[j]? with
  | some a,some b => maySwap hot ops i j a b || reach ops i ops.size j
  | _,_ => true))
theorem ordOk_spec {ops:Array Oper} {C σ:List Nat} {hot:Nat -> Nat} {l:List Nat} (h:ordOk ops C σ hot l = true):OrdOk ops C σ hot l /\ l.Nodup /\ (∀ i,i ∈ l ↔ i < ops.size):=by
 unfold ordOk at h
 simp only [Bool.and_eq_true,List.all_eq_true,List.mem_range,List.contains_iff_mem,Nat.blt_eq] at h
 obtain ⟨⟨⟨h1,h2,h3⟩,h4⟩,h5⟩:=h
 have hnd:=(noDup_iff l).1 h1
 refine ⟨⟨fun j o ho e he hb => ?_,fun i j a b hij hi hj => ?_⟩,hnd,fun i => ⟨h3 i,fun hi => ?_⟩⟩
 ·have:=h4 j (Array.getElem?_eq_some_iff.1 ho).1
  rw [ho] at this
  have:=List.all_eq_true.1 this e (by simpa using he)
  rw [hb] at this
  simp only [Bool.not_true,Bool.false_or,Bool.and_eq_true,Nat.blt_eq,Nat.ble_eq] at this
  exact ⟨this.1,Nat.not_lt.2 this.2⟩
 ·have:=h5 j (Array.getElem?_eq_some_iff.1 hj).1 i (Array.getElem?_eq_some_iff.1 hi).1
  rw [hi,hj] at this
  simp only [Bool.or_eq_true,Bool.not_eq_true',Bool.and_eq_true,List.contains_iff_mem,Nat.blt_eq] at this
  rcases this with h | h | h
  ·have:=Nat.blt_eq.mpr hij
   rw [this] at h;cases h
  ·exact .inl ⟨h.1,h.2.1,h.2.2⟩
  ·exact .inr h
 ·exact h2 i hi
def ordRun (M:Mach) (call:Answer) (n:Nat) (ops:Array Oper) (ans:Nat -> Option Ans) (hot:Nat -> Nat) (keep C σ l rs:List Nat) (env:Vars) (L:Heap):Option (Vars × Heap × List Bool × List Prop × List CF):=
 match ordOk ops C σ hot l,runOps M.P M.inl call n ops ans hot l ⟨lift env,L,[],[],[]⟩ with
 | true,some s => match narrowIn s.L rs (forget keep s.env),Nat.beq rs.length s.L.length && (List.range L.length).all fun i => (match rs[i]? with | some r => Nat.beq r i | none => false) with
  | some (e,K),true => some (e,K,s.asm,s.eqs,s.calls)
  | _,_ => none
 | _,_ => none
theorem any_sound {M:Mach} (hm:(M.P ()).follows .mixedOrders = true) {fi:Fi} {id:Nat} {ops:Array Oper} {env:Vars} {L:Heap} {call:Answer} {ans:Nat -> Option Ans} {keep C:List Nat} {hot:List Nat -> Nat -> Nat} {l rs:List Nat -> List Nat} {e1:Vars} {L1:Heap} (hnd:C.Nodup)
  (h:∀ σ ∈ perms C,∃ asl qs cl,ordRun M call fi.n ops ans (hot σ) keep C σ (l σ) (rs σ) env L = some (e1,L1,asl,qs,cl) /\ (∀ b ∈ asl,b = true) /\ (∀ q ∈ qs,q) /\ (∀ c ∈ cl,c.cond = true -> CFSnd M c))
  {S:St} {a:Act} (h5:HeapOk S) (h6:S.L = L) (h7:VRel S env a.tmps) (h8:fi.n <= a.tmps.size) :
  RegR (M.P ()) id ops true (fun a' w' => ∃ S':St,S'.w = w' /\ HeapOk S' /\ Ext S S' /\ S'.L = L1 /\ VRel S' e1 a'.tmps /\ a'.tmps.size = a.tmps.size /\ a'.defers = a.defers) a S.w:=by
 refine regR_any hm ?_
 obtain ⟨n1,n2⟩:=more_heap h5 (w':={ S.w with drawn:=S.w.drawn + 1 }) ⟨rfl,rfl,rfl,Nat.le_refl _,fun _ _ => rfl⟩ (fun _ _ => rfl)
 have key:∀ σ:List Nat,σ.Perm C -> ∃ s asl qs cl,ordOk ops C σ (hot σ) (l σ) = true /\ runOps M.P M.inl call fi.n ops ans (hot σ) (l σ) ⟨lift env,L,[],[],[]⟩ = some s /\ narrowIn s.L (rs σ) (forget keep s.env) = some (e1,L1) /\
   (∀ r,r < L.length -> (rs σ)[r]? = some r) /\ (∀ b ∈ s.asm,b = true) /\ (∀ q ∈ s.eqs,q) /\ (∀ c ∈ s.calls,c.cond = true -> CFSnd M c) /\ asl = s.asm /\ qs = s.eqs /\ cl = s.calls:=by
  intro σ hσ
  obtain ⟨asl,qs,cl,hr,h1,h2,h3⟩:=h σ (perms_mem C hσ)
  unfold ordRun at hr
  split at hr
  ·rename_i s ho hs
   split at hr
   ·rename_i e K hn hall
    simp only [Option.some.injEq,Prod.mk.injEq] at hr
    obtain ⟨rfl,rfl,rfl,rfl,rfl⟩:=hr
    simp only [Bool.and_eq_true,List.all_eq_true,List.mem_range] at hall
    refine ⟨s,_,_,_,ho,hs,hn,fun r hr => ?_,h1,h2,h3,rfl,rfl,rfl⟩
    have:=hall.2 r hr
    cases h:(rs σ)[r]? with
    | none => rw [h] at this;simp at this
    | some q => rw [h] at this;simp only [Nat.beq_eq] at this;rw [this]
   ·simp at hr
  ·simp at hr
 refine draw_any (call:=call) (ans:=ans) (C:=C) (hot:=hot) (l:=l) hnd (fun σ hσ => ?_) ops.size (Array.replicate ops.size false) ⟨lift env,L,[],[],[]⟩ ⟨S.base,S.acc,S.L,S.β,{ S.w with drawn:=S.w.drawn + 1 }⟩ a [] ⟨C,.refl _,List.nil_prefix⟩ (fun c hc => ?_) (fun σ hσ _ => ?_) n1 h6 ((lift_rel h7).mono n2) h8
 ·obtain ⟨s,_,_,_,ho,_⟩:=key σ hσ
  exact (ordOk_spec ho).1
 ·constructor
  ·intro h;cases h
  ·intro h
   by_cases hlt:c < ops.size <;> simp [hlt] at h
 ·obtain ⟨s,_,_,_,ho,hs,hn,hid,a1,a2,a3,_⟩:=key σ hσ
  obtain ⟨_,hndl,hmem⟩:=ordOk_spec ho
  refine ⟨l σ,s,⟨by simp,?_,fun i => ?_,fun j o _ hj => ?_,hs⟩,?_,a1,a2,a3,fun S' a' k1 k2 k3 k4 k5 k6 => ?_⟩
  ·refine List.pairwise_iff_getElem.2 fun i j hi hj hij => ?_
   show posOf _ _ < posOf _ _
   rw [posOf_at hndl (List.getElem?_eq_getElem hi),posOf_at hndl (List.getElem?_eq_getElem hj)]
   exact hij
  ·rw [hmem]
   constructor
   ·intro h;exact ⟨h,by simp [h]⟩
   ·intro h;exact h.1
  ·by_cases hlt:j < ops.size <;> simp [hlt] at hj
  ·have hp:(l σ).Perm (List.range ops.size):=(List.perm_ext_iff_of_nodup hndl List.nodup_range).2 fun i => by rw [hmem,List.mem_range]
   rw [hp.length_eq];simp
  ·unfold narrowIn at hn
   split at hn
   ·rename_i rows hrows
    split at hn
    ·rename_i hc
     simp only [Option.some.injEq,Prod.mk.injEq] at hn
     obtain ⟨rfl,rfl⟩:=hn
     simp only [Bool.and_eq_true,List.all_eq_true,List.contains_iff_mem] at hc
     obtain ⟨hnd',ha,hcl⟩:=hc
     have hnd':=(noDup_iff (rs σ)).1 hnd'
     rw [<- k3] at hrows
     obtain ⟨p1,p2,p3⟩:=perm_ok k1 n1 k2 hrows hnd' hcl (fun r hr => hid r (by rw [<- h6];exact hr))
     refine ⟨⟨S'.base,S'.acc,rows.map (renRow (posOf (rs σ))),subβ S'.β (rs σ),S'.w⟩,rfl,p1,n2.trans p2,rfl,fun t => ?_,k5,k6⟩
     rw [get_renV]
     exact p3 _ _ (forget_rel k4 keep t) fun r hr => ha r (rows_get hr)
    ·simp at hn
   ·simp at hn
end Go.Av

namespace Go.Av
structure EG where
 keep:List (Nat × List (Nat × List Nat))
 hot:List (Nat × List (Nat × List Nat))
 known:List (Nat × List AV × AV):=[]
 rows:List (Nat × List (Nat × List Nat)):=[]
mutual
def beqA:AV -> AV -> Bool
 | .bool a,.bool b => a == b
 | .int k n,.int j m => decide (k = j) && n == m
 | .str a,.str b => a == b
 | .flt a,.flt b => a == b
 | .agg a,.agg b => beqAL a b
 | .tup a,.tup b => beqAL a b
 | .vec f es a,.vec g fs b => f == g && (es == fs && beqAL a b)
 | .nilp,.nilp => true
 | .vnil,.vnil => true
 | _,_ => false
def beqAL:List AV -> List AV -> Bool
 | [],[] => true
 | a :: l,b :: m => beqA a b && beqAL l m
 | _,_ => false
end
mutual
theorem beqA_eq:∀ (a b:AV),beqA a b = true -> a = b
 | .bool a,b,h => by cases b <;> simp [beqA] at h;rw [h]
 | .int k n,b,h => by cases b <;> simp [beqA] at h;rw [h.1,h.2]
 | .str a,b,h => by cases b <;> simp [beqA] at h;rw [h]
 | .flt a,b,h => by cases b <;> simp [beqA] at h;rw [h]
 | .agg a,b,h => by cases b <;> simp [beqA] at h;rw [beqAL_eq a _ h]
 | .tup a,b,h => by cases b <;> simp [beqA] at h;rw [beqAL_eq a _ h]
 | .vec f es a,b,h => by cases b <;> simp [beqA] at h;rw [h.1,h.2.1,beqAL_eq a _ h.2.2]
 | .nilp,b,h => by cases b <;> simp [beqA] at h;rfl
 | .vnil,b,h => by cases b <;> simp [beqA] at h;rfl
 | .any,b,h => by cases b <;> simp [beqA] at h
 | .ptr ..,b,h => by cases b <;> simp [beqA] at h
 | .eptr ..,b,h => by cases b <;> simp [beqA] at h
 | .row ..,b,h => by cases b <;> simp [beqA] at h
 | .ref ..,b,h => by cases b <;> simp [beqA] at h
 | .func ..,b,h => by cases b <;> simp [beqA] at h
 | .nilf,b,h => by cases b <;> simp [beqA] at h
 | .mapr ..,b,h => by cases b <;> simp [beqA] at h
 | .nilm,b,h => by cases b <;> simp [beqA] at h
theorem beqAL_eq:∀ (a b:List AV),beqAL a b = true -> a = b
 | [],b,h => by cases b <;> simp [beqAL] at h;rfl
 | a :: l,b,h => by
  cases b with
  | nil => simp [beqAL] at h
  | cons b m => simp [beqAL] at h;rw [beqA_eq a b h.1,beqAL_eq l m h.2]
end
def knownOf (f:Nat) (args:List AV):List (Nat × List AV × AV) -> Option AV
 | [] => none
 | (g,bs,v) :: l => bif Nat.beq f g && beqAL args bs then some v else knownOf f args l
theorem known_in {f:Nat} {args:List AV} {v:AV}:∀ {l:List (Nat × List AV × AV)},knownOf f args l = some v -> (f,args,v) ∈ l
 | [],h => by simp [knownOf] at h
 | (g,bs,u) :: l,h => by
  unfold knownOf at h
  cases hb:(Nat.beq f g && beqAL args bs) with
  | true =>
   rw [hb] at h
   simp only [cond_true,Option.some.injEq] at h
   simp only [Bool.and_eq_true,Nat.beq_eq] at hb
   rw [h,hb.1,beqAL_eq _ _ hb.2];exact .head _
  | false => rw [hb] at h;exact .tail _ (known_in h)
def ofFn:List (Nat × List (Nat × List Nat)) -> Nat -> List (Nat × List Nat)
 | [],_ => []
 | (f,l) :: t,g => bif Nat.beq f g then l else ofFn t g
def keepAns (l:List Nat) (i:Nat):Option Ans:=bif l.contains i then some .keep else none
def GoodC (inl:FuncId -> Bool) (call:Answer) (c:CF):Prop:=
 (c.own = true /\ inl c.f = true /\ ∃ o,call c.f c.args c.L = some (c.v,o) /\ c.L' = o.getD c.L) \/
 (inl c.f = false /\ ∃ L1,call c.f c.args [] = some (c.v,some L1)) \/
 (c.own = false /\ inl c.f = false /\ call c.f c.args [] = some (c.v,none))
section
variable {P:Unit -> Program}
theorem quiet_no {x:Option AV} {r:SR} (h:quiet x = some r):r.calls = []:=by
 unfold quiet at h;split at h
 ·simp only [Option.some.injEq] at h;subst h;rfl
 ·simp at h
theorem convS_no {src dst:TypeId} {x:AV} {r:SR} (h:convS P src dst x = some r):r.calls = []:=by
 unfold convS at h
 repeat' split at h
 all_goals first | (simp only [Option.some.injEq] at h;subst h;rfl) | simp at h
theorem intBin_no {op:BinOp} {k:IntKind} {x y:Int} {r:SR} (h:intBin op k x y = some r):r.calls = []:=by
 unfold intBin at h
 split at h <;> first | (simp only [Option.some.injEq] at h;subst h;rfl) | (simp at h)
theorem strBin_no {op:BinOp} {x y:List UInt8} {r:SR} (h:strBin op x y = some r):r.calls = []:=by
 unfold strBin at h
 split at h <;> first | (simp only [Option.some.injEq] at h;subst h;rfl) | (simp at h)
theorem binA_no {op:BinOp} {T:TypeId} {x y:AV} {r:SR} (h:binA P op T x y = some r):r.calls = []:=by
 unfold binA at h
 split at h
 ·simp only [Option.some.injEq] at h;subst h;rfl
 ·simp only [Option.some.injEq] at h;subst h;rfl
 ·split at h
  ·exact intBin_no h
  ·simp at h
 ·exact strBin_no h
 ·split at h
  ·exact quiet_no h
  ·simp at h
 ·split at h
  ·exact quiet_no h
  ·simp at h
 ·simp at h
theorem boxA_no {L:Heap} {x:AV} {r:SR} (h:boxA L x = some r):r.calls = []:=by
 unfold boxA at h;split at h
 ·simp only [Option.some.injEq] at h;subst h;rfl
 ·simp at h
theorem loadA_no {el:Option AV} {L:Heap} {T:TypeId} {p:AV} {r:SR} (h:loadA P el L T p = some r):r.calls = []:=by
 unfold loadA at h
 repeat' split at h
 all_goals first | (simp only [Option.some.injEq] at h;subst h;rfl) | (simp at h)
theorem storeA_no {el:Option AV} {L:Heap} {T:TypeId} {p v:AV} {r:SR} (h:storeA P el L T p v = some r):r.calls = []:=by
 unfold storeA at h
 repeat' split at h
 all_goals first | (simp only [Option.some.injEq] at h;subst h;rfl) | (simp at h)
theorem buildSliceA_no {keep:Bool} {L:Heap} {T:TypeId} {len:Nat} {parts:List (Nat × AV)} {r:SR} (h:buildSliceA P keep L T len parts = some r):r.calls = []:=by
 unfold buildSliceA at h
 cases keep <;> simp only [cond_true,cond_false] at h <;> (repeat' split at h) <;> first | (simp only [Option.some.injEq] at h;subst h;rfl) | (simp at h)
theorem indexAddrA_no {L:Heap} {T:TypeId} {x i:AV} {r:SR} (h:indexAddrA P L T x i = some r):r.calls = []:=by
 unfold indexAddrA at h
 repeat' split at h
 all_goals first | (simp only [Option.some.injEq] at h;subst h;rfl) | (simp at h)
theorem indexA_no {T:TypeId} {x i:AV} {r:SR} (h:indexA P T x i = some r):r.calls = []:=by
 unfold indexA at h
 repeat' split at h
 all_goals first | (simp only [Option.some.injEq] at h;subst h;rfl) | (simp at h)
theorem sliceA_no {L:Heap} {T:TypeId} {x:AV} {lo hi mx:Option AV} {r:SR} (h:sliceA P L T x lo hi mx = some r):r.calls = []:=by
 unfold sliceA at h
 repeat' split at h
 all_goals first | (simp only [Option.some.injEq] at h;subst h;rfl) | (simp at h)
theorem appendA_no {L:Heap} {T:TypeId} {s x:AV} {r:SR} (h:appendA P L T s x = some r):r.calls = []:=by
 unfold appendA at h
 repeat' split at h
 all_goals first | (simp only [Option.some.injEq] at h;subst h;rfl) | (simp at h)
theorem clearA_no {L:Heap} {T:TypeId} {d:AV} {r:SR} (h:clearA P L T d = some r):r.calls = []:=by
 unfold clearA at h
 repeat' split at h
 all_goals first | (simp only [Option.some.injEq] at h;subst h;rfl) | (simp at h)
theorem lenA_no {L:Heap} {T:TypeId} {x:AV} {r:SR} (h:lenA P L T x = some r):r.calls = []:=by
 unfold lenA at h
 repeat' split at h
 all_goals first | (simp only [Option.some.injEq] at h;subst h;rfl) | (simp at h)
theorem makeSliceA_no {L:Heap} {T:TypeId} {a b:AV} {r:SR} (h:makeSliceA P L T a b = some r):r.calls = []:=by
 unfold makeSliceA at h
 repeat' split at h
 all_goals first | (simp only [Option.some.injEq] at h;subst h;rfl) | (simp at h)
theorem sliceArrA_no {L:Heap} {n:Nat} {e:TypeId} {x:AV} {r:SR} (h:sliceArrA P L n e x = some r):r.calls = []:=by
 unfold sliceArrA at h
 repeat' split at h
 all_goals first | (simp only [Option.some.injEq] at h;subst h;rfl) | (simp at h)
theorem appendZ_no {L:Heap} {T:TypeId} {s x:AV} {r:SR} (h:appendZ P L T s x = some r):r.calls = []:=by
 unfold appendZ at h
 repeat' split at h
 all_goals first | (simp only [Option.some.injEq] at h;subst h;rfl) | (simp at h)
theorem makeMapA_no {L:Heap} {T:TypeId} {r:SR} (h:makeMapA P L T = some r):r.calls = []:=by
 unfold makeMapA at h
 repeat' split at h
 all_goals first | (simp only [Option.some.injEq] at h;subst h;rfl) | (simp at h)
theorem lookupA_no {el:Option AV} {L:Heap} {T:TypeId} {m k:AV} {ok:Bool} {r:SR} (h:lookupA P el L T m k ok = some r):r.calls = []:=by
 unfold lookupA at h
 repeat' split at h
 all_goals first | (simp only [Option.some.injEq] at h;subst h;rfl) | (simp at h)
theorem mapUpdateA_no {L:Heap} {T:TypeId} {m k v:AV} {r:SR} (h:mapUpdateA P L T m k v = some r):r.calls = []:=by
 unfold mapUpdateA at h
 repeat' split at h
 all_goals first | (simp only [Option.some.injEq] at h;subst h;rfl) | (simp at h)
theorem mapEntryA_no {el:Option AV} {L:Heap} {T:TypeId} {m k:AV} {r:SR} (h:mapEntryA P el L T m k = some r):r.calls = []:=by
 unfold mapEntryA at h
 repeat' split at h
 all_goals first | (simp only [Option.some.injEq] at h;subst h;rfl) | (simp at h)
theorem entryStoreA_no {L:Heap} {m i v:AV} {r:SR} (h:entryStoreA L m i v = some r):r.calls = []:=by
 unfold entryStoreA at h
 repeat' split at h
 all_goals first | (simp only [Option.some.injEq] at h;subst h;rfl) | (simp at h)
theorem callF_good {inl:FuncId -> Bool} {call:Answer} {L:Heap} {g:FuncId} {args:List AV} {r:SR} (h:callF inl call L g args = some r):∀ c ∈ r.calls,GoodC inl call c:=by
 unfold callF at h
 cases hi:inl g with
 | true =>
  rw [hi] at h
  simp only [cond_true] at h
  split at h
  ·rename_i rs args' Lc hin
   split at h
   ·rename_i v o hc
    split at h
    ·simp only [Option.some.injEq] at h
     subst h
     intro c hm
     simp only [List.mem_singleton] at hm
     subst hm
     exact .inl ⟨rfl,hi,o,hc,rfl⟩
    ·simp at h
   ·simp at h
  ·simp at h
 | false =>
  rw [hi] at h
  simp only [cond_false] at h
  split at h
  ·rename_i ds hds
   split at h
   ·rename_i d hc
    split at h
    ·split at h
     all_goals
      simp only [Option.some.injEq] at h
      subst h
      intro c hm
      simp only [List.mem_singleton] at hm
      subst hm
      exact .inr (.inr ⟨rfl,hi,hc⟩)
    ·simp at h
   ·rename_i v L1 hc
    split at h
    ·split at h
     ·split at h
      ·simp only [Option.some.injEq] at h
       subst h
       intro c hm
       simp only [List.mem_singleton] at hm
       subst hm
       exact .inr (.inl ⟨hi,L1,hc⟩)
      ·simp at h
     ·simp at h
    ·simp at h
   ·simp at h
  ·simp at h
theorem good_no {inl:FuncId -> Bool} {call:Answer} {r:SR} (h:r.calls = []):∀ c ∈ r.calls,GoodC inl call c:=by
 rw [h];intro c hc;cases hc
theorem callA_good {inl:FuncId -> Bool} {call:Answer} {ρ:Operand -> AV} {L:Heap} {c:Call} {r:SR} (h:callA P inl call ρ L c = some r):∀ c ∈ r.calls,GoodC inl call c:=by
 unfold callA at h
 split at h
 ·apply good_no
  split at h
  ·split at h
   ·exact appendA_no h
   ·exact appendA_no h
   ·exact appendZ_no h
   ·simp at h
  ·exact clearA_no h
  ·exact lenA_no h
  ·exact quiet_no h
  ·exact quiet_no h
  ·exact quiet_no h
  ·simp at h
 ·split at h
  ·exact callF_good h
  ·simp at h
 ·simp at h
theorem stepA_good {inl:FuncId -> Bool} {call:Answer} {ρ:Chain -> Operand -> AV} {L:Heap} {o:Oper} {r:SR} {an:Option Ans} (han:an = none \/ an = some .keep) (h:stepA P inl call an ρ L o = some r):∀ c ∈ r.calls,GoodC inl call c:=by
 unfold stepA at h
 simp only at h
 split at h
 ·simp only [Option.some.injEq] at h;subst h;exact good_no rfl
 ·simp only [Option.some.injEq] at h;subst h;exact good_no rfl
 ·split at h
  ·exact good_no (quiet_no h)
  ·exact good_no (quiet_no h)
 ·split at h
  ·exact good_no (boxA_no h)
  ·simp at h
 ·exact good_no (boxA_no h)
 ·exact good_no (quiet_no h)
 ·exact good_no (buildSliceA_no h)
 ·exact good_no (loadA_no h)
 ·exact good_no (storeA_no h)
 ·split at h
  ·simp only [Option.some.injEq] at h;subst h;exact good_no rfl
  ·simp only [Option.some.injEq] at h;subst h;exact good_no rfl
  ·simp at h
 ·exact good_no (binA_no h)
 ·exact good_no (quiet_no h)
 ·exact good_no (convS_no h)
 ·simp only [Option.some.injEq] at h;subst h;exact good_no rfl
 ·exact good_no (makeSliceA_no h)
 ·split at h
  ·split at h
   ·exact good_no (sliceArrA_no h)
   ·simp at h
  ·exact good_no (sliceA_no h)
 ·exact good_no (quiet_no h)
 ·exact good_no (quiet_no h)
 ·exact good_no (indexAddrA_no h)
 ·exact good_no (indexA_no h)
 ·split at h
  ·exact good_no (makeMapA_no h)
  ·simp at h
 ·exact good_no (lookupA_no h)
 ·exact good_no (mapUpdateA_no h)
 ·exact good_no (mapEntryA_no h)
 ·exact good_no (entryStoreA_no h)
 ·split at h
  ·exact good_no (quiet_no h)
  ·simp at h
 ·rcases han with rfl | rfl <;> exact callA_good h
 ·simp at h
theorem runOp_good {inl:FuncId -> Bool} {call:Answer} {n:Nat} {ops:Array Oper} {hot:Nat} {o:Oper} {s s':RS} {an:Option Ans} (han:an = none \/ an = some .keep) (h:runOp P inl call n ops an hot o s = some s') (hs:∀ c ∈ s.calls,GoodC inl call c) :
  ∀ c ∈ s'.calls,GoodC inl call c:=by
 unfold runOp at h
 split at h
 ·simp at h
 ·split at h
  ·simp only [Option.some.injEq] at h;subst h;exact hs
  ·simp at h
 ·split at h
  ·split at h
   ·simp at h
   ·split at h
    ·simp only [Option.some.injEq] at h;subst h;exact hs
    ·simp at h
  ·rename_i r hr
   have hg:=stepA_good han hr
   split at h
   ·simp at h
   ·split at h
    ·simp at h
    ·split at h
     ·simp only [Option.some.injEq] at h;subst h
      intro c hc
      rcases List.mem_append.1 hc with hc | hc
      ·exact hs c hc
      ·exact hg c hc
     ·simp only [Option.some.injEq] at h;subst h
      intro c hc
      rcases List.mem_append.1 hc with hc | hc
      ·exact hs c hc
      ·obtain ⟨c0,h1,rfl⟩:=List.mem_map.1 hc
       exact hg c0 h1
theorem keepAns_or (l:List Nat) (i:Nat):keepAns l i = none \/ keepAns l i = some .keep:=by
 unfold keepAns
 cases l.contains i with
 | true => exact .inr rfl
 | false => exact .inl rfl
theorem runOps_good {inl:FuncId -> Bool} {call:Answer} {n:Nat} {ops:Array Oper} {hot:Nat -> Nat} {ans:Nat -> Option Ans} (hans:∀ i,ans i = none \/ ans i = some .keep):∀ (l:List Nat) {s s':RS},runOps P inl call n ops ans hot l s = some s' -> (∀ c ∈ s.calls,GoodC inl call c) ->
  ∀ c ∈ s'.calls,GoodC inl call c:=by
 intro l
 induction l with
 | nil => intro s s' h hs;simp only [runOps,Option.some.injEq] at h;subst h;exact hs
 | cons i rest ih =>
  intro s s' h hs
  simp only [runOps] at h
  split at h
  ·exact ih h hs
  ·split at h
   ·rename_i s1 h1
    exact ih h (runOp_good (hans _) h1 hs)
   ·simp at h
end
def AnsOk (M:Mach) (call:Answer):Prop:=∀ f args L v o,call f args L = some (v,o) ->
 (M.inl f = true -> Ev M (.own f args L) v (o.getD L)) /\ (M.inl f = false -> o = none /\ Ev M (.pure f args) v [])
def KnownOk (M:Mach) (G:EG):Prop:=∀ k ∈ G.known,Ev M (.pure k.1 k.2.1) k.2.2 []
end Go.Av

namespace Go.Av
open Go.RowKit
mutual
def deepA (L:Heap):AV -> Option AV
 | .row r v => match L[r]? with
  | some row => bif row.clean then some (.vec false row.es row.elems) else match pureL L row.elems with
   | some ys => some (.vec false row.es ys)
   | none => none
  | none => none
 | .agg cs => match deepL L cs with
  | some ds => some (.agg ds)
  | none => none
 | .tup cs => match deepL L cs with
  | some ds => some (.tup ds)
  | none => none
 | a => pureA L a
def deepL (L:Heap):List AV -> Option (List AV)
 | [] => some []
 | c :: r => match deepA L c,deepL L r with
  | some d,some ds => some (d :: ds)
  | _,_ => none
end
mutual
def deepV (L:Heap):AV -> List Bool
 | .row r v => verOk L r v :: (match L[r]? with
  | some row => bif row.clean then [] else versL L row.elems
  | none => [])
 | .agg cs => deepVL L cs
 | .tup cs => deepVL L cs
 | a => versA L a
def deepVL (L:Heap):List AV -> List Bool
 | [] => []
 | c :: r => deepV L c ++ deepVL L r
end
theorem deep_get {L:Heap}:∀ {l ds:List AV},pureL L l = some ds -> ds.length = l.length /\ ∀ (i:Nat) d,ds[i]? = some d -> ∃ c,l[i]? = some c /\ pureA L c = some d
 | [],ds,h => by simp only [pureL,Option.some.injEq] at h;subst h;exact ⟨rfl,by simp⟩
 | c :: l,ds,h => by
  simp only [pureL] at h
  split at h
  ·rename_i d ds' hd hds
   simp only [Option.some.injEq] at h;subst h
   obtain ⟨h1,h2⟩:=deep_get hds
   refine ⟨by simp [h1],fun i x hx => ?_⟩
   cases i with
   | zero => simp at hx;subst hx;exact ⟨c,rfl,hd⟩
   | succ i => obtain ⟨y,q1,q2⟩:=h2 i x (by simpa using hx);exact ⟨y,by simpa using q1,q2⟩
  ·simp at h
theorem deep_plain {L:Heap} {c d:AV} (h:pureA L c = some d) (hp:c.plain = true):d.plain = true:=by
 cases c with
 | any => simp [AV.plain] at hp
 | agg cs => simp [AV.plain] at hp
 | tup cs => simp [AV.plain] at hp
 | row r v =>
  simp only [pureA] at h
  repeat' split at h
  all_goals first | (simp only [Option.some.injEq] at h;subst h;rfl) | (simp at h)
 | ref r v lo len =>
  simp only [pureA] at h
  repeat' split at h
  all_goals first | (simp only [Option.some.injEq] at h;subst h;rfl) | (simp at h)
 | ptr r v i j =>
  simp only [pureA] at h
  repeat' split at h
  all_goals first | (simp only [Option.some.injEq] at h;subst h;rfl) | (simp at h)
 | func fn a b =>
  simp only [pureA] at h
  repeat' split at h
  all_goals first | (simp only [Option.some.injEq] at h;subst h;rfl) | (simp at h)
 | mapr r => simp [pureA] at h
 | _ => simp only [pureA,Option.some.injEq] at h;subst h;rfl
theorem cells_one {c:AV} (hp:c.plain = true):c.cells = [c]:=by
 cases c <;> first | rfl | (simp [AV.plain] at hp)
theorem versL_mem {L:Heap}:∀ {l:List AV} {i:Nat} {c:AV} {b:Bool},l[i]? = some c -> b ∈ versA L c -> b ∈ versL L l
 | [],i,c,b,h,_ => by simp at h
 | x :: l,i,c,b,h,hb => by
  simp only [versL,List.mem_append]
  cases i with
  | zero => simp at h;subst h;exact .inl hb
  | succ i => exact .inr (versL_mem (by simpa using h) hb)
theorem deep_cells {L:Heap} {x y:AV} (h:pureA L x = some y) (hp:x.cells.all AV.plain = true) :
  y.cells.length = x.cells.length /\ y.cells.all AV.plain = true /\ ∀ (k:Nat) c,y.cells[k]? = some c -> ∃ c0,x.cells[k]? = some c0 /\ pureA L c0 = some c /\ ∀ b ∈ versA L c0,b ∈ versA L x:=by
 have single:x.plain = true -> y.cells.length = x.cells.length /\ y.cells.all AV.plain = true /\ ∀ (k:Nat) c,y.cells[k]? = some c -> ∃ c0,x.cells[k]? = some c0 /\ pureA L c0 = some c /\ ∀ b ∈ versA L c0,b ∈ versA L x:=by
  intro hx
  have hy:=deep_plain h hx
  rw [cells_one hx,cells_one hy]
  refine ⟨rfl,by simp [hy],fun k c hk => ?_⟩
  cases k with
  | zero => simp at hk;subst hk;exact ⟨x,rfl,h,fun b hb => hb⟩
  | succ k => simp at hk
 cases x with
 | agg cs =>
  simp only [pureA] at h
  split at h
  ·rename_i ds hd
   simp only [Option.some.injEq] at h;subst h
   obtain ⟨h1,h2⟩:=deep_get hd
   simp only [AV.cells] at hp ⊢
   refine ⟨h1,List.all_eq_true.2 fun d hdm => ?_,fun k c hk => ?_⟩
   ·obtain ⟨i,hi⟩:=List.getElem?_of_mem hdm
    obtain ⟨c,q1,q2⟩:=h2 i d hi
    exact deep_plain q2 (List.all_eq_true.1 hp c (List.mem_of_getElem? q1))
   ·obtain ⟨c0,q1,q2⟩:=h2 k c hk
    exact ⟨c0,q1,q2,fun b hb => by simp only [versA];exact versL_mem q1 hb⟩
  ·simp at h
 | any => simp [pureA] at h
 | tup cs => simp [AV.cells,AV.plain] at hp
 | _ => exact single (by simpa [AV.cells] using hp)
theorem row_deep {S S':St} (hS:HeapOk S) (hw:S'.w = S.w) (hi:∀ b off,Imm S b off -> b < S.w.heap.size -> Imm S' b off) {r:Nat} {row:Row} {info:BI} (hr:S.L[r]? = some row) (hb:S.β[r]? = some info) (hmp:info.mp = false)
  (hh:∀ rs,Holds S S' rs) {ys:List AV} (hy:pureL S.L row.elems = some ys) (hv:∀ b ∈ versL S.L row.elems,b = true) (cap:Nat) (hc:row.elems.length <= cap) :
  DRel S' (.vec false row.es ys) (.slice (some ⟨info.blk,info.off,none⟩) row.elems.length cap):=by
 have hes:=(hS.cells r row info hr hb hmp).1
 obtain ⟨hlen,hget⟩:=deep_get hy
 have:=DRel.vec (S:=S') false row.es ys info.blk info.off cap
  (fun i y hyi => by
   obtain ⟨x,q1,q2⟩:=hget i y hyi
   obtain ⟨o1,o2⟩:=hS.elems r row hr i x q1
   obtain ⟨p1,p2,_⟩:=deep_cells q2 o2
   exact ⟨p1.trans o1,p2⟩) (by simp) (by rw [hlen];exact hc)
  (fun i y k c hyi hk => by
   obtain ⟨x,q1,q2⟩:=hget i y hyi
   obtain ⟨o1,o2⟩:=hS.elems r row hr i x q1
   obtain ⟨p1,p2,_⟩:=deep_cells q2 o2
   have hk2:k < info.es:=by rw [hes,<- o1,<- p1];exact lt_of_get hk
   obtain ⟨cv,h3⟩:=row_cell hS hr hb hmp q1 hk2
   rw [hes] at h3
   refine ⟨⟨cv,by rw [hw];exact h3⟩,hh [r] r (by simp) row info hr hb _ (by omega) ?_⟩
   have:=idx_lt (lt_of_get q1) (Nat.le_refl row.elems.length) hk2
   rw [hes] at this ⊢
   omega)
  (fun i y k c cv hyi hk hcv => by
   obtain ⟨x,q1,q2⟩:=hget i y hyi
   obtain ⟨o1,o2⟩:=hS.elems r row hr i x q1
   obtain ⟨p1,p2,p3⟩:=deep_cells q2 o2
   obtain ⟨c0,z1,z2,z3⟩:=p3 k c hk
   rw [hw,<- hes] at hcv
   exact pure_rel hS hw hi c0 (hS.rel r row info i x k c0 cv hr hb q1 z1 hcv) z2 (fun b hb => hv b (versL_mem q1 (z3 b hb))) (hh _))
 rw [hlen] at this
 exact this
mutual
theorem deep_rel {S S':St} (hS:HeapOk S) (hw:S'.w = S.w) (hi:∀ b off,Imm S b off -> b < S.w.heap.size -> Imm S' b off) (hh:∀ rs,Holds S S' rs):∀ (a:AV) {d:AV} {v:Value},Rel S a v -> deepA S.L a = some d ->
  (∀ b ∈ deepV S.L a,b = true) -> DRel S' d v
 | .any,_,_,hr,h,hv => pure_rel hS hw hi _ hr h hv (hh _)
 | .bool b,_,_,hr,h,hv => pure_rel hS hw hi _ hr h hv (hh _)
 | .int k n,_,_,hr,h,hv => pure_rel hS hw hi _ hr h hv (hh _)
 | .str s,_,_,hr,h,hv => pure_rel hS hw hi _ hr h hv (hh _)
 | .flt s,_,_,hr,h,hv => pure_rel hS hw hi _ hr h hv (hh _)
 | .nilp,_,_,hr,h,hv => pure_rel hS hw hi _ hr h hv (hh _)
 | .nilf,_,_,hr,h,hv => pure_rel hS hw hi _ hr h hv (hh _)
 | .nilm,_,_,hr,h,hv => pure_rel hS hw hi _ hr h hv (hh _)
 | .mapr _,_,_,hr,h,hv => pure_rel hS hw hi _ hr h hv (hh _)
 | .vnil,_,_,hr,h,hv => pure_rel hS hw hi _ hr h hv (hh _)
 | .vec f es xs,_,_,hr,h,hv => pure_rel hS hw hi _ hr h hv (hh _)
 | .eptr es xs i j,_,_,hr,h,hv => pure_rel hS hw hi _ hr h hv (hh _)
 | .func fn a b,_,_,hr,h,hv => pure_rel hS hw hi _ hr h hv (hh _)
 | .ptr r ver i j,_,_,hr,h,hv => pure_rel hS hw hi _ hr h hv (hh _)
 | .ref r ver lo len,_,_,hr,h,hv => pure_rel hS hw hi _ hr h hv (hh _)
 | .agg cs,_,_,hr,h,hv => by
  simp only [deepA] at h
  split at h
  ·rename_i ds hd
   simp only [Option.some.injEq] at h;subst h
   obtain ⟨vs,rfl,l1,r1⟩:=rel_agg hr
   obtain ⟨l2,r2⟩:=deep_relL hS hw hi hh cs ⟨l1,r1⟩ hd (by simpa [deepV] using hv)
   exact .agg ds vs l2 r2
  ·simp at h
 | .tup cs,_,_,hr,h,hv => by
  simp only [deepA] at h
  split at h
  ·rename_i ds hd
   simp only [Option.some.injEq] at h;subst h
   obtain ⟨vs,rfl,l1,r1⟩:=rel_tup hr
   obtain ⟨l2,r2⟩:=deep_relL hS hw hi hh cs ⟨l1,r1⟩ hd (by simpa [deepV] using hv)
   exact .tup ds vs l2 r2
  ·simp at h
 | .row r ver,_,_,hr,h,hv => by
  simp only [deepA] at h
  split at h
  ·rename_i row hrow
   cases hcl:row.clean with
   | true =>
    rw [hcl] at h
    exact pure_rel hS hw hi (.row r ver) hr (by simpa [pureA,hrow,hcl] using h) (fun b hb => hv b (by simp only [versA,List.mem_singleton] at hb;simp [deepV,hb])) (hh _)
   | false =>
    rw [hcl] at h
    simp only [cond_false] at h
    split at h
    ·rename_i ys hys
     simp only [Option.some.injEq] at h;subst h
     obtain ⟨row',info,a1,a2,a3,hmp⟩:=rel_row hr
     rw [hrow] at a1
     simp only [Option.some.injEq] at a1;subst a1
     have hver:row.ver = ver:=by
      have:=hv (verOk S.L r ver) (by simp [deepV])
      simpa [verOk,hrow] using this
     rw [a3 hver]
     exact row_deep hS hw hi hrow a2 hmp hh hys (fun b hb => hv b (by simp [deepV,hrow,hcl,hb])) info.cap (hS.cells r row info hrow a2 hmp).2.1
    ·simp at h
  ·simp at h
theorem deep_relL {S S':St} (hS:HeapOk S) (hw:S'.w = S.w) (hi:∀ b off,Imm S b off -> b < S.w.heap.size -> Imm S' b off) (hh:∀ rs,Holds S S' rs):∀ (l:List AV) {ds:List AV} {vs:List Value},RelL S l vs -> deepL S.L l = some ds ->
  (∀ b ∈ deepVL S.L l,b = true) -> ds.length = vs.length /\ ∀ (i:Nat) c v,ds[i]? = some c -> vs[i]? = some v -> DRel S' c v
 | [],_,vs,hr,h,_ => by
  simp only [deepL,Option.some.injEq] at h;subst h
  exact ⟨by simpa using hr.1,by simp⟩
 | c :: l,_,[],hr,h,_ => by have:=hr.1;simp at this
 | c :: l,_,u :: vs,hr,h,hv => by
  simp only [deepL] at h
  split at h
  ·rename_i d ds hd hds
   simp only [Option.some.injEq] at h;subst h
   have h1:=deep_rel hS hw hi hh c hr.head hd (fun b hb => hv b (by simp [deepVL,hb]))
   obtain ⟨l2,r2⟩:=deep_relL hS hw hi hh l hr.tail hds (fun b hb => hv b (by simp [deepVL,hb]))
   refine ⟨by simp [l2],fun i a b ha hb => ?_⟩
   cases i with
   | zero => simp at ha hb;subst ha;subst hb;exact h1
   | succ i => exact r2 i a b (by simpa using ha) (by simpa using hb)
  ·simp at h
end
def DeepQ (d:AV):AV -> Heap -> Prop:=fun v L => ∃ d0,deepA L v = some d0 /\ allB (deepV L v) /\ Weak d0 d
theorem deep_of {L:Heap} {v d:AV} (h1:deepA L v = some d) (h2:allB (deepV L v)):DeepQ d v L:=⟨d,h1,h2,.refl _⟩
theorem deep_pure {M:Mach} (hm:(M.P ()).follows .mixedOrders = true) {f:FuncId} {args:List AV} {d:AV} (h:Wp M (.own f args []) (DeepQ d)):Ev M (.pure f args) d []:=by
 refine .sem ?_
 have h':OwnQ M f args [] (DeepQ d):=wp_sound hm h
 intro base acc w cargs hb hac hr
 have hS:HeapOk ⟨base,acc,[],[],w⟩:=⟨hb,rfl,by simp,by simp,by simp,by simp,by simp,by simp,by simp,by simp,fun b off h => hac b off (Nat.le_trans hb h)⟩
 obtain ⟨k1,k2⟩:=h' ⟨base,acc,[],[],w⟩ cargs hS rfl hr
 refine ⟨k1,Calls.mono k2 fun e w' he => ?_⟩
 cases e with
 | returned cv =>
  obtain ⟨v,L',β',⟨d0,hd,hv,hwk⟩,m1,m2,m3⟩:=he
  exact ⟨d,⟨rfl,rfl⟩,m2.below,weak_rel hwk (deep_rel (S:=⟨base,acc,L',β',w'⟩) (S':=⟨base,acc,[],[],w'⟩) m1 rfl (fun b off hi _ => ⟨hi.1,by simp⟩)
   (fun rs r hr row info q1 q2 off _ _ => ⟨m1.acq r info off q2,by simp⟩) v m3 hd ((allB_iff _).1 hv))⟩
 | panicked c => exact he.elim
 | outgrown => exact he.elim
def ansY (M:Mach) (K:List (Nat × List AV × AV)) (ex:FuncId -> List AV -> Heap -> Option (AV × Heap)):Answer:=fun g args L =>
 match M.inl g with
 | true => match ex g args L with
  | some (v,L') => some (v,some L')
  | none => none
 | false => match knownOf g args K with
  | some d => some (d,none)
  | none => match ex g args [] with
   | some (v,L') => match deepA L' v with
    | some d => bif (deepV L' v).all (fun b => b) then some (d,none) else none
    | none => none
   | none => none
theorem ansY_ok {M:Mach} (hm:(M.P ()).follows .mixedOrders = true) {G:EG} (hK:KnownOk M G) {ex:FuncId -> List AV -> Heap -> Option (AV × Heap)} (h:∀ f args L v L',ex f args L = some (v,L') -> Ev M (.own f args L) v L'):AnsOk M (ansY M G.known ex):=by
 intro f args L v o hc
 unfold ansY at hc
 split at hc
 ·rename_i hi
  refine ⟨fun _ => ?_,fun h2 => by rw [hi] at h2;simp at h2⟩
  split at hc
  ·rename_i w L' he
   simp only [Option.some.injEq,Prod.mk.injEq] at hc
   obtain ⟨rfl,rfl⟩:=hc
   exact h _ _ _ _ _ he
  ·simp at hc
 ·rename_i hi
  refine ⟨fun h2 => by rw [hi] at h2;simp at h2,fun _ => ?_⟩
  split at hc
  ·rename_i d hd
   simp only [Option.some.injEq,Prod.mk.injEq] at hc
   obtain ⟨rfl,rfl⟩:=hc
   exact ⟨rfl,hK _ (known_in hd)⟩
  split at hc
  ·rename_i w L' he
   split at hc
   ·rename_i d hd
    cases hb:(deepV L' w).all (fun b => b) with
    | false => rw [hb] at hc;simp at hc
    | true =>
     rw [hb] at hc
     simp only [cond_true,Option.some.injEq,Prod.mk.injEq] at hc
     obtain ⟨rfl,rfl⟩:=hc
     exact ⟨rfl,deep_pure hm (.mono (h _ _ _ _ _ he) fun x K ⟨e1,e2⟩ => by subst e1;subst e2;exact deep_of hd ((allB_iff _).2 fun b hbm => (List.all_eq_true.1 hb) b hbm))⟩
   ·simp at hc
  ·simp at hc
end Go.Av

namespace Go.Av
open Go.RowKit
def tryHot (P:Unit -> Program) (inl:FuncId -> Bool) (call:Answer) (n:Nat) (ops:Array Oper) (an:Option Ans) (i:Nat) (o:Oper) (s:RS):List (List Nat) -> Option (List Nat × RS)
 | [] => none
 | c :: cs => match runOp P inl call n ops an (hotOf ops c i) o s with
  | some s' => some (c,s')
  | none => tryHot P inl call n ops an i o s cs
def hotCands (ρ:Operand -> AV) (L:Heap) (i:Nat) (o:Oper):List (List Nat):=
 (match readsA ρ o with
  | some [r] => [[i + 1000 * (r + 2)]]
  | some [] => [[i + 502000]]
  | _ => []) ++ (match writesA ρ L o with
  | some [r] => [[i + 1000 * (r + 2)],[i,i + 1000 * (r + 2)]]
  | _ => []) ++ [[],[i + 1000],[i]]
def autoHot (P:Unit -> Program) (inl:FuncId -> Bool) (call:Answer) (n:Nat) (ops:Array Oper) (ans:Nat -> Option Ans):List Nat -> RS -> List Nat
 | [],_ => []
 | i :: rest,s => match ops[i]? with
  | none => autoHot P inl call n ops ans rest s
  | some o => match tryHot P inl call n ops (ans i) i o s (hotCands (ev s.env []) s.L i o) with
   | some (c,s') => c ++ autoHot P inl call n ops ans rest s'
   | none => []
def layOps (P:Unit -> Program) (inl:FuncId -> Bool) (call:Answer) (n:Nat) (ops:Array Oper) (ans:Nat -> Option Ans):List Nat -> RS -> List Nat
 | [],_ => []
 | i :: rest,s => match ops[i]? with
  | none => layOps P inl call n ops ans rest s
  | some o => match runOp P inl call n ops (ans i) 2 o s with
   | some s' => bif Nat.blt s.L.length s'.L.length then i :: layOps P inl call n ops ans rest s' else layOps P inl call n ops ans rest s'
   | none => []
def readyO (ops:Array Oper) (done:List Nat) (i:Nat):Bool:=match ops[i]? with
 | some o => o.after.toList.all fun e => !Region.binds .any e || done.contains e.on
 | none => true
def ordGo (ops:Array Oper) (C:List Nat):Nat -> List Nat -> List Nat -> List Nat -> List Nat
 | 0,_,_,_ => []
 | n + 1,σ,rest,done => match rest.find? (fun i => readyO ops done i && (!C.contains i || (match σ with
   | c :: _ => Nat.beq c i
   | [] => false))) with
  | some i => i :: ordGo ops C n (bif C.contains i then σ.tail else σ) (rest.erase i) (i :: done)
  | none => []
def hotX (M:Mach) (call:Answer) (n:Nat) (ops:Array Oper) (ans:Nat -> Option Ans) (C:List Nat) (env:Vars) (L:Heap) (σ:List Nat):Nat -> Nat:=
 hotOf ops (autoHot M.P M.inl call n ops ans (ordGo ops C ops.size σ (List.range ops.size) []) ⟨lift env,L,[],[],[]⟩)
def rsX (M:Mach) (call:Answer) (n:Nat) (ops:Array Oper) (ans:Nat -> Option Ans) (C:List Nat) (env:Vars) (L:Heap) (σ:List Nat):List Nat:=
 List.range L.length ++ (match C with
  | [] => (match runOps M.P M.inl call n ops ans (hotX M call n ops ans C env L σ) (ordGo ops C ops.size σ (List.range ops.size) []) ⟨lift env,L,[],[],[]⟩ with
   | some s => List.range' L.length (s.L.length - L.length)
   | none => [])
  | _ => C.map fun c => L.length + posOf σ c)
def ordX (M:Mach) (call:Answer) (n:Nat) (ops:Array Oper) (ans:Nat -> Option Ans) (keep C:List Nat) (env:Vars) (L:Heap) (σ:List Nat):Option (Vars × Heap × List Bool × List Prop × List CF):=
 ordRun M call n ops ans (hotX M call n ops ans C env L σ) keep C σ (ordGo ops C ops.size σ (List.range ops.size) []) (rsX M call n ops ans C env L σ) env L
mutual
def beqB:AV -> AV -> Bool
 | .any,.any => true
 | .bool a,.bool b => a == b
 | .int k n,.int j m => decide (k = j) && n == m
 | .str a,.str b => a == b
 | .flt a,.flt b => a == b
 | .agg a,.agg b => beqBL a b
 | .tup a,.tup b => beqBL a b
 | .vec f es a,.vec g fs b => f == g && (es == fs && beqBL a b)
 | .eptr es a i j,.eptr fs b k l => es == fs && (beqBL a b && (i == k && j == l))
 | .ptr r v i j,.ptr s u k l => r == s && (v == u && (i == k && j == l))
 | .row r v,.row s u => r == s && v == u
 | .ref r v i j,.ref s u k l => r == s && (v == u && (i == k && j == l))
 | .nilp,.nilp => true
 | .vnil,.vnil => true
 | .nilf,.nilf => true
 | .nilm,.nilm => true
 | .mapr r,.mapr s => r == s
 | _,_ => false
def beqBL:List AV -> List AV -> Bool
 | [],[] => true
 | a :: l,b :: m => beqB a b && beqBL l m
 | _,_ => false
end
mutual
theorem beqB_eq:∀ (a b:AV),beqB a b = true -> a = b
 | .any,b,h => by cases b <;> simp [beqB] at h;rfl
 | .bool a,b,h => by cases b <;> simp [beqB] at h;rw [h]
 | .int k n,b,h => by cases b <;> simp [beqB] at h;rw [h.1,h.2]
 | .str a,b,h => by cases b <;> simp [beqB] at h;rw [h]
 | .flt a,b,h => by cases b <;> simp [beqB] at h;rw [h]
 | .agg a,b,h => by cases b <;> simp [beqB] at h;rw [beqBL_eq a _ h]
 | .tup a,b,h => by cases b <;> simp [beqB] at h;rw [beqBL_eq a _ h]
 | .vec f es a,b,h => by cases b <;> simp [beqB] at h;rw [h.1,h.2.1,beqBL_eq a _ h.2.2]
 | .eptr es a i j,b,h => by cases b <;> simp [beqB] at h;rw [h.1,beqBL_eq a _ h.2.1,h.2.2.1,h.2.2.2]
 | .ptr r v i j,b,h => by cases b <;> simp [beqB] at h;rw [h.1,h.2.1,h.2.2.1,h.2.2.2]
 | .row r v,b,h => by cases b <;> simp [beqB] at h;rw [h.1,h.2]
 | .ref r v i j,b,h => by cases b <;> simp [beqB] at h;rw [h.1,h.2.1,h.2.2.1,h.2.2.2]
 | .nilp,b,h => by cases b <;> simp [beqB] at h;rfl
 | .vnil,b,h => by cases b <;> simp [beqB] at h;rfl
 | .nilf,b,h => by cases b <;> simp [beqB] at h;rfl
 | .nilm,b,h => by cases b <;> simp [beqB] at h;rfl
 | .mapr r,b,h => by cases b <;> simp [beqB] at h;rw [h]
 | .func ..,b,h => by cases b <;> simp [beqB] at h
theorem beqBL_eq:∀ (a b:List AV),beqBL a b = true -> a = b
 | [],b,h => by cases b <;> simp [beqBL] at h;rfl
 | a :: l,b,h => by
  cases b with
  | nil => simp [beqBL] at h
  | cons b m => simp [beqBL] at h;rw [beqB_eq a b h.1,beqBL_eq l m h.2]
end
def beqVars:Vars -> Vars -> Bool
 | [],[] => true
 | (t,a) :: l,(u,b) :: m => Nat.beq t u && (beqB a b && beqVars l m)
 | _,_ => false
def beqHeap:Heap -> Heap -> Bool
 | [],[] => true
 | a :: l,b :: m => beqBL a.elems b.elems && (Nat.beq a.es b.es && (Nat.beq a.ver b.ver && (a.frozen == b.frozen && (a.clean == b.clean && beqHeap l m))))
 | _,_ => false
theorem beqVars_eq:∀ (a b:Vars),beqVars a b = true -> a = b
 | [],b,h => by cases b <;> simp [beqVars] at h;rfl
 | (t,a) :: l,b,h => by
  match b,h with
  | [],h => simp [beqVars] at h
  | (u,b) :: m,h =>
   simp only [beqVars,Bool.and_eq_true,Nat.beq_eq] at h
   rw [h.1,beqB_eq a b h.2.1,beqVars_eq l m h.2.2]
theorem beqHeap_eq:∀ (a b:Heap),beqHeap a b = true -> a = b
 | [],b,h => by cases b <;> simp [beqHeap] at h;rfl
 | a :: l,b,h => by
  match b,h with
  | [],h => simp [beqHeap] at h
  | b :: m,h =>
   simp only [beqHeap,Bool.and_eq_true,Nat.beq_eq,beq_iff_eq] at h
   obtain ⟨h1,h2,h3,h4,h5,h6⟩:=h
   rw [beqHeap_eq l m h6]
   obtain ⟨ae,a2,a3,a4,a5⟩:=a
   obtain ⟨be,b2,b3,b4,b5⟩:=b
   simp only at h1 h2 h3 h4 h5
   rw [beqBL_eq _ _ h1,h2,h3,h4,h5]
def anyX (M:Mach) (call:Answer) (n:Nat) (ops:Array Oper) (ans:Nat -> Option Ans) (keep:List Nat) (env:Vars) (L:Heap) (C:List Nat):Option (Vars × Heap):=
 match ordX M call n ops ans keep C env L C with
 | some (e,K,_,_,_) => bif noDup C && (perms C).all (fun σ => match ordX M call n ops ans keep C env L σ with
   | some (e',K',asm,[],_) => (asm.all fun b => b) && (beqVars e' e && beqHeap K' K)
   | _ => false) then some (e,K) else none
 | none => none
theorem good_snd {M:Mach} (hm:(M.P ()).follows .mixedOrders = true) {call:Answer} (hc:AnsOk M call) {cs:List CF} (h:∀ c ∈ cs,GoodC M.inl call c):∀ c ∈ cs,c.cond = true -> CFSnd M c:=by
 intro c hcm _
 unfold CFSnd
 cases hown:c.own with
 | true =>
  refine OwnQ.snd (wp_sound hm (c:=.own c.f c.args c.L) ?_)
  rcases h c hcm with ⟨_,h2,o,h3,h4⟩ | ⟨h2,L1,h3⟩ | ⟨h2,_⟩
  ·rw [h4];exact (hc _ _ _ _ _ h3).1 h2
  ·have:=((hc _ _ _ _ _ h3).2 h2).1;simp at this
  ·rw [hown] at h2;simp at h2
 | false =>
  refine PureR.snd (wp_sound hm (c:=.pure c.f c.args) ?_)
  rcases h c hcm with ⟨h2,_⟩ | ⟨h2,L1,h3⟩ | ⟨_,h2,h3⟩
  ·rw [hown] at h2;simp at h2
  ·have:=((hc _ _ _ _ _ h3).2 h2).1;simp at this
  ·exact ((hc _ _ _ _ _ h3).2 h2).2
theorem ordRun_good {M:Mach} {call:Answer} {n:Nat} {ops:Array Oper} {ans:Nat -> Option Ans} (hans:∀ i,ans i = none \/ ans i = some .keep) {hot:Nat -> Nat} {keep C σ l rs:List Nat} {env:Vars} {L:Heap} {e:Vars} {K:Heap} {asm:List Bool} {qs:List Prop} {cs:List CF}
  (h:ordRun M call n ops ans hot keep C σ l rs env L = some (e,K,asm,qs,cs)):∀ c ∈ cs,GoodC M.inl call c:=by
 unfold ordRun at h
 split at h
 ·rename_i s _ hs
  split at h
  ·simp only [Option.some.injEq,Prod.mk.injEq] at h
   obtain ⟨_,_,_,_,rfl⟩:=h
   exact runOps_good hans _ hs (by intro c hc;cases hc)
  ·simp at h
 ·simp at h
theorem anyX_sound {M:Mach} (hm:(M.P ()).follows .mixedOrders = true) {call:Answer} (hc:AnsOk M call) {fi:Fi} {id:Nat} {ops:Array Oper} {ans:Nat -> Option Ans} (hans:∀ i,ans i = none \/ ans i = some .keep) {keep C:List Nat} {env e1:Vars} {L L1:Heap} {k:List Item} {Q:AV -> Heap -> Prop}
  (h:anyX M call fi.n ops ans keep env L C = some (e1,L1)) (hk:Wp M (.run fi k e1 L1) Q):Wp M (.run fi (.code (.region id ops true) :: k) env L) Q:=by
 unfold anyX at h
 split at h
 ·rename_i e K _ _ _ he
  cases hb:(noDup C && (perms C).all (fun σ => match ordX M call fi.n ops ans keep C env L σ with
   | some (e',K',asm,[],_) => (asm.all fun b => b) && (beqVars e' e && beqHeap K' K)
   | _ => false)) with
  | false => rw [hb] at h;simp at h
  | true =>
   rw [hb] at h
   simp only [cond_true,Option.some.injEq,Prod.mk.injEq] at h
   obtain ⟨rfl,rfl⟩:=h
   simp only [Bool.and_eq_true,List.all_eq_true] at hb
   obtain ⟨b1,b2⟩:=hb
   refine .sem (RunSnd.after fun S a h5 h6 h7 h8 b k2 cs hbb => ?_)
   obtain ⟨a',w',⟨S',e0,n1,n2,n3,n4,n5,n6⟩,hs⟩:=any_sound hm (id:=id) (fi:=fi) (ops:=ops) (env:=env) (L:=L) (call:=call) (ans:=ans) (keep:=keep) (C:=C)
    (hot:=hotX M call fi.n ops ans C env L) (l:=fun σ => ordGo ops C ops.size σ (List.range ops.size) []) (rs:=rsX M call fi.n ops ans C env L) (e1:=e) (L1:=K) ((noDup_iff C).1 b1) (fun σ hσ => by
      have:=b2 σ hσ
      split at this
      ·rename_i e' K' asm cs' ho
       simp only [Bool.and_eq_true,List.all_eq_true] at this
       obtain ⟨t1,t2,t3⟩:=this
       have:=beqVars_eq _ _ t2;subst this
       have:=beqHeap_eq _ _ t3;subst this
       exact ⟨asm,[],cs',ho,t1,by simp,good_snd hm hc (ordRun_good hans ho)⟩
      ·simp at this) h5 h6 h7 h8 b k2 cs hbb
   exact ⟨a',w',⟨S',e,e0,n1,n2,n3.symm ▸ wp_sound hm hk,n4,n5,n6⟩,hs⟩
 ·simp at h
def anyXX (M:Mach) (call:Answer) (n:Nat) (ops:Array Oper) (ans:Nat -> Option Ans) (keep:List Nat) (env:Vars) (L:Heap):Option (Vars × Heap):=
 match anyX M call n ops ans keep env L [] with
 | some r => some r
 | none => anyX M call n ops ans keep env L (layOps M.P M.inl call n ops ans (List.range ops.size) ⟨lift env,L,[],[],[]⟩)
def toI:AV -> Int
 | .int _ n => n
 | _ => 0
def roundsZ (M:Mach) (n:Nat) (p0 p1:Tmp) (opsA:Array Oper) (keepA:List Nat) (env:Vars) (run:Vars -> Heap -> Option (AV × Heap)):List (AV × AV) -> Heap -> Option Heap
 | [],L => some L
 | x :: xs,L => match runOps M.P M.inl (fun _ _ _ => none) n opsA (fun _ => none) (fun _ => 2) (List.range opsA.size) ⟨lift ((p1,x.2) :: (p0,x.1) :: env),L,[],[],[]⟩ with
  | some ⟨e,K,[],[],[]⟩ => bif beqHeap K L then (match run (forget keepA e) L with
   | some (_,L1) => roundsZ M n p0 p1 opsA keepA env run xs L1
   | none => none) else none
  | _ => none
def isIt:Option FuncId -> Nat -> Bool
 | some j,it => Nat.beq it j
 | none,_ => false
theorem isIt_eq {o:Option FuncId} {it:Nat} (h:isIt o it = true):o = some it:=by
 cases o with
 | none => simp [isIt] at h
 | some j => simp [isIt] at h;rw [h]
def runZ (M:Mach) (itf:Option FuncId) (fi:Fi) (kp kr:List (Nat × List Nat)) (call:Answer):Nat -> List Item -> Vars -> Heap -> Option (AV × Heap)
 | 0,_,_,_ => none
 | n + 1,todo,env,L =>
  match todo with
  | [] => match finish M.P fi env L with
   | some v => some (v,L)
   | none => none
  | .inBlock _ :: k => runZ M itf fi kp kr call n k env L
  | .inLoop b :: k => runZ M itf fi kp kr call n (.code b :: .inLoop b :: k) env L
  | .code c :: k =>
   match c with
   | .skip => runZ M itf fi kp kr call n k env L
   | .seq a b => runZ M itf fi kp kr call n (.code a :: .code b :: k) env L
   | .cond c a b => match evV env c with
    | .bool t => runZ M itf fi kp kr call n (.code (bif t then a else b) :: k) env L
    | _ => none
   | .block id b => runZ M itf fi kp kr call n (.code b :: .inBlock id :: k) env L
   | .loop b => runZ M itf fi kp kr call n (.code b :: .inLoop b :: k) env L
   | .exit id => match exitTo id k with
    | some k' => runZ M itf fi kp kr call n k' env L
    | none => none
   | .region id ops true => match anyXX M call fi.n ops (keepAns (hotCalls kr id)) (hotCalls kp id) env L with
    | some (e,K) => runZ M itf fi kp kr call n k e K
    | none => none
   | .region id ops false =>
    match runOps M.P M.inl call fi.n ops (keepAns (hotCalls kr id)) (fun _ => 2) (List.range ops.size) ⟨lift env,L,[],[],[]⟩ with
    | some s => match s.asm.all (fun b => b),s.eqs with
     | true,[] => runZ M itf fi kp kr call n k (forget (hotCalls kp id) s.env) s.L
     | _,_ => none
    | none => none
   | .rangeFunc g ps (.region ida opsA false) body =>
    match evV env g,ps with
    | .func (.func it) [] [.eptr 1 [.vec f 1 xs] 0 0],⟨[p0,p1]⟩ =>
     bif isIt itf it && (beqBL xs ((xs.map toI).map (.int .i64)) && (Nat.blt xs.length 4611686018427387904 && (noDefer opsA && (tameC body && (Nat.blt p0 fi.n && Nat.blt p1 fi.n))))) then
      match roundsZ M fi.n p0 p1 opsA (hotCalls kp ida) env (fun e K => runZ M itf fi kp kr call n [.code body] e K) (bkX (xs.map toI)) L with
      | some L1 => runZ M itf fi kp kr call n k env L1
      | none => none
     else none
    | _,_ => none
   | .ret => match finish M.P fi env L with
    | some v => some (v,L)
    | none => none
   | _ => none
  | _ => none
theorem roundsZ_sound {M:Mach} (hm:(M.P ()).follows .mixedOrders = true) {fi:Fi} {p0 p1:Tmp} {opsA:Array Oper} {keepA:List Nat} {env:Vars} {body:Code} {run:Vars -> Heap -> Option (AV × Heap)} (hrun:∀ e K v K',run e K = some (v,K') -> Ev M (.run fi [.code body] e K) v K') :
  ∀ (xs:List (AV × AV)) (L L2:Heap),roundsZ M fi.n p0 p1 opsA keepA env run xs L = some L2 -> Rounds M fi p0 p1 opsA body env keepA xs L L2
 | [],L,L2,h => by simp only [roundsZ,Option.some.injEq] at h;subst h;exact .nil L
 | x :: xs,L,L2,h => by
  simp only [roundsZ] at h
  split at h
  ·rename_i e K hr
   cases hb:beqHeap K L with
   | false => rw [hb] at h;simp at h
   | true =>
    rw [hb] at h
    have:=beqHeap_eq _ _ hb;subst this
    simp only [cond_true] at h
    split at h
    ·rename_i v L1 hr2
     exact .cons e hr (wp_sound hm (.mono (hrun _ _ _ _ hr2) fun _ _ h => h.2)) (roundsZ_sound hm hrun xs L1 L2 h)
    ·simp at h
  ·simp at h
theorem runZ_sound {M:Mach} (hm:(M.P ()).follows .mixedOrders = true) {itf:Option FuncId} (hI:∀ it,itf = some it -> (∀ args w,(callFunc it args).run (M.P ()) w = .ok (.enter it args) w) /\ ∀ (f:Bool) (X:List Int),X.length < 4611686018427387904 -> IterSnd M it (.eptr 1 [.vec f 1 (X.map (.int .i64))] 0 0) (bkX X))
  {fi:Fi} {kp kr:List (Nat × List Nat)} {call:Answer} (hc:AnsOk M call):∀ (n:Nat) {todo:List Item} {env:Vars} {L L':Heap} {v:AV},runZ M itf fi kp kr call n todo env L = some (v,L') -> Ev M (.run fi todo env L) v L':=by
 intro n
 induction n with
 | zero => intro todo env L L' v h;simp [runZ] at h
 | succ n ih =>
  intro todo env L L' v h
  unfold runZ at h
  split at h
  ·split at h
   ·rename_i w hf
    simp only [Option.some.injEq,Prod.mk.injEq] at h
    obtain ⟨rfl,rfl⟩:=h
    exact .done hf ⟨rfl,rfl⟩
   ·simp at h
  ·exact .inBlock (ih h)
  ·exact .inLoop (ih h)
  ·split at h
   ·exact .skip (ih h)
   ·exact .seq (ih h)
   ·split at h
    ·rename_i t ht
     exact .cond t ht (ih h)
    ·simp at h
   ·exact .block (ih h)
   ·exact .loop (ih h)
   ·split at h
    ·rename_i k' hk
     exact .exit hk (ih h)
    ·simp at h
   ·rename_i id ops
    split at h
    ·rename_i e K ha
     unfold anyXX at ha
     split at ha
     ·rename_i r hr
      simp only [Option.some.injEq] at ha;subst ha
      exact anyX_sound hm hc (keepAns_or _) hr (ih h)
     ·exact anyX_sound hm hc (keepAns_or _) ha (ih h)
    ·simp at h
   ·split at h
    ·rename_i id ops _ s hr
     split at h
     ·rename_i ha he
      have hg:=runOps_good (keepAns_or _) _ hr (by intro c hc;cases hc)
      refine .region call (keepAns (hotCalls kr _)) _ _ s (fun h1 => by cases h1) hr (fun b hb => ?_) (fun p hp => ?_) (fun c hcm _ ho => ?_) (fun c hcm _ ho => ?_) (ih h)
      ·exact (List.all_eq_true.1 ha) b hb
      ·rw [he] at hp;cases hp
      ·rcases hg c hcm with ⟨_,h2,o,h3,h4⟩ | ⟨h2,L1,h3⟩ | ⟨h2,_⟩
       ·rw [h4];exact (hc _ _ _ _ _ h3).1 h2
       ·have:=((hc _ _ _ _ _ h3).2 h2).1;simp at this
       ·rw [ho] at h2;simp at h2
      ·rcases hg c hcm with ⟨h2,_⟩ | ⟨h2,L1,h3⟩ | ⟨_,h2,h3⟩
       ·rw [ho] at h2;simp at h2
       ·have:=((hc _ _ _ _ _ h3).2 h2).1;simp at this
       ·exact ((hc _ _ _ _ _ h3).2 h2).2
     ·simp at h
    ·simp at h
   ·rename_i g ps ida opsA body
    split at h
    ·rename_i it f xs p0 p1 hg
     cases hb:(isIt itf it && (beqBL xs ((xs.map toI).map (.int .i64)) && (Nat.blt xs.length 4611686018427387904 && (noDefer opsA && (tameC body && (Nat.blt p0 fi.n && Nat.blt p1 fi.n)))))) with
     | false => rw [hb] at h;simp at h
     | true =>
      rw [hb] at h
      simp only [cond_true] at h
      simp only [Bool.and_eq_true,Nat.beq_eq,Nat.blt_eq] at hb
      obtain ⟨b1,b2,b3,b4,b5,b6,b7⟩:=hb
      obtain ⟨hit,hI⟩:=hI _ (isIt_eq b1)
      split at h
      ·rename_i L1 hr
       have h2:=hI f (xs.map toI) (by rw [List.length_map];exact b3)
       rw [<- beqBL_eq _ _ b2] at h2
       exact .sem (range_rounds hg hit h2 b4 b5 b6 b7 (roundsZ_sound hm (fun e K v K' hrun => ih hrun) _ _ _ hr) (wp_sound hm (ih h)))
      ·simp at h
    ·simp at h
   ·split at h
    ·rename_i w hf
     simp only [Option.some.injEq,Prod.mk.injEq] at h
     obtain ⟨rfl,rfl⟩:=h
     exact .ret hf ⟨rfl,rfl⟩
    ·simp at h
   ·simp at h
  ·simp at h
def trimZ (L L':Heap) (v:AV):Heap:=bif keepOk L.length v (L'.take L.length) then L'.take L.length else L'
theorem trimZ_ok {M:Mach} {f:FuncId} {args:List AV} {L L':Heap} {v:AV} (h:Ev M (.own f args L) v L'):Ev M (.own f args L) v (trimZ L L' v):=by
 unfold trimZ
 cases hk:keepOk L.length v (L'.take L.length) with
 | false => exact h
 | true =>
  simp only [cond_true]
  refine .drop hk (.mono h fun x K ⟨e1,e2⟩ => ?_)
  subst e1;subst e2
  refine ⟨rfl,?_⟩
  unfold keepOk at hk
  simp only [Bool.and_eq_true,Nat.beq_eq] at hk
  rw [hk.1]
def ansZ (M:Mach) (K:List (Nat × List AV × AV)) (ex:FuncId -> List AV -> Heap -> Option (AV × Heap)):Answer:=fun g args L =>
 match M.inl g with
 | true => match ex g args L with
  | some (v,L') => bif beqHeap (trimZ L L' v) L then some (v,none) else some (v,some (trimZ L L' v))
  | none => none
 | false => ansY M K ex g args L
theorem ansZ_ok {M:Mach} (hm:(M.P ()).follows .mixedOrders = true) {G:EG} (hK:KnownOk M G) {ex:FuncId -> List AV -> Heap -> Option (AV × Heap)} (h:∀ f args L v L',ex f args L = some (v,L') -> Ev M (.own f args L) v L'):AnsOk M (ansZ M G.known ex):=by
 intro f args L v o hc
 unfold ansZ at hc
 split at hc
 ·rename_i hi
  refine ⟨fun _ => ?_,fun h2 => by rw [hi] at h2;simp at h2⟩
  split at hc
  ·rename_i w L' he
   have h1:=trimZ_ok (h _ _ _ _ _ he)
   cases hb:beqHeap (trimZ L L' w) L with
   | true =>
    rw [hb] at hc
    simp only [cond_true,Option.some.injEq,Prod.mk.injEq] at hc
    obtain ⟨rfl,rfl⟩:=hc
    rw [beqHeap_eq _ _ hb] at h1
    exact h1
   | false =>
    rw [hb] at hc
    simp only [cond_false,Option.some.injEq,Prod.mk.injEq] at hc
    obtain ⟨rfl,rfl⟩:=hc
    exact h1
  ·simp at hc
 ·exact ansY_ok hm hK h f args L v o hc
def execZ (M:Mach) (itf:Option FuncId) (G:EG):Nat -> FuncId -> List AV -> Heap -> Option (AV × Heap)
 | 0 => fun _ _ _ => none
 | n + 1 => fun f args L =>
  match (M.P ()).funcs[f]? with
  | some fn => match fn.body,fn.name == "runtime.NumGoroutine" with
   | some c,false => runZ M itf ⟨fn.ntmps,fn.results.toList⟩ (ofFn G.keep f) (ofFn G.rows f) (ansZ M G.known (execZ M itf G n)) 100000 [.code c] (argVars 0 args) L
   | _,_ => none
  | none => none
theorem execZ_sound {M:Mach} (hm:(M.P ()).follows .mixedOrders = true) {itf:Option FuncId} (hI:∀ it,itf = some it -> (∀ args w,(callFunc it args).run (M.P ()) w = .ok (.enter it args) w) /\ ∀ (f:Bool) (X:List Int),X.length < 4611686018427387904 -> IterSnd M it (.eptr 1 [.vec f 1 (X.map (.int .i64))] 0 0) (bkX X))
  {G:EG} (hK:KnownOk M G):∀ (n:Nat) (f:FuncId) (args:List AV) (L:Heap) (v:AV) (L':Heap),execZ M itf G n f args L = some (v,L') -> Ev M (.own f args L) v L':=by
 intro n
 induction n with
 | zero => intro f args L v L' h;simp [execZ] at h
 | succ n ih =>
  intro f args L v L' h
  unfold execZ at h
  split at h
  ·rename_i fn hf
   split at h
   ·rename_i c hb hn
    exact .own fn c hf hb hn (runZ_sound hm hI (ansZ_ok hm hK fun f args L v L' h => ih f args L v L' h) _ h)
   ·simp at h
  ·simp at h
def execP2 (M:Mach) (itf:Option FuncId) (G:EG) (n:Nat) (f:FuncId) (args:List AV):Option AV:=
 match execZ M itf G n f args [] with
 | some (v,L') => match deepA L' v with
  | some d => bif (deepV L' v).all (fun b => b) then some d else none
  | none => none
 | none => none
theorem exec_all {M:Mach} (hm:(M.P ()).follows .mixedOrders = true) {itf:Option FuncId} (hI:∀ it,itf = some it -> (∀ args w,(callFunc it args).run (M.P ()) w = .ok (.enter it args) w) /\ ∀ (f:Bool) (X:List Int),X.length < 4611686018427387904 -> IterSnd M it (.eptr 1 [.vec f 1 (X.map (.int .i64))] 0 0) (bkX X))
  {G:EG} (hK:KnownOk M G) (n:Nat) {f:FuncId} {args:List AV} {d:AV} (h:execP2 M itf G n f args = some d):Ev M (.pure f args) d []:=by
 unfold execP2 at h
 split at h
 ·rename_i v L' he
  split at h
  ·rename_i d0 hd
   cases hb:(deepV L' v).all (fun b => b) with
   | false => rw [hb] at h;simp at h
   | true =>
    rw [hb] at h
    simp only [cond_true,Option.some.injEq] at h
    subst h
    exact deep_pure hm (.mono (execZ_sound hm hI hK n _ _ _ _ _ he) fun x K ⟨e1,e2⟩ => by subst e1;subst e2;exact deep_of hd ((allB_iff _).2 fun b hbm => (List.all_eq_true.1 hb) b hbm))
  ·simp at h
 ·simp at h
end Go.Av

namespace Go.Av
open Go.Proofs
def awTt:List (Nat × List (Nat × List Nat)):=[(30,[(0,[]),(1,[1]),(2,[1,2,3,4]),(3,[0])]),
 (59,[(0,[0,1,2,3]),(1,[0,1,2,3,21]),(2,[8,9,10]),(3,[0,1,2,3,11]),(4,[0,1,2,3,11,12]),(5,[0,1,2,3,11,12,23,24]),(6,[0,1,2,3,11,12,23,24,25]),(7,[0,1,2,3,11,12,13,23,24]),(8,[0,1,2,3,11,12,13,14,15,23,24]),(9,[0,1,2,3,11,12,13,14,23,24,37]),(10,[0,1,2,3,11,12,23,24]),(11,[0,1,2,3,11,12,23,24]),(12,[0,1,2,3,11,12,23,24]),(13,[8,9,10])]),
 (60,[(0,[0,1]),(1,[0,1,10]),(2,[4]),(3,[0,1,12,13]),(4,[0,1,12,13,14]),(5,[0,1,5,12,13]),(6,[0,1,12,13,24]),(7,[4]),(8,[0,1,12,13]),(9,[4])]),
 (91,[(0,[0,1,2,3]),(1,[3,29]),(2,[8]),(3,[8])]),
 (92,[(0,[0,1,4,5,8,9,12]),(1,[0,1,4,5,8,9,12,24,25,26]),(2,[0,1,4,5,8,9,12,24,25,26,27]),(3,[0,1,4,5,8,9,12,15,24,25,26]),(4,[0,1,4,5,8,9,12,15,24,25,26,30,31,32]),(5,[0,1,4,5,8,9,12,15,24,25,26,30,31,32,33]),(6,[0,1,4,5,8,9,12,15,17,24,25,26,30,31,32]),(7,[0,1,4,5,8,9,12,15,18,24,25,26,30,31,32]),(8,[0,1,4,5,8,9,12,15,18,24,25,26,30,31,32,54]),(9,[12,13]),(10,[0,1,4,5,8,9,12,15,24,25,26,30,31,32]),(11,[0,1,4,5,8,9,12,24,25,26]),(12,[12,13])]),
 (103,[(0,[0]),(1,[2])]),
 (104,[(0,[0,1]),(1,[4])]),
 (105,[(0,[1]),(1,[2])]),
 (106,[(0,[0,1,2,3,4]),(1,[2,3,4,28]),(2,[10]),(3,[2,3,4,11,12]),(4,[2,3,11,12,33,34,35]),(5,[2,3,11,12,33,34,35,36]),(6,[2,3,11,12,14,33,34,35]),(7,[2,3,11,12,14,15,16,33,34,35]),(8,[2,3,11,12,33,34,35]),(9,[2,3,11,12,33,34,35]),(10,[11,12]),(11,[11,12]),(12,[11,12]),(13,[11,12,17]),(14,[11,17,72,73,74]),(15,[11,17,72,73,74,75]),(16,[11,17,19,72,73,74]),(17,[11,17,19,72,73,74,78,79,80]),(18,[11,17,19,72,73,74,78,79,80,81]),(19,[11,17,19,21,72,73,74,78,79,80]),(20,[11,17,19,72,73,74,78,79,80]),(21,[11,17,19,72,73,74,78,79,80]),(22,[11,17,72,73,74]),(23,[10])]),
 (107,[(0,[0,1,2,3,9]),(1,[0,1,2,3,9,34]),(2,[10]),(3,[0,1,2,9,11,12]),(4,[10])]),
 (108,[(0,[0,1]),(1,[4])]),
 (109,[(0,[1,2,3,4]),(1,[5])]),
 (110,[(0,[0,1,6,7]),(1,[0,1,6,7,9,10]),(2,[0,6,7,9,10,11,12]),(3,[8])]),
 (113,[(0,[0,1]),(1,[0,1,7,8]),(2,[0,1,7,8,9]),(3,[0,1,5,7,8]),(4,[0,1,5,7,8,16]),(5,[4]),(6,[0,1,7,8]),(7,[4])]),
 (114,[(0,[0,1,2,3,4]),(1,[0,1,2,3,4,20]),(2,[10]),(3,[0,1,2,3,4,21,22,23]),(4,[0,1,2,3,4,21,22,23,24]),(5,[0,1,2,3,4,11,12,21,22,23]),(6,[0,1,2,3,4,11,12,21,22,23,46]),(7,[10]),(8,[0,1,2,3,4,12,21,22,23,49,50,51]),(9,[0,1,2,3,4,12,21,22,23,49,50,51,52]),(10,[0,1,2,3,4,12,14,21,22,23,49,50,51]),(11,[0,1,2,3,4,12,21,22,23,49,50,51,67]),(12,[10]),(13,[0,1,2,3,4,12,21,22,23,49,50,51]),(14,[0,1,2,3,4,21,22,23]),(15,[10])]),
 (115,[(0,[0,3]),(1,[3,6]),(2,[6,13]),(3,[4,5]),(4,[4,5])]),
 (116,[(0,[0,2]),(1,[])]),
 (117,[(0,[0]),(1,[0,8]),(2,[2]),(3,[0,3]),(4,[0,3,13]),(5,[0,3]),(6,[0,3,25]),(7,[0,3,4]),(8,[0,3,4,5]),(9,[0,3,4,5,32]),(10,[0,3,4,5]),(11,[0,3,4,5,44]),(12,[0,3,4,5]),(13,[0,3,4,5]),(14,[0,3]),(15,[2]),(16,[2])]),
 (118,[(0,[0,1]),(1,[0,1,7,8]),(2,[0,1,7,8,9]),(3,[0,1,5,7,8]),(4,[0,1,5,7,8,16]),(5,[4]),(6,[0,1,7,8]),(7,[4])]),
 (119,[(0,[0,1,2,3,8]),(1,[0,1,2,3,8,9]),(2,[0,1,2,3,8,9,10]),(3,[0,1,2,3,8,9,10,23]),(4,[]),(5,[0,1,2,3,8,9,10,29]),(6,[]),(7,[0,1,2,3,8,9,10,35]),(8,[0,1,2,3,8,9,10]),(9,[0,1,2,3,8,9,10]),(10,[0,1,2,3,8,9,10,11,12]),(11,[0,1,2,3,8,9,10,11,12,50]),(12,[0,1,2,3,8,9,10,11]),(13,[0,1,2,3,8,9,10,11]),(14,[0,1,2,3,8,9,10,11,12]),(15,[0,1,2,3,8,9,10,11,68]),(16,[0,1,2,3,8,9,10,11,72]),(17,[0,1,2,3,8,9,10,11,87]),(18,[0,2,3,8,9,13]),(19,[0,1,2,3,8,9]),(20,[0,1,2,3,10,14,15]),(21,[0,1,2,3,9,10,14]),(22,[0,1,2,3,9,10,14,16,17]),(23,[0,1,2,3,9,14,16,17,18]),(24,[0,1,2,3,9,14,16,17,18,113]),(25,[0,1,2,3,8,9,14]),(26,[0,2,3,8,9,14]),(27,[0,1,2,3,8,9]),(28,[0,1,2,3,8,9,14]),(29,[0,1,3,8,9,14]),(30,[0,1,2,3,8,9])]),
 (120,[(0,[0]),(1,[2]),(2,[2])]),
 (121,[(0,[0,1,2,6]),(1,[0,1,2,6,12]),(2,[0,1,2,6]),(3,[0,1,2,6,7]),(4,[0,1,2,6,7,30]),(5,[0,1,2,6,7]),(6,[0,1,2,6,7])]),
 (122,[(0,[0,1,2,6]),(1,[0,1,2,6,7]),(2,[0,6,7,8]),(3,[0,6,7,8,9]),(4,[0,6,7,8,9,19]),(5,[0,6,7,8,9]),(6,[0,6,7,8,9]),(7,[0,6,7,10]),(8,[0,6,7,10,30]),(9,[0,6,7,10]),(10,[0,6,7,10]),(11,[0,6,7,10])]),
 (123,[(0,[0,1,6]),(1,[0,1,6,15]),(2,[0,1,6,7]),(3,[0,1,6,7,8]),(4,[0,1,6,7,8,9]),(5,[0,1,6,7,8,9,33]),(6,[0,1,6,7,8,9]),(7,[0,1,6,7,8,9,10]),(8,[0,1,6,7,8,9,10,43]),(9,[0,1,6,7,8,9,10]),(10,[0,1,6,7,8,9])]),
 (124,[(0,[0,1,2]),(1,[0,1,8]),(2,[0,1,8,9]),(3,[0,1,8,9,10]),(4,[0,1,8,9,10,11]),(5,[0,8,9,10,11,12]),(6,[0,8,9,10,11,12,32]),(7,[0,9,10,11,12,34]),(8,[0,9,10,11,12]),(9,[0,9,10,11,12]),(10,[0,9,10,11,12]),(11,[9,11]),(12,[11,49]),(13,[6,7]),(14,[11,49,51]),(15,[6,7]),(16,[11,54]),(17,[6,7])]),
 (125,[(0,[0,2,6]),(1,[0,6,7]),(2,[0,6,7,13]),(3,[0,6,7]),(4,[0,6,7]),(5,[0,6,7])]),
 (126,[(0,[0,1,2]),(1,[0,1,2,7]),(2,[0,1,2,7,8]),(3,[0,1,2,7,8,14]),(4,[0,1,2,7,8]),(5,[0,1,2,7,8,32]),(6,[0,1,2,7,8]),(7,[0,1,2,7,8,37]),(8,[6]),(9,[0,1,2,7,8,41]),(10,[6]),(11,[0,1,2,7,8]),(12,[0,1,2,7,8,61]),(13,[0,1,2,7,8,9]),(14,[0,1,2,7,8,9,65]),(15,[0,1,2,7,8,9]),(16,[0,1,2,7,8,9,78]),(17,[0,1,2,7,8,9]),(18,[0,1,2,7,8,98]),(19,[0,1,2,7,8,10]),(20,[0,1,2,7,8,10,103]),(21,[0,1,2,7,8,10]),(22,[0,1,2,7,8,10,116]),(23,[0,1,2,7,8,10]),(24,[6])]),
 (127,[(0,[0,1]),(1,[4])]),
 (128,[(0,[0,1,2,3]),(1,[0,1,2]),(2,[0,1,9,10]),(3,[0,1,9,10,43]),(4,[0,1,9,10]),(5,[0,1,9,10,59]),(6,[0,1,9,10]),(7,[0,1,9,10,64]),(8,[0,1,9,10]),(9,[0,1,9,10]),(10,[0,1,9,10]),(11,[8])]),
 (129,[(0,[0,1,2,3]),(1,[0,1,2]),(2,[0,1,10,11]),(3,[0,1,10,11,43]),(4,[0,1,10,11]),(5,[0,1,10,11,60]),(6,[0,1,10,11]),(7,[0,1,10,11,65]),(8,[11]),(9,[8,9]),(10,[0,1,10,11]),(11,[0,1,10,11]),(12,[0,1,10,11]),(13,[0,1,10,11,112]),(14,[0,1,10,11]),(15,[0,1,10,11,129]),(16,[0,1,10,11]),(17,[0,1,10,11,134]),(18,[0,1,10,11]),(19,[0,1,10,11]),(20,[0,1,10,11]),(21,[11]),(22,[8,9])]),
 (130,[(0,[0,2]),(1,[0,2,4]),(2,[0]),(3,[0,2]),(4,[0,2,8]),(5,[0,2]),(6,[0,2]),(7,[2])]),
 (131,[(0,[0,2]),(1,[0,2,4]),(2,[0]),(3,[0,2]),(4,[0,2,8]),(5,[0,2]),(6,[0,2]),(7,[0,2,14]),(8,[0,2]),(9,[0,2]),(10,[2])]),
 (132,[(0,[0,2,3,8]),(1,[0,2,3,8,9]),(2,[0,2,3,8,9,16]),(3,[0,2,3,8,9,36]),(4,[0,2,3,8,9]),(5,[0,2,3,8,9,52]),(6,[0,2,3,9]),(7,[0,2,3,8])]),
 (133,[(0,[0]),(1,[2])]),
 (134,[(0,[0]),(1,[0]),(2,[0]),(3,[0]),(4,[2])]),
 (135,[(0,[0,1,2]),(1,[6])]),
 (136,[(0,[0,1,2,3,4]),(1,[0,1,2,3,4]),(2,[0,1,2,4]),(3,[2]),(4,[10])]),
 (137,[(0,[0]),(1,[2])]),
 (138,[(0,[0,1,2,3]),(1,[1,2,3,18]),(2,[1,2]),(3,[8,9]),(4,[8,9])])]
end Go.Av

namespace Go.Av
open Go.Proofs
def tl3:List G2:=[⟨0,0⟩,⟨10,0⟩,⟨1,0⟩]
def tp3:List G2:=[⟨0,0⟩,⟨1,0⟩,⟨10,0⟩]
def awGt:EG:=⟨awTt,[],[(32,[gsA false tl3],isA false [0,2,1]),(38,[gsA false tp3],.int .i64 10),(32,[gsA true tl3],isA false [0,2,1]),(38,[gsA true tp3],.int .i64 10)],[]⟩
theorem tl3_ok:Sp.okG tl3 /\ tl3.length <= 1000:=⟨fun g hg => by simp only [tl3,List.mem_cons,List.not_mem_nil,or_false] at hg;rcases hg with rfl | rfl | rfl <;> (unfold Sp.inM;decide),by decide⟩
theorem tp3_ok:Sp.okG tp3 /\ tp3.length <= 1000:=⟨fun g hg => by simp only [tp3,List.mem_cons,List.not_mem_nil,or_false] at hg;rcases hg with rfl | rfl | rfl <;> (unfold Sp.inM;decide),by decide⟩
theorem near3:Sp.nearest tl3 = [0,2,1]:=by decide
theorem llen3:Sp.llen tp3 = 10:=by decide
theorem awKt:KnownOk M1 awGt:=by
 intro k hk
 simp only [awGt,List.mem_cons,List.not_mem_nil,or_false] at hk
 rcases hk with rfl | rfl | rfl | rfl
 ·have:=ev32 false tl3 tl3_ok;rw [near3] at this;exact this
 ·have:=ev38 false tp3 tp3_ok;rw [llen3] at this;exact this
 ·have:=ev32 true tl3 tl3_ok;rw [near3] at this;exact this
 ·have:=ev38 true tp3 tp3_ok;rw [llen3] at this;exact this
set_option maxRecDepth 1000000 in
theorem ev30:Ev M1 (.pure 30 []) (.bool true) []:=exec_all (M:=M1) (by kernel_rfl) (itf:=none) (fun _ h => nomatch h) awKt 30 (by kernel_rfl)
end Go.Av

namespace Go.Av
open Go.Proofs
namespace Sp
def atG (gs:List G2) (x:Int):G2:=gs.getD x.toNat default
end Sp
theorem llen_map (gs:List G2):∀ (o:List Int),Sp.llen (o.map (Sp.atG gs)) = Sp.way gs o
 | [] => rfl
 | [_] => rfl
 | x :: y :: o => by
  have ih:=llen_map gs (y :: o)
  rw [List.map_cons] at ih
  rw [List.map_cons,List.map_cons,Sp.llen,ih,Sp.way]
  rfl
theorem okG_map {gs:List G2} (h:Sp.okG gs) (o:List Int):Sp.okG (o.map (Sp.atG gs)):=fun g hg => by
 obtain ⟨x,_,rfl⟩:=List.mem_map.1 hg
 exact okG_at h _
theorem take_more {o:List Int} {i:Nat} (h:i < o.length):o.take (i + 1) = o.take i ++ [o.getD i default]:=by
 rw [List.take_succ_eq_append_getElem h,List.getD_eq_getElem?_getD,List.getElem?_eq_getElem h];rfl
theorem inner0 {fl:Bool} {gs:List G2} {A B C:List Int} {b n:Int} {dq:AV} (hg:Sp.okG gs) (ho:IsOrd gs.length A) (hl:gs.length <= 7) (hn:Sp.way gs A = n) (hb:b <= n) (next:ttO1_at fl gs A B C n (PureQ dq)) :
  ∀ (c i v:Nat),i + c = A.length -> ttI0_at fl gs A B C b n 0 i A.length ((A.take i).map (Sp.atG gs)) v (PureQ dq):=by
 have hol:=ho.len
 intro c
 induction c with
 | zero =>
  intro i v hi
  have e:i = A.length:=by omega
  subst e
  rw [List.take_length]
  refine ttI0 _ _ _ _ _ _ _ _ _ _ _ _ _ ⟨fun h => by omega,fun _ => ⟨fun _ => ⟨okG_map hg _,by simp;omega⟩,fun h => ?_,fun _ => next⟩⟩
  rw [llen_map,hn] at h
  omega
 | succ c ih =>
  intro i v hi
  have p:=ho.rng (A.getD i default) (getD_mem (by omega))
  have hws:((A.take i).map (Sp.atG gs)).length <= 7:=by simp;omega
  refine ttI0 _ _ _ _ _ _ _ _ _ _ _ _ _ ⟨fun _ => ?_,fun h => by omega⟩
  rw [Int.toNat_natCast]
  refine ⟨by omega,by omega,fun h => by omega,fun _ => ⟨by omega,by omega,by omega,by omega,?_⟩⟩
  have:=ih (i + 1) (v + 1) (by omega)
  rw [take_more (show i < A.length by omega),List.map_append] at this
  exact this
theorem outer0 {fl:Bool} {gs:List G2} {A B C:List Int} {b:Int} {dq:AV} (hg:Sp.okG gs) (ho:IsOrd gs.length A) (hl:gs.length <= 7) (h0:0 < gs.length) (hc:Sp.checkE gs 200 = 0) (hb:b <= Sp.way gs A) (next:ttO1_at fl gs A B C (Sp.way gs A) (PureQ dq)):ttO0_at fl gs A B C b (PureQ dq):=by
 have hol:=ho.len
 obtain ⟨e1,e2⟩:=ord_length ho hc
 have p:=ho.rng (A.getD 0 default) (getD_mem (by omega))
 refine ttO0 _ _ _ _ _ _ _ ?_
 rw [e1,e2]
 refine ttZ0 _ _ _ _ _ _ _ _ _ _ _ ⟨fun _ => ?_,fun h => by omega⟩
 refine ⟨by omega,by omega,fun h => ?_,fun _ => ⟨by exact p.1,by show (A.getD 0 default).toNat < _;omega,by omega,?_⟩⟩
 ·have h:A.getD 0 default < 0 \/ A.getD 0 default >= (gs.length:Int):=h
  omega
 have:=inner0 hg ho hl rfl hb next (A.length - 1) 1 0 (by omega)
 rw [take_more (show 0 < A.length by omega)] at this
 exact this
theorem inner1 {fl:Bool} {gs:List G2} {A B C:List Int} {b n:Int} {dq:AV} (hg:Sp.okG gs) (ho:IsOrd gs.length B) (hl:gs.length <= 7) (hn:Sp.way gs B = n) (hb:b <= n) (next:ttO2_at fl gs A B C n (PureQ dq)) :
  ∀ (c i v:Nat),i + c = B.length -> ttI1_at fl gs A B C b n 0 i B.length ((B.take i).map (Sp.atG gs)) v (PureQ dq):=by
 have hol:=ho.len
 intro c
 induction c with
 | zero =>
  intro i v hi
  have e:i = B.length:=by omega
  subst e
  rw [List.take_length]
  refine ttI1 _ _ _ _ _ _ _ _ _ _ _ _ _ ⟨fun h => by omega,fun _ => ⟨fun _ => ⟨okG_map hg _,by simp;omega⟩,fun h => ?_,fun _ => next⟩⟩
  rw [llen_map,hn] at h
  omega
 | succ c ih =>
  intro i v hi
  have p:=ho.rng (B.getD i default) (getD_mem (by omega))
  have hws:((B.take i).map (Sp.atG gs)).length <= 7:=by simp;omega
  refine ttI1 _ _ _ _ _ _ _ _ _ _ _ _ _ ⟨fun _ => ?_,fun h => by omega⟩
  rw [Int.toNat_natCast]
  refine ⟨by omega,by omega,fun h => by omega,fun _ => ⟨by omega,by omega,by omega,by omega,?_⟩⟩
  have:=ih (i + 1) (v + 1) (by omega)
  rw [take_more (show i < B.length by omega),List.map_append] at this
  exact this
theorem outer1 {fl:Bool} {gs:List G2} {A B C:List Int} {b:Int} {dq:AV} (hg:Sp.okG gs) (ho:IsOrd gs.length B) (hl:gs.length <= 7) (h0:0 < gs.length) (hc:Sp.checkE gs 200 = 0) (hb:b <= Sp.way gs B) (next:ttO2_at fl gs A B C (Sp.way gs B) (PureQ dq)):ttO1_at fl gs A B C b (PureQ dq):=by
 have hol:=ho.len
 obtain ⟨e1,e2⟩:=ord_length ho hc
 have p:=ho.rng (B.getD 0 default) (getD_mem (by omega))
 refine ttO1 _ _ _ _ _ _ _ ?_
 rw [e1,e2]
 refine ttZ1 _ _ _ _ _ _ _ _ _ _ _ ⟨fun _ => ?_,fun h => by omega⟩
 refine ⟨by omega,by omega,fun h => ?_,fun _ => ⟨by exact p.1,by show (B.getD 0 default).toNat < _;omega,by omega,?_⟩⟩
 ·have h:B.getD 0 default < 0 \/ B.getD 0 default >= (gs.length:Int):=h
  omega
 have:=inner1 hg ho hl rfl hb next (B.length - 1) 1 0 (by omega)
 rw [take_more (show 0 < B.length by omega)] at this
 exact this
theorem inner2 {fl:Bool} {gs:List G2} {A B C:List Int} {b n:Int} {dq:AV} (hg:Sp.okG gs) (ho:IsOrd gs.length C) (hl:gs.length <= 7) (hn:Sp.way gs C = n) (hb:b <= n) (next:ttO3_at fl gs A B C n (PureQ dq)) :
  ∀ (c i v:Nat),i + c = C.length -> ttI2_at fl gs A B C b n 0 i C.length ((C.take i).map (Sp.atG gs)) v (PureQ dq):=by
 have hol:=ho.len
 intro c
 induction c with
 | zero =>
  intro i v hi
  have e:i = C.length:=by omega
  subst e
  rw [List.take_length]
  refine ttI2 _ _ _ _ _ _ _ _ _ _ _ _ _ ⟨fun h => by omega,fun _ => ⟨fun _ => ⟨okG_map hg _,by simp;omega⟩,fun h => ?_,fun _ => next⟩⟩
  rw [llen_map,hn] at h
  omega
 | succ c ih =>
  intro i v hi
  have p:=ho.rng (C.getD i default) (getD_mem (by omega))
  have hws:((C.take i).map (Sp.atG gs)).length <= 7:=by simp;omega
  refine ttI2 _ _ _ _ _ _ _ _ _ _ _ _ _ ⟨fun _ => ?_,fun h => by omega⟩
  rw [Int.toNat_natCast]
  refine ⟨by omega,by omega,fun h => by omega,fun _ => ⟨by omega,by omega,by omega,by omega,?_⟩⟩
  have:=ih (i + 1) (v + 1) (by omega)
  rw [take_more (show i < C.length by omega),List.map_append] at this
  exact this
theorem outer2 {fl:Bool} {gs:List G2} {A B C:List Int} {b:Int} {dq:AV} (hg:Sp.okG gs) (ho:IsOrd gs.length C) (hl:gs.length <= 7) (h0:0 < gs.length) (hc:Sp.checkE gs 200 = 0) (hb:b <= Sp.way gs C) (next:ttO3_at fl gs A B C (Sp.way gs C) (PureQ dq)):ttO2_at fl gs A B C b (PureQ dq):=by
 have hol:=ho.len
 obtain ⟨e1,e2⟩:=ord_length ho hc
 have p:=ho.rng (C.getD 0 default) (getD_mem (by omega))
 refine ttO2 _ _ _ _ _ _ _ ?_
 rw [e1,e2]
 refine ttZ2 _ _ _ _ _ _ _ _ _ _ _ ⟨fun _ => ?_,fun h => by omega⟩
 refine ⟨by omega,by omega,fun h => ?_,fun _ => ⟨by exact p.1,by show (C.getD 0 default).toNat < _;omega,by omega,?_⟩⟩
 ·have h:C.getD 0 default < 0 \/ C.getD 0 default >= (gs.length:Int):=h
  omega
 have:=inner2 hg ho hl rfl hb next (C.length - 1) 1 0 (by omega)
 rw [take_more (show 0 < C.length by omega)] at this
 exact this
theorem ev6 (fl:Bool) (gs:List G2) (r:Int) (hr:0 <= r /\ r <= 255):Ev M1 (.pure 6 [gsA fl gs,.int .u8 r]) (.bool true) []:=by
 refine call6 (ttT fl gs r _ ⟨true,ev30,fun _ => by simp [Sp.mOk],fun _ => ⟨true,ev30,rfl⟩,fun h => ?_⟩)
 have hc:Sp.checkE gs 7 = 0:=Classical.byContradiction fun k => h (.inr k)
 have h0:0 < gs.length:=by
  rcases Nat.eq_zero_or_pos gs.length with k | k
  ·exact absurd (.inl (.inr (by omega))) h
  ·exact k
 obtain ⟨hg,hl⟩:=check_okG hc
 have hl:gs.length <= 7:=by omega
 have hc2:=check_mono hc (show (7:Int) <= 200 by omega)
 have hc3:=check_mono hc (show (7:Int) <= 10 by omega)
 have hm:0 <= r.tmod 51 /\ r.tmod 51 <= 50:=by rw [Int.tmod_eq_emod_of_nonneg hr.1];omega
 have hN:=nearest_ord gs
 obtain ⟨e1,e2⟩:=ord_length hN hc2
 obtain ⟨_,_,_,hI,hle,_⟩:=improve_facts e1
 have hE:=exact_ord hc3
 obtain ⟨⟨w1,w2⟩,_⟩:=raise_spec (fl:=fl) (gs:=gs) (r:=r.tmod 51) ⟨hc2,h0,hm⟩
 have hbE:Sp.boundE gs (Sp.raise fl gs (r.tmod 51)) = 0:=by
  unfold Sp.boundE
  rw [if_pos hc2,if_neg (by omega),if_neg]
  intro k
  obtain ⟨x,hx,kx⟩:=List.any_eq_true.1 k
  have:=w1 x hx
  rcases badW_iff.1 kx with k | k <;> omega
 have hbl:=bound_le hbE hE
 refine ⟨⟨hg,by omega⟩,by omega,⟨hc2,h0,hm⟩,fun k => ?_,fun _ => ⟨fun k => ?_,fun _ => ?_⟩⟩
 ·rcases k with (k | k) | k
  ·exact absurd e1 k
  ·exact absurd hc3 k
  ·exact absurd k (by simp)
 ·rcases k with k | k
  ·exact absurd hbE k
  ·omega
 ·exact outer0 hg hE hl h0 hc2 (Int.le_refl _) (outer1 hg hI hl h0 hc2 (exact_least hc3 hI) (outer2 hg hN hl h0 hc2 hle (ttO3 _ _ _ _ _ _ _ rfl)))
end Go.Av
