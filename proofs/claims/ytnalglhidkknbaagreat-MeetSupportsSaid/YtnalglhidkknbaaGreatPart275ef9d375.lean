/- PART 5 of the texts of a claim, joined by a program: what each part shows stands at its head. -/
import Derived.Test.YtnalglhidkknbaaGreatPart9362f017f6

namespace Go.Av
open Go.Proofs
abbrev fracA (f g:Bool) (p q:Int):AV:=.agg [.bool (J.Zaa p),.vec f 1 ((J.Zab p).map (.int .u32)),.bool (J.Zaa q),.vec g 1 ((J.Zab q).map (.int .u32))]
abbrev noR:AV:=.agg [.bool false,.vec false 1 [],.bool false,.vec false 1 []]
theorem weak_nr:Weak (.agg [.bool false,.vnil,.bool false,.vnil]) noR:=by
 have w:Weak .vnil (.vec false 1 []):=by
  have:=Zde false
  cases this with
  | agg xs ys hl h=>exact h 1 _ _ rfl rfl
 refine .agg _ _ rfl fun i x y hx hy => ?_
 match i with
 | 0=>simp at hx hy;subst hx;subst hy;exact .refl _
 | 1=>simp at hx hy;subst hx;subst hy;exact w
 | 2=>simp at hx hy;subst hx;subst hy;exact .refl _
 | 3=>simp at hx hy;subst hx;subst hy;exact w
 | i+4=>simp at hx
theorem okR_S {r:Rat} (h:J.okR r):J.okS r.num/\J.okS (r.den:Int):=by
 unfold J.okR at h
 unfold J.okS
 rw [Int.natAbs_natCast];omega
theorem ev141_y (fa ga:Bool) (r:Rat) (h:J.okR r) (k:J.rsq r):Ev M1 (.pure 141 [ratA fa ga r]) (.tup [ratF (J.rt r),.bool true]) []:=by
 obtain ⟨h1,h2⟩:=okR_S h
 obtain ⟨e1,e2⟩:=rt_num k
 refine call141 (vRSqrt _ _ _ _ ⟨h1,fun _=>⟨h2,fun _ => ?_,fun x=>absurd k.2 x⟩,fun x=>absurd k.1 x⟩)
 show Weak _ (AV.tup [AV.agg [.bool (J.Zaa (J.rt r).num),.vec false 1 ((J.Zab (J.rt r).num).map (.int .u32)),.bool (J.Zaa ((J.rt r).den:Int)),.vec false 1 ((J.Zab ((J.rt r).den:Int)).map (.int .u32))],.bool true])
 rw [e1,e2];exact .refl _
theorem ev141_n (fa ga:Bool) (r:Rat) (h:J.okR r) (k:¬(J.rsq r)):Ev M1 (.pure 141 [ratA fa ga r]) (.tup [noR,.bool false]) []:=by
 obtain ⟨h1,h2⟩:=okR_S h
 exact call141 (vRSqrt _ _ _ _ ⟨h1,fun x=>⟨h2,fun y=>absurd ⟨x,y⟩ k,fun _=>Zch weak_nr (.refl _)⟩,fun _=>Zch weak_nr (.refl _)⟩)
theorem val_big {s:Bool} {a:List Int} (hx:∀ x ∈ a,0<=x) (h:J.val s a=true):∃ v:Int,J.Zaa v=s/\J.Zab v=a:=by
 unfold J.val at h
 rw [Bool.and_eq_true,List.all_eq_true] at h
 obtain ⟨h1,h2⟩:=h
 have ha:∀ x ∈ a,0<=x/\x<1000000000:=fun x hm=>⟨hx x hm,by simpa using h1 x hm⟩
 obtain ⟨e,f⟩:=Ze0 a ha
 by_cases hl:0<a.length
 ·rw [show decide (0<a.length)=true from decide_eq_true hl,cond_true] at h2
  have hn:¬J.fits (a.length-1) (valL a):=by
   intro hf
   have hz:=Zcu.1 hf
   have hg:=Zaz (n:=a.length) (valL a) (show a.length-1<a.length by omega)
   rw [<- e,hz] at hg
   rw [hg] at h2
   simp at h2
  have el:=lim_of f (.inr hn)
  rw [<- e] at el
  refine ⟨J.sg s (valL a),?_,by rw [sg_limI];exact el.symm⟩
  rw [sg_neg]
  have:valL a ≠ 0:=by
   intro hz
   apply hn
   rw [hz]
   exact Zcu.2 (Nat.zero_div _)
  cases s <;> simp [this]
 ·have:a=[]:=List.eq_nil_of_length_eq_zero (by omega)
  subst this
  have hs:s=false:=by simpa using h2
  subst hs
  exact ⟨0,rfl,ZbR⟩
theorem big_inj {v w:Int} (h:J.Zab v=J.Zab w) (hs:J.Zaa v=J.Zaa w):v=w:=by
 have e:v.natAbs=w.natAbs:=by
  have a:=ZeJ _ _ (Zaj v.natAbs)
  have b:=ZeJ _ _ (Zaj w.natAbs)
  rw [<- a,<- b]
  exact congrArg valL h
 have a:=@Zal v
 have b:=@Zal w
 rw [hs] at a
 have c:=a.symm.trans b
 omega
def J.valR (s:Bool) (a:List Int) (t:Bool) (b:List Int):Prop:=∃ r:Rat,J.Zaa r.num=s/\J.Zab r.num=a/\J.Zaa (r.den:Int)=t/\J.Zab (r.den:Int)=b
theorem valR_pq (p q:Int):J.valR (J.Zaa p) (J.Zab p) (J.Zaa q) (J.Zab q) ↔ 0<q/\Int.gcd p q=1:=by
 constructor
 ·rintro ⟨r,h1,h2,h3,h4⟩
  have e1:=big_inj h2 h1
  have e2:=big_inj h4 h3
  subst e1;subst e2
  have:=r.den_pos
  exact ⟨by omega,r.reduced⟩
 ·rintro ⟨h1,h2⟩
  obtain ⟨e1,e2⟩:=Zfi (a:=p) h1
  rw [h2] at e1 e2
  refine ⟨Rat.divInt p q,?_⟩
  rw [e1,e2];simp
theorem valR_val {s t:Bool} {a b:List Int} (h:J.valR s a t b):J.val s a=true/\J.val t b=true:=by
 obtain ⟨r,rfl,rfl,rfl,rfl⟩:=h
 exact ⟨val_true _,val_true _⟩
theorem valR_rat (r:Rat):J.valR (J.Zaa r.num) (J.Zab r.num) (J.Zaa (r.den:Int)) (J.Zab (r.den:Int)):=⟨r,rfl,rfl,rfl,rfl⟩
end Go.Av

namespace Go.Av
open Go.Proofs
theorem gcd_cnt {a b:Int} (hb:b ≠ 0) (h:J.cnt b.natAbs<=399000):J.cnt ((a.gcd b:Nat):Int).natAbs<=399000/\((a.gcd b:Nat):Int) ≠ 0:=by
 have h1:0<a.gcd b:=Int.gcd_pos_of_ne_zero_right _ hb
 have h2:a.gcd b<=b.natAbs:=Nat.le_of_dvd (by omega) (Int.gcd_dvd_natAbs_right a b)
 have:=ZaK h2
 rw [Int.natAbs_natCast]
 omega
theorem ev81:Ev M1 (.pure 81 []) (.agg [.bool false,.vec false 1 ((J.Zab 1).map (.int .u32))]) []:=
 call81 (rUnit _ ⟨by unfold J.inI;omega,.refl _⟩)
theorem ev89 (fa fb:Bool) (a b:Int) (h:J.cnt a.natAbs<=399000/\J.cnt b.natAbs<=399000/\b ≠ 0):Ev M1 (.pure 89 [bigA fa a,bigA fb b]) (ratF (Rat.divInt a b)) []:=by
 obtain ⟨ha,hb,h0⟩:=h
 have hna:J.cnt (-a).natAbs<=399000:=by rwa [Int.natAbs_neg]
 have hnb:J.cnt (-b).natAbs<=399000:=by rwa [Int.natAbs_neg]
 refine call89 (rOf _ _ _ _ _ ⟨fun k => ?_,fun k => ?_⟩)
 ·rw [Zbn] at k
  obtain ⟨g1,g2⟩:=gcd_cnt (a:=-a) (b:=-b) (by omega) hnb
  obtain ⟨r1,r2⟩:=rat_neg (a:=a) k
  refine ⟨by unfold J.ok;omega,by unfold J.ok;omega,⟨hna,hnb⟩,⟨hna,g1,g2⟩,⟨hnb,g1,g2⟩,?_⟩
  show Weak _ (AV.agg [.bool (J.Zaa (Rat.divInt a b).num),.vec false 1 ((J.Zab (Rat.divInt a b).num).map (.int .u32)),.bool (J.Zaa ((Rat.divInt a b).den:Int)),.vec false 1 ((J.Zab ((Rat.divInt a b).den:Int)).map (.int .u32))])
  rw [r1,r2,Zd0 g2,Zd0 g2];exact .refl _
 ·rw [Zbn] at k
  obtain ⟨g1,g2⟩:=gcd_cnt (a:=a) (b:=b) h0 hb
  obtain ⟨r1,r2⟩:=Zfi (a:=a) (show 0<b by omega)
  refine ⟨⟨ha,hb⟩,⟨ha,g1,g2⟩,⟨hb,g1,g2⟩,?_⟩
  show Weak _ (AV.agg [.bool (J.Zaa (Rat.divInt a b).num),.vec false 1 ((J.Zab (Rat.divInt a b).num).map (.int .u32)),.bool (J.Zaa ((Rat.divInt a b).den:Int)),.vec false 1 ((J.Zab ((Rat.divInt a b).den:Int)).map (.int .u32))])
  rw [r1,r2,Zd0 g2,Zd0 g2];exact .refl _
theorem ev20 (fa ga:Bool) (p q:Int):Ev M1 (.pure 20 [fracA fa ga p q]) (.int .i64 (J.sgnI p)) []:=
 call20 (rRSign _ _ _ _ _ rfl)
theorem ev82 (fa ga:Bool) (r:Rat) (h:J.ok r.num):Ev M1 (.pure 82 [ratA fa ga r]) (ratF (-r)) []:=by
 refine call82 (rRNeg _ _ _ _ _ ⟨h,?_⟩)
 show Weak _ (AV.agg [.bool (J.Zaa (-r).num),.vec false 1 ((J.Zab (-r).num).map (.int .u32)),.bool (J.Zaa ((-r).den:Int)),.vec false 1 ((J.Zab ((-r).den:Int)).map (.int .u32))])
 rw [Rat.neg_num,Rat.neg_den]
 exact Zd5 _ _ _ _ _ _
theorem isSqD (a:Int):(bif J.sqe a==0 then decide (J.sq a*J.sq a=a) else false)=J.Ze4 a:=by
 unfold J.Ze4
 congr 1
 have h:=@ZbB (J.sq a*J.sq a-a)
 by_cases e:J.sq a*J.sq a=a
 ·rw [decide_eq_true e,h.2 (by omega)];rfl
 ·rw [decide_eq_false e]
  exact (beq_eq_false_iff_ne.2 fun x=>e (by have:=h.1 x;omega)).symm
theorem ev131 (fa:Bool) (a:Int) (h:J.okS a):Ev M1 (.pure 131 [bigA fa a]) (.tup [bigA false (J.sq a),.bool (J.Ze4 a)]) []:=by
 have hk:J.sqe a=0->0<=a:=by
  intro k
  unfold J.sqe at k
  split at k <;> omega
 have h':=h
 unfold J.okS at h'
 refine call131 (rPerf _ _ _ ⟨h,fun k => ?_,fun k=>⟨?_,?_⟩,?_⟩)
 ·have:=ZaK (sq_le (hk k)).2
  unfold J.okB
  omega
 ·have:=ZaK (sq_le (hk k)).1
  unfold J.ok
  rw [Int.natAbs_mul];omega
 ·unfold J.ok;omega
 ·rw [isSqD];exact .refl _
end Go.Av

namespace Go.Av
open Go.Proofs
set_option maxRecDepth 100000
def fi27:Fi:=⟨26,[.tmp 2]⟩
def kp27:List (Nat × List Nat):=[(0,[1]),(1,[1,18]),(2,[2]),(3,[2])]
def fi34:Fi:=⟨26,[.cell 4 26]⟩
def kp34:List (Nat × List Nat):=[(0,[2,3,4]),(1,[2,3,4,5]),(2,[2,3,4,5,6]),(3,[4])]
def fi35:Fi:=⟨16,[.cell 4 26]⟩
def kp35:List (Nat × List Nat):=[(0,[2,3,4]),(1,[4])]
def fi74:Fi:=⟨16,[.tmp 4]⟩
def kp74:List (Nat × List Nat):=[(0,[2,3]),(1,[4])]
def fi84:Fi:=⟨7,[.cell 2 26]⟩
def kp84:List (Nat × List Nat):=[(0,[0,2]),(1,[2])]
def fi91:Fi:=⟨30,[.cell 2 26,.tmp 3]⟩
def kp91:List (Nat × List Nat):=[(0,[1,2]),(1,[1,2,4,5]),(2,[2,4,5,6,7]),(3,[2,4,6,25]),(4,[2,3]),(5,[2,3])]
def fi136:Fi:=⟨13,[.cell 4 26,.tmp 5]⟩
def kp136:List (Nat × List Nat):=[(0,[2,3,4]),(1,[2,3,4,8]),(2,[4,5]),(3,[4,5])]
def rRFrom_at (n:Int) (Q:AV->Heap->Prop):Prop:=Wp M1 (.run fi84 (atC (cd Tryz.f84) []) [(0,.int .i64 n)] []) Q
def rRAdd_at (fa ga fb gb:Bool) (r s:Rat) (Q:AV->Heap->Prop):Prop:=Wp M1 (.run fi34 (atC (cd Tryz.f34) []) [(0,ratA fa ga r),(1,ratA fb gb s)] []) Q
def rRMul_at (fa ga fb gb:Bool) (r s:Rat) (Q:AV->Heap->Prop):Prop:=Wp M1 (.run fi35 (atC (cd Tryz.f35) []) [(0,ratA fa ga r),(1,ratA fb gb s)] []) Q
def rRCmp_at (fa ga fb gb:Bool) (r s:Rat) (Q:AV->Heap->Prop):Prop:=Wp M1 (.run fi74 (atC (cd Tryz.f74) []) [(0,ratA fa ga r),(1,ratA fb gb s)] []) Q
def rRMake_at (fa fb:Bool) (a b:Int) (Q:AV->Heap->Prop):Prop:=Wp M1 (.run fi136 (atC (cd Tryz.f136) []) [(0,bigA fa a),(1,bigA fb b)] []) Q
def ZhJ (fa ga:Bool) (p q:Int) (Q:AV->Heap->Prop):Prop:=Wp M1 (.run fi27 (atC (cd Tryz.f27) []) [(0,.agg [.bool (J.Zaa p),.vec fa 1 ((J.Zab p).map (.int .u32)),.bool (J.Zaa q),.vec ga 1 ((J.Zab q).map (.int .u32))])] []) Q
def Zgx (s fa t ga:Bool) (a b:List Int) (Q:AV->Heap->Prop):Prop:=Wp M1 (.run fi27 (atC (cd Tryz.f27) []) [(0,.agg [.bool s,.vec fa 1 (a.map (.int .u32)),.bool t,.vec ga 1 (b.map (.int .u32))])] []) Q
def rRSqrt_at (fa ga:Bool) (r:Rat) (Q:AV->Heap->Prop):Prop:=Wp M1 (.run fi91 (atC (cd Tryz.f91) []) [(0,ratA fa ga r)] []) Q
theorem call27 {args:List AV} {d:AV} (h:wc M1 fi27 Tryz.f27 args d):Ev M1 (.pure 27 args) d []:=pcl _ _ (by kernel_rfl) h
theorem call34 {args:List AV} {d:AV} (h:wc M1 fi34 Tryz.f34 args d):Ev M1 (.pure 34 args) d []:=pcl _ _ (by kernel_rfl) h
theorem call35 {args:List AV} {d:AV} (h:wc M1 fi35 Tryz.f35 args d):Ev M1 (.pure 35 args) d []:=pcl _ _ (by kernel_rfl) h
theorem call74 {args:List AV} {d:AV} (h:wc M1 fi74 Tryz.f74 args d):Ev M1 (.pure 74 args) d []:=pcl _ _ (by kernel_rfl) h
theorem call84 {args:List AV} {d:AV} (h:wc M1 fi84 Tryz.f84 args d):Ev M1 (.pure 84 args) d []:=pcl _ _ (by kernel_rfl) h
theorem call91 {args:List AV} {d:AV} (h:wc M1 fi91 Tryz.f91 args d):Ev M1 (.pure 91 args) d []:=pcl _ _ (by kernel_rfl) h
theorem call136 {args:List AV} {d:AV} (h:wc M1 fi136 Tryz.f136 args d):Ev M1 (.pure 136 args) d []:=pcl _ _ (by kernel_rfl) h
theorem rRFrom (n:Int)  (dq:AV) (H :
  (J.inI n) /\
  Weak (ag [vb (J.Zaa n),vf (us (J.Zab n)),vb false,vf (us (J.Zab 1))]) dq) :
 rRFrom_at n (Zag dq):=by
 unfold rRFrom_at
 obtain ⟨k1,H⟩:=H
 exact Zah (G:=Zac kp84 [(1,1,.call (bigA false n) none),(1,2,.call (ag [vb false,vf (us (J.Zab 1))]) none)] []) 1000 [] (ag [vb (J.Zaa n),vf (us (J.Zab n)),vb false,vf (us (J.Zab 1))]) (by kernel_rfl) (bc rfl b0) q0 (ce (@ev121 n k1) (ce (@ev81 ) c0)) H
theorem rRAdd (fa ga fb gb:Bool) (r s:Rat)  (dq:AV) (H :
  (J.okB r.num/\J.okB (↑s.den:Int)) /\
  (J.okB s.num/\J.okB (↑r.den:Int)) /\
  (J.okB (r.num*(↑s.den:Int))/\J.okB (s.num*(↑r.den:Int))) /\
  (J.okB (↑r.den:Int)/\J.okB (↑s.den:Int)) /\
  (J.cnt (r.num*(↑s.den:Int)+s.num*(↑r.den:Int)).natAbs<=399000/\J.cnt ((↑r.den:Int)*(↑s.den:Int)).natAbs<=399000/\(↑r.den:Int)*(↑s.den:Int) ≠ 0) /\
  Weak (ratF (Rat.divInt (r.num*(↑s.den:Int)+s.num*(↑r.den:Int)) ((↑r.den:Int)*(↑s.den:Int)))) dq) :
 rRAdd_at fa ga fb gb r s (Zag dq):=by
 unfold rRAdd_at
 obtain ⟨k1,k2,k3,k4,k5,H⟩:=H
 exact Zah (G:=Zac kp34 [(1,4,.call (bigA false (r.num*(↑s.den:Int))) none),(2,4,.call (bigA false (s.num*(↑r.den:Int))) none),(3,2,.call (bigA false (r.num*(↑s.den:Int)+s.num*(↑r.den:Int))) none),(3,7,.call (bigA false ((↑r.den:Int)*(↑s.den:Int))) none),(3,8,.call (ratF (Rat.divInt (r.num*(↑s.den:Int)+s.num*(↑r.den:Int)) ((↑r.den:Int)*(↑s.den:Int)))) none)] []) 1000 [] (ratF (Rat.divInt (r.num*(↑s.den:Int)+s.num*(↑r.den:Int)) ((↑r.den:Int)*(↑s.den:Int)))) (by kernel_rfl) (bc rfl (bc rfl (bc rfl (bc rfl (bc rfl (bc rfl (bc rfl (bc rfl (bc rfl (bc rfl (bc rfl b0))))))))))) q0 (ce (@ev88 fa gb (r.num) ((↑s.den:Int)) k1) (ce (@ev88 fb ga (s.num) ((↑r.den:Int)) k2) (ce (@ev90 false false (r.num*(↑s.den:Int)) (s.num*(↑r.den:Int)) k3) (ce (@ev88 ga gb ((↑r.den:Int)) ((↑s.den:Int)) k4) (ce (@ev89 false false (r.num*(↑s.den:Int)+s.num*(↑r.den:Int)) ((↑r.den:Int)*(↑s.den:Int)) k5) c0))))) H
theorem rRMul (fa ga fb gb:Bool) (r s:Rat)  (dq:AV) (H :
  (J.okB r.num/\J.okB s.num) /\
  (J.okB (↑r.den:Int)/\J.okB (↑s.den:Int)) /\
  (J.cnt (r.num*s.num).natAbs<=399000/\J.cnt ((↑r.den:Int)*(↑s.den:Int)).natAbs<=399000/\(↑r.den:Int)*(↑s.den:Int) ≠ 0) /\
  Weak (ratF (Rat.divInt (r.num*s.num) ((↑r.den:Int)*(↑s.den:Int)))) dq) :
 rRMul_at fa ga fb gb r s (Zag dq):=by
 unfold rRMul_at
 obtain ⟨k1,k2,k3,H⟩:=H
 exact Zah (G:=Zac kp35 [(1,4,.call (bigA false (r.num*s.num)) none),(1,9,.call (bigA false ((↑r.den:Int)*(↑s.den:Int))) none),(1,10,.call (ratF (Rat.divInt (r.num*s.num) ((↑r.den:Int)*(↑s.den:Int)))) none)] []) 1000 [] (ratF (Rat.divInt (r.num*s.num) ((↑r.den:Int)*(↑s.den:Int)))) (by kernel_rfl) (bc rfl (bc rfl (bc rfl (bc rfl (bc rfl b0))))) q0 (ce (@ev88 fa fb (r.num) (s.num) k1) (ce (@ev88 ga gb ((↑r.den:Int)) ((↑s.den:Int)) k2) (ce (@ev89 false false (r.num*s.num) ((↑r.den:Int)*(↑s.den:Int)) k3) c0))) H
theorem rRCmp (fa ga fb gb:Bool) (r s:Rat)  (dq:AV) (H :
  (J.okB r.num/\J.okB (↑s.den:Int)) /\
  (J.okB s.num/\J.okB (↑r.den:Int)) /\
  (J.okB (r.num*(↑s.den:Int))/\J.okB (s.num*(↑r.den:Int))) /\
  vi (J.sgnI (r.num*(↑s.den:Int)-s.num*(↑r.den:Int)))=dq) :
 rRCmp_at fa ga fb gb r s (Zag dq):=by
 unfold rRCmp_at
 obtain ⟨k1,k2,k3,H⟩:=H
 exact Zaq (G:=Zac kp74 [(1,4,.call (bigA false (r.num*(↑s.den:Int))) none),(1,9,.call (bigA false (s.num*(↑r.den:Int))) none),(1,10,.call (vi (J.sgnI (r.num*(↑s.den:Int)-s.num*(↑r.den:Int)))) none)] []) 1000 [] (vi (J.sgnI (r.num*(↑s.den:Int)-s.num*(↑r.den:Int)))) (by kernel_rfl) (bc rfl (bc rfl (bc rfl (bc rfl b0)))) q0 (ce (@ev88 fa gb (r.num) ((↑s.den:Int)) k1) (ce (@ev88 fb ga (s.num) ((↑r.den:Int)) k2) (ce (@ev111 false false (r.num*(↑s.den:Int)) (s.num*(↑r.den:Int)) k3) c0))) H
theorem rRMake (fa fb:Bool) (a b:Int)  (dq:AV) (H :
  ((J.sgnI b=0)->Weak (tu [ag [vb false,AV.vnil,vb false,AV.vnil],vi 6]) dq) /\
  (¬(J.sgnI b=0)->(J.cnt a.natAbs<=399000/\J.cnt b.natAbs<=399000/\b ≠ 0) /\
   Weak (tu [ratF (Rat.divInt a b),vi 0]) dq)) :
 rRMake_at fa fb a b (Zag dq):=by
 unfold rRMake_at
 refine Zae (G:=Zac kp136 [(1,1,.call (vi (J.sgnI b)) none)] []) 5 [] ⟨(atC (cd Tryz.f136) [1,0,1]),[(2,AV.ptr 0 0 0 0),(3,AV.ptr 1 0 0 0),(4,AV.ptr 2 0 0 0),(8,vb (J.sgnI b==0))],[⟨[bigA fa a],2,0,false,false⟩,⟨[bigA fb b],2,0,false,false⟩,⟨[ag [vb false,AV.vnil,vb false,AV.vnil]],4,0,false,false⟩],_,[],_⟩ (by kernel_rfl) (bc rfl b0) q0 (ce (@ev71 fb b) c0) ?_
 rcases xq H with ⟨d2,H⟩|⟨d2,H⟩
 ·exact Zah (G:=Zac kp136 [] []) 1000 [true] (tu [ag [vb false,AV.vnil,vb false,AV.vnil],vi 6]) (by kernel_rfl) (bc (Zap (i_eq.2 d2)) (bc rfl b0)) q0 c0 H
 ·obtain ⟨k3,H⟩:=H
  exact Zah (G:=Zac kp136 [(3,2,.call (ratF (Rat.divInt a b)) none)] []) 1000 [false] (tu [ratF (Rat.divInt a b),vi 0]) (by kernel_rfl) (bc (Zam (fun h=>d2 (i_eq.1 h))) (bc rfl (bc rfl (bc rfl b0)))) q0 (ce (@ev89 fa fb a b k3) c0) H
theorem rRValid (fa ga:Bool) (p q:Int)  (dq:AV) (H :
  (J.ok p) /\
  (J.ok q) /\
  ((¬J.sgnI q=1)->vb false=dq) /\
  (¬(¬J.sgnI q=1)->(J.cnt p.natAbs<=399000/\J.cnt q.natAbs<=399000) /\
   ∃ (b1:Bool),
   (Ev M1 (Conf.pure 79 [bigA false (↑(p.gcd q):Int),ag [vb false,vf (us (J.Zab 1))]]) (vb b1) []) /\
   vb b1=dq)) :
 ZhJ fa ga p q (Zag dq):=by
 unfold ZhJ
 obtain ⟨k1,k2,H⟩:=H
 refine Zae (G:=Zac kp27 [(1,2,.call (vb true) none),(1,7,.call (vb true) none),(1,13,.call (vi (J.sgnI q)) none)] []) 5 [] ⟨(atC (cd Tryz.f27) [1,0,1]),[(1,AV.ptr 0 0 0 0),(18,vb (J.sgnI q != 1))],[⟨[ag [vb (J.Zaa p),AV.vec fa 1 (us (J.Zab p)),vb (J.Zaa q),AV.vec ga 1 (us (J.Zab q))]],4,0,false,false⟩],_,[],_⟩ (by kernel_rfl) (bc rfl (bc rfl (bc rfl b0))) q0 (ce (@ev78 fa p k1) (ce (@ev78 ga q k2) (ce (@ev71 ga q) c0))) ?_
 rcases xq H with ⟨d4,H⟩|⟨d4,H⟩
 ·exact Zaq (G:=Zac kp27 [] []) 1000 [true] (vb false) (by kernel_rfl) (bc (Zap (i_ne.2 d4)) b0) q0 c0 H
 ·obtain ⟨k5,b1,k6,H⟩:=H
  exact Zaq (G:=Zac kp27 [(3,4,.call (bigA false (↑(p.gcd q):Int)) none),(3,5,.call (ag [vb false,vf (us (J.Zab 1))]) none),(3,6,.call (vb b1) none)] []) 1000 [false] (vb b1) (by kernel_rfl) (bc (Zam (fun h=>d4 (i_ne.1 h))) (bc rfl (bc rfl b0))) q0 (ce (@ev80 fa ga p q k5) (ce (@ev81 ) (ce k6 c0))) H
noncomputable abbrev zNwH1 (t:Bool) (ga:Bool) (b:List Int):=ag [vb t,AV.vec ga 1 (us b)]
theorem rRValidA (s fa t ga:Bool) (a b:List Int)  (dq:AV) (H :
  (J.ZaA a.length) /\
  ((¬(¬(J.val s a=true)))->(J.ZaA b.length)) /\
  ∃ (n1:Int),
  ((¬((¬(J.val s a=true))\/(¬(J.val t b=true))))->(Ev M1 (Conf.pure 71 [ag [vb t,AV.vec ga 1 (us b)]]) (vi n1) [])) /\
  ((((¬(J.val s a=true))\/(¬(J.val t b=true)))\/(¬n1=1))->vb false=dq) /\
  (¬(((¬(J.val s a=true))\/(¬(J.val t b=true)))\/(¬n1=1)) -> ∃ (b1:Bool) (l1:List Int),
   (Ev M1 (Conf.pure 80 [ag [vb s,AV.vec fa 1 (us a)],ag [vb t,AV.vec ga 1 (us b)]]) (ag [vb b1,vf (us l1)]) []) /\
   ∃ (b2:Bool),
   (Ev M1 (Conf.pure 79 [ag [vb b1,vf (us l1)],ag [vb false,vf (us (J.Zab 1))]]) (vb b2) []) /\
   vb b2=dq)) :
 Zgx s fa t ga a b (Zag dq):=by
 unfold Zgx
 obtain ⟨k1,k3,n1,k5,H⟩:=H
 refine Zae (G:=Zac kp27 [(1,2,.call (vb (J.val s a)) none),(1,7,.call (vb (J.val t b)) none),(1,13,.call (vi n1) none)] []) 5 [] ⟨(atC (cd Tryz.f27) [1,0,1]),[(1,AV.ptr 0 0 0 0),(18,vb (bif bif !J.val s a then true else !J.val t b then true else n1 != 1))],[⟨[ag [vb s,AV.vec fa 1 (us a),vb t,AV.vec ga 1 (us b)]],4,0,false,false⟩],[true,!((!J.val s a)==false&&true)||true,!((bif !J.val s a then true else !J.val t b)==false&&true)||true],[],[⟨true,false,78,[ag [vb s,AV.vec fa 1 (us a)]],[],vb (J.val s a),[]⟩,⟨(!J.val s a)==false&&true&&true,false,78,[(zNwH1 t ga b)],[],vb (J.val t b),[]⟩,⟨(bif !J.val s a then true else !J.val t b)==false&&true&&true,false,71,[(zNwH1 t ga b)],[],vi n1,[]⟩]⟩ (by kernel_rfl) (bc rfl (bc (Bool.or_true _) (bc (Bool.or_true _) b0))) q0 (cc (fun _=>(@ev78_a s fa a k1)) (cc (fun hc=>((@ev78_a t ga b (k3 ((i_at (i_at (i_bf (ZaN (Zau _))))).1 hc))):Ev M1 (Conf.pure 78 [(zNwH1 t ga b)]) (vb (J.val t b)) [])) (cc (fun hc=>((k5 ((i_at (i_at (i_bf (Za4 (ZaN (Zau _)) (ZaN (Zau _)))))).1 hc)):Ev M1 (Conf.pure 71 [(zNwH1 t ga b)]) (vi n1) [])) c0))) ?_
 rcases xq H with ⟨d7,H⟩|⟨d7,H⟩
 ·exact Zaq (G:=Zac kp27 [] []) 1000 [true] (asm:=[(bif bif !J.val s a then true else !J.val t b then true else n1 != 1)==true]) (vb false) (by kernel_rfl) (bc (Zap ((Za4 (Za4 (ZaN (Zau _)) (ZaN (Zau _))) i_ne).2 d7)) b0) q0 c0 H
 ·obtain ⟨b1,l1,k8,b2,k9,H⟩:=H
  exact Zaq (G:=Zac kp27 [(3,4,.call (ag [vb b1,vf (us l1)]) none),(3,5,.call (ag [vb false,vf (us (J.Zab 1))]) none),(3,6,.call (vb b2) none)] []) 1000 [false] (asm:=[(bif bif !J.val s a then true else !J.val t b then true else n1 != 1)==false,true,true]) (vb b2) (by kernel_rfl) (bc (Zam (fun h=>d7 ((Za4 (Za4 (ZaN (Zau _)) (ZaN (Zau _))) i_ne).1 h))) (bc rfl (bc rfl b0))) q0 (ce k8 (ce (@ev81 ) (ce k9 c0))) H
noncomputable abbrev zNwH2 (r:Rat):=bif !J.Ze4 r.num then true else !J.Ze4 (↑r.den:Int)
theorem rRSqrt (fa ga:Bool) (r:Rat)  (dq:AV) (H :
  (J.okS r.num) /\
  (J.okS (↑r.den:Int)) /\
  (((¬(J.Ze4 r.num=true))\/(¬(J.Ze4 (↑r.den:Int)=true)))->Weak (tu [ag [vb false,AV.vnil,vb false,AV.vnil],vb false]) dq) /\
  (¬((¬(J.Ze4 r.num=true))\/(¬(J.Ze4 (↑r.den:Int)=true)))->Weak (tu [ag [vb (J.Zaa (J.sq r.num)),vf (us (J.Zab (J.sq r.num))),vb (J.Zaa (J.sq (↑r.den:Int))),vf (us (J.Zab (J.sq (↑r.den:Int))))],vb true]) dq)) :
 rRSqrt_at fa ga r (Zag dq):=by
 unfold rRSqrt_at
 obtain ⟨k1,k2,H⟩:=H
 refine Zae (G:=Zac kp91 [(1,2,.call (tu [bigA false (J.sq r.num),vb (J.Ze4 r.num)]) none),(2,2,.call (tu [bigA false (J.sq (↑r.den:Int)),vb (J.Ze4 (↑r.den:Int))]) none)] []) 9 [] ⟨(atC (cd Tryz.f91) [1,1,1,0,1]),[(2,AV.ptr 1 0 0 0),(4,AV.ptr 2 0 0 0),(6,AV.ptr 3 0 0 0),(25,vb (zNwH2 r))],[⟨[ratA fa ga r],4,0,false,false⟩,⟨[ag [vb false,AV.vnil,vb false,AV.vnil]],4,0,false,false⟩,⟨[bigA false (J.sq r.num)],2,0,false,false⟩,⟨[bigA false (J.sq (↑r.den:Int))],2,0,false,false⟩],_,[],_⟩ (by kernel_rfl) (bc rfl (bc rfl (bc rfl (bc rfl b0)))) q0 (ce (@ev131 fa (r.num) k1) (ce (@ev131 ga ((↑r.den:Int)) k2) c0)) ?_
 rcases xq H with ⟨d4,H⟩|⟨d4,H⟩
 ·exact Zah (G:=Zac kp91 [] []) 1000 [true] (asm:=[(zNwH2 r)==true,true]) (tu [ag [vb false,AV.vnil,vb false,AV.vnil],vb false]) (by kernel_rfl) (bc (Zap ((Za4 (ZaN (Zau _)) (ZaN (Zau _))).2 d4)) (bc rfl b0)) q0 c0 H
 ·exact Zah (G:=Zac kp91 [] []) 1000 [false] (asm:=[(zNwH2 r)==false,true,true,true]) (tu [ag [vb (J.Zaa (J.sq r.num)),vf (us (J.Zab (J.sq r.num))),vb (J.Zaa (J.sq (↑r.den:Int))),vf (us (J.Zab (J.sq (↑r.den:Int))))],vb true]) (by kernel_rfl) (bc (Zam (fun h=>d4 ((Za4 (ZaN (Zau _)) (ZaN (Zau _))).1 h))) (bc rfl (bc rfl (bc rfl b0)))) q0 c0 H
end Go.Av

namespace Go.Av
open Go.Proofs
set_option maxRecDepth 100000
end Go.Av

namespace Go.Av
open Go.Proofs
def J.okA (a b:List Int):Prop:=(a.length<=90000 /\ ∀ x ∈ a,0<=x)/\(b.length<=90000 /\ ∀ x ∈ b,0<=x)
noncomputable def J.Zcw (s:Bool) (a:List Int) (t:Bool) (b:List Int):Bool:=@decide (J.valR s a t b) (Classical.propDecidable _)
theorem ZeK {s t:Bool} {a b:List Int}:J.Zcw s a t b=true ↔ J.valR s a t b:=@decide_eq_true_iff _ (Classical.propDecidable _)
theorem Zfe {s t:Bool} {a b:List Int} (h:¬J.valR s a t b):J.Zcw s a t b=false:=@decide_eq_false _ (Classical.propDecidable _) h
theorem valB_eq {s t c:Bool} {a b:List Int} (h:c=true ↔ J.valR s a t b):J.Zcw s a t b=c:=by
 cases c with
 | true=>exact ZeK.2 (h.1 rfl)
 | false=>exact Zfe fun k=>absurd (h.2 k) (by simp)
theorem okA_big {p q:Int} (h:J.okA (J.Zab p) (J.Zab q)):J.cnt p.natAbs<=90000/\J.cnt q.natAbs<=90000:=by
 obtain ⟨⟨h1,_⟩,⟨h2,_⟩⟩:=h
 rw [ZaZ] at h1 h2
 exact ⟨h1,h2⟩
theorem cnt_gcd {p q:Int} (h:q ≠ 0):J.cnt ((p.gcd q:Nat):Int).natAbs<=J.cnt q.natAbs:=
 ZaK (Nat.le_of_dvd (by omega) (Int.gcd_dvd_natAbs_right p q))
end Go.Av

namespace Go.Av
open Go.Proofs
theorem ev84 (n:Int) (h:J.inI n):Ev M1 (.pure 84 [.int .i64 n]) (ratF (J.qi n)) []:=by
 rw [ZfP]
 refine call84 (rRFrom _ _ ⟨h,?_⟩)
 show Weak _ (AV.agg [.bool (J.Zaa (n:Rat).num),.vec false 1 ((J.Zab (n:Rat).num).map (.int .u32)),.bool (J.Zaa ((n:Rat).den:Int)),.vec false 1 ((J.Zab ((n:Rat).den:Int)).map (.int .u32))])
 rw [Rat.num_intCast,Rat.den_intCast]
 exact .refl _
theorem ev34 (fa ga fb gb:Bool) (r s:Rat) (h:J.okR r/\J.okR s):Ev M1 (.pure 34 [ratA fa ga r,ratA fb gb s]) (ratF (r+s)) []:=by
 obtain ⟨hr,hs⟩:=h
 obtain ⟨r1,r2⟩:=ZdU hr
 obtain ⟨s1,s2⟩:=ZdU hs
 obtain ⟨cr1,cr2⟩:=hr
 obtain ⟨cs1,cs2⟩:=hs
 have m1:=ZaS cr1 (Za3 cs2)
 have m2:=ZaS cs1 (Za3 cr2)
 have m3:=ZaS (Za3 cr2) (Za3 cs2)
 have a1:=Zgb m1 m2
 refine call34 (rRAdd _ _ _ _ _ _ _ ⟨⟨r1,s2⟩,⟨s1,r2⟩,⟨by unfold J.okB;omega,by unfold J.okB;omega⟩,⟨r2,s2⟩,⟨by omega,by omega,Int.mul_ne_zero (ZbP r) (ZbP s)⟩,?_⟩)
 rw [rat_add];exact .refl _
theorem ev35 (fa ga fb gb:Bool) (r s:Rat) (h:J.okR r/\J.okR s):Ev M1 (.pure 35 [ratA fa ga r,ratA fb gb s]) (ratF (r*s)) []:=by
 obtain ⟨hr,hs⟩:=h
 obtain ⟨r1,r2⟩:=ZdU hr
 obtain ⟨s1,s2⟩:=ZdU hs
 obtain ⟨cr1,cr2⟩:=hr
 obtain ⟨cs1,cs2⟩:=hs
 have m1:=ZaS cr1 cs1
 have m3:=ZaS (Za3 cr2) (Za3 cs2)
 refine call35 (rRMul _ _ _ _ _ _ _ ⟨⟨r1,s1⟩,⟨r2,s2⟩,⟨by omega,by omega,Int.mul_ne_zero (ZbP r) (ZbP s)⟩,?_⟩)
 rw [Zgv];exact .refl _
theorem ev74 (fa ga fb gb:Bool) (r s:Rat) (h:J.okR r/\J.okR s):Ev M1 (.pure 74 [ratA fa ga r,ratA fb gb s]) (.int .i64 (J.sgnI (r.num*(s.den:Int)-s.num*(r.den:Int)))) []:=by
 obtain ⟨hr,hs⟩:=h
 obtain ⟨r1,r2⟩:=ZdU hr
 obtain ⟨s1,s2⟩:=ZdU hs
 obtain ⟨cr1,cr2⟩:=hr
 obtain ⟨cs1,cs2⟩:=hs
 have m1:=ZaS cr1 (Za3 cs2)
 have m2:=ZaS cs1 (Za3 cr2)
 exact call74 (rRCmp _ _ _ _ _ _ _ ⟨⟨r1,s2⟩,⟨s1,r2⟩,⟨by unfold J.okB;omega,by unfold J.okB;omega⟩,rfl⟩)
theorem ev136 (fa fb:Bool) (a b:Int) (h:J.cnt a.natAbs<=399000/\J.cnt b.natAbs<=399000/\b ≠ 0):Ev M1 (.pure 136 [bigA fa a,bigA fb b]) (.tup [ratF (Rat.divInt a b),.int .i64 0]) []:=
 call136 (rRMake _ _ _ _ _ ⟨fun k=>absurd (ZbB.1 k) h.2.2,fun _=>⟨h,.refl _⟩⟩)
theorem inI_cnt {n:Int} (h:J.inI n):J.cnt n.natAbs<=3:=by
 unfold J.inI at h
 exact cnt_u64 (by omega)
theorem ev27 (s fa t ga:Bool) (a b:List Int) (h:J.okA a b):Ev M1 (.pure 27 [.agg [.bool s,.vec fa 1 (a.map (.int .u32)),.bool t,.vec ga 1 (b.map (.int .u32))]]) (.bool (J.Zcw s a t b)) []:=by
 have hs:J.ZaA a.length/\J.ZaA b.length:=by
  obtain ⟨⟨h1,_⟩,⟨h2,_⟩⟩:=h
  unfold J.ZaA;omega
 by_cases hv:J.val s a=true/\J.val t b=true
 ·obtain ⟨p,rfl,rfl⟩:=val_big h.1.2 hv.1
  obtain ⟨q,rfl,rfl⟩:=val_big h.2.2 hv.2
  obtain ⟨o1,o2⟩:=okA_big h
  refine call27 (rRValid _ _ _ _ _ ⟨by unfold J.ok;omega,by unfold J.ok;omega,fun k => ?_,fun k=>⟨by omega,decide (((p.gcd q:Nat):Int)=1),ev79 _ _ _ 1 ⟨?_,by unfold J.ok;have:=Zd3 (n:=(1:Int).natAbs) (by decide);omega⟩,?_⟩⟩)
  ·rw [Zfe]
   rw [valR_pq]
   unfold J.sgnI at k
   (repeat' split at k) <;> omega
  ·have hq:0<q:=by
    unfold J.sgnI at k
    (repeat' split at k) <;> omega
   have:=cnt_gcd (p:=p) (q:=q) (by omega)
   unfold J.ok;omega
  ·congr 1
   refine (valB_eq ?_).symm
   have hq:0<q:=by
    unfold J.sgnI at k
    (repeat' split at k) <;> omega
   rw [valR_pq,decide_eq_true_iff]
   omega
 ·have hn:¬(J.valR s a t b):=fun k=>hv (valR_val k)
  have hv':¬J.val s a=true\/¬J.val t b=true:=by
   by_cases k:J.val s a=true
   ·exact .inr fun k2=>hv ⟨k,k2⟩
   ·exact .inl k
  refine call27 (rRValidA _ _ _ _ _ _ _ ⟨hs.1,fun _=>hs.2,0,fun k=>absurd hv' k,fun _ => ?_,fun k=>absurd (.inl hv') k⟩)
  rw [Zfe hn]
theorem ev91_y (fa ga:Bool) (r:Rat) (h:J.okR r) (k:J.rsq r):Ev M1 (.pure 91 [ratA fa ga r]) (.tup [ratF (J.rt r),.bool true]) []:=by
 obtain ⟨h1,h2⟩:=okR_S h
 obtain ⟨e1,e2⟩:=rt_num k
 refine call91 (rRSqrt _ _ _ _ ⟨h1,h2,fun x => ?_,fun _ => ?_⟩)
 ·rcases x with x | x
  ·exact absurd k.1 x
  ·exact absurd k.2 x
 ·show Weak _ (AV.tup [AV.agg [.bool (J.Zaa (J.rt r).num),.vec false 1 ((J.Zab (J.rt r).num).map (.int .u32)),.bool (J.Zaa ((J.rt r).den:Int)),.vec false 1 ((J.Zab ((J.rt r).den:Int)).map (.int .u32))],.bool true])
  rw [e1,e2];exact .refl _
theorem ev91_n (fa ga:Bool) (r:Rat) (h:J.okR r) (k:¬(J.rsq r)):Ev M1 (.pure 91 [ratA fa ga r]) (.tup [noR,.bool false]) []:=by
 obtain ⟨h1,h2⟩:=okR_S h
 refine call91 (rRSqrt _ _ _ _ ⟨h1,h2,fun _=>Zch weak_nr (.refl _),fun x => ?_⟩)
 have x1:J.Ze4 r.num=true:=Classical.byContradiction fun y=>x (.inl y)
 have x2:J.Ze4 (r.den:Int)=true:=Classical.byContradiction fun y=>x (.inr y)
 exact absurd ⟨x1,x2⟩ k
end Go.Av

namespace Go.Av
open Go.Proofs
set_option maxRecDepth 100000
def fi28:Fi:=⟨9,[.cell 4 26]⟩
def kp28:List (Nat × List Nat):=[(0,[2,3,4]),(1,[4])]
def fi102:Fi:=⟨19,[.cell 4 26,.tmp 5]⟩
def kp102:List (Nat × List Nat):=[(0,[2,3,4]),(1,[4,5])]
def rRSub_at (fa ga fb gb:Bool) (r s:Rat) (Q:AV->Heap->Prop):Prop:=Wp M1 (.run fi28 (atC (cd Tryz.f28) []) [(0,ratA fa ga r),(1,ratA fb gb s)] []) Q
def rRDiv_at (fa ga fb gb:Bool) (r s:Rat) (Q:AV->Heap->Prop):Prop:=Wp M1 (.run fi102 (atC (cd Tryz.f102) []) [(0,ratA fa ga r),(1,ratA fb gb s)] []) Q
theorem call28 {args:List AV} {d:AV} (h:wc M1 fi28 Tryz.f28 args d):Ev M1 (.pure 28 args) d []:=pcl _ _ (by kernel_rfl) h
theorem call102 {args:List AV} {d:AV} (h:wc M1 fi102 Tryz.f102 args d):Ev M1 (.pure 102 args) d []:=pcl _ _ (by kernel_rfl) h
theorem rRSub (fa ga fb gb:Bool) (r s:Rat)  (dq:AV) (H :
  (J.ok s.num) /\
  (J.okR r/\J.okR (-s)) /\
  Weak (ratF (r + -s)) dq) :
 rRSub_at fa ga fb gb r s (Zag dq):=by
 unfold rRSub_at
 obtain ⟨k1,k2,H⟩:=H
 exact Zah (G:=Zac kp28 [(1,2,.call (ratF (-s)) none),(1,3,.call (ratF (r + -s)) none)] []) 1000 [] (ratF (r + -s)) (by kernel_rfl) (bc rfl (bc rfl (bc rfl b0))) q0 (ce (@ev82 fb gb s k1) (ce (@ev34 fa ga false false r (-s) k2) c0)) H
theorem rRDiv (fa ga fb gb:Bool) (r s:Rat)  (dq:AV) (H :
  (J.okB r.num/\J.okB (↑s.den:Int)) /\
  (J.okB (↑r.den:Int)/\J.okB s.num) /\
  (J.cnt (r.num*(↑s.den:Int)).natAbs<=399000/\J.cnt ((↑r.den:Int)*s.num).natAbs<=399000/\(↑r.den:Int)*s.num ≠ 0) /\
  Weak (tu [ratF (Rat.divInt (r.num*(↑s.den:Int)) ((↑r.den:Int)*s.num)),vi 0]) dq) :
 rRDiv_at fa ga fb gb r s (Zag dq):=by
 unfold rRDiv_at
 obtain ⟨k1,k2,k3,H⟩:=H
 exact Zah (G:=Zac kp102 [(1,4,.call (bigA false (r.num*(↑s.den:Int))) none),(1,9,.call (bigA false ((↑r.den:Int)*s.num)) none),(1,10,.call (tu [ratF (Rat.divInt (r.num*(↑s.den:Int)) ((↑r.den:Int)*s.num)),vi 0]) none)] []) 1000 [] (tu [ratF (Rat.divInt (r.num*(↑s.den:Int)) ((↑r.den:Int)*s.num)),vi 0]) (by kernel_rfl) (bc rfl (bc rfl (bc rfl (bc rfl (bc rfl b0))))) q0 (ce (@ev88 fa gb (r.num) ((↑s.den:Int)) k1) (ce (@ev88 ga fb ((↑r.den:Int)) (s.num) k2) (ce (@ev136 false false (r.num*(↑s.den:Int)) ((↑r.den:Int)*s.num) k3) c0))) H
end Go.Av

namespace Go.Av
open Go.Proofs
noncomputable def J.Zer (n:Int) (s:Bool) (a:List Int) (t:Bool) (b:List Int):Bool:=bif bif decide ((a.length:Int)<=n) then decide ((b.length:Int)<=n) else false then J.Zcw s a t b else false
theorem ZhC {n:Int} {s t:Bool} {a b:List Int}:J.Zer n s a t b=true ↔ (a.length:Int)<=n/\(b.length:Int)<=n/\J.valR s a t b:=by
 unfold J.Zer
 by_cases h1:(a.length:Int)<=n
 ·rw [decide_eq_true h1,cond_true]
  by_cases h2:(b.length:Int)<=n
  ·rw [decide_eq_true h2,cond_true,ZeK]
   exact ⟨fun h=>⟨h1,h2,h⟩,fun h=>h.2.2⟩
  ·rw [decide_eq_false h2,cond_false]
   exact ⟨fun h=>absurd h (by simp),fun h=>absurd h.2.1 h2⟩
 ·rw [decide_eq_false h1,cond_false,cond_false]
  exact ⟨fun h=>absurd h (by simp),fun h=>absurd h.1 h1⟩
theorem ev28 (fa ga fb gb:Bool) (r s:Rat) (h:J.okR r/\J.okR s):Ev M1 (.pure 28 [ratA fa ga r,ratA fb gb s]) (ratF (r-s)) []:=by
 refine call28 (rRSub _ _ _ _ _ _ _ ⟨?_,⟨h.1,okR_neg h.2⟩,?_⟩)
 ·have:=h.2.1;unfold J.ok;omega
 ·rw [<- Rat.sub_eq_add_neg];exact .refl _
theorem ev102 (fa ga fb gb:Bool) (r s:Rat) (h:J.okR r/\J.okR s/\s.num ≠ 0):Ev M1 (.pure 102 [ratA fa ga r,ratA fb gb s]) (.tup [ratF (r / s),.int .i64 0]) []:=by
 obtain ⟨hr,hs,h0⟩:=h
 obtain ⟨r1,r2⟩:=ZdU hr
 obtain ⟨s1,s2⟩:=ZdU hs
 obtain ⟨cr1,cr2⟩:=hr
 obtain ⟨cs1,cs2⟩:=hs
 have m1:=ZaS cr1 (Za3 cs2)
 have m3:=ZaS (Za3 cr2) cs1
 refine call102 (rRDiv _ _ _ _ _ _ _ ⟨⟨r1,s2⟩,⟨r2,s1⟩,⟨by omega,by omega,Int.mul_ne_zero (ZbP r) h0⟩,?_⟩)
 rw [rat_div];exact .refl _
end Go.Av

namespace Go.Av
open Go.Proofs
set_option maxRecDepth 100000
def fi166:Fi:=⟨2,[.cell 0 26]⟩
def kp166:List (Nat × List Nat):=[(0,[0]),(1,[0])]
def fi172:Fi:=⟨2,[.cell 0 26]⟩
def kp172:List (Nat × List Nat):=[(0,[0]),(1,[0])]
def oZero_at  (Q:AV->Heap->Prop):Prop:=Wp M1 (.run fi166 (atC (cd Tryz.f166) []) [] []) Q
def pZero_at  (Q:AV->Heap->Prop):Prop:=Wp M1 (.run fi172 (atC (cd Tryz.f172) []) [] []) Q
theorem call166 {args:List AV} {d:AV} (h:wc M1 fi166 Tryz.f166 args d):Ev M1 (.pure 166 args) d []:=pcl _ _ (by kernel_rfl) h
theorem call172 {args:List AV} {d:AV} (h:wc M1 fi172 Tryz.f172 args d):Ev M1 (.pure 172 args) d []:=pcl _ _ (by kernel_rfl) h
theorem oZero   (dq:AV) (H :
  (J.inI 0) /\
  Weak (ratF (J.qi 0)) dq) :
 oZero_at  (Zag dq):=by
 unfold oZero_at
 obtain ⟨k1,H⟩:=H
 exact Zah (G:=Zac kp166 [(1,0,.call (ratF (J.qi 0)) none)] []) 1000 [] (ratF (J.qi 0)) (by kernel_rfl) (bc rfl b0) q0 (ce (@ev75 0 k1) c0) H
theorem pZero   (dq:AV) (H :
  (J.inI 0) /\
  Weak (ratF (J.qi 0)) dq) :
 pZero_at  (Zag dq):=by
 unfold pZero_at
 obtain ⟨k1,H⟩:=H
 exact Zah (G:=Zac kp172 [(1,0,.call (ratF (J.qi 0)) none)] []) 1000 [] (ratF (J.qi 0)) (by kernel_rfl) (bc rfl b0) q0 (ce (@ev84 0 k1) c0) H
end Go.Av

namespace Go.Av
open Go.Proofs
abbrev Zar (f1 f2 f3 f4 f5 f6:Bool) (a b c:Rat):AV:=.agg [.bool (J.Zaa a.num),.vec f1 1 ((J.Zab a.num).map (.int .u32)),.bool (J.Zaa (a.den:Int)),.vec f2 1 ((J.Zab (a.den:Int)).map (.int .u32)),.bool (J.Zaa b.num),.vec f3 1 ((J.Zab b.num).map (.int .u32)),.bool (J.Zaa (b.den:Int)),.vec f4 1 ((J.Zab (b.den:Int)).map (.int .u32)),.bool (J.Zaa c.num),.vec f5 1 ((J.Zab c.num).map (.int .u32)),.bool (J.Zaa (c.den:Int)),.vec f6 1 ((J.Zab (c.den:Int)).map (.int .u32))]
abbrev ZaH (a b c:Rat):AV:=Zar false false false false false false a b c
theorem ZeH {f1 f2 f3 f4 f5 f6:Bool} (a b c:Rat):Weak (Zar f1 f2 f3 f4 f5 f6 a b c) (ZaH a b c):=by
 refine .agg _ _ rfl fun i x y hx hy => ?_
 match i with
 | 0=>simp at hx hy;subst hx;subst hy;exact .refl _
 | 1=>simp at hx hy;subst hx;subst hy;exact Zbv _ _ _
 | 2=>simp at hx hy;subst hx;subst hy;exact .refl _
 | 3=>simp at hx hy;subst hx;subst hy;exact Zbv _ _ _
 | 4=>simp at hx hy;subst hx;subst hy;exact .refl _
 | 5=>simp at hx hy;subst hx;subst hy;exact Zbv _ _ _
 | 6=>simp at hx hy;subst hx;subst hy;exact .refl _
 | 7=>simp at hx hy;subst hx;subst hy;exact Zbv _ _ _
 | 8=>simp at hx hy;subst hx;subst hy;exact .refl _
 | 9=>simp at hx hy;subst hx;subst hy;exact Zbv _ _ _
 | 10=>simp at hx hy;subst hx;subst hy;exact .refl _
 | 11=>simp at hx hy;subst hx;subst hy;exact Zbv _ _ _
 | i+12=>simp at hx
theorem sgn_num {r:Rat}:J.sgnI r.num=0 ↔ r=0:=by rw [ZbB,Rat.num_eq_zero]
def J.okT (k:Nat) (r:Rat):Prop:=J.cnt r.num.natAbs<=k/\J.cnt r.den<=k
theorem Zak {k:Nat} {r:Rat} (h:J.okT k r) (hk:k<=90000):J.okR r:=⟨Nat.le_trans h.1 hk,Nat.le_trans h.2 hk⟩
theorem Zas {k m:Nat} {r:Rat} (h:J.okT k r) (hk:k<=m):J.okT m r:=⟨Nat.le_trans h.1 hk,Nat.le_trans h.2 hk⟩
theorem Zg4 {p q:Int} (hq:q ≠ 0):(Rat.divInt p q).num.natAbs<=p.natAbs/\(Rat.divInt p q).den<=q.natAbs:=by
 by_cases h:0<q
 ·obtain ⟨e1,e2⟩:=Zfi (a:=p) h
  have e3:(Rat.divInt p q).den=((q / ((p.gcd q:Nat):Int))).natAbs:=by omega
  rw [e1,e3]
  refine ⟨?_,?_⟩
  ·rw [Int.natAbs_ediv_of_dvd (Int.gcd_dvd_left ..)];exact Nat.div_le_self _ _
  ·rw [Int.natAbs_ediv_of_dvd (Int.gcd_dvd_right ..)];exact Nat.div_le_self _ _
 ·obtain ⟨e1,e2⟩:=rat_neg (a:=p) (b:=q) (by omega)
  have e3:(Rat.divInt p q).den=((-q / (((-p).gcd (-q):Nat):Int))).natAbs:=by omega
  rw [e1,e3]
  refine ⟨?_,?_⟩
  ·rw [Int.natAbs_ediv_of_dvd (Int.gcd_dvd_left ..),Int.natAbs_neg];exact Nat.div_le_self _ _
  ·rw [Int.natAbs_ediv_of_dvd (Int.gcd_dvd_right ..),Int.natAbs_neg];exact Nat.div_le_self _ _
theorem Zaf {k m:Nat} {r s:Rat} (h:J.okT k r) (h2:J.okT m s):J.okT (k+m) (r*s):=by
 have e:=Zg4 (p:=r.num*s.num) (q:=(r.den:Int)*(s.den:Int)) (Int.mul_ne_zero (ZbP r) (ZbP s))
 rw [Zgv] at e
 refine ⟨Nat.le_trans (ZaK e.1) (ZaS h.1 h2.1),Nat.le_trans (ZaK e.2) (ZaS (Za3 h.2) (Za3 h2.2))⟩
theorem ZaG {k m:Nat} {r s:Rat} (h:J.okT k r) (h2:J.okT m s):J.okT (k+m+1) (r+s):=by
 have e:=Zg4 (p:=r.num*(s.den:Int)+s.num*(r.den:Int)) (q:=(r.den:Int)*(s.den:Int)) (Int.mul_ne_zero (ZbP r) (ZbP s))
 rw [rat_add] at e
 have m1:=ZaS h.1 (Za3 h2.2)
 have m2:=ZaS h2.1 (Za3 h.2)
 have m3:=ZaS (Za3 h.2) (Za3 h2.2)
 have:=Zgb m1 (Nat.le_trans m2 (by omega))
 exact ⟨Nat.le_trans (ZaK e.1) this,Nat.le_trans (ZaK e.2) (Nat.le_trans m3 (by omega))⟩
theorem Zbs {k:Nat} {r:Rat} (h:J.okT k r):J.okT k (-r):=by
 unfold J.okT
 rw [Rat.neg_num,Rat.neg_den,Int.natAbs_neg];exact h
theorem Zat {k m:Nat} {r s:Rat} (h:J.okT k r) (h2:J.okT m s):J.okT (k+m+1) (r-s):=by
 rw [Rat.sub_eq_add_neg];exact ZaG h (Zbs h2)
theorem ZeW {k:Nat} {r:Rat} (h:J.rsq r) (hr:J.okT k r):J.okT k (J.rt r):=by
 obtain ⟨e1,e2⟩:=rt_num h
 obtain ⟨a1,a2⟩:=hr
 have h1:=(sq_le ((Zc6 _).1 h.1).1).2
 have h2:=(sq_le ((Zc6 _).1 h.2).1).2
 unfold J.okT
 rw [e1]
 have:(J.rt r).den=(J.sq (r.den:Int)).natAbs:=by omega
 rw [this]
 exact ⟨Nat.le_trans (ZaK h1) a1,Nat.le_trans (ZaK h2) a2⟩
theorem Zfl {n:Int} (h:J.inI n):J.okT 3 (J.qi n):=by
 rw [ZfP]
 unfold J.okT
 rw [Rat.num_intCast,Rat.den_intCast]
 exact ⟨inI_cnt h,by have:=Zd3 (n:=1) (by decide);omega⟩
theorem okT_zero:J.okT 1 (0:Rat):=by
 have h0:J.cnt ((0:Rat).num.natAbs)=0:=Zbq
 have h1:=Zd3 (n:=1) (by decide)
 have h2:(0:Rat).den=1:=rfl
 unfold J.okT
 rw [h0,h2]
 omega
theorem ev166:Ev M1 (.pure 166 []) (ratF (J.qi 0)) []:=
 call166 (oZero _ ⟨by unfold J.inI;omega,.refl _⟩)
theorem ev172:Ev M1 (.pure 172 []) (ratF (J.qi 0)) []:=
 call172 (pZero _ ⟨by unfold J.inI;omega,.refl _⟩)
def J.okO (a b c:Rat):Prop:=J.okT 9000 a/\J.okT 9000 b/\J.okT 9000 c
def J.com (b c z:Rat):Rat:=if b=0 then z else c
def J.isCom (b c y z:Rat):Prop:=b=0\/y=0\/c=z
instance (b c y z:Rat):Decidable (J.isCom b c y z):=inferInstanceAs (Decidable (_\/_))
theorem cross {c z:Rat}:J.sgnI (c.num*(z.den:Int)-z.num*(c.den:Int))=0 ↔ c=z:=by
 rw [ZbB]
 constructor
 ·intro h
  have h1:c.num*(z.den:Int)=z.num*(c.den:Int):=by omega
  have e:=(Rat.divInt_eq_divInt_iff (ZbP c) (ZbP z)).2 h1
  rwa [Rat.num_divInt_den,Rat.num_divInt_den] at e
 ·intro h;subst h;omega
end Go.Av

namespace Go.Av
open Go.Proofs
set_option maxRecDepth 100000
def fi142:Fi:=⟨7,[.cell 2 98]⟩
def kp142:List (Nat × List Nat):=[(0,[1,2]),(1,[2])]
def fi143:Fi:=⟨15,[.cell 6 98]⟩
def kp143:List (Nat × List Nat):=[(0,[3,4,5,6]),(1,[3,4,5,6,9]),(2,[3,4,5,6]),(3,[6])]
def fi155:Fi:=⟨7,[.cell 2 98]⟩
def kp155:List (Nat × List Nat):=[(0,[1,2]),(1,[2])]
def oFrom_at (f1 f2:Bool) (a:Rat) (Q:AV->Heap->Prop):Prop:=Wp M1 (.run fi142 (atC (cd Tryz.f142) []) [(0,ratA f1 f2 a)] []) Q
def pFrom_at (f1 f2:Bool) (a:Rat) (Q:AV->Heap->Prop):Prop:=Wp M1 (.run fi155 (atC (cd Tryz.f155) []) [(0,ratA f1 f2 a)] []) Q
def oRed_at (f1 f2 f3 f4 f5 f6:Bool) (a b c:Rat) (Q:AV->Heap->Prop):Prop:=Wp M1 (.run fi143 (atC (cd Tryz.f143) []) [(0,ratA f1 f2 a),(1,ratA f3 f4 b),(2,ratA f5 f6 c)] []) Q
theorem call142 {args:List AV} {d:AV} (h:wc M1 fi142 Tryz.f142 args d):Ev M1 (.pure 142 args) d []:=pcl _ _ (by kernel_rfl) h
theorem call143 {args:List AV} {d:AV} (h:wc M1 fi143 Tryz.f143 args d):Ev M1 (.pure 143 args) d []:=pcl _ _ (by kernel_rfl) h
theorem call155 {args:List AV} {d:AV} (h:wc M1 fi155 Tryz.f155 args d):Ev M1 (.pure 155 args) d []:=pcl _ _ (by kernel_rfl) h
theorem oFrom (f1 f2:Bool) (a:Rat)  (dq:AV) (H :
  Weak (Zar f1 f2 false false false false a (J.qi 0) (J.qi 0)) dq) :
 oFrom_at f1 f2 a (Zag dq):=by
 unfold oFrom_at
 exact Zah (G:=Zac kp142 [(1,1,.call (ratF (J.qi 0)) none),(1,2,.call (ratF (J.qi 0)) none)] []) 1000 [] (Zar f1 f2 false false false false a (J.qi 0) (J.qi 0)) (by kernel_rfl) (bc rfl (bc rfl b0)) q0 (ce (@ev166 ) (ce (@ev166 ) c0)) H
theorem pFrom (f1 f2:Bool) (a:Rat)  (dq:AV) (H :
  Weak (Zar f1 f2 false false false false a (J.qi 0) (J.qi 0)) dq) :
 pFrom_at f1 f2 a (Zag dq):=by
 unfold pFrom_at
 exact Zah (G:=Zac kp155 [(1,1,.call (ratF (J.qi 0)) none),(1,2,.call (ratF (J.qi 0)) none)] []) 1000 [] (Zar f1 f2 false false false false a (J.qi 0) (J.qi 0)) (by kernel_rfl) (bc rfl (bc rfl b0)) q0 (ce (@ev172 ) (ce (@ev172 ) c0)) H
theorem oRed (f1 f2 f3 f4 f5 f6:Bool) (a b c:Rat)  (dq:AV) (H :
  ((J.sgnI b.num=0)->Weak (Zar f1 f2 f3 f4 false false a b (J.qi 0)) dq) /\
  (¬(J.sgnI b.num=0)->Weak (Zar f1 f2 f3 f4 f5 f6 a b c) dq)) :
 oRed_at f1 f2 f3 f4 f5 f6 a b c (Zag dq):=by
 unfold oRed_at
 refine Zae (G:=Zac kp143 [(1,1,.call (vi (J.sgnI b.num)) none)] []) 5 [] ⟨(atC (cd Tryz.f143) [1,0,1]),[(3,AV.ptr 0 0 0 0),(4,AV.ptr 1 0 0 0),(5,AV.ptr 2 0 0 0),(6,AV.ptr 3 0 0 0),(9,vb (J.sgnI b.num==0))],[⟨[ratA f1 f2 a],4,0,false,false⟩,⟨[ratA f3 f4 b],4,0,false,false⟩,⟨[ratA f5 f6 c],4,0,false,false⟩,⟨[ag [vb false,AV.vnil,vb false,AV.vnil,vb false,AV.vnil,vb false,AV.vnil,vb false,AV.vnil,vb false,AV.vnil]],12,0,false,false⟩],_,[],_⟩ (by kernel_rfl) (bc rfl b0) q0 (ce (@ev54 f3 f4 (b.num) ((↑b.den:Int))) c0) ?_
 rcases xq H with ⟨d2,H⟩|⟨d2,H⟩
 ·exact Zah (G:=Zac kp143 [(2,0,.call (ratF (J.qi 0)) none)] []) 1000 [true] (asm:=[(J.sgnI b.num==0)==true,0==0,true,true,true,true]) (Zar f1 f2 f3 f4 false false a b (J.qi 0)) (by kernel_rfl) (bc (Zap (i_eq.2 d2)) (bc (beq_self_eq_true _) (bc rfl (bc rfl (bc rfl (bc rfl b0)))))) q0 (ce (@ev166 ) c0) H
 ·exact Zah (G:=Zac kp143 [] []) 1000 [false] (Zar f1 f2 f3 f4 f5 f6 a b c) (by kernel_rfl) (bc (Zam (fun h=>d2 (i_eq.1 h))) (bc rfl (bc rfl (bc rfl (bc rfl b0))))) q0 c0 H
end Go.Av

namespace Go.Av
open Go.Proofs
theorem ev142 (f1 f2:Bool) (a:Rat):Ev M1 (.pure 142 [ratA f1 f2 a]) (ZaH a (J.qi 0) (J.qi 0)) []:=
 call142 (oFrom _ _ _ _ (ZeH a (J.qi 0) (J.qi 0)))
theorem ev155 (f1 f2:Bool) (a:Rat):Ev M1 (.pure 155 [ratA f1 f2 a]) (ZaH a (J.qi 0) (J.qi 0)) []:=
 call155 (pFrom _ _ _ _ (ZeH a (J.qi 0) (J.qi 0)))
noncomputable def J.rad (b c:Rat):Rat:=if b=0 then J.qi 0 else c
theorem ev143 (f1 f2 f3 f4 f5 f6:Bool) (a b c:Rat):Ev M1 (.pure 143 [ratA f1 f2 a,ratA f3 f4 b,ratA f5 f6 c]) (ZaH a b (J.rad b c)) []:=by
 refine call143 (oRed _ _ _ _ _ _ _ _ _ _ ⟨fun k => ?_,fun k => ?_⟩)
 ·rw [show J.rad b c=J.qi 0 from if_pos (sgn_num.1 k)];exact ZeH a b (J.qi 0)
 ·rw [show J.rad b c=c from if_neg fun e=>k (sgn_num.2 e)];exact ZeH a b c
def J.sgR (r:Rat):Int:=J.sgnI r.num
end Go.Av

namespace Go.Av
open Go.Proofs
set_option maxRecDepth 100000
def fi105:Fi:=⟨30,[.cell 6 98,.tmp 7]⟩
def kp105:List (Nat × List Nat):=[(0,[3,4,5,6]),(1,[3,4,5,6,12]),(2,[6,7]),(3,[3,4,5,6,8,9]),(4,[3,4,5,6,8,19]),(5,[6,7]),(6,[6,7])]
def oMake_at (f1 f2 f3 f4 f5 f6:Bool) (a b c:Rat) (Q:AV->Heap->Prop):Prop:=Wp M1 (.run fi105 (atC (cd Tryz.f105) []) [(0,ratA f1 f2 a),(1,ratA f3 f4 b),(2,ratA f5 f6 c)] []) Q
theorem call105 {args:List AV} {d:AV} (h:wc M1 fi105 Tryz.f105 args d):Ev M1 (.pure 105 args) d []:=pcl _ _ (by kernel_rfl) h
noncomputable abbrev zNxC1:=ag [vb false,AV.vnil,vb false,AV.vnil,vb false,AV.vnil,vb false,AV.vnil,vb false,AV.vnil,vb false,AV.vnil]
theorem oMake (f1 f2 f3 f4 f5 f6:Bool) (a b c:Rat)  (dq:AV) (H :
  ((J.sgnI c.num<0)->Weak (tu [ag [vb false,AV.vnil,vb false,AV.vnil,vb false,AV.vnil,vb false,AV.vnil,vb false,AV.vnil,vb false,AV.vnil],vi 7]) dq) /\
  (¬(J.sgnI c.num<0)->((J.rsq c)->(J.okR c) /\
    (J.okR b/\J.okR (J.rt c)) /\
    (J.okR a/\J.okR (b*J.rt c)) /\
    Weak (tu [ZaH (a+b*J.rt c) (J.qi 0) (J.qi 0),vi 0]) dq) /\
   (¬(J.rsq c)->(J.okR c) /\
    Weak (tu [ZaH a b (J.rad b c),vi 0]) dq))) :
 oMake_at f1 f2 f3 f4 f5 f6 a b c (Zag dq):=by
 unfold oMake_at
 refine Zae (G:=Zac kp105 [(1,1,.call (vi (J.sgnI c.num)) none)] []) 5 [] ⟨(atC (cd Tryz.f105) [1,0,1]),[(3,AV.ptr 0 0 0 0),(4,AV.ptr 1 0 0 0),(5,AV.ptr 2 0 0 0),(6,AV.ptr 3 0 0 0),(12,vb (decide (J.sgnI c.num<0)))],[⟨[ratA f1 f2 a],4,0,false,false⟩,⟨[ratA f3 f4 b],4,0,false,false⟩,⟨[ratA f5 f6 c],4,0,false,false⟩,⟨[zNxC1],12,0,false,false⟩],_,[],_⟩ (by kernel_rfl) (bc rfl b0) q0 (ce (@ev54 f5 f6 (c.num) ((↑c.den:Int))) c0) ?_
 rcases xq H with ⟨d2,H⟩|⟨d2,H⟩
 ·exact Zah (G:=Zac kp105 [] []) 1000 [true] (tu [zNxC1,vi 7]) (by kernel_rfl) (bc (Zap (Zad.2 d2)) (bc rfl b0)) q0 c0 H
 ·rcases xq H with ⟨d3,H⟩|⟨d3,H⟩
  ·obtain ⟨k4,k5,k6,H⟩:=H
   exact Zah (G:=Zac kp105 [(3,1,.call (tu [ratF (J.rt c),vb true]) none),(5,3,.call (ratF (b*J.rt c)) none),(5,4,.call (ratF (a+b*J.rt c)) none),(5,5,.call (ZaH (a+b*J.rt c) (J.qi 0) (J.qi 0)) none)] []) 1000 [false,true] (tu [ZaH (a+b*J.rt c) (J.qi 0) (J.qi 0),vi 0]) (by kernel_rfl) (bc (Zam (fun h=>d2 (Zad.1 h))) (bc rfl (bc rfl (bc rfl (bc rfl (bc rfl (bc rfl (bc rfl b0)))))))) q0 (ce (@ev141_y f5 f6 c k4 d3) (ce (@ev95 f3 f4 false false b (J.rt c) k5) (ce (@ev114 f1 f2 false false a (b*J.rt c) k6) (ce (@ev142 false false (a+b*J.rt c)) c0)))) H
  ·obtain ⟨k7,H⟩:=H
   exact Zah (G:=Zac kp105 [(3,1,.call (tu [ag [vb false,vf [],vb false,vf []],vb false]) none),(6,3,.call (ZaH a b (J.rad b c)) none)] []) 1000 [false,false] (tu [ZaH a b (J.rad b c),vi 0]) (by kernel_rfl) (bc (Zam (fun h=>d2 (Zad.1 h))) (bc rfl (bc rfl (bc rfl (bc rfl (bc rfl (bc rfl (bc rfl b0)))))))) q0 (ce (@ev141_n f5 f6 c k7 d3) (ce (@ev143 f1 f2 f3 f4 f5 f6 a b c) c0)) H
end Go.Av

namespace Go.Av
open Go.Proofs
abbrev noO:AV:=.agg [.bool false,.vec false 1 [],.bool false,.vec false 1 [],.bool false,.vec false 1 [],.bool false,.vec false 1 [],.bool false,.vec false 1 [],.bool false,.vec false 1 []]
theorem ZcK:Weak .vnil (.vec false 1 []):=by
 have:=Zde false
 cases this with
 | agg xs ys hl h=>exact h 1 _ _ rfl rfl
theorem weak_no:Weak (.agg [.bool false,.vnil,.bool false,.vnil,.bool false,.vnil,.bool false,.vnil,.bool false,.vnil,.bool false,.vnil]) noO:=by
 refine .agg _ _ rfl fun i x y hx hy => ?_
 match i with
 | 0=>simp at hx hy;subst hx;subst hy;exact .refl _
 | 1=>simp at hx hy;subst hx;subst hy;exact ZcK
 | 2=>simp at hx hy;subst hx;subst hy;exact .refl _
 | 3=>simp at hx hy;subst hx;subst hy;exact ZcK
 | 4=>simp at hx hy;subst hx;subst hy;exact .refl _
 | 5=>simp at hx hy;subst hx;subst hy;exact ZcK
 | 6=>simp at hx hy;subst hx;subst hy;exact .refl _
 | 7=>simp at hx hy;subst hx;subst hy;exact ZcK
 | 8=>simp at hx hy;subst hx;subst hy;exact .refl _
 | 9=>simp at hx hy;subst hx;subst hy;exact ZcK
 | 10=>simp at hx hy;subst hx;subst hy;exact .refl _
 | 11=>simp at hx hy;subst hx;subst hy;exact ZcK
 | i+12=>simp at hx
namespace J
def isNN (c:Rat):Prop:=0<=c.num
open Classical in
noncomputable def mkA (a b c:Rat):Rat:=if rsq c then a+b*rt c else a
open Classical in
noncomputable def mkB (b c:Rat):Rat:=if rsq c then qi 0 else b
open Classical in
noncomputable def mkC (b c:Rat):Rat:=if rsq c then qi 0 else rad b c
end J
theorem nn_sgn {c:Rat}:J.sgnI c.num<0 ↔ ¬J.isNN c:=by
 rw [Zbn];unfold J.isNN;omega
theorem ev105_y (f1 f2 f3 f4 f5 f6:Bool) (a b c:Rat) (h:J.okO a b c) (k:J.isNN c):Ev M1 (.pure 105 [ratA f1 f2 a,ratA f3 f4 b,ratA f5 f6 c]) (.tup [ZaH (J.mkA a b c) (J.mkB b c) (J.mkC b c),.int .i64 0]) []:=by
 obtain ⟨ha,hb,hc⟩:=h
 refine call105 (oMake _ _ _ _ _ _ _ _ _ _ ⟨fun x=>absurd k (nn_sgn.1 x),fun _=>⟨fun s => ?_,fun s => ?_⟩⟩)
 ·have hr:=ZeW s hc
  have hm:=Zaf hb hr
  refine ⟨Zak hc (by omega),⟨Zak hb (by omega),Zak hr (by omega)⟩,⟨Zak ha (by omega),Zak hm (by omega)⟩,?_⟩
  rw [show J.mkA a b c=a+b*J.rt c from if_pos s,show J.mkB b c=J.qi 0 from if_pos s,show J.mkC b c=J.qi 0 from if_pos s]
  exact .refl _
 ·refine ⟨Zak hc (by omega),?_⟩
  rw [show J.mkA a b c=a from if_neg s,show J.mkB b c=b from if_neg s,show J.mkC b c=J.rad b c from if_neg s]
  exact .refl _
theorem ev105_n (f1 f2 f3 f4 f5 f6:Bool) (a b c:Rat) (_:J.okO a b c) (k:¬(J.isNN c)):Ev M1 (.pure 105 [ratA f1 f2 a,ratA f3 f4 b,ratA f5 f6 c]) (.tup [noO,.int .i64 7]) []:=
 call105 (oMake _ _ _ _ _ _ _ _ _ _ ⟨fun _=>Zch weak_no (.refl _),fun x=>absurd (nn_sgn.2 k) x⟩)
theorem ZeL (r:Rat):J.Zcw (J.Zaa r.num) (J.Zab r.num) (J.Zaa (r.den:Int)) (J.Zab (r.den:Int))=true:=ZeK.2 (valR_rat r)
theorem ZgE {r:Rat} {k:Nat} (h:J.okT k r) (hk:k<=90000):J.okA (J.Zab r.num) (J.Zab (r.den:Int)):=by
 obtain ⟨h1,h2⟩:=h
 refine ⟨⟨?_,fun x hx=>(Zeu _ x hx).1⟩,⟨?_,fun x hx=>(Zeu _ x hx).1⟩⟩
 ·rw [ZaZ];omega
 ·rw [ZaZ,Int.natAbs_natCast];omega
noncomputable def J.flW (a b c:Rat):Int:=J.sq ((a.den:Int)*(a.den:Int)*((b*b*c).num*((b*b*c).den:Int)))
noncomputable def J.fl (a b c:Rat):Int:=if b=0 then J.flo a.num (a.den:Int) else J.flo (a.num*((b*b*c).den:Int)+(if b.num<0 then -(J.flW a b c+1) else J.flW a b c)) ((a.den:Int)*((b*b*c).den:Int))
end Go.Av

namespace Go.Av
open Go.Proofs
theorem qi_zero:J.qi 0=0:=by rw [ZfP];rfl
end Go.Av

namespace Go.Av
open Go.Proofs
set_option maxRecDepth 100000
end Go.Av

namespace Go.Av
open Go.Proofs
theorem ZbK {k m:Nat} {r s:Rat} (h:J.okT k r) (h2:J.okT m s) (h0:s.num ≠ 0):J.okT (k+m) (r / s):=by
 have e:=Zg4 (p:=r.num*(s.den:Int)) (q:=(r.den:Int)*s.num) (Int.mul_ne_zero (ZbP r) h0)
 rw [rat_div] at e
 exact ⟨Nat.le_trans (ZaK e.1) (ZaS h.1 (Za3 h2.2)),Nat.le_trans (ZaK e.2) (ZaS (Za3 h.2) h2.1)⟩
end Go.Av

namespace Go.Av
open Go.Proofs
set_option maxRecDepth 100000
end Go.Av

namespace Go.Av
open Go.Proofs
theorem okT_O {a b c:Rat} {k:Nat} (h1:J.okT k a) (h2:J.okT k b) (h3:J.okT k c) (hk:k<=9000):J.okO a b c:=⟨Zas h1 hk,Zas h2 hk,Zas h3 hk⟩
end Go.Av

namespace Go.Av
open Go.Proofs
set_option maxRecDepth 100000
end Go.Av

namespace Go.Av
open Go.Proofs
end Go.Av

namespace Go.Av
open Go.Proofs
set_option maxRecDepth 100000
def fi52:Fi:=⟨8,[.cell 4 26]⟩
def kp52:List (Nat × List Nat):=[(0,[2,3,4]),(1,[4])]
def fi53:Fi:=⟨8,[.cell 4 26]⟩
def kp53:List (Nat × List Nat):=[(0,[2,3,4]),(1,[4])]
def fi56:Fi:=⟨14,[.cell 4 26]⟩
def kp56:List (Nat × List Nat):=[(0,[2,3,4]),(1,[4,5]),(2,[4])]
def fi59:Fi:=⟨8,[.cell 4 26]⟩
def kp59:List (Nat × List Nat):=[(0,[2,3,4]),(1,[4])]
def fi60:Fi:=⟨8,[.cell 4 26]⟩
def kp60:List (Nat × List Nat):=[(0,[2,3,4]),(1,[4])]
def fi62:Fi:=⟨14,[.cell 4 26]⟩
def kp62:List (Nat × List Nat):=[(0,[2,3,4]),(1,[4,5]),(2,[4])]
def fi68:Fi:=⟨5,[.cell 2 26]⟩
def kp68:List (Nat × List Nat):=[(0,[1,2]),(1,[2])]
def fi77:Fi:=⟨8,[.cell 4 26]⟩
def kp77:List (Nat × List Nat):=[(0,[2,3,4]),(1,[4])]
def fi83:Fi:=⟨8,[.cell 4 26]⟩
def kp83:List (Nat × List Nat):=[(0,[2,3,4]),(1,[4])]
def fi97:Fi:=⟨9,[.tmp 4]⟩
def kp97:List (Nat × List Nat):=[(0,[2,3]),(1,[4])]
def fi98:Fi:=⟨8,[.cell 4 26]⟩
def kp98:List (Nat × List Nat):=[(0,[2,3,4]),(1,[4])]
def fi100:Fi:=⟨2,[.cell 0 26]⟩
def kp100:List (Nat × List Nat):=[(0,[0]),(1,[0])]
def fi101:Fi:=⟨2,[.cell 0 26]⟩
def kp101:List (Nat × List Nat):=[(0,[0]),(1,[0])]
def fi137:Fi:=⟨8,[.cell 4 26]⟩
def kp137:List (Nat × List Nat):=[(0,[2,3,4]),(1,[4])]
def fi138:Fi:=⟨8,[.cell 4 26]⟩
def kp138:List (Nat × List Nat):=[(0,[2,3,4]),(1,[4])]
def fi139:Fi:=⟨17,[.cell 4 26]⟩
def kp139:List (Nat × List Nat):=[(0,[2,3,4]),(1,[4,5,6]),(2,[4,5,14]),(3,[4]),(4,[4])]
def wadd_m_at (f1 f2 g1 g2:Bool) (r s:Rat) (Q:AV->Heap->Prop):Prop:=Wp M1 (.run fi77 (atC (cd Tryz.f77) []) [(0,ratA f1 f2 r),(1,ratA g1 g2 s)] []) Q
def wsub_m_at (f1 f2 g1 g2:Bool) (r s:Rat) (Q:AV->Heap->Prop):Prop:=Wp M1 (.run fi52 (atC (cd Tryz.f52) []) [(0,ratA f1 f2 r),(1,ratA g1 g2 s)] []) Q
def wmul_m_at (f1 f2 g1 g2:Bool) (r s:Rat) (Q:AV->Heap->Prop):Prop:=Wp M1 (.run fi53 (atC (cd Tryz.f53) []) [(0,ratA f1 f2 r),(1,ratA g1 g2 s)] []) Q
def wadd_s_at (f1 f2 g1 g2:Bool) (r s:Rat) (Q:AV->Heap->Prop):Prop:=Wp M1 (.run fi138 (atC (cd Tryz.f138) []) [(0,ratA f1 f2 r),(1,ratA g1 g2 s)] []) Q
def wsub_s_at (f1 f2 g1 g2:Bool) (r s:Rat) (Q:AV->Heap->Prop):Prop:=Wp M1 (.run fi137 (atC (cd Tryz.f137) []) [(0,ratA f1 f2 r),(1,ratA g1 g2 s)] []) Q
def wmul_s_at (f1 f2 g1 g2:Bool) (r s:Rat) (Q:AV->Heap->Prop):Prop:=Wp M1 (.run fi98 (atC (cd Tryz.f98) []) [(0,ratA f1 f2 r),(1,ratA g1 g2 s)] []) Q
def wadd_r_at (f1 f2 g1 g2:Bool) (r s:Rat) (Q:AV->Heap->Prop):Prop:=Wp M1 (.run fi83 (atC (cd Tryz.f83) []) [(0,ratA f1 f2 r),(1,ratA g1 g2 s)] []) Q
def wsub_r_at (f1 f2 g1 g2:Bool) (r s:Rat) (Q:AV->Heap->Prop):Prop:=Wp M1 (.run fi59 (atC (cd Tryz.f59) []) [(0,ratA f1 f2 r),(1,ratA g1 g2 s)] []) Q
def wmul_r_at (f1 f2 g1 g2:Bool) (r s:Rat) (Q:AV->Heap->Prop):Prop:=Wp M1 (.run fi60 (atC (cd Tryz.f60) []) [(0,ratA f1 f2 r),(1,ratA g1 g2 s)] []) Q
def wdiv_m_at (f1 f2 g1 g2:Bool) (r s:Rat) (Q:AV->Heap->Prop):Prop:=Wp M1 (.run fi56 (atC (cd Tryz.f56) []) [(0,ratA f1 f2 r),(1,ratA g1 g2 s)] []) Q
def wdiv_r_at (f1 f2 g1 g2:Bool) (r s:Rat) (Q:AV->Heap->Prop):Prop:=Wp M1 (.run fi62 (atC (cd Tryz.f62) []) [(0,ratA f1 f2 r),(1,ratA g1 g2 s)] []) Q
def wdiv_s_at (f1 f2 g1 g2:Bool) (r s:Rat) (Q:AV->Heap->Prop):Prop:=Wp M1 (.run fi139 (atC (cd Tryz.f139) []) [(0,ratA f1 f2 r),(1,ratA g1 g2 s)] []) Q
def wneg_r_at (f1 f2:Bool) (r:Rat) (Q:AV->Heap->Prop):Prop:=Wp M1 (.run fi68 (atC (cd Tryz.f68) []) [(0,ratA f1 f2 r)] []) Q
def weq_s_at (f1 f2 g1 g2:Bool) (r s:Rat) (Q:AV->Heap->Prop):Prop:=Wp M1 (.run fi97 (atC (cd Tryz.f97) []) [(0,ratA f1 f2 r),(1,ratA g1 g2 s)] []) Q
def wz_p_at  (Q:AV->Heap->Prop):Prop:=Wp M1 (.run fi100 (atC (cd Tryz.f100) []) [] []) Q
def wz_q_at  (Q:AV->Heap->Prop):Prop:=Wp M1 (.run fi101 (atC (cd Tryz.f101) []) [] []) Q
theorem call52 {args:List AV} {d:AV} (h:wc M1 fi52 Tryz.f52 args d):Ev M1 (.pure 52 args) d []:=pcl _ _ (by kernel_rfl) h
theorem call53 {args:List AV} {d:AV} (h:wc M1 fi53 Tryz.f53 args d):Ev M1 (.pure 53 args) d []:=pcl _ _ (by kernel_rfl) h
theorem call56 {args:List AV} {d:AV} (h:wc M1 fi56 Tryz.f56 args d):Ev M1 (.pure 56 args) d []:=pcl _ _ (by kernel_rfl) h
theorem call59 {args:List AV} {d:AV} (h:wc M1 fi59 Tryz.f59 args d):Ev M1 (.pure 59 args) d []:=pcl _ _ (by kernel_rfl) h
theorem call60 {args:List AV} {d:AV} (h:wc M1 fi60 Tryz.f60 args d):Ev M1 (.pure 60 args) d []:=pcl _ _ (by kernel_rfl) h
theorem call62 {args:List AV} {d:AV} (h:wc M1 fi62 Tryz.f62 args d):Ev M1 (.pure 62 args) d []:=pcl _ _ (by kernel_rfl) h
theorem call68 {args:List AV} {d:AV} (h:wc M1 fi68 Tryz.f68 args d):Ev M1 (.pure 68 args) d []:=pcl _ _ (by kernel_rfl) h
theorem call77 {args:List AV} {d:AV} (h:wc M1 fi77 Tryz.f77 args d):Ev M1 (.pure 77 args) d []:=pcl _ _ (by kernel_rfl) h
theorem call83 {args:List AV} {d:AV} (h:wc M1 fi83 Tryz.f83 args d):Ev M1 (.pure 83 args) d []:=pcl _ _ (by kernel_rfl) h
theorem call97 {args:List AV} {d:AV} (h:wc M1 fi97 Tryz.f97 args d):Ev M1 (.pure 97 args) d []:=pcl _ _ (by kernel_rfl) h
theorem call98 {args:List AV} {d:AV} (h:wc M1 fi98 Tryz.f98 args d):Ev M1 (.pure 98 args) d []:=pcl _ _ (by kernel_rfl) h
theorem call100 {args:List AV} {d:AV} (h:wc M1 fi100 Tryz.f100 args d):Ev M1 (.pure 100 args) d []:=pcl _ _ (by kernel_rfl) h
theorem call101 {args:List AV} {d:AV} (h:wc M1 fi101 Tryz.f101 args d):Ev M1 (.pure 101 args) d []:=pcl _ _ (by kernel_rfl) h
theorem call137 {args:List AV} {d:AV} (h:wc M1 fi137 Tryz.f137 args d):Ev M1 (.pure 137 args) d []:=pcl _ _ (by kernel_rfl) h
theorem call138 {args:List AV} {d:AV} (h:wc M1 fi138 Tryz.f138 args d):Ev M1 (.pure 138 args) d []:=pcl _ _ (by kernel_rfl) h
theorem call139 {args:List AV} {d:AV} (h:wc M1 fi139 Tryz.f139 args d):Ev M1 (.pure 139 args) d []:=pcl _ _ (by kernel_rfl) h
theorem wadd_m (f1 f2 g1 g2:Bool) (r s:Rat)  (dq:AV) (H :
  (J.okR r/\J.okR s) /\
  Weak (ratF (r+s)) dq) :
 wadd_m_at f1 f2 g1 g2 r s (Zag dq):=by
 unfold wadd_m_at
 obtain ⟨k1,H⟩:=H
 exact Zah (G:=Zac kp77 [(1,2,.call (ratF (r+s)) none)] []) 1000 [] (ratF (r+s)) (by kernel_rfl) (bc rfl (bc rfl (bc rfl b0))) q0 (ce (@ev114 f1 f2 g1 g2 r s k1) c0) H
theorem wsub_m (f1 f2 g1 g2:Bool) (r s:Rat)  (dq:AV) (H :
  (J.okR r/\J.okR s) /\
  Weak (ratF (r-s)) dq) :
 wsub_m_at f1 f2 g1 g2 r s (Zag dq):=by
 unfold wsub_m_at
 obtain ⟨k1,H⟩:=H
 exact Zah (G:=Zac kp52 [(1,2,.call (ratF (r-s)) none)] []) 1000 [] (ratF (r-s)) (by kernel_rfl) (bc rfl (bc rfl (bc rfl b0))) q0 (ce (@ev94 f1 f2 g1 g2 r s k1) c0) H
theorem wmul_m (f1 f2 g1 g2:Bool) (r s:Rat)  (dq:AV) (H :
  (J.okR r/\J.okR s) /\
  Weak (ratF (r*s)) dq) :
 wmul_m_at f1 f2 g1 g2 r s (Zag dq):=by
 unfold wmul_m_at
 obtain ⟨k1,H⟩:=H
 exact Zah (G:=Zac kp53 [(1,2,.call (ratF (r*s)) none)] []) 1000 [] (ratF (r*s)) (by kernel_rfl) (bc rfl (bc rfl (bc rfl b0))) q0 (ce (@ev95 f1 f2 g1 g2 r s k1) c0) H
theorem wadd_s (f1 f2 g1 g2:Bool) (r s:Rat)  (dq:AV) (H :
  (J.okR r/\J.okR s) /\
  Weak (ratF (r+s)) dq) :
 wadd_s_at f1 f2 g1 g2 r s (Zag dq):=by
 unfold wadd_s_at
 obtain ⟨k1,H⟩:=H
 exact Zah (G:=Zac kp138 [(1,2,.call (ratF (r+s)) none)] []) 1000 [] (ratF (r+s)) (by kernel_rfl) (bc rfl (bc rfl (bc rfl b0))) q0 (ce (@ev114 f1 f2 g1 g2 r s k1) c0) H
theorem wsub_s (f1 f2 g1 g2:Bool) (r s:Rat)  (dq:AV) (H :
  (J.okR r/\J.okR s) /\
  Weak (ratF (r-s)) dq) :
 wsub_s_at f1 f2 g1 g2 r s (Zag dq):=by
 unfold wsub_s_at
 obtain ⟨k1,H⟩:=H
 exact Zah (G:=Zac kp137 [(1,2,.call (ratF (r-s)) none)] []) 1000 [] (ratF (r-s)) (by kernel_rfl) (bc rfl (bc rfl (bc rfl b0))) q0 (ce (@ev94 f1 f2 g1 g2 r s k1) c0) H
theorem wmul_s (f1 f2 g1 g2:Bool) (r s:Rat)  (dq:AV) (H :
  (J.okR r/\J.okR s) /\
  Weak (ratF (r*s)) dq) :
 wmul_s_at f1 f2 g1 g2 r s (Zag dq):=by
 unfold wmul_s_at
 obtain ⟨k1,H⟩:=H
 exact Zah (G:=Zac kp98 [(1,2,.call (ratF (r*s)) none)] []) 1000 [] (ratF (r*s)) (by kernel_rfl) (bc rfl (bc rfl (bc rfl b0))) q0 (ce (@ev95 f1 f2 g1 g2 r s k1) c0) H
theorem wadd_r (f1 f2 g1 g2:Bool) (r s:Rat)  (dq:AV) (H :
  (J.okR r/\J.okR s) /\
  Weak (ratF (r+s)) dq) :
 wadd_r_at f1 f2 g1 g2 r s (Zag dq):=by
 unfold wadd_r_at
 obtain ⟨k1,H⟩:=H
 exact Zah (G:=Zac kp83 [(1,2,.call (ratF (r+s)) none)] []) 1000 [] (ratF (r+s)) (by kernel_rfl) (bc rfl (bc rfl (bc rfl b0))) q0 (ce (@ev34 f1 f2 g1 g2 r s k1) c0) H
theorem wsub_r (f1 f2 g1 g2:Bool) (r s:Rat)  (dq:AV) (H :
  (J.okR r/\J.okR s) /\
  Weak (ratF (r-s)) dq) :
 wsub_r_at f1 f2 g1 g2 r s (Zag dq):=by
 unfold wsub_r_at
 obtain ⟨k1,H⟩:=H
 exact Zah (G:=Zac kp59 [(1,2,.call (ratF (r-s)) none)] []) 1000 [] (ratF (r-s)) (by kernel_rfl) (bc rfl (bc rfl (bc rfl b0))) q0 (ce (@ev28 f1 f2 g1 g2 r s k1) c0) H
theorem wmul_r (f1 f2 g1 g2:Bool) (r s:Rat)  (dq:AV) (H :
  (J.okR r/\J.okR s) /\
  Weak (ratF (r*s)) dq) :
 wmul_r_at f1 f2 g1 g2 r s (Zag dq):=by
 unfold wmul_r_at
 obtain ⟨k1,H⟩:=H
 exact Zah (G:=Zac kp60 [(1,2,.call (ratF (r*s)) none)] []) 1000 [] (ratF (r*s)) (by kernel_rfl) (bc rfl (bc rfl (bc rfl b0))) q0 (ce (@ev35 f1 f2 g1 g2 r s k1) c0) H
theorem wdiv_m (f1 f2 g1 g2:Bool) (r s:Rat)  (dq:AV) (H :
  (J.okR r/\J.okR s/\s.num ≠ 0) /\
  Weak (ratF (r / s)) dq) :
 wdiv_m_at f1 f2 g1 g2 r s (Zag dq):=by
 unfold wdiv_m_at
 obtain ⟨k1,H⟩:=H
 exact Zah (G:=Zac kp56 [(1,2,.call (tu [ratF (r / s),vi 0]) none)] []) 1000 [] (ratF (r / s)) (by kernel_rfl) (bc rfl (bc rfl (bc rfl (bc rfl (bc rfl b0))))) q0 (ce (@ev99 f1 f2 g1 g2 r s k1) c0) H
theorem wdiv_r (f1 f2 g1 g2:Bool) (r s:Rat)  (dq:AV) (H :
  (J.okR r/\J.okR s/\s.num ≠ 0) /\
  Weak (ratF (r / s)) dq) :
 wdiv_r_at f1 f2 g1 g2 r s (Zag dq):=by
 unfold wdiv_r_at
 obtain ⟨k1,H⟩:=H
 exact Zah (G:=Zac kp62 [(1,2,.call (tu [ratF (r / s),vi 0]) none)] []) 1000 [] (ratF (r / s)) (by kernel_rfl) (bc rfl (bc rfl (bc rfl (bc rfl (bc rfl b0))))) q0 (ce (@ev102 f1 f2 g1 g2 r s k1) c0) H
theorem wdiv_s (f1 f2 g1 g2:Bool) (r s:Rat)  (dq:AV) (H :
  (J.okR r/\J.okR s/\s.num ≠ 0) /\
  Weak (ratF (r / s)) dq) :
 wdiv_s_at f1 f2 g1 g2 r s (Zag dq):=by
 unfold wdiv_s_at
 obtain ⟨k1,H⟩:=H
 exact Zah (G:=Zac kp139 [(1,2,.call (tu [ratF (r / s),vi 0]) none)] []) 1000 [false] (ratF (r / s)) (by kernel_rfl) (bc rfl (bc rfl (bc rfl (bc rfl (bc rfl (bc rfl b0)))))) q0 (ce (@ev99 f1 f2 g1 g2 r s k1) c0) H
theorem wneg_r (f1 f2:Bool) (r:Rat)  (dq:AV) (H :
  (J.ok r.num) /\
  Weak (ratF (-r)) dq) :
 wneg_r_at f1 f2 r (Zag dq):=by
 unfold wneg_r_at
 obtain ⟨k1,H⟩:=H
 exact Zah (G:=Zac kp68 [(1,1,.call (ratF (-r)) none)] []) 1000 [] (ratF (-r)) (by kernel_rfl) (bc rfl (bc rfl b0)) q0 (ce (@ev82 f1 f2 r k1) c0) H
theorem weq_s (f1 f2 g1 g2:Bool) (r s:Rat)  (dq:AV) (H :
  (J.okR r/\J.okR s) /\
  vb (J.sgnI (r.num*(↑s.den:Int)-s.num*(↑r.den:Int))==0)=dq) :
 weq_s_at f1 f2 g1 g2 r s (Zag dq):=by
 unfold weq_s_at
 obtain ⟨k1,H⟩:=H
 exact Zaq (G:=Zac kp97 [(1,2,.call (vi (J.sgnI (r.num*(↑s.den:Int)-s.num*(↑r.den:Int)))) none)] []) 1000 [] (vb (J.sgnI (r.num*(↑s.den:Int)-s.num*(↑r.den:Int))==0)) (by kernel_rfl) (bc rfl (bc rfl b0)) q0 (ce (@ev110 f1 f2 g1 g2 r s k1) c0) H
theorem wz_p   (dq:AV) (H :
  (J.inI 0) /\
  Weak (ratF (J.qi 0)) dq) :
 wz_p_at  (Zag dq):=by
 unfold wz_p_at
 obtain ⟨k1,H⟩:=H
 exact Zah (G:=Zac kp100 [(1,0,.call (ratF (J.qi 0)) none)] []) 1000 [] (ratF (J.qi 0)) (by kernel_rfl) (bc rfl b0) q0 (ce (@ev75 0 k1) c0) H
theorem wz_q   (dq:AV) (H :
  (J.inI 0) /\
  Weak (ratF (J.qi 0)) dq) :
 wz_q_at  (Zag dq):=by
 unfold wz_q_at
 obtain ⟨k1,H⟩:=H
 exact Zah (G:=Zac kp101 [(1,0,.call (ratF (J.qi 0)) none)] []) 1000 [] (ratF (J.qi 0)) (by kernel_rfl) (bc rfl b0) q0 (ce (@ev84 0 k1) c0) H
end Go.Av

namespace Go.Av
open Go.Proofs
theorem ev77 (f1 f2 g1 g2:Bool) (r s:Rat) (h:J.okR r/\J.okR s):Ev M1 (.pure 77 [ratA f1 f2 r,ratA g1 g2 s]) (ratF (r+s)) []:=
 call77 (wadd_m _ _ _ _ _ _ _ ⟨h,.refl _⟩)
theorem ev52 (f1 f2 g1 g2:Bool) (r s:Rat) (h:J.okR r/\J.okR s):Ev M1 (.pure 52 [ratA f1 f2 r,ratA g1 g2 s]) (ratF (r-s)) []:=
 call52 (wsub_m _ _ _ _ _ _ _ ⟨h,.refl _⟩)
theorem ev53 (f1 f2 g1 g2:Bool) (r s:Rat) (h:J.okR r/\J.okR s):Ev M1 (.pure 53 [ratA f1 f2 r,ratA g1 g2 s]) (ratF (r*s)) []:=
 call53 (wmul_m _ _ _ _ _ _ _ ⟨h,.refl _⟩)
theorem ev138 (f1 f2 g1 g2:Bool) (r s:Rat) (h:J.okR r/\J.okR s):Ev M1 (.pure 138 [ratA f1 f2 r,ratA g1 g2 s]) (ratF (r+s)) []:=
 call138 (wadd_s _ _ _ _ _ _ _ ⟨h,.refl _⟩)
theorem ev137 (f1 f2 g1 g2:Bool) (r s:Rat) (h:J.okR r/\J.okR s):Ev M1 (.pure 137 [ratA f1 f2 r,ratA g1 g2 s]) (ratF (r-s)) []:=
 call137 (wsub_s _ _ _ _ _ _ _ ⟨h,.refl _⟩)
theorem ev98 (f1 f2 g1 g2:Bool) (r s:Rat) (h:J.okR r/\J.okR s):Ev M1 (.pure 98 [ratA f1 f2 r,ratA g1 g2 s]) (ratF (r*s)) []:=
 call98 (wmul_s _ _ _ _ _ _ _ ⟨h,.refl _⟩)
theorem ev83 (f1 f2 g1 g2:Bool) (r s:Rat) (h:J.okR r/\J.okR s):Ev M1 (.pure 83 [ratA f1 f2 r,ratA g1 g2 s]) (ratF (r+s)) []:=
 call83 (wadd_r _ _ _ _ _ _ _ ⟨h,.refl _⟩)
theorem ev59 (f1 f2 g1 g2:Bool) (r s:Rat) (h:J.okR r/\J.okR s):Ev M1 (.pure 59 [ratA f1 f2 r,ratA g1 g2 s]) (ratF (r-s)) []:=
 call59 (wsub_r _ _ _ _ _ _ _ ⟨h,.refl _⟩)
theorem ev60 (f1 f2 g1 g2:Bool) (r s:Rat) (h:J.okR r/\J.okR s):Ev M1 (.pure 60 [ratA f1 f2 r,ratA g1 g2 s]) (ratF (r*s)) []:=
 call60 (wmul_r _ _ _ _ _ _ _ ⟨h,.refl _⟩)
theorem ev56 (f1 f2 g1 g2:Bool) (r s:Rat) (h:J.okR r/\J.okR s/\s.num ≠ 0):Ev M1 (.pure 56 [ratA f1 f2 r,ratA g1 g2 s]) (ratF (r / s)) []:=
 call56 (wdiv_m _ _ _ _ _ _ _ ⟨h,.refl _⟩)
theorem ev62 (f1 f2 g1 g2:Bool) (r s:Rat) (h:J.okR r/\J.okR s/\s.num ≠ 0):Ev M1 (.pure 62 [ratA f1 f2 r,ratA g1 g2 s]) (ratF (r / s)) []:=
 call62 (wdiv_r _ _ _ _ _ _ _ ⟨h,.refl _⟩)
theorem ev139 (f1 f2 g1 g2:Bool) (r s:Rat) (h:J.okR r/\J.okR s/\s.num ≠ 0):Ev M1 (.pure 139 [ratA f1 f2 r,ratA g1 g2 s]) (ratF (r / s)) []:=
 call139 (wdiv_s _ _ _ _ _ _ _ ⟨h,.refl _⟩)
theorem cmp0 (r s:Rat):(J.sgnI (r.num*(s.den:Int)-s.num*(r.den:Int))==0)=decide (r=s):=by
 by_cases k:r=s
 ·rw [beq_iff_eq.2 (cross.2 k),decide_eq_true k]
 ·rw [decide_eq_false k]
  simpa using fun x=>k (cross.1 x)
theorem ev97 (f1 f2 g1 g2:Bool) (r s:Rat) (h:J.okR r/\J.okR s):Ev M1 (.pure 97 [ratA f1 f2 r,ratA g1 g2 s]) (.bool (decide (r=s))) []:=
 call97 (weq_s _ _ _ _ _ _ _ ⟨h,by rw [cmp0]⟩)
theorem ev68 (f1 f2:Bool) (r:Rat) (h:J.ok r.num):Ev M1 (.pure 68 [ratA f1 f2 r]) (ratF (-r)) []:=
 call68 (wneg_r _ _ _ _ ⟨h,.refl _⟩)
theorem ev100:Ev M1 (.pure 100 []) (ratF (J.qi 0)) []:=
 call100 (wz_p _ ⟨by unfold J.inI;omega,.refl _⟩)
theorem ev101:Ev M1 (.pure 101 []) (ratF (J.qi 0)) []:=
 call101 (wz_q _ ⟨by unfold J.inI;omega,.refl _⟩)
end Go.Av

namespace Go.Av
open Go.Proofs
set_option maxRecDepth 100000
def fi26:Fi:=⟨19,[.tmp 4]⟩
def kp26:List (Nat × List Nat):=[(0,[2,3]),(1,[4])]
def fi30:Fi:=⟨19,[.cell 6 26]⟩
def kp30:List (Nat × List Nat):=[(0,[3,4,5,6]),(1,[6])]
def fi55:Fi:=⟨42,[.tmp 4]⟩
def kp55:List (Nat × List Nat):=[(0,[2,3]),(1,[4])]
def fi57:Fi:=⟨11,[.cell 2 56]⟩
def kp57:List (Nat × List Nat):=[(0,[1,2]),(1,[2])]
def fi58:Fi:=⟨16,[.cell 4 26]⟩
def kp58:List (Nat × List Nat):=[(0,[2,3,4]),(1,[4])]
def fi61:Fi:=⟨11,[.cell 2 56]⟩
def kp61:List (Nat × List Nat):=[(0,[1,2]),(1,[2])]
def fi67:Fi:=⟨14,[.cell 2 26]⟩
def kp67:List (Nat × List Nat):=[(0,[1,2]),(1,[2])]
def fi72:Fi:=⟨24,[.tmp 4]⟩
def kp72:List (Nat × List Nat):=[(0,[2,3]),(1,[4])]
def fi73:Fi:=⟨19,[.tmp 4]⟩
def kp73:List (Nat × List Nat):=[(0,[2,3]),(1,[4])]
def fi103:Fi:=⟨49,[.cell 4 47]⟩
def kp103:List (Nat × List Nat):=[(0,[2,3,4]),(1,[2,3,4,5]),(2,[2,3,4,6]),(3,[4])]
def fi144:Fi:=⟨16,[.cell 2 56]⟩
def kp144:List (Nat × List Nat):=[(0,[1,2]),(1,[1,2,12]),(2,[1,2]),(3,[2])]
def fi146:Fi:=⟨21,[.cell 4 144]⟩
def kp146:List (Nat × List Nat):=[(0,[2,3,4]),(1,[4])]
def fi147:Fi:=⟨16,[.cell 6 98]⟩
def kp147:List (Nat × List Nat):=[(0,[3,4,5,6]),(1,[3,4,5,6,9]),(2,[6]),(3,[6])]
def fi167:Fi:=⟨42,[.tmp 6]⟩
def kp167:List (Nat × List Nat):=[(0,[3,4,5]),(1,[3,4,5,7,8]),(2,[3,4,5,7,8,26]),(3,[7,8,28]),(4,[6]),(5,[6]),(6,[6])]
def mFoot_at (f1 f2 f3 f4 f5 f6 g1 g2 g3 g4:Bool) (a b c x y:Rat) (Q:AV->Heap->Prop):Prop:=Wp M1 (.run fi103 (atC (cd Tryz.f103) []) [(0,Zar f1 f2 f3 f4 f5 f6 a b c),(1,.agg [.bool (J.Zaa x.num),.vec g1 1 ((J.Zab x.num).map (.int .u32)),.bool (J.Zaa (x.den:Int)),.vec g2 1 ((J.Zab (x.den:Int)).map (.int .u32)),.bool (J.Zaa y.num),.vec g3 1 ((J.Zab y.num).map (.int .u32)),.bool (J.Zaa (y.den:Int)),.vec g4 1 ((J.Zab (y.den:Int)).map (.int .u32))])] []) Q
def mSameL_at (f1 f2 f3 f4 f5 f6 g1 g2 g3 g4 g5 g6:Bool) (a b c x y z:Rat) (Q:AV->Heap->Prop):Prop:=Wp M1 (.run fi55 (atC (cd Tryz.f55) []) [(0,Zar f1 f2 f3 f4 f5 f6 a b c),(1,Zar g1 g2 g3 g4 g5 g6 x y z)] []) Q
def mSameC_at (f1 f2 f3 f4 f5 f6 g1 g2 g3 g4 g5 g6:Bool) (a b c x y z:Rat) (Q:AV->Heap->Prop):Prop:=Wp M1 (.run fi72 (atC (cd Tryz.f72) []) [(0,Zar f1 f2 f3 f4 f5 f6 a b c),(1,Zar g1 g2 g3 g4 g5 g6 x y z)] []) Q
def mAt_at (f1 f2 f3 f4:Bool) (x y:Rat) (Q:AV->Heap->Prop):Prop:=Wp M1 (.run fi57 (atC (cd Tryz.f57) []) [(0,.agg [.bool (J.Zaa x.num),.vec f1 1 ((J.Zab x.num).map (.int .u32)),.bool (J.Zaa (x.den:Int)),.vec f2 1 ((J.Zab (x.den:Int)).map (.int .u32)),.bool (J.Zaa y.num),.vec f3 1 ((J.Zab y.num).map (.int .u32)),.bool (J.Zaa (y.den:Int)),.vec f4 1 ((J.Zab (y.den:Int)).map (.int .u32))])] []) Q
def mRed_at (f1 f2 f3 f4 f5 f6 f7 f8 f9 f10:Bool) (ax bx ay by_ c:Rat) (Q:AV->Heap->Prop):Prop:=Wp M1 (.run fi144 (atC (cd Tryz.f144) []) [(0,.agg [.bool (J.Zaa ax.num),.vec f1 1 ((J.Zab ax.num).map (.int .u32)),.bool (J.Zaa (ax.den:Int)),.vec f2 1 ((J.Zab (ax.den:Int)).map (.int .u32)),.bool (J.Zaa bx.num),.vec f3 1 ((J.Zab bx.num).map (.int .u32)),.bool (J.Zaa (bx.den:Int)),.vec f4 1 ((J.Zab (bx.den:Int)).map (.int .u32)),.bool (J.Zaa ay.num),.vec f5 1 ((J.Zab ay.num).map (.int .u32)),.bool (J.Zaa (ay.den:Int)),.vec f6 1 ((J.Zab (ay.den:Int)).map (.int .u32)),.bool (J.Zaa by_.num),.vec f7 1 ((J.Zab by_.num).map (.int .u32)),.bool (J.Zaa (by_.den:Int)),.vec f8 1 ((J.Zab (by_.den:Int)).map (.int .u32)),.bool (J.Zaa c.num),.vec f9 1 ((J.Zab c.num).map (.int .u32)),.bool (J.Zaa (c.den:Int)),.vec f10 1 ((J.Zab (c.den:Int)).map (.int .u32))])] []) Q
def mConc_at (f1 f2 f3 f4 f5 f6 g1 g2 g3 g4 g5 g6:Bool) (a b c x y z:Rat) (Q:AV->Heap->Prop):Prop:=Wp M1 (.run fi73 (atC (cd Tryz.f73) []) [(0,Zar f1 f2 f3 f4 f5 f6 a b c),(1,Zar g1 g2 g3 g4 g5 g6 x y z)] []) Q
def rCross_at (f1 f2 f3 f4 f5 f6 g1 g2 g3 g4 g5 g6:Bool) (a b c x y z:Rat) (Q:AV->Heap->Prop):Prop:=Wp M1 (.run fi58 (atC (cd Tryz.f58) []) [(0,Zar f1 f2 f3 f4 f5 f6 a b c),(1,Zar g1 g2 g3 g4 g5 g6 x y z)] []) Q
def rNorm9_at (f1 f2 f3 f4 f5 f6:Bool) (a b c:Rat) (Q:AV->Heap->Prop):Prop:=Wp M1 (.run fi67 (atC (cd Tryz.f67) []) [(0,Zar f1 f2 f3 f4 f5 f6 a b c)] []) Q
def rVal9_at (f1 f2 f3 f4 f5 f6 g1 g2 g3 g4:Bool) (a b c x y:Rat) (Q:AV->Heap->Prop):Prop:=Wp M1 (.run fi30 (atC (cd Tryz.f30) []) [(0,Zar f1 f2 f3 f4 f5 f6 a b c),(1,ratA g1 g2 x),(2,ratA g3 g4 y)] []) Q
def rConc_at (f1 f2 f3 f4 f5 f6 g1 g2 g3 g4 g5 g6:Bool) (a b c x y z:Rat) (Q:AV->Heap->Prop):Prop:=Wp M1 (.run fi26 (atC (cd Tryz.f26) []) [(0,Zar f1 f2 f3 f4 f5 f6 a b c),(1,Zar g1 g2 g3 g4 g5 g6 x y z)] []) Q
def rAt_at (f1 f2 f3 f4:Bool) (x y:Rat) (Q:AV->Heap->Prop):Prop:=Wp M1 (.run fi61 (atC (cd Tryz.f61) []) [(0,.agg [.bool (J.Zaa x.num),.vec f1 1 ((J.Zab x.num).map (.int .u32)),.bool (J.Zaa (x.den:Int)),.vec f2 1 ((J.Zab (x.den:Int)).map (.int .u32)),.bool (J.Zaa y.num),.vec f3 1 ((J.Zab y.num).map (.int .u32)),.bool (J.Zaa (y.den:Int)),.vec f4 1 ((J.Zab (y.den:Int)).map (.int .u32))])] []) Q
def rCoord_at (f1 f2 f3 f4 f5 f6:Bool) (a b c:Rat) (Q:AV->Heap->Prop):Prop:=Wp M1 (.run fi147 (atC (cd Tryz.f147) []) [(0,ratA f1 f2 a),(1,ratA f3 f4 b),(2,ratA f5 f6 c)] []) Q
def rTwo_at (f1 f2 f3 f4 f5 f6:Bool) (a b c:Rat) (Q:AV->Heap->Prop):Prop:=Wp M1 (.run fi167 (atC (cd Tryz.f167) []) [(0,ratA f1 f2 a),(1,ratA f3 f4 b),(2,ratA f5 f6 c)] []) Q
def rSub5_at (f1 f2 f3 f4 f5 f6 g1 g2 g3 g4 g5 g6:Bool) (a b c x y z:Rat) (Q:AV->Heap->Prop):Prop:=Wp M1 (.run fi146 (atC (cd Tryz.f146) []) [(0,Zar f1 f2 f3 f4 f5 f6 a b c),(1,Zar g1 g2 g3 g4 g5 g6 x y z)] []) Q
theorem call26 {args:List AV} {d:AV} (h:wc M1 fi26 Tryz.f26 args d):Ev M1 (.pure 26 args) d []:=pcl _ _ (by kernel_rfl) h
theorem call30 {args:List AV} {d:AV} (h:wc M1 fi30 Tryz.f30 args d):Ev M1 (.pure 30 args) d []:=pcl _ _ (by kernel_rfl) h
theorem call55 {args:List AV} {d:AV} (h:wc M1 fi55 Tryz.f55 args d):Ev M1 (.pure 55 args) d []:=pcl _ _ (by kernel_rfl) h
theorem call57 {args:List AV} {d:AV} (h:wc M1 fi57 Tryz.f57 args d):Ev M1 (.pure 57 args) d []:=pcl _ _ (by kernel_rfl) h
theorem call58 {args:List AV} {d:AV} (h:wc M1 fi58 Tryz.f58 args d):Ev M1 (.pure 58 args) d []:=pcl _ _ (by kernel_rfl) h
theorem call61 {args:List AV} {d:AV} (h:wc M1 fi61 Tryz.f61 args d):Ev M1 (.pure 61 args) d []:=pcl _ _ (by kernel_rfl) h
theorem call67 {args:List AV} {d:AV} (h:wc M1 fi67 Tryz.f67 args d):Ev M1 (.pure 67 args) d []:=pcl _ _ (by kernel_rfl) h
theorem call72 {args:List AV} {d:AV} (h:wc M1 fi72 Tryz.f72 args d):Ev M1 (.pure 72 args) d []:=pcl _ _ (by kernel_rfl) h
theorem call73 {args:List AV} {d:AV} (h:wc M1 fi73 Tryz.f73 args d):Ev M1 (.pure 73 args) d []:=pcl _ _ (by kernel_rfl) h
theorem call103 {args:List AV} {d:AV} (h:wc M1 fi103 Tryz.f103 args d):Ev M1 (.pure 103 args) d []:=pcl _ _ (by kernel_rfl) h
theorem call144 {args:List AV} {d:AV} (h:wc M1 fi144 Tryz.f144 args d):Ev M1 (.pure 144 args) d []:=pcl _ _ (by kernel_rfl) h
theorem call146 {args:List AV} {d:AV} (h:wc M1 fi146 Tryz.f146 args d):Ev M1 (.pure 146 args) d []:=pcl _ _ (by kernel_rfl) h
theorem call147 {args:List AV} {d:AV} (h:wc M1 fi147 Tryz.f147 args d):Ev M1 (.pure 147 args) d []:=pcl _ _ (by kernel_rfl) h
theorem call167 {args:List AV} {d:AV} (h:wc M1 fi167 Tryz.f167 args d):Ev M1 (.pure 167 args) d []:=pcl _ _ (by kernel_rfl) h
theorem mFoot (f1 f2 f3 f4 f5 f6 g1 g2 g3 g4:Bool) (a b c x y:Rat)  (dq:AV) (H :
  (J.okR a/\J.okR x) /\
  (J.okR b/\J.okR y) /\
  (J.okR (a*x)/\J.okR (b*y)) /\
  (J.okR (a*x+b*y)/\J.okR c) /\
  (J.okR a/\J.okR a) /\
  (J.okR b/\J.okR b) /\
  (J.okR (a*a)/\J.okR (b*b)) /\
  (J.okR (a*x+b*y-c)/\J.okR (a*a+b*b)/\(a*a+b*b).num ≠ 0) /\
  (J.okR ((a*x+b*y-c) / (a*a+b*b))/\J.okR a) /\
  (J.okR x/\J.okR ((a*x+b*y-c) / (a*a+b*b)*a)) /\
  (J.okR ((a*x+b*y-c) / (a*a+b*b))/\J.okR b) /\
  (J.okR y/\J.okR ((a*x+b*y-c) / (a*a+b*b)*b)) /\
  Weak (ag [vb (J.Zaa (x-(a*x+b*y-c) / (a*a+b*b)*a).num),vf (us (J.Zab (x-(a*x+b*y-c) / (a*a+b*b)*a).num)),vb (J.Zaa (↑(x-(a*x+b*y-c) / (a*a+b*b)*a).den:Int)),vf (us (J.Zab (↑(x-(a*x+b*y-c) / (a*a+b*b)*a).den:Int))),vb (J.Zaa (y-(a*x+b*y-c) / (a*a+b*b)*b).num),vf (us (J.Zab (y-(a*x+b*y-c) / (a*a+b*b)*b).num)),vb (J.Zaa (↑(y-(a*x+b*y-c) / (a*a+b*b)*b).den:Int)),vf (us (J.Zab (↑(y-(a*x+b*y-c) / (a*a+b*b)*b).den:Int)))]) dq) :
 mFoot_at f1 f2 f3 f4 f5 f6 g1 g2 g3 g4 a b c x y (Zag dq):=by
 unfold mFoot_at
 obtain ⟨k1,k2,k3,k4,k5,k6,k7,k8,k9,k10,k11,k12,H⟩:=H
 exact Zah (G:=Zac kp103 [(1,4,.call (ratF (a*x)) none),(1,9,.call (ratF (b*y)) none),(1,10,.call (ratF (a*x+b*y)) none),(1,13,.call (ratF (a*x+b*y-c)) none),(2,5,.call (ratF (a*a)) none),(2,10,.call (ratF (b*b)) none),(2,11,.call (ratF (a*a+b*b)) none),(2,12,.call (ratF ((a*x+b*y-c) / (a*a+b*b))) none),(3,5,.call (ratF ((a*x+b*y-c) / (a*a+b*b)*a)) none),(3,6,.call (ratF (x-(a*x+b*y-c) / (a*a+b*b)*a)) none),(3,12,.call (ratF ((a*x+b*y-c) / (a*a+b*b)*b)) none),(3,13,.call (ratF (y-(a*x+b*y-c) / (a*a+b*b)*b)) none)] []) 1000 [] (ag [vb (J.Zaa (x-(a*x+b*y-c) / (a*a+b*b)*a).num),vf (us (J.Zab (x-(a*x+b*y-c) / (a*a+b*b)*a).num)),vb (J.Zaa (↑(x-(a*x+b*y-c) / (a*a+b*b)*a).den:Int)),vf (us (J.Zab (↑(x-(a*x+b*y-c) / (a*a+b*b)*a).den:Int))),vb (J.Zaa (y-(a*x+b*y-c) / (a*a+b*b)*b).num),vf (us (J.Zab (y-(a*x+b*y-c) / (a*a+b*b)*b).num)),vb (J.Zaa (↑(y-(a*x+b*y-c) / (a*a+b*b)*b).den:Int)),vf (us (J.Zab (↑(y-(a*x+b*y-c) / (a*a+b*b)*b).den:Int)))]) (by kernel_rfl) (bc rfl (bc rfl (bc rfl (bc rfl (bc rfl (bc rfl (bc rfl (bc rfl (bc rfl (bc rfl (bc rfl (bc rfl (bc rfl (bc rfl (bc rfl (bc rfl (bc rfl (bc rfl (bc rfl b0))))))))))))))))))) q0 (ce (@ev98 f1 f2 g1 g2 a x k1) (ce (@ev98 f3 f4 g3 g4 b y k2) (ce (@ev138 false false false false (a*x) (b*y) k3) (ce (@ev137 false false f5 f6 (a*x+b*y) c k4) (ce (@ev98 f1 f2 f1 f2 a a k5) (ce (@ev98 f3 f4 f3 f4 b b k6) (ce (@ev138 false false false false (a*a) (b*b) k7) (ce (@ev139 false false false false (a*x+b*y-c) (a*a+b*b) k8) (ce (@ev98 false false f1 f2 ((a*x+b*y-c) / (a*a+b*b)) a k9) (ce (@ev137 g1 g2 false false x ((a*x+b*y-c) / (a*a+b*b)*a) k10) (ce (@ev98 false false f3 f4 ((a*x+b*y-c) / (a*a+b*b)) b k11) (ce (@ev137 g3 g4 false false y ((a*x+b*y-c) / (a*a+b*b)*b) k12) c0)))))))))))) H
noncomputable abbrev zNmB1 (a:Rat) (y:Rat) (x:Rat) (b:Rat) (z:Rat) (c:Rat):=bif decide (a*y=x*b) then decide (a*z=x*c) else false
theorem mSameL (f1 f2 f3 f4 f5 f6 g1 g2 g3 g4 g5 g6:Bool) (a b c x y z:Rat)  (dq:AV) (H :
  (J.okR a/\J.okR y) /\
  (J.okR x/\J.okR b) /\
  (J.okR (a*y)/\J.okR (x*b)) /\
  ((a*y=x*b)->(J.okR a/\J.okR z)) /\
  ((a*y=x*b)->(J.okR x/\J.okR c)) /\
  ((a*y=x*b)->(J.okR (a*z)/\J.okR (x*c))) /\
  (((a*y=x*b)/\(a*z=x*c))->(J.okR b/\J.okR z)) /\
  (((a*y=x*b)/\(a*z=x*c))->(J.okR y/\J.okR c)) /\
  (((a*y=x*b)/\(a*z=x*c))->(J.okR (b*z)/\J.okR (y*c))) /\
  vb (bif bif decide (a*y=x*b) then decide (a*z=x*c) else false then decide (b*z=y*c) else false)=dq) :
 mSameL_at f1 f2 f3 f4 f5 f6 g1 g2 g3 g4 g5 g6 a b c x y z (Zag dq):=by
 unfold mSameL_at
 obtain ⟨k1,k2,k3,k5,k7,k9,k11,k13,k15,H⟩:=H
 exact Zaq (G:=Zac kp55 [(1,4,.call (ratF (a*y)) none),(1,9,.call (ratF (x*b)) none),(1,10,.call (vb (decide (a*y=x*b))) none),(1,16,.call (ratF (a*z)) none),(1,21,.call (ratF (x*c)) none),(1,22,.call (vb (decide (a*z=x*c))) none),(1,29,.call (ratF (b*z)) none),(1,34,.call (ratF (y*c)) none),(1,35,.call (vb (decide (b*z=y*c))) none)] []) 1000 [] (asm:=[true,true,true,true,!(decide (a*y=x*b)==true&&true)||true,!(decide (a*y=x*b)==true&&true)||true,!(decide (a*y=x*b)==true&&true)||true,!(decide (a*y=x*b)==true&&true)||true,!((zNmB1 a y x b z c)==true&&true)||true,!((zNmB1 a y x b z c)==true&&true)||true,!((zNmB1 a y x b z c)==true&&true)||true,!((zNmB1 a y x b z c)==true&&true)||true]) (calls:=[⟨true,false,98,[ratA f1 f2 a,ratA g3 g4 y],[],ratF (a*y),[]⟩,⟨true,false,98,[ratA g1 g2 x,ratA f3 f4 b],[],ratF (x*b),[]⟩,⟨true,false,97,[ratF (a*y),ratF (x*b)],[],vb (decide (a*y=x*b)),[]⟩,⟨decide (a*y=x*b)==true&&true&&true,false,98,[ratA f1 f2 a,ratA g5 g6 z],[],ratF (a*z),[]⟩,⟨decide (a*y=x*b)==true&&true&&true,false,98,[ratA g1 g2 x,ratA f5 f6 c],[],ratF (x*c),[]⟩,⟨decide (a*y=x*b)==true&&true&&true,false,97,[ratF (a*z),ratF (x*c)],[],vb (decide (a*z=x*c)),[]⟩,⟨(zNmB1 a y x b z c)==true&&true&&true,false,98,[ratA f3 f4 b,ratA g5 g6 z],[],ratF (b*z),[]⟩,⟨(zNmB1 a y x b z c)==true&&true&&true,false,98,[ratA g3 g4 y,ratA f5 f6 c],[],ratF (y*c),[]⟩,⟨(zNmB1 a y x b z c)==true&&true&&true,false,97,[ratF (b*z),ratF (y*c)],[],vb (decide (b*z=y*c)),[]⟩]) (vb (bif bif decide (a*y=x*b) then decide (a*z=x*c) else false then decide (b*z=y*c) else false)) (by kernel_rfl) (bc rfl (bc rfl (bc rfl (bc rfl (bc (Bool.or_true _) (bc (Bool.or_true _) (bc (Bool.or_true _) (bc (Bool.or_true _) (bc (Bool.or_true _) (bc (Bool.or_true _) (bc (Bool.or_true _) (bc (Bool.or_true _) b0)))))))))))) q0 (cc (fun _=>(@ev98 f1 f2 g3 g4 a y k1)) (cc (fun _=>(@ev98 g1 g2 f3 f4 x b k2)) (cc (fun _=>(@ev97 false false false false (a*y) (x*b) k3)) (cc (fun hc=>((@ev98 f1 f2 g5 g6 a z (k5 ((i_at (i_at (i_bt Zad))).1 hc))):Ev M1 (Conf.pure 98 [ratA f1 f2 a,ratA g5 g6 z]) (ratF (a*z)) [])) (cc (fun hc=>((@ev98 g1 g2 f5 f6 x c (k7 ((i_at (i_at (i_bt Zad))).1 hc))):Ev M1 (Conf.pure 98 [ratA g1 g2 x,ratA f5 f6 c]) (ratF (x*c)) [])) (cc (fun hc=>((@ev97 false false false false (a*z) (x*c) (k9 ((i_at (i_at (i_bt Zad))).1 hc))):Ev M1 (Conf.pure 97 [ratF (a*z),ratF (x*c)]) (vb (decide (a*z=x*c))) [])) (cc (fun hc=>((@ev98 f3 f4 g5 g6 b z (k11 ((i_at (i_at (i_bt (ZaI Zad Zad)))).1 hc))):Ev M1 (Conf.pure 98 [ratA f3 f4 b,ratA g5 g6 z]) (ratF (b*z)) [])) (cc (fun hc=>((@ev98 g3 g4 f5 f6 y c (k13 ((i_at (i_at (i_bt (ZaI Zad Zad)))).1 hc))):Ev M1 (Conf.pure 98 [ratA g3 g4 y,ratA f5 f6 c]) (ratF (y*c)) [])) (cc (fun hc=>((@ev97 false false false false (b*z) (y*c) (k15 ((i_at (i_at (i_bt (ZaI Zad Zad)))).1 hc))):Ev M1 (Conf.pure 97 [ratF (b*z),ratF (y*c)]) (vb (decide (b*z=y*c))) [])) c0))))))))) H
theorem mSameC (f1 f2 f3 f4 f5 f6 g1 g2 g3 g4 g5 g6:Bool) (a b c x y z:Rat)  (dq:AV) (H :
  (J.okR a/\J.okR x) /\
  ((a=x)->(J.okR b/\J.okR y)) /\
  (((a=x)/\(b=y))->(J.okR c/\J.okR z)) /\
  vb (bif bif decide (a=x) then decide (b=y) else false then decide (c=z) else false)=dq) :
 mSameC_at f1 f2 f3 f4 f5 f6 g1 g2 g3 g4 g5 g6 a b c x y z (Zag dq):=by
 unfold mSameC_at
 obtain ⟨k1,k3,k5,H⟩:=H
 exact Zaq (G:=Zac kp72 [(1,4,.call (vb (decide (a=x))) none),(1,10,.call (vb (decide (b=y))) none),(1,17,.call (vb (decide (c=z))) none)] []) 1000 [] (asm:=[true,true,!(decide (a=x)==true&&true)||true,!(decide (a=x)==true&&true)||true,!((bif decide (a=x) then decide (b=y) else false)==true&&true)||true,!((bif decide (a=x) then decide (b=y) else false)==true&&true)||true]) (calls:=[⟨true,false,97,[ratA f1 f2 a,ratA g1 g2 x],[],vb (decide (a=x)),[]⟩,⟨decide (a=x)==true&&true&&true,false,97,[ratA f3 f4 b,ratA g3 g4 y],[],vb (decide (b=y)),[]⟩,⟨(bif decide (a=x) then decide (b=y) else false)==true&&true&&true,false,97,[ratA f5 f6 c,ratA g5 g6 z],[],vb (decide (c=z)),[]⟩]) (vb (bif bif decide (a=x) then decide (b=y) else false then decide (c=z) else false)) (by kernel_rfl) (bc rfl (bc rfl (bc (Bool.or_true _) (bc (Bool.or_true _) (bc (Bool.or_true _) (bc (Bool.or_true _) b0)))))) q0 (cc (fun _=>(@ev97 f1 f2 g1 g2 a x k1)) (cc (fun hc=>((@ev97 f3 f4 g3 g4 b y (k3 ((i_at (i_at (i_bt Zad))).1 hc))):Ev M1 (Conf.pure 97 [ratA f3 f4 b,ratA g3 g4 y]) (vb (decide (b=y))) [])) (cc (fun hc=>((@ev97 f5 f6 g5 g6 c z (k5 ((i_at (i_at (i_bt (ZaI Zad Zad)))).1 hc))):Ev M1 (Conf.pure 97 [ratA f5 f6 c,ratA g5 g6 z]) (vb (decide (c=z))) [])) c0))) H
noncomputable abbrev zNmB2:=us (J.Zab (↑(J.qi 0).den:Int))
noncomputable abbrev zNmB3:=us (J.Zab (J.qi 0).num)
theorem mAt (f1 f2 f3 f4:Bool) (x y:Rat)  (dq:AV) (H :
  Weak (ag [vb (J.Zaa x.num),AV.vec f1 1 (us (J.Zab x.num)),vb (J.Zaa (↑x.den:Int)),AV.vec f2 1 (us (J.Zab (↑x.den:Int))),vb (J.Zaa (J.qi 0).num),vf (us (J.Zab (J.qi 0).num)),vb (J.Zaa (↑(J.qi 0).den:Int)),vf (us (J.Zab (↑(J.qi 0).den:Int))),vb (J.Zaa y.num),AV.vec f3 1 (us (J.Zab y.num)),vb (J.Zaa (↑y.den:Int)),AV.vec f4 1 (us (J.Zab (↑y.den:Int))),vb (J.Zaa (J.qi 0).num),vf (us (J.Zab (J.qi 0).num)),vb (J.Zaa (↑(J.qi 0).den:Int)),vf (us (J.Zab (↑(J.qi 0).den:Int))),vb (J.Zaa (J.qi 0).num),vf (us (J.Zab (J.qi 0).num)),vb (J.Zaa (↑(J.qi 0).den:Int)),vf (us (J.Zab (↑(J.qi 0).den:Int)))]) dq) :
 mAt_at f1 f2 f3 f4 x y (Zag dq):=by
 unfold mAt_at
 exact Zah (G:=Zac kp57 [(1,2,.call (ratF (J.qi 0)) none),(1,5,.call (ratF (J.qi 0)) none),(1,6,.call (ratF (J.qi 0)) none)] []) 1000 [] (ag [vb (J.Zaa x.num),AV.vec f1 1 (us (J.Zab x.num)),vb (J.Zaa (↑x.den:Int)),AV.vec f2 1 (us (J.Zab (↑x.den:Int))),vb (J.Zaa (J.qi 0).num),vf zNmB3,vb (J.Zaa (↑(J.qi 0).den:Int)),vf zNmB2,vb (J.Zaa y.num),AV.vec f3 1 (us (J.Zab y.num)),vb (J.Zaa (↑y.den:Int)),AV.vec f4 1 (us (J.Zab (↑y.den:Int))),vb (J.Zaa (J.qi 0).num),vf zNmB3,vb (J.Zaa (↑(J.qi 0).den:Int)),vf zNmB2,vb (J.Zaa (J.qi 0).num),vf zNmB3,vb (J.Zaa (↑(J.qi 0).den:Int)),vf zNmB2]) (by kernel_rfl) (bc rfl (bc rfl (bc rfl b0))) q0 (ce (@ev100 ) (ce (@ev100 ) (ce (@ev100 ) c0))) H
noncomputable abbrev zNmB4 (ax:Rat) (f1:Bool) (f2:Bool) (bx:Rat) (f3:Bool) (f4:Bool) (ay:Rat) (f5:Bool) (f6:Bool) (by_:Rat) (f7:Bool) (f8:Bool) (c:Rat) (f9:Bool) (f10:Bool):=ag [vb (J.Zaa ax.num),AV.vec f1 1 (us (J.Zab ax.num)),vb (J.Zaa (↑ax.den:Int)),AV.vec f2 1 (us (J.Zab (↑ax.den:Int))),vb (J.Zaa bx.num),AV.vec f3 1 (us (J.Zab bx.num)),vb (J.Zaa (↑bx.den:Int)),AV.vec f4 1 (us (J.Zab (↑bx.den:Int))),vb (J.Zaa ay.num),AV.vec f5 1 (us (J.Zab ay.num)),vb (J.Zaa (↑ay.den:Int)),AV.vec f6 1 (us (J.Zab (↑ay.den:Int))),vb (J.Zaa by_.num),AV.vec f7 1 (us (J.Zab by_.num)),vb (J.Zaa (↑by_.den:Int)),AV.vec f8 1 (us (J.Zab (↑by_.den:Int))),vb (J.Zaa c.num),AV.vec f9 1 (us (J.Zab c.num)),vb (J.Zaa (↑c.den:Int)),AV.vec f10 1 (us (J.Zab (↑c.den:Int)))]
theorem mRed (f1 f2 f3 f4 f5 f6 f7 f8 f9 f10:Bool) (ax bx ay by_ c:Rat)  (dq:AV) (H :
  (((J.sgnI bx.num=0)/\(J.sgnI by_.num=0))->Weak (ag [vb (J.Zaa ax.num),AV.vec f1 1 (us (J.Zab ax.num)),vb (J.Zaa (↑ax.den:Int)),AV.vec f2 1 (us (J.Zab (↑ax.den:Int))),vb (J.Zaa bx.num),AV.vec f3 1 (us (J.Zab bx.num)),vb (J.Zaa (↑bx.den:Int)),AV.vec f4 1 (us (J.Zab (↑bx.den:Int))),vb (J.Zaa ay.num),AV.vec f5 1 (us (J.Zab ay.num)),vb (J.Zaa (↑ay.den:Int)),AV.vec f6 1 (us (J.Zab (↑ay.den:Int))),vb (J.Zaa by_.num),AV.vec f7 1 (us (J.Zab by_.num)),vb (J.Zaa (↑by_.den:Int)),AV.vec f8 1 (us (J.Zab (↑by_.den:Int))),vb (J.Zaa (J.qi 0).num),vf (us (J.Zab (J.qi 0).num)),vb (J.Zaa (↑(J.qi 0).den:Int)),vf (us (J.Zab (↑(J.qi 0).den:Int)))]) dq) /\
  (¬((J.sgnI bx.num=0)/\(J.sgnI by_.num=0))->Weak (ag [vb (J.Zaa ax.num),AV.vec f1 1 (us (J.Zab ax.num)),vb (J.Zaa (↑ax.den:Int)),AV.vec f2 1 (us (J.Zab (↑ax.den:Int))),vb (J.Zaa bx.num),AV.vec f3 1 (us (J.Zab bx.num)),vb (J.Zaa (↑bx.den:Int)),AV.vec f4 1 (us (J.Zab (↑bx.den:Int))),vb (J.Zaa ay.num),AV.vec f5 1 (us (J.Zab ay.num)),vb (J.Zaa (↑ay.den:Int)),AV.vec f6 1 (us (J.Zab (↑ay.den:Int))),vb (J.Zaa by_.num),AV.vec f7 1 (us (J.Zab by_.num)),vb (J.Zaa (↑by_.den:Int)),AV.vec f8 1 (us (J.Zab (↑by_.den:Int))),vb (J.Zaa c.num),AV.vec f9 1 (us (J.Zab c.num)),vb (J.Zaa (↑c.den:Int)),AV.vec f10 1 (us (J.Zab (↑c.den:Int)))]) dq)) :
 mRed_at f1 f2 f3 f4 f5 f6 f7 f8 f9 f10 ax bx ay by_ c (Zag dq):=by
 unfold mRed_at
 refine Zae (G:=Zac kp144 [(1,2,.call (vi (J.sgnI bx.num)) none),(1,7,.call (vi (J.sgnI by_.num)) none)] []) 5 [] ⟨(atC (cd Tryz.f144) [1,0,1]),[(1,AV.ptr 0 0 0 0),(2,AV.ptr 1 0 0 0),(12,vb (bif J.sgnI bx.num==0 then J.sgnI by_.num==0 else false))],[⟨[(zNmB4 ax f1 f2 bx f3 f4 ay f5 f6 by_ f7 f8 c f9 f10)],20,0,false,false⟩,⟨[ag [vb false,AV.vnil,vb false,AV.vnil,vb false,AV.vnil,vb false,AV.vnil,vb false,AV.vnil,vb false,AV.vnil,vb false,AV.vnil,vb false,AV.vnil,vb false,AV.vnil,vb false,AV.vnil]],20,0,false,false⟩],[true,!((J.sgnI bx.num==0)==true&&true)||true],[],[⟨true,false,54,[ratA f3 f4 bx],[],vi (J.sgnI bx.num),[]⟩,⟨(J.sgnI bx.num==0)==true&&true&&true,false,54,[ratA f7 f8 by_],[],vi (J.sgnI by_.num),[]⟩]⟩ (by kernel_rfl) (bc rfl (bc (Bool.or_true _) b0)) q0 (cc (fun _=>(@ev54 f3 f4 (bx.num) ((↑bx.den:Int)))) (cc (fun hc=>((@ev54 f7 f8 (by_.num) ((↑by_.den:Int))):Ev M1 (Conf.pure 54 [ratA f7 f8 by_]) (vi (J.sgnI by_.num)) [])) c0)) ?_
 rcases xq H with ⟨d3,H⟩|⟨d3,H⟩
 ·exact Zah (G:=Zac kp144 [(2,0,.call (ratF (J.qi 0)) none)] []) 1000 [true] (asm:=[(bif J.sgnI bx.num==0 then J.sgnI by_.num==0 else false)==true,0==0,true,true]) (ag [vb (J.Zaa ax.num),AV.vec f1 1 (us (J.Zab ax.num)),vb (J.Zaa (↑ax.den:Int)),AV.vec f2 1 (us (J.Zab (↑ax.den:Int))),vb (J.Zaa bx.num),AV.vec f3 1 (us (J.Zab bx.num)),vb (J.Zaa (↑bx.den:Int)),AV.vec f4 1 (us (J.Zab (↑bx.den:Int))),vb (J.Zaa ay.num),AV.vec f5 1 (us (J.Zab ay.num)),vb (J.Zaa (↑ay.den:Int)),AV.vec f6 1 (us (J.Zab (↑ay.den:Int))),vb (J.Zaa by_.num),AV.vec f7 1 (us (J.Zab by_.num)),vb (J.Zaa (↑by_.den:Int)),AV.vec f8 1 (us (J.Zab (↑by_.den:Int))),vb (J.Zaa (J.qi 0).num),vf (us (J.Zab (J.qi 0).num)),vb (J.Zaa (↑(J.qi 0).den:Int)),vf (us (J.Zab (↑(J.qi 0).den:Int)))]) (by kernel_rfl) (bc (Zap ((ZaI i_eq i_eq).2 d3)) (bc (beq_self_eq_true _) (bc rfl (bc rfl b0)))) q0 (ce (@ev100 ) c0) H
 ·exact Zah (G:=Zac kp144 [] []) 1000 [false] ((zNmB4 ax f1 f2 bx f3 f4 ay f5 f6 by_ f7 f8 c f9 f10)) (by kernel_rfl) (bc (Zam (fun h=>d3 ((ZaI i_eq i_eq).1 h))) (bc rfl (bc rfl b0))) q0 c0 H
noncomputable abbrev zNmB5 (a:Rat) (x:Rat):=J.sgnI (a.num*(↑x.den:Int)-x.num*(↑a.den:Int))==0
theorem mConc (f1 f2 f3 f4 f5 f6 g1 g2 g3 g4 g5 g6:Bool) (a b c x y z:Rat)  (dq:AV) (H :
  (J.okR a/\J.okR x) /\
  ((J.sgnI (a.num*(↑x.den:Int)-x.num*(↑a.den:Int))=0)->(J.okR b/\J.okR y)) /\
  vb (bif J.sgnI (a.num*(↑x.den:Int)-x.num*(↑a.den:Int))==0 then J.sgnI (b.num*(↑y.den:Int)-y.num*(↑b.den:Int))==0 else false)=dq) :
 mConc_at f1 f2 f3 f4 f5 f6 g1 g2 g3 g4 g5 g6 a b c x y z (Zag dq):=by
 unfold mConc_at
 obtain ⟨k1,k3,H⟩:=H
 exact Zaq (G:=Zac kp73 [(1,4,.call (vi (J.sgnI (a.num*(↑x.den:Int)-x.num*(↑a.den:Int)))) none),(1,11,.call (vi (J.sgnI (b.num*(↑y.den:Int)-y.num*(↑b.den:Int)))) none)] []) 1000 [] (asm:=[true,true,!((zNmB5 a x)==true&&true)||true,!((zNmB5 a x)==true&&true)||true]) (calls:=[⟨true,false,110,[ratA f1 f2 a,ratA g1 g2 x],[],vi (J.sgnI (a.num*(↑x.den:Int)-x.num*(↑a.den:Int))),[]⟩,⟨(zNmB5 a x)==true&&true&&true,false,110,[ratA f3 f4 b,ratA g3 g4 y],[],vi (J.sgnI (b.num*(↑y.den:Int)-y.num*(↑b.den:Int))),[]⟩]) (vb (bif J.sgnI (a.num*(↑x.den:Int)-x.num*(↑a.den:Int))==0 then J.sgnI (b.num*(↑y.den:Int)-y.num*(↑b.den:Int))==0 else false)) (by kernel_rfl) (bc rfl (bc rfl (bc (Bool.or_true _) (bc (Bool.or_true _) b0)))) q0 (cc (fun _=>(@ev110 f1 f2 g1 g2 a x k1)) (cc (fun hc=>((@ev110 f3 f4 g3 g4 b y (k3 ((i_at (i_at (i_bt i_eq))).1 hc))):Ev M1 (Conf.pure 110 [ratA f3 f4 b,ratA g3 g4 y]) (vi (J.sgnI (b.num*(↑y.den:Int)-y.num*(↑b.den:Int)))) [])) c0)) H
theorem rCross (f1 f2 f3 f4 f5 f6 g1 g2 g3 g4 g5 g6:Bool) (a b c x y z:Rat)  (dq:AV) (H :
  (J.okR a/\J.okR y) /\
  (J.okR x/\J.okR b) /\
  (J.okR (a*y)/\J.okR (x*b)) /\
  Weak (ratF (a*y-x*b)) dq) :
 rCross_at f1 f2 f3 f4 f5 f6 g1 g2 g3 g4 g5 g6 a b c x y z (Zag dq):=by
 unfold rCross_at
 obtain ⟨k1,k2,k3,H⟩:=H
 exact Zah (G:=Zac kp58 [(1,4,.call (ratF (a*y)) none),(1,9,.call (ratF (x*b)) none),(1,10,.call (ratF (a*y-x*b)) none)] []) 1000 [] (ratF (a*y-x*b)) (by kernel_rfl) (bc rfl (bc rfl (bc rfl (bc rfl (bc rfl b0))))) q0 (ce (@ev60 f1 f2 g3 g4 a y k1) (ce (@ev60 g1 g2 f3 f4 x b k2) (ce (@ev59 false false false false (a*y) (x*b) k3) c0))) H
theorem rNorm9 (f1 f2 f3 f4 f5 f6:Bool) (a b c:Rat)  (dq:AV) (H :
  (J.okR a/\J.okR a) /\
  (J.okR b/\J.okR b) /\
  (J.okR (a*a)/\J.okR (b*b)) /\
  Weak (ratF (a*a+b*b)) dq) :
 rNorm9_at f1 f2 f3 f4 f5 f6 a b c (Zag dq):=by
 unfold rNorm9_at
 obtain ⟨k1,k2,k3,H⟩:=H
 exact Zah (G:=Zac kp67 [(1,4,.call (ratF (a*a)) none),(1,9,.call (ratF (b*b)) none),(1,10,.call (ratF (a*a+b*b)) none)] []) 1000 [] (ratF (a*a+b*b)) (by kernel_rfl) (bc rfl (bc rfl (bc rfl (bc rfl (bc rfl b0))))) q0 (ce (@ev60 f1 f2 f1 f2 a a k1) (ce (@ev60 f3 f4 f3 f4 b b k2) (ce (@ev83 false false false false (a*a) (b*b) k3) c0))) H
theorem rVal9 (f1 f2 f3 f4 f5 f6 g1 g2 g3 g4:Bool) (a b c x y:Rat)  (dq:AV) (H :
  (J.okR a/\J.okR x) /\
  (J.okR b/\J.okR y) /\
  (J.okR (a*x)/\J.okR (b*y)) /\
  (J.okR (a*x+b*y)/\J.okR c) /\
  Weak (ratF (a*x+b*y-c)) dq) :
 rVal9_at f1 f2 f3 f4 f5 f6 g1 g2 g3 g4 a b c x y (Zag dq):=by
 unfold rVal9_at
 obtain ⟨k1,k2,k3,k4,H⟩:=H
 exact Zah (G:=Zac kp30 [(1,3,.call (ratF (a*x)) none),(1,7,.call (ratF (b*y)) none),(1,8,.call (ratF (a*x+b*y)) none),(1,11,.call (ratF (a*x+b*y-c)) none)] []) 1000 [] (ratF (a*x+b*y-c)) (by kernel_rfl) (bc rfl (bc rfl (bc rfl (bc rfl (bc rfl (bc rfl b0)))))) q0 (ce (@ev60 f1 f2 g1 g2 a x k1) (ce (@ev60 f3 f4 g3 g4 b y k2) (ce (@ev83 false false false false (a*x) (b*y) k3) (ce (@ev59 false false f5 f6 (a*x+b*y) c k4) c0)))) H
noncomputable abbrev zNmB6 (a:Rat) (x:Rat):=J.sgnI (a.num*(↑x.den:Int)-x.num*(↑a.den:Int))==0
theorem rConc (f1 f2 f3 f4 f5 f6 g1 g2 g3 g4 g5 g6:Bool) (a b c x y z:Rat)  (dq:AV) (H :
  (J.okR a/\J.okR x) /\
  ((J.sgnI (a.num*(↑x.den:Int)-x.num*(↑a.den:Int))=0)->(J.okR b/\J.okR y)) /\
  vb (bif J.sgnI (a.num*(↑x.den:Int)-x.num*(↑a.den:Int))==0 then J.sgnI (b.num*(↑y.den:Int)-y.num*(↑b.den:Int))==0 else false)=dq) :
 rConc_at f1 f2 f3 f4 f5 f6 g1 g2 g3 g4 g5 g6 a b c x y z (Zag dq):=by
 unfold rConc_at
 obtain ⟨k1,k3,H⟩:=H
 exact Zaq (G:=Zac kp26 [(1,4,.call (vi (J.sgnI (a.num*(↑x.den:Int)-x.num*(↑a.den:Int)))) none),(1,11,.call (vi (J.sgnI (b.num*(↑y.den:Int)-y.num*(↑b.den:Int)))) none)] []) 1000 [] (asm:=[true,true,!((zNmB6 a x)==true&&true)||true,!((zNmB6 a x)==true&&true)||true]) (calls:=[⟨true,false,74,[ratA f1 f2 a,ratA g1 g2 x],[],vi (J.sgnI (a.num*(↑x.den:Int)-x.num*(↑a.den:Int))),[]⟩,⟨(zNmB6 a x)==true&&true&&true,false,74,[ratA f3 f4 b,ratA g3 g4 y],[],vi (J.sgnI (b.num*(↑y.den:Int)-y.num*(↑b.den:Int))),[]⟩]) (vb (bif J.sgnI (a.num*(↑x.den:Int)-x.num*(↑a.den:Int))==0 then J.sgnI (b.num*(↑y.den:Int)-y.num*(↑b.den:Int))==0 else false)) (by kernel_rfl) (bc rfl (bc rfl (bc (Bool.or_true _) (bc (Bool.or_true _) b0)))) q0 (cc (fun _=>(@ev74 f1 f2 g1 g2 a x k1)) (cc (fun hc=>((@ev74 f3 f4 g3 g4 b y (k3 ((i_at (i_at (i_bt i_eq))).1 hc))):Ev M1 (Conf.pure 74 [ratA f3 f4 b,ratA g3 g4 y]) (vi (J.sgnI (b.num*(↑y.den:Int)-y.num*(↑b.den:Int)))) [])) c0)) H
noncomputable abbrev zNmB7:=us (J.Zab (↑(J.qi 0).den:Int))
noncomputable abbrev zNmB8:=us (J.Zab (J.qi 0).num)
theorem rAt (f1 f2 f3 f4:Bool) (x y:Rat)  (dq:AV) (H :
  Weak (ag [vb (J.Zaa x.num),AV.vec f1 1 (us (J.Zab x.num)),vb (J.Zaa (↑x.den:Int)),AV.vec f2 1 (us (J.Zab (↑x.den:Int))),vb (J.Zaa (J.qi 0).num),vf (us (J.Zab (J.qi 0).num)),vb (J.Zaa (↑(J.qi 0).den:Int)),vf (us (J.Zab (↑(J.qi 0).den:Int))),vb (J.Zaa y.num),AV.vec f3 1 (us (J.Zab y.num)),vb (J.Zaa (↑y.den:Int)),AV.vec f4 1 (us (J.Zab (↑y.den:Int))),vb (J.Zaa (J.qi 0).num),vf (us (J.Zab (J.qi 0).num)),vb (J.Zaa (↑(J.qi 0).den:Int)),vf (us (J.Zab (↑(J.qi 0).den:Int))),vb (J.Zaa (J.qi 0).num),vf (us (J.Zab (J.qi 0).num)),vb (J.Zaa (↑(J.qi 0).den:Int)),vf (us (J.Zab (↑(J.qi 0).den:Int)))]) dq) :
 rAt_at f1 f2 f3 f4 x y (Zag dq):=by
 unfold rAt_at
 exact Zah (G:=Zac kp61 [(1,2,.call (ratF (J.qi 0)) none),(1,5,.call (ratF (J.qi 0)) none),(1,6,.call (ratF (J.qi 0)) none)] []) 1000 [] (ag [vb (J.Zaa x.num),AV.vec f1 1 (us (J.Zab x.num)),vb (J.Zaa (↑x.den:Int)),AV.vec f2 1 (us (J.Zab (↑x.den:Int))),vb (J.Zaa (J.qi 0).num),vf zNmB8,vb (J.Zaa (↑(J.qi 0).den:Int)),vf zNmB7,vb (J.Zaa y.num),AV.vec f3 1 (us (J.Zab y.num)),vb (J.Zaa (↑y.den:Int)),AV.vec f4 1 (us (J.Zab (↑y.den:Int))),vb (J.Zaa (J.qi 0).num),vf zNmB8,vb (J.Zaa (↑(J.qi 0).den:Int)),vf zNmB7,vb (J.Zaa (J.qi 0).num),vf zNmB8,vb (J.Zaa (↑(J.qi 0).den:Int)),vf zNmB7]) (by kernel_rfl) (bc rfl (bc rfl (bc rfl b0))) q0 (ce (@ev101 ) (ce (@ev101 ) (ce (@ev101 ) c0))) H
theorem rCoord (f1 f2 f3 f4 f5 f6:Bool) (a b c:Rat)  (dq:AV) (H :
  ((J.sgnI b.num=0)->Weak (ZaH a (J.qi 0) (J.qi 0)) dq) /\
  (¬(J.sgnI b.num=0)->Weak (Zar f1 f2 f3 f4 f5 f6 a b c) dq)) :
 rCoord_at f1 f2 f3 f4 f5 f6 a b c (Zag dq):=by
 unfold rCoord_at
 refine Zae (G:=Zac kp147 [(1,1,.call (vi (J.sgnI b.num)) none)] []) 5 [] ⟨(atC (cd Tryz.f147) [1,0,1]),[(3,AV.ptr 0 0 0 0),(4,AV.ptr 1 0 0 0),(5,AV.ptr 2 0 0 0),(6,AV.ptr 3 0 0 0),(9,vb (J.sgnI b.num==0))],[⟨[ratA f1 f2 a],4,0,false,false⟩,⟨[ratA f3 f4 b],4,0,false,false⟩,⟨[ratA f5 f6 c],4,0,false,false⟩,⟨[ag [vb false,AV.vnil,vb false,AV.vnil,vb false,AV.vnil,vb false,AV.vnil,vb false,AV.vnil,vb false,AV.vnil]],12,0,false,false⟩],_,[],_⟩ (by kernel_rfl) (bc rfl b0) q0 (ce (@ev20 f3 f4 (b.num) ((↑b.den:Int))) c0) ?_
 rcases xq H with ⟨d2,H⟩|⟨d2,H⟩
 ·exact Zah (G:=Zac kp147 [(2,1,.call (ZaH a (J.qi 0) (J.qi 0)) none)] []) 1000 [true] (ZaH a (J.qi 0) (J.qi 0)) (by kernel_rfl) (bc (Zap (i_eq.2 d2)) (bc rfl (bc rfl b0))) q0 (ce (@ev155 f1 f2 a) c0) H
 ·exact Zah (G:=Zac kp147 [] []) 1000 [false] (Zar f1 f2 f3 f4 f5 f6 a b c) (by kernel_rfl) (bc (Zam (fun h=>d2 (i_eq.1 h))) (bc rfl (bc rfl (bc rfl (bc rfl b0))))) q0 c0 H
theorem rTwo (f1 f2 f3 f4 f5 f6:Bool) (a b c:Rat)  (dq:AV) (H :
  (-9223372036854775808<=J.sgnI b.num*J.sgnI c.num/\J.sgnI b.num*J.sgnI c.num<=9223372036854775807) /\
  ((((J.sgnI a.num=0)\/(J.sgnI b.num*J.sgnI c.num=0))\/(J.sgnI a.num=J.sgnI b.num*J.sgnI c.num))->((J.sgnI a.num=0)->vi (J.sgnI b.num*J.sgnI c.num)=dq) /\
   (¬(J.sgnI a.num=0)->vi (J.sgnI a.num)=dq)) /\
  (¬(((J.sgnI a.num=0)\/(J.sgnI b.num*J.sgnI c.num=0))\/(J.sgnI a.num=J.sgnI b.num*J.sgnI c.num))->(J.okR a/\J.okR a) /\
   (J.okR b/\J.okR b) /\
   (J.okR (b*b)/\J.okR c) /\
   (J.okR (a*a)/\J.okR (b*b*c)) /\
   (-9223372036854775808<=J.sgnI a.num*J.sgnI ((a*a).num*(↑(b*b*c).den:Int)-(b*b*c).num*(↑(a*a).den:Int))/\J.sgnI a.num*J.sgnI ((a*a).num*(↑(b*b*c).den:Int)-(b*b*c).num*(↑(a*a).den:Int))<=9223372036854775807) /\
   vi (J.sgnI a.num*J.sgnI ((a*a).num*(↑(b*b*c).den:Int)-(b*b*c).num*(↑(a*a).den:Int)))=dq)) :
 rTwo_at f1 f2 f3 f4 f5 f6 a b c (Zag dq):=by
 unfold rTwo_at
 obtain ⟨k1,H⟩:=H
 have w2:wi (J.sgnI b.num*J.sgnI c.num)=J.sgnI b.num*J.sgnI c.num:=wI64 k1
 have i3:(bif bif J.sgnI a.num==0 then true else wi (J.sgnI b.num*J.sgnI c.num)==0 then true else J.sgnI a.num==wi (J.sgnI b.num*J.sgnI c.num))=true ↔ (((J.sgnI a.num=0)\/(J.sgnI b.num*J.sgnI c.num=0))\/(J.sgnI a.num=J.sgnI b.num*J.sgnI c.num)):=(by (try rw [w2]);all_goals exact (Za4 (Za4 i_eq i_eq) i_eq))
 refine Zae (G:=Zac kp167 [(1,1,.call (vi (J.sgnI a.num)) none),(1,3,.call (vi (J.sgnI b.num)) none),(1,5,.call (vi (J.sgnI c.num)) none)] []) 7 [] ⟨(atC (cd Tryz.f167) [1,1,0,1]),[(3,AV.ptr 0 0 0 0),(4,AV.ptr 1 0 0 0),(5,AV.ptr 2 0 0 0),(7,vi (J.sgnI a.num)),(8,vi (wi (J.sgnI b.num*J.sgnI c.num))),(26,vb (bif bif J.sgnI a.num==0 then true else wi (J.sgnI b.num*J.sgnI c.num)==0 then true else J.sgnI a.num==wi (J.sgnI b.num*J.sgnI c.num)))],[⟨[ratA f1 f2 a],4,0,false,false⟩,⟨[ratA f3 f4 b],4,0,false,false⟩,⟨[ratA f5 f6 c],4,0,false,false⟩],_,[],_⟩ (by kernel_rfl) (bc rfl (bc rfl (bc rfl b0))) q0 (ce (@ev20 f1 f2 (a.num) ((↑a.den:Int))) (ce (@ev20 f3 f4 (b.num) ((↑b.den:Int))) (ce (@ev20 f5 f6 (c.num) ((↑c.den:Int))) c0))) ?_
 rcases xq H with ⟨d4,H⟩|⟨d4,H⟩
 ·rcases xq H with ⟨d6,H⟩|⟨d6,H⟩
  ·exact Zaq (G:=Zac kp167 [] []) 1000 [true,true] (vi (wi (J.sgnI b.num*J.sgnI c.num))) (by kernel_rfl) (bc (Zap (i3.2 d4)) (bc (Zap (i_eq.2 d6)) b0)) q0 c0 (by (try rw [w2]);all_goals exact H)
  ·exact Zaq (G:=Zac kp167 [] []) 1000 [true,false] (vi (J.sgnI a.num)) (by kernel_rfl) (bc (Zap (i3.2 d4)) (bc (Zam (fun h=>d6 (i_eq.1 h))) b0)) q0 c0 H
 ·obtain ⟨k7,k8,k9,k10,k11,H⟩:=H
  have w12:wi (J.sgnI a.num*J.sgnI ((a*a).num*(↑(b*b*c).den:Int)-(b*b*c).num*(↑(a*a).den:Int)))=J.sgnI a.num*J.sgnI ((a*a).num*(↑(b*b*c).den:Int)-(b*b*c).num*(↑(a*a).den:Int)):=wI64 k11
  exact Zaq (G:=Zac kp167 [(6,3,.call (ratF (a*a)) none),(6,6,.call (ratF (b*b)) none),(6,8,.call (ratF (b*b*c)) none),(6,9,.call (vi (J.sgnI ((a*a).num*(↑(b*b*c).den:Int)-(b*b*c).num*(↑(a*a).den:Int)))) none)] []) 1000 [false] (vi (wi (J.sgnI a.num*J.sgnI ((a*a).num*(↑(b*b*c).den:Int)-(b*b*c).num*(↑(a*a).den:Int))))) (by kernel_rfl) (bc (Zam (fun h=>d4 (i3.1 h))) (bc rfl (bc rfl (bc rfl (bc rfl (bc rfl b0)))))) q0 (ce (@ev35 f1 f2 f1 f2 a a k7) (ce (@ev35 f3 f4 f3 f4 b b k8) (ce (@ev35 false false f5 f6 (b*b) c k9) (ce (@ev74 false false false false (a*a) (b*b*c) k10) c0)))) (by (try rw [w12]);all_goals exact H)
theorem rSub5 (f1 f2 f3 f4 f5 f6 g1 g2 g3 g4 g5 g6:Bool) (a b c x y z:Rat)  (dq:AV) (H :
  (J.okR a/\J.okR x) /\
  (J.ok y.num) /\
  (J.inI 0) /\
  Weak (ag [vb (J.Zaa (a-x).num),vf (us (J.Zab (a-x).num)),vb (J.Zaa (↑(a-x).den:Int)),vf (us (J.Zab (↑(a-x).den:Int))),vb (J.Zaa b.num),AV.vec f3 1 (us (J.Zab b.num)),vb (J.Zaa (↑b.den:Int)),AV.vec f4 1 (us (J.Zab (↑b.den:Int))),vb (J.Zaa (-y).num),vf (us (J.Zab (-y).num)),vb (J.Zaa (↑(-y).den:Int)),vf (us (J.Zab (↑(-y).den:Int))),vb (J.Zaa (J.qi 0).num),vf (us (J.Zab (J.qi 0).num)),vb (J.Zaa (↑(J.qi 0).den:Int)),vf (us (J.Zab (↑(J.qi 0).den:Int))),vb (J.Zaa c.num),AV.vec f5 1 (us (J.Zab c.num)),vb (J.Zaa (↑c.den:Int)),AV.vec f6 1 (us (J.Zab (↑c.den:Int))),vb (J.Zaa z.num),AV.vec g5 1 (us (J.Zab z.num)),vb (J.Zaa (↑z.den:Int)),AV.vec g6 1 (us (J.Zab (↑z.den:Int)))]) dq) :
 rSub5_at f1 f2 f3 f4 f5 f6 g1 g2 g3 g4 g5 g6 a b c x y z (Zag dq):=by
 unfold rSub5_at
 obtain ⟨k1,k2,k3,H⟩:=H
 exact Zah (G:=Zac kp146 [(1,4,.call (ratF (a-x)) none),(1,9,.call (ratF (-y)) none),(1,10,.call (ratF (J.qi 0)) none)] []) 1000 [] (ag [vb (J.Zaa (a-x).num),vf (us (J.Zab (a-x).num)),vb (J.Zaa (↑(a-x).den:Int)),vf (us (J.Zab (↑(a-x).den:Int))),vb (J.Zaa b.num),AV.vec f3 1 (us (J.Zab b.num)),vb (J.Zaa (↑b.den:Int)),AV.vec f4 1 (us (J.Zab (↑b.den:Int))),vb (J.Zaa (-y).num),vf (us (J.Zab (-y).num)),vb (J.Zaa (↑(-y).den:Int)),vf (us (J.Zab (↑(-y).den:Int))),vb (J.Zaa (J.qi 0).num),vf (us (J.Zab (J.qi 0).num)),vb (J.Zaa (↑(J.qi 0).den:Int)),vf (us (J.Zab (↑(J.qi 0).den:Int))),vb (J.Zaa c.num),AV.vec f5 1 (us (J.Zab c.num)),vb (J.Zaa (↑c.den:Int)),AV.vec f6 1 (us (J.Zab (↑c.den:Int))),vb (J.Zaa z.num),AV.vec g5 1 (us (J.Zab z.num)),vb (J.Zaa (↑z.den:Int)),AV.vec g6 1 (us (J.Zab (↑z.den:Int)))]) (by kernel_rfl) (bc rfl (bc rfl (bc rfl (bc rfl (bc rfl (bc rfl (bc rfl b0))))))) q0 (ce (@ev28 f1 f2 g1 g2 a x k1) (ce (@ev82 g3 g4 y k2) (ce (@ev84 0 k3) c0))) H
end Go.Av

namespace Go.Av
open Go.Proofs
end Go.Av

namespace Go.Av
open Go.Proofs
theorem Zcr:J.okT 1 (J.qi 0):=by rw [qi_zero];exact okT_zero
theorem okT_rad {k:Nat} {b c:Rat} (hc:J.okT k c):J.okT (k+1) (J.rad b c):=by
 unfold J.rad
 split
 ·exact Zas Zcr (by omega)
 ·exact Zas hc (by omega)
theorem okT_mkC {k:Nat} {b c:Rat} (hc:J.okT k c):J.okT (k+1) (J.mkC b c):=by
 unfold J.mkC
 split
 ·exact Zas Zcr (by omega)
 ·exact okT_rad hc
end Go.Av

namespace Go.Av
open Go.Proofs
theorem num_lt {r:Rat}:r.num<0 ↔ r<0:=by
 have h:=@Rat.num_nonneg r
 constructor
 ·intro k
  apply Classical.byContradiction
  intro n
  have:0<=r:=by grind
  have:=h.2 this
  omega
 ·intro k
  apply Classical.byContradiction
  intro n
  have:0<=r:=h.1 (by omega)
  grind
theorem num_gt {r:Rat}:0<r.num ↔ 0<r:=by
 have h:=@num_lt r
 have h0:=@Rat.num_eq_zero r
 constructor
 ·intro k
  have h1:¬r<0:=fun x=>by have:=h.2 x;omega
  have h2:r ≠ 0:=fun x=>by have:=h0.2 x;omega
  grind
 ·intro k
  have h1:¬r.num<0:=fun x=>by have:=h.1 x;grind
  have h2:r.num ≠ 0:=fun x=>by have:=h0.1 x;grind
  omega
theorem Zbe {r:Rat} (h:0<r):J.sgR r=1:=by
 have:=num_gt.2 h
 unfold J.sgR J.sgnI;rw [if_neg (by omega),if_pos this]
theorem ZbG {r:Rat} (h:r<0):J.sgR r = -1:=by
 have:=num_lt.2 h
 unfold J.sgR J.sgnI;rw [if_pos this]
theorem ZaY:J.sgR 0=0:=rfl
theorem tri (r:Rat):r<0\/r=0\/0<r:=by grind
theorem Zda {r:Rat}:(J.sgR r=1 ↔ 0<r)/\(J.sgR r=0 ↔ r=0)/\(J.sgR r = -1 ↔ r<0):=by
 rcases tri r with h | h | h
 ·rw [ZbG h]
  exact ⟨⟨fun x=>absurd x (by decide),fun x=>by grind⟩,⟨fun x=>absurd x (by decide),fun x=>by grind⟩,⟨fun _=>h,fun _=>rfl⟩⟩
 ·subst h
  exact ⟨⟨fun x=>absurd x (by decide),fun x=>by grind⟩,⟨fun _=>rfl,fun _=>rfl⟩,⟨fun x=>absurd x (by decide),fun x=>by grind⟩⟩
 ·rw [Zbe h]
  exact ⟨⟨fun _=>h,fun _=>rfl⟩,⟨fun x=>absurd x (by decide),fun x=>by grind⟩,⟨fun x=>absurd x (by decide),fun x=>by grind⟩⟩
theorem Zes {p q:Rat} (h1:0<p) (h2:0<q):0<p*q:=Rat.mul_pos h1 h2
theorem mul_nn {p q:Rat} (h1:p<0) (h2:q<0):0<p*q:=by
 have:=Rat.mul_pos (show 0 < -p by grind) (show 0 < -q by grind)
 grind
theorem mul_pn {p q:Rat} (h1:0<p) (h2:q<0):p*q<0:=by
 have:=Rat.mul_pos h1 (show 0 < -q by grind)
 grind
theorem mul_np {p q:Rat} (h1:p<0) (h2:0<q):p*q<0:=by
 have:=Rat.mul_pos (show 0 < -p by grind) h2
 grind
theorem Zgp (p q:Rat):J.sgR (p*q)=J.sgR p*J.sgR q:=by
 rcases tri p with h | h | h
 ·rcases tri q with k | k | k
  ·rw [ZbG h,ZbG k,Zbe (mul_nn h k)];rfl
  ·subst k;rw [Rat.mul_zero,ZaY,Int.mul_zero]
  ·rw [ZbG h,Zbe k,ZbG (mul_np h k)];rfl
 ·subst h;rw [Rat.zero_mul,ZaY,Int.zero_mul]
 ·rcases tri q with k | k | k
  ·rw [Zbe h,ZbG k,ZbG (mul_pn h k)];rfl
  ·subst k;rw [Rat.mul_zero,ZaY,Int.mul_zero]
  ·rw [Zbe h,Zbe k,Zbe (Zes h k)];rfl
theorem sq_nn (a:Rat):0<=a*a:=by
 rcases tri a with h | h | h
 ·have:=mul_nn h h;grind
 ·subst h;grind
 ·have:=Zes h h;grind
theorem sq_pos {a:Rat} (h:a ≠ 0):0<a*a:=by
 rcases tri a with k | k | k
 ·exact mul_nn k k
 ·exact absurd k h
 ·exact Zes k k
theorem mul_ge {p q:Rat} (h1:0<=p) (h2:0<=q):0<=p*q:=Rat.mul_nonneg h1 h2
end Go.Av

namespace Go.Av
open Go.Proofs
structure Pnt where
 ax:Rat
 bx:Rat
 ay:Rat
 by_:Rat
 c:Rat
noncomputable instance:Inhabited Pnt:=⟨⟨0,0,0,0,0⟩⟩
namespace J
noncomputable def sg2 (a b m:Rat):Int:=if sgR a=0\/sgR b*sgR m=0\/sgR a=sgR b*sgR m then (if sgR a=0 then sgR b*sgR m else sgR a) else sgR a*sgR (a*a-b*b*m)
noncomputable def sgQ (a b c d m n:Rat):Int:=
 if sgR m<0\/sgR n<0 then 0
 else if sg2 a b m=0\/sg2 c d m*sgR n=0\/sg2 a b m=sg2 c d m*sgR n then (if sg2 a b m=0 then sg2 c d m*sgR n else sg2 a b m)
 else sg2 a b m*sg2 (a*a+b*b*m-n*(c*c+d*d*m)) (a*b-n*(c*d)+(a*b-n*(c*d))) m
noncomputable def Zh1 (a b c x y z:Rat):Int:=sgQ (a-x) b (-y) (qi 0) c z
noncomputable def Ze9 (p q:Pnt):Int:=
 if Zh1 p.ax p.bx (rad p.bx p.c) q.ax q.bx (rad q.bx q.c)=0 then Zh1 p.ay p.by_ (rad p.by_ p.c) q.ay q.by_ (rad q.by_ q.c) else Zh1 p.ax p.bx (rad p.bx p.c) q.ax q.bx (rad q.bx q.c)
def sameP (p q:Pnt):Prop:=(p.ax=q.ax/\sgR p.bx=sgR q.bx/\p.bx*p.bx*p.c=q.bx*q.bx*q.c/\(p.bx ≠ 0->0<p.c/\0<q.c))/\p.ay=q.ay/\sgR p.by_=sgR q.by_/\p.by_*p.by_*p.c=q.by_*q.by_*q.c/\(p.by_ ≠ 0->0<p.c/\0<q.c)
def ZbA (p:Pnt):Prop:=if p.bx=0/\p.by_=0 then p.c=0 else 0<p.c/\¬rsq p.c
noncomputable def atP (x y:Rat):Pnt:=⟨x,qi 0,y,qi 0,qi 0⟩
open Classical in
noncomputable def Zd7 (x u y v k:Rat):Pnt:=if rsq k then atP (x+u*rt k) (y+v*rt k) else ⟨x,u,y,v,if u=0/\v=0 then qi 0 else k⟩
open Classical in
noncomputable def red (x u y v k:Rat):Pnt:=if rsq k then atP (x+u*rt k) (y+v*rt k) else ⟨x,u,y,v,k⟩
end J
theorem qi_z:J.qi 0=0:=by rw [ZfP];rfl
theorem rad0 (c:Rat):J.rad 0 c=0:=by unfold J.rad;rw [if_pos rfl,qi_z]
theorem radn {b c:Rat} (h:b ≠ 0):J.rad b c=c:=if_neg h
theorem sg2_a0 (b m:Rat):J.sg2 0 b m=J.sgR b*J.sgR m:=by
 unfold J.sg2;rw [if_pos (.inl ZaY),if_pos ZaY]
theorem sg2_b0 (a m:Rat):J.sg2 a 0 m=J.sgR a:=by
 unfold J.sg2
 rw [ZaY,Int.zero_mul,if_pos (.inr (.inl rfl))]
 split
 ·next h=>exact h.symm
 ·rfl
theorem sgR_ne {b:Rat} (h:b ≠ 0):J.sgR b=1\/J.sgR b = -1:=by
 rcases tri b with k | k | k
 ·exact .inr (ZbG k)
 ·exact absurd k h
 ·exact .inl (Zbe k)
theorem sgR_op (b:Rat):J.sgR (-b) = -J.sgR b:=by
 rcases tri b with k | k | k
 ·rw [ZbG k,Zbe (show 0 < -b by grind)];rfl
 ·subst k;rw [show -(0:Rat)=0 by grind,ZaY];rfl
 ·rw [Zbe k,ZbG (show -b<0 by grind)]
theorem cmp_eq {a b c x y z:Rat} (h1:a=x) (h2:J.sgR b=J.sgR y) (h3:b*b*c=y*y*z) (hc:b ≠ 0->0<c/\0<z):J.Zh1 a b (J.rad b c) x y (J.rad y z)=0:=by
 have e0:a-x=0:=by grind
 unfold J.Zh1
 rw [e0,qi_z]
 by_cases hb:b=0
 ·subst hb
  have hy:y=0:=Zda.2.1.1 (by rw [<- h2,ZaY])
  subst hy
  rw [rad0,rad0,show -(0:Rat)=0 by grind]
  unfold J.sgQ
  rw [sg2_a0,ZaY]
  rfl
 ·have hy:y ≠ 0:=fun k=>by
   subst k
   rw [ZaY] at h2
   exact hb (Zda.2.1.1 h2)
  obtain ⟨p1,p2⟩:=hc hb
  rw [radn hb,radn hy]
  unfold J.sgQ
  rw [sg2_a0,sg2_b0,Zbe p1,Zbe p2,sgR_op,h2]
  have e1:(0:Rat)*0+b*b*c-z*(-y * -y+0*0*c)=0:=by grind
  have e2:(0:Rat)*b-z*(-y*0)+(0*b-z*(-y*0))=0:=by grind
  rw [e1,e2,sg2_a0,ZaY,Int.zero_mul]
  rcases sgR_ne hy with k | k <;> rw [k] <;> rfl
theorem cmp_opp {a u r:Rat} (hr:u ≠ 0->0<r):J.Zh1 a (-u) (J.rad (-u) r) a u (J.rad u r) = -J.sgR u:=by
 have e0:a-a=0:=by grind
 unfold J.Zh1
 rw [e0,qi_z]
 by_cases hu:u=0
 ·subst hu
  rw [show -(0:Rat)=0 by grind,rad0,ZaY]
  unfold J.sgQ
  rw [sg2_a0,ZaY]
  rfl
 ·have p:=hr hu
  rw [radn hu,radn (show -u ≠ 0 by grind)]
  unfold J.sgQ
  rw [sg2_a0,sg2_b0,Zbe p,sgR_op]
  rcases sgR_ne hu with k | k <;> rw [k] <;> rfl
theorem cmp_rat (a x:Rat):J.Zh1 a (J.qi 0) (J.rad (J.qi 0) (J.qi 0)) x (J.qi 0) (J.rad (J.qi 0) (J.qi 0))=J.sgR (a-x):=by
 unfold J.Zh1
 rw [qi_z,rad0,show -(0:Rat)=0 by grind]
 unfold J.sgQ
 rw [sg2_b0,sg2_b0,ZaY,Int.zero_mul,if_neg (by decide),if_pos (.inr (.inl rfl))]
 split
 ·next h=>exact h.symm
 ·rfl
theorem cmpP_same {p q:Pnt} (h:J.sameP p q):J.Ze9 p q=0:=by
 obtain ⟨⟨h1,h2,h3,h4⟩,k1,k2,k3,k4⟩:=h
 unfold J.Ze9
 rw [if_pos (cmp_eq h1 h2 h3 h4)]
 exact cmp_eq k1 k2 k3 k4
theorem rt_nn {r:Rat} (h:J.rsq r):0<=J.rt r:=by
 have e:=(rt_num h).1
 have n:=sq_nonneg r.num
 rcases tri (J.rt r) with k | k | k
 ·have:=num_lt.2 k;omega
 ·grind
 ·grind
theorem Zgm {s t:Rat} (hs:0<=s) (ht:0<=t) (h:s*s=t*t):s=t:=by
 rcases tri (s-t) with k | k | k
 ·have:=Zes (show 0<t-s by grind) (show 0<t+s by grind);grind
 ·grind
 ·have:=Zes (show 0<s-t by grind) (show 0<s+t by grind);grind
theorem Zgs {k n:Rat} (hn:0<n):J.rsq (k*(n*n)) ↔ J.rsq k:=by
 have i:n*n⁻¹=1:=Rat.mul_inv_cancel n (by grind)
 constructor
 ·intro h
  refine rsq_of (s:=J.rt (k*(n*n))*n⁻¹) ?_
  have:=ZhF h
  have e:J.rt (k*(n*n))*n⁻¹*(J.rt (k*(n*n))*n⁻¹)=(J.rt (k*(n*n))*J.rt (k*(n*n)))*(n⁻¹*n⁻¹):=by grind
  rw [e,this,show k*(n*n)*(n⁻¹*n⁻¹)=k*((n*n⁻¹)*(n*n⁻¹)) by grind,i];grind
 ·intro h
  refine rsq_of (s:=J.rt k*n) ?_
  have:=ZhF h
  rw [show J.rt k*n*(J.rt k*n)=(J.rt k*J.rt k)*(n*n) by grind,this]
theorem rt_scale {k n:Rat} (hn:0<n) (h:J.rsq k):J.rt (k*(n*n))=J.rt k*n:=by
 have h2:=(Zgs hn).2 h
 refine Zgm (rt_nn h2) (mul_ge (rt_nn h) (by grind)) ?_
 rw [ZhF h2,show J.rt k*n*(J.rt k*n)=(J.rt k*J.rt k)*(n*n) by grind,ZhF h]
theorem same_refl {p:Pnt} (h:J.ZbA p):J.sameP p p:=by
 unfold J.ZbA at h
 have c:p.bx ≠ 0\/p.by_ ≠ 0->0<p.c/\0<p.c:=fun k=>by
  rw [if_neg (by rintro ⟨x,y⟩;rcases k with k | k <;> contradiction)] at h
  exact ⟨h.1,h.1⟩
 exact ⟨⟨rfl,rfl,rfl,fun k=>c (.inl k)⟩,rfl,rfl,rfl,fun k=>c (.inr k)⟩
theorem Zfz (x y:Rat):J.sameP (J.atP x y) (J.atP x y):=⟨⟨rfl,rfl,rfl,fun k=>absurd qi_z k⟩,rfl,rfl,rfl,fun k=>absurd qi_z k⟩
theorem Zgc (x y:Rat):J.ZbA (J.atP x y):=by unfold J.ZbA;rw [if_pos ⟨qi_z,qi_z⟩];exact qi_z
theorem surd_valid {x u y v k:Rat} (hk:0<k):J.ZbA (J.Zd7 x u y v k):=by
 unfold J.Zd7
 split
 ·exact Zgc _ _
 ·next h =>
  unfold J.ZbA
  by_cases z:u=0/\v=0
  ·rw [if_pos z,if_pos z,qi_z]
  ·rw [if_neg z,if_neg z];exact ⟨hk,h⟩
theorem surd_red {x y u v w t k n:Rat} (hn:0<n) (hk:0<k) (hu:u=w*n) (hv:v=t*n):J.sameP (J.Zd7 x u y v k) (J.red x w y t (k*(n*n))):=by
 unfold J.Zd7 J.red
 have kp:0<k*(n*n):=Zes hk (Zes hn hn)
 by_cases s:J.rsq k
 ·rw [if_pos s,if_pos ((Zgs hn).2 s),rt_scale hn s,hu,hv,show w*n*J.rt k=w*(J.rt k*n) by grind,show t*n*J.rt k=t*(J.rt k*n) by grind]
  exact Zfz _ _
 ·rw [if_neg s,if_neg fun h=>s ((Zgs hn).1 h)]
  have g1:J.sgR u=J.sgR w:=by rw [hu,Zgp,Zbe hn,Int.mul_one]
  have g2:J.sgR v=J.sgR t:=by rw [hv,Zgp,Zbe hn,Int.mul_one]
  by_cases z:u=0/\v=0
  ·rw [if_pos z,qi_z]
   have z1:w=0:=Zda.2.1.1 (by rw [<- g1,z.1,ZaY])
   have z2:t=0:=Zda.2.1.1 (by rw [<- g2,z.2,ZaY])
   refine ⟨⟨rfl,g1,?_,fun h=>absurd z.1 h⟩,rfl,g2,?_,fun h=>absurd z.2 h⟩
   ·show u*u*0=w*w*(k*(n*n));rw [z.1,z1];grind
   ·show v*v*0=t*t*(k*(n*n));rw [z.2,z2];grind
  ·rw [if_neg z]
   refine ⟨⟨rfl,g1,?_,fun _=>⟨hk,kp⟩⟩,rfl,g2,?_,fun _=>⟨hk,kp⟩⟩
   ·show u*u*k=w*w*(k*(n*n));rw [hu];grind
   ·show v*v*k=t*t*(k*(n*n));rw [hv];grind
theorem red_opp {x y w t r:Rat} (hr:0<r):J.Ze9 (J.red x (-w) y (-t) r) (J.red x w y t r) = -(if w=0 then J.sgR t else J.sgR w):=by
 unfold J.red
 by_cases s:J.rsq r
 ·rw [if_pos s,if_pos s]
  have p:=rt_nn s
  have q:=ZhF s
  have pp:0<J.rt r:=by
   rcases tri (J.rt r) with k | k | k
   ·grind
   ·rw [k] at q;grind
   ·exact k
  have e (a u:Rat):J.sgR (a + -u*J.rt r-(a+u*J.rt r)) = -J.sgR u:=by
   have:a + -u*J.rt r-(a+u*J.rt r) = -(u*(J.rt r*2)):=by grind
   rw [this,sgR_op,Zgp,Zbe (show 0<J.rt r*2 by grind),Int.mul_one]
  unfold J.Ze9 J.atP
  simp only [cmp_rat,e]
  by_cases z:w=0
  ·rw [if_pos z,z,ZaY,if_pos (by rfl)]
  ·rw [if_neg z,if_neg (by rcases sgR_ne z with k | k <;> rw [k] <;> decide)]
 ·rw [if_neg s,if_neg s]
  unfold J.Ze9
  simp only [cmp_opp (fun _=>hr)]
  by_cases z:w=0
  ·rw [if_pos z,z,ZaY,if_pos (by rfl)]
  ·rw [if_neg z,if_neg (by rcases sgR_ne z with k | k <;> rw [k] <;> decide)]
namespace J
noncomputable def ZaC (A B:Rat):Rat:=A*A+B*B
noncomputable def ZaW (A B C x y:Rat):Rat:=A*x+B*y-C
noncomputable def fX (A B C X Y:Rat):Rat:=X-ZaW A B C X Y / ZaC A B*A
noncomputable def fY (A B C X Y:Rat):Rat:=Y-ZaW A B C X Y / ZaC A B*B
noncomputable def dep (A B C X Y Q:Rat):Rat:=(Q-((fX A B C X Y-X)*(fX A B C X Y-X)+(fY A B C X Y-Y)*(fY A B C X Y-Y))) / ZaC A B
noncomputable def Zb6 (A B C X Y Q:Rat):Rat:=ZaC A B*Q-ZaW A B C X Y*ZaW A B C X Y
noncomputable def dn (A B:Rat):Bool:=decide (B<0\/B=0 /\ -A<0)
noncomputable def dU (A B:Rat):Rat:=bif dn A B then -B else B
noncomputable def dV (A B:Rat):Rat:=bif dn A B then - -A else -A
noncomputable def ZbN (A B C X Y Q:Rat):List Pnt:=
 if sgR (dep A B C X Y Q)<0 then [] else if sgR (dep A B C X Y Q)=0 then [atP (fX A B C X Y) (fY A B C X Y)]
 else [Zd7 (fX A B C X Y) (-dU A B) (fY A B C X Y) (-dV A B) (dep A B C X Y Q),Zd7 (fX A B C X Y) (dU A B) (fY A B C X Y) (dV A B) (dep A B C X Y Q)]
noncomputable def rP (s:Bool) (A B C X Y Q:Rat):Pnt:=bif s then red (fX A B C X Y) (-(B / ZaC A B)) (fY A B C X Y) (-(-A / ZaC A B)) (Zb6 A B C X Y Q) else red (fX A B C X Y) (B / ZaC A B) (fY A B C X Y) (-A / ZaC A B) (Zb6 A B C X Y Q)
noncomputable def Zcz (A B C X Y Q:Rat):List Pnt:=
 if sgR (Zb6 A B C X Y Q)<0 then [] else if sgR (Zb6 A B C X Y Q)=0 then [atP (fX A B C X Y) (fY A B C X Y)]
 else if Ze9 (rP true A B C X Y Q) (rP false A B C X Y Q)>0 then [rP false A B C X Y Q,rP true A B C X Y Q] else [rP true A B C X Y Q,rP false A B C X Y Q]
def sameL:List Pnt->List Pnt->Prop
 | [],[]=>True
 | p::l,q::m=>sameP p q/\sameL l m
 | _,_=>False
end J
theorem ZdV {A B:Rat} (h:A ≠ 0\/B ≠ 0):0<J.ZaC A B:=by
 unfold J.ZaC
 rcases h with h | h
 ·have:=sq_pos h;have:=sq_nn B;grind
 ·have:=sq_pos h;have:=sq_nn A;grind
theorem dep_room {A B C X Y Q:Rat} (h:A ≠ 0\/B ≠ 0):J.dep A B C X Y Q*(J.ZaC A B*J.ZaC A B)=J.Zb6 A B C X Y Q:=by
 have hn:=ZdV h
 have i:J.ZaC A B*(J.ZaC A B)⁻¹=1:=Rat.mul_inv_cancel _ (by grind)
 unfold J.dep J.Zb6 J.fX J.fY
 generalize J.ZaW A B C X Y=v
 rw [Rat.div_def,Rat.div_def]
 have e:J.ZaC A B=A*A+B*B:=rfl
 generalize J.ZaC A B=n at *
 generalize n⁻¹=m at *
 have e1:X-v*m*A-X = -(v*m*A):=by grind
 have e2:Y-v*m*B-Y = -(v*m*B):=by grind
 rw [e1,e2]
 have e3:-(v*m*A) * -(v*m*A) + -(v*m*B) * -(v*m*B)=v*v*(m*m)*n:=by rw [e];grind
 rw [e3]
 have e4:(Q-v*v*(m*m)*n)*m*(n*n)=Q*n*(n*m)-v*v*((n*m)*(n*m)*(n*m)):=by grind
 rw [e4,i];grind
theorem sg_scale {k n:Rat} (hn:0<n):J.sgR (k*(n*n))=J.sgR k:=by rw [Zgp,Zbe (Zes hn hn),Int.mul_one]
theorem ZgN {A B C X Y Q:Rat} (h:A ≠ 0\/B ≠ 0):J.sameL (J.ZbN A B C X Y Q) (J.Zcz A B C X Y Q) /\ ∀ p ∈ J.ZbN A B C X Y Q,J.ZbA p:=by
 have hn:=ZdV h
 have hr:=dep_room (C:=C) (X:=X) (Y:=Y) (Q:=Q) h
 have i:J.ZaC A B*(J.ZaC A B)⁻¹=1:=Rat.mul_inv_cancel _ (by grind)
 unfold J.ZbN J.Zcz
 rw [<- hr,sg_scale hn]
 rcases tri (J.dep A B C X Y Q) with k | k | k
 ·simp only [ZbG k,show (-1:Int)<0 by decide,if_true]
  exact ⟨trivial,fun p hp=>nomatch hp⟩
 ·simp only [k,ZaY,show ¬(0:Int)<0 by decide,if_true,if_false]
  refine ⟨⟨Zfz _ _,trivial⟩,fun p hp => ?_⟩
  rw [List.mem_singleton.1 hp];exact Zgc _ _
 ·simp only [Zbe k,show ¬(1:Int)<0 by decide,show ¬(1:Int)=0 by decide,if_false]
  have vd:∀ p ∈ [J.Zd7 (J.fX A B C X Y) (-J.dU A B) (J.fY A B C X Y) (-J.dV A B) (J.dep A B C X Y Q),J.Zd7 (J.fX A B C X Y) (J.dU A B) (J.fY A B C X Y) (J.dV A B) (J.dep A B C X Y Q)],J.ZbA p:=fun p hp=>by
   simp only [List.mem_cons,List.not_mem_nil,or_false] at hp
   rcases hp with rfl | rfl <;> exact surd_valid k
  have rp:0<J.Zb6 A B C X Y Q:=by rw [<- hr];exact Zes k (Zes hn hn)
  have u1:∀ z:Rat,z=z / J.ZaC A B*J.ZaC A B:=fun z=>by rw [Rat.div_def];grind
  have sw:∀ z:Rat,J.sgR (z / J.ZaC A B)=J.sgR z:=fun z=>by
   have:=u1 z
   have e:=congrArg J.sgR this
   rw [Zgp,Zbe hn,Int.mul_one] at e
   exact e.symm
  have z0:B / J.ZaC A B=0 ↔ B=0:=by rw [<- Zda.2.1,sw,Zda.2.1]
  have ro:J.Ze9 (J.rP true A B C X Y Q) (J.rP false A B C X Y Q) = -(if B=0 then J.sgR (-A) else J.sgR B):=by
   have:=red_opp (x:=J.fX A B C X Y) (y:=J.fY A B C X Y) (w:=B / J.ZaC A B) (t:=-A / J.ZaC A B) rp
   rw [sw,sw] at this
   unfold J.rP
   rw [cond_true,cond_false,this]
   by_cases z:B=0
   ·rw [if_pos z,if_pos (z0.2 z)]
   ·rw [if_neg z,if_neg fun y=>z (z0.1 y)]
  have sg:J.Ze9 (J.rP true A B C X Y Q) (J.rP false A B C X Y Q)>0 ↔ J.dn A B=true:=by
   rw [ro]
   unfold J.dn
   rw [decide_eq_true_iff]
   by_cases z:B=0
   ·rw [if_pos z]
    rcases tri (-A) with t | t | t
    ·rw [ZbG t];exact ⟨fun _ => .inr ⟨z,t⟩,fun _=>by decide⟩
    ·rw [t,ZaY];exact ⟨fun x=>absurd x (by decide),fun x=>by grind⟩
    ·rw [Zbe t];exact ⟨fun x=>absurd x (by decide),fun x=>by grind⟩
   ·rw [if_neg z]
    rcases tri B with t | t | t
    ·rw [ZbG t];exact ⟨fun _ => .inl t,fun _=>by decide⟩
    ·exact absurd t z
    ·rw [Zbe t];exact ⟨fun x=>absurd x (by decide),fun x=>by grind⟩
  have P:∀ s:Bool,J.sameP (J.Zd7 (J.fX A B C X Y) (bif s then -B else B) (J.fY A B C X Y) (bif s then - -A else -A) (J.dep A B C X Y Q)) (J.rP s A B C X Y Q):=fun s=>by
   unfold J.rP
   rw [<- hr]
   cases s with
   | true=>exact surd_red hn k (by rw [cond_true];have:=u1 B;grind) (by rw [cond_true];have:=u1 (-A);grind)
   | false=>exact surd_red hn k (by rw [cond_false];exact u1 B) (by rw [cond_false];exact u1 (-A))
  refine ⟨?_,vd⟩
  cases d:J.dn A B with
  | true =>
   rw [if_pos (sg.2 d)]
   have a1:=P false
   have a2:=P true
   rw [cond_false,cond_false] at a1
   rw [cond_true,cond_true] at a2
   unfold J.dU J.dV
   rw [d,cond_true,cond_true,show - -B=B by grind,show - - -A = -A by grind]
   exact ⟨a1,a2,trivial⟩
  | false =>
   rw [if_neg fun x=>by rw [sg.1 x] at d;exact absurd d (by decide)]
   have a1:=P false
   have a2:=P true
   rw [cond_false,cond_false] at a1
   rw [cond_true,cond_true] at a2
   unfold J.dU J.dV
   rw [d,cond_false,cond_false]
   exact ⟨a2,a1,trivial⟩
end Go.Av

namespace Go.Av
open Go.Proofs
theorem ZhE:∀ {l:List Pnt},(∀ p ∈ l,J.ZbA p)->J.sameL l l
 | [],_=>trivial
 | p::l,h=>⟨same_refl (h p (List.mem_cons_self ..)),ZhE fun q hq=>h q (List.mem_cons_of_mem _ hq)⟩
end Go.Av

namespace Go.Av
open Go.Proofs
abbrev ratC (f g:Bool) (r:Rat):List AV:=[.bool (J.Zaa r.num),.vec f 1 ((J.Zab r.num).map (.int .u32)),.bool (J.Zaa (r.den:Int)),.vec g 1 ((J.Zab (r.den:Int)).map (.int .u32))]
abbrev vecA (f1 f2 f3 f4:Bool) (x y:Rat):AV:=.agg [.bool (J.Zaa x.num),.vec f1 1 ((J.Zab x.num).map (.int .u32)),.bool (J.Zaa (x.den:Int)),.vec f2 1 ((J.Zab (x.den:Int)).map (.int .u32)),.bool (J.Zaa y.num),.vec f3 1 ((J.Zab y.num).map (.int .u32)),.bool (J.Zaa (y.den:Int)),.vec f4 1 ((J.Zab (y.den:Int)).map (.int .u32))]
abbrev vecF (x y:Rat):AV:=vecA false false false false x y
abbrev pntA (f1 f2 f3 f4 f5 f6 f7 f8 f9 f10:Bool) (ax bx ay by_ c:Rat):AV:=.agg [.bool (J.Zaa ax.num),.vec f1 1 ((J.Zab ax.num).map (.int .u32)),.bool (J.Zaa (ax.den:Int)),.vec f2 1 ((J.Zab (ax.den:Int)).map (.int .u32)),.bool (J.Zaa bx.num),.vec f3 1 ((J.Zab bx.num).map (.int .u32)),.bool (J.Zaa (bx.den:Int)),.vec f4 1 ((J.Zab (bx.den:Int)).map (.int .u32)),.bool (J.Zaa ay.num),.vec f5 1 ((J.Zab ay.num).map (.int .u32)),.bool (J.Zaa (ay.den:Int)),.vec f6 1 ((J.Zab (ay.den:Int)).map (.int .u32)),.bool (J.Zaa by_.num),.vec f7 1 ((J.Zab by_.num).map (.int .u32)),.bool (J.Zaa (by_.den:Int)),.vec f8 1 ((J.Zab (by_.den:Int)).map (.int .u32)),.bool (J.Zaa c.num),.vec f9 1 ((J.Zab c.num).map (.int .u32)),.bool (J.Zaa (c.den:Int)),.vec f10 1 ((J.Zab (c.den:Int)).map (.int .u32))]
abbrev pntF (ax bx ay by_ c:Rat):AV:=pntA false false false false false false false false false false ax bx ay by_ c
abbrev quadA (f1 f2 f3 f4 f5 f6 f7 f8 f9 f10 f11 f12:Bool) (a b c d m n:Rat):AV:=.agg [.bool (J.Zaa a.num),.vec f1 1 ((J.Zab a.num).map (.int .u32)),.bool (J.Zaa (a.den:Int)),.vec f2 1 ((J.Zab (a.den:Int)).map (.int .u32)),.bool (J.Zaa b.num),.vec f3 1 ((J.Zab b.num).map (.int .u32)),.bool (J.Zaa (b.den:Int)),.vec f4 1 ((J.Zab (b.den:Int)).map (.int .u32)),.bool (J.Zaa c.num),.vec f5 1 ((J.Zab c.num).map (.int .u32)),.bool (J.Zaa (c.den:Int)),.vec f6 1 ((J.Zab (c.den:Int)).map (.int .u32)),.bool (J.Zaa d.num),.vec f7 1 ((J.Zab d.num).map (.int .u32)),.bool (J.Zaa (d.den:Int)),.vec f8 1 ((J.Zab (d.den:Int)).map (.int .u32)),.bool (J.Zaa m.num),.vec f9 1 ((J.Zab m.num).map (.int .u32)),.bool (J.Zaa (m.den:Int)),.vec f10 1 ((J.Zab (m.den:Int)).map (.int .u32)),.bool (J.Zaa n.num),.vec f11 1 ((J.Zab n.num).map (.int .u32)),.bool (J.Zaa (n.den:Int)),.vec f12 1 ((J.Zab (n.den:Int)).map (.int .u32))]
abbrev quadF (a b c d m n:Rat):AV:=quadA false false false false false false false false false false false false a b c d m n
theorem agg_inv {xs us:List AV} (h:Weak (.agg xs) (.agg us)):xs.length=us.length /\ ∀ (i:Nat) x y,xs[i]? = some x->us[i]? = some y->Weak x y:=by
 cases h with
 | refl=>exact ⟨rfl,fun i x y hx hy=>by rw [hx] at hy;cases hy;exact .refl _⟩
 | agg _ _ h1 h2=>exact ⟨h1,h2⟩
theorem Zc1 {xs us ys vs:List AV} (h:Weak (.agg xs) (.agg us)) (k:Weak (.agg ys) (.agg vs)):Weak (.agg (xs++ys)) (.agg (us++vs)):=by
 obtain ⟨h1,h2⟩:=agg_inv h
 obtain ⟨k1,k2⟩:=agg_inv k
 refine .agg _ _ (by simp [h1,k1]) fun i x y hx hy => ?_
 by_cases l:i<xs.length
 ·rw [List.getElem?_append_left l] at hx
  rw [List.getElem?_append_left (by omega)] at hy
  exact h2 i x y hx hy
 ·rw [List.getElem?_append_right (by omega)] at hx
  rw [List.getElem?_append_right (by omega),<- h1] at hy
  exact k2 _ x y hx hy
theorem Zb2 (f g:Bool) (r:Rat):Weak (.agg (ratC f g r)) (.agg (ratC false false r)):=Zd5 _ _ _ _ _ _
theorem ZeI (f1 f2 f3 f4 f5 f6 f7 f8 f9 f10:Bool) (ax bx ay by_ c:Rat):Weak (pntA f1 f2 f3 f4 f5 f6 f7 f8 f9 f10 ax bx ay by_ c) (pntF ax bx ay by_ c):=
 Zc1 (Zb2 f1 f2 ax) (Zc1 (Zb2 f3 f4 bx) (Zc1 (Zb2 f5 f6 ay) (Zc1 (Zb2 f7 f8 by_) (Zb2 f9 f10 c))))
theorem weak_quad (f1 f2 f3 f4 f5 f6 f7 f8 f9 f10 f11 f12:Bool) (a b c d m n:Rat):Weak (quadA f1 f2 f3 f4 f5 f6 f7 f8 f9 f10 f11 f12 a b c d m n) (quadF a b c d m n):=
 Zc1 (Zb2 f1 f2 a) (Zc1 (Zb2 f3 f4 b) (Zc1 (Zb2 f5 f6 c) (Zc1 (Zb2 f7 f8 d) (Zc1 (Zb2 f9 f10 m) (Zb2 f11 f12 n)))))
theorem sgz {r:Rat}:J.sgnI r.num=0 ↔ r=0:=Zda.2.1
theorem ok_of {k:Nat} {r:Rat} (h:J.okT k r) (hk:k<=90000):J.ok r.num:=by
 have:=h.1
 unfold J.ok;omega
theorem ZhP {r:Rat} (h:0<r):r.num ≠ 0:=fun e=>by rw [Rat.num_eq_zero] at e;grind
theorem bifd {p q:Prop} [Decidable p] [Decidable q]:(bif decide p then decide q else false)=decide (p/\q):=by
 by_cases h:p
 ·by_cases k:q
  ·rw [decide_eq_true h,decide_eq_true k,decide_eq_true ⟨h,k⟩];rfl
  ·rw [decide_eq_true h,decide_eq_false k,decide_eq_false (show ¬(p/\q) from fun x=>k x.2)];rfl
 ·rw [decide_eq_false h,decide_eq_false (show ¬(p/\q) from fun x=>h x.1)];rfl
namespace J
def Zfc (a b c:Rat):Prop:=(okT 30 a/\okT 30 b/\okT 30 c)/\(a ≠ 0\/b ≠ 0)
def ZdT (x y:Rat):Prop:=okT 30 x/\okT 30 y
def ZcW (a b c:Rat):Prop:=okT 30 a/\okT 30 b/\okT 30 c
def okTw (a b m:Rat):Prop:=okT 25000 a/\okT 25000 b/\okT 2000 m
noncomputable def rd2 (bx by_ c:Rat):Rat:=if bx=0/\by_=0 then qi 0 else c
end J
theorem ev103 (f1 f2 f3 f4 f5 f6 g1 g2 g3 g4:Bool) (a b c x y:Rat) (h:J.Zfc a b c/\J.ZdT x y):Ev M1 (.pure 103 [Zar f1 f2 f3 f4 f5 f6 a b c,vecA g1 g2 g3 g4 x y]) (vecF (J.fX a b c x y) (J.fY a b c x y)) []:=by
 obtain ⟨⟨⟨ha,hb,hc⟩,h0⟩,hx,hy⟩:=h
 have hn:(a*a+b*b).num ≠ 0:=ZhP (ZdV h0)
 exact call103 (mFoot _ _ _ _ _ _ _ _ _ _ _ _ _ _ _ _ ⟨⟨Zak ha (by omega),Zak hx (by omega)⟩,⟨Zak hb (by omega),Zak hy (by omega)⟩,⟨Zak (Zaf ha hx) (by omega),Zak (Zaf hb hy) (by omega)⟩,⟨Zak (ZaG (Zaf ha hx) (Zaf hb hy)) (by omega),Zak hc (by omega)⟩,⟨Zak ha (by omega),Zak ha (by omega)⟩,⟨Zak hb (by omega),Zak hb (by omega)⟩,⟨Zak (Zaf ha ha) (by omega),Zak (Zaf hb hb) (by omega)⟩,⟨Zak (Zat (ZaG (Zaf ha hx) (Zaf hb hy)) hc) (by omega),Zak (ZaG (Zaf ha ha) (Zaf hb hb)) (by omega),hn⟩,⟨Zak (ZbK (Zat (ZaG (Zaf ha hx) (Zaf hb hy)) hc) (ZaG (Zaf ha ha) (Zaf hb hb)) hn) (by omega),Zak ha (by omega)⟩,⟨Zak hx (by omega),Zak (Zaf (ZbK (Zat (ZaG (Zaf ha hx) (Zaf hb hy)) hc) (ZaG (Zaf ha ha) (Zaf hb hb)) hn) ha) (by omega)⟩,⟨Zak (ZbK (Zat (ZaG (Zaf ha hx) (Zaf hb hy)) hc) (ZaG (Zaf ha ha) (Zaf hb hb)) hn) (by omega),Zak hb (by omega)⟩,⟨Zak hy (by omega),Zak (Zaf (ZbK (Zat (ZaG (Zaf ha hx) (Zaf hb hy)) hc) (ZaG (Zaf ha ha) (Zaf hb hb)) hn) hb) (by omega)⟩,.refl _⟩)
theorem ev55 (f1 f2 f3 f4 f5 f6 g1 g2 g3 g4 g5 g6:Bool) (a b c x y z:Rat) (h:J.ZcW a b c/\J.ZcW x y z):Ev M1 (.pure 55 [Zar f1 f2 f3 f4 f5 f6 a b c,Zar g1 g2 g3 g4 g5 g6 x y z]) (.bool (decide (a*y=x*b/\a*z=x*c/\b*z=y*c))) []:=by
 obtain ⟨⟨ha,hb,hc⟩,hx,hy,hz⟩:=h
 exact call55 (mSameL _ _ _ _ _ _ _ _ _ _ _ _ _ _ _ _ _ _ _ ⟨⟨Zak ha (by omega),Zak hy (by omega)⟩,⟨Zak hx (by omega),Zak hb (by omega)⟩,⟨Zak (Zaf ha hy) (by omega),Zak (Zaf hx hb) (by omega)⟩,fun _=>⟨Zak ha (by omega),Zak hz (by omega)⟩,fun _=>⟨Zak hx (by omega),Zak hc (by omega)⟩,fun _=>⟨Zak (Zaf ha hz) (by omega),Zak (Zaf hx hc) (by omega)⟩,fun _=>⟨Zak hb (by omega),Zak hz (by omega)⟩,fun _=>⟨Zak hy (by omega),Zak hc (by omega)⟩,fun _=>⟨Zak (Zaf hb hz) (by omega),Zak (Zaf hy hc) (by omega)⟩,by rw [bifd,bifd];exact congrArg AV.bool (decide_eq_decide.2 and_assoc)⟩)
theorem ev72 (f1 f2 f3 f4 f5 f6 g1 g2 g3 g4 g5 g6:Bool) (a b c x y z:Rat) (h:J.ZcW a b c/\J.ZcW x y z):Ev M1 (.pure 72 [Zar f1 f2 f3 f4 f5 f6 a b c,Zar g1 g2 g3 g4 g5 g6 x y z]) (.bool (decide (a=x/\b=y/\c=z))) []:=by
 obtain ⟨⟨ha,hb,hc⟩,hx,hy,hz⟩:=h
 exact call72 (mSameC _ _ _ _ _ _ _ _ _ _ _ _ _ _ _ _ _ _ _ ⟨⟨Zak ha (by omega),Zak hx (by omega)⟩,fun _=>⟨Zak hb (by omega),Zak hy (by omega)⟩,fun _=>⟨Zak hc (by omega),Zak hz (by omega)⟩,by rw [bifd,bifd];exact congrArg AV.bool (decide_eq_decide.2 and_assoc)⟩)
theorem ev73 (f1 f2 f3 f4 f5 f6 g1 g2 g3 g4 g5 g6:Bool) (a b c x y z:Rat) (h:J.ZcW a b c/\J.ZcW x y z):Ev M1 (.pure 73 [Zar f1 f2 f3 f4 f5 f6 a b c,Zar g1 g2 g3 g4 g5 g6 x y z]) (.bool (decide (a=x/\b=y))) []:=by
 obtain ⟨⟨ha,hb,hc⟩,hx,hy,hz⟩:=h
 exact call73 (mConc _ _ _ _ _ _ _ _ _ _ _ _ _ _ _ _ _ _ _ ⟨⟨Zak ha (by omega),Zak hx (by omega)⟩,fun _=>⟨Zak hb (by omega),Zak hy (by omega)⟩,by rw [cmp0,cmp0,bifd]⟩)
theorem ev26 (f1 f2 f3 f4 f5 f6 g1 g2 g3 g4 g5 g6:Bool) (a b c x y z:Rat) (h:J.ZcW a b c/\J.ZcW x y z):Ev M1 (.pure 26 [Zar f1 f2 f3 f4 f5 f6 a b c,Zar g1 g2 g3 g4 g5 g6 x y z]) (.bool (decide (a=x/\b=y))) []:=by
 obtain ⟨⟨ha,hb,hc⟩,hx,hy,hz⟩:=h
 exact call26 (rConc _ _ _ _ _ _ _ _ _ _ _ _ _ _ _ _ _ _ _ ⟨⟨Zak ha (by omega),Zak hx (by omega)⟩,fun _=>⟨Zak hb (by omega),Zak hy (by omega)⟩,by rw [cmp0,cmp0,bifd]⟩)
theorem ev58 (f1 f2 f3 f4 f5 f6 g1 g2 g3 g4 g5 g6:Bool) (a b c x y z:Rat) (h:J.ZcW a b c/\J.ZcW x y z):Ev M1 (.pure 58 [Zar f1 f2 f3 f4 f5 f6 a b c,Zar g1 g2 g3 g4 g5 g6 x y z]) (ratF (a*y-x*b)) []:=by
 obtain ⟨⟨ha,hb,hc⟩,hx,hy,hz⟩:=h
 exact call58 (rCross _ _ _ _ _ _ _ _ _ _ _ _ _ _ _ _ _ _ _ ⟨⟨Zak ha (by omega),Zak hy (by omega)⟩,⟨Zak hx (by omega),Zak hb (by omega)⟩,⟨Zak (Zaf ha hy) (by omega),Zak (Zaf hx hb) (by omega)⟩,.refl _⟩)
theorem ev57 (f1 f2 f3 f4:Bool) (x y:Rat):Ev M1 (.pure 57 [vecA f1 f2 f3 f4 x y]) (pntF x (J.qi 0) y (J.qi 0) (J.qi 0)) []:=
 call57 (mAt _ _ _ _ _ _ _ (ZeI f1 f2 false false f3 f4 false false false false _ _ _ _ _))
theorem ev61 (f1 f2 f3 f4:Bool) (x y:Rat):Ev M1 (.pure 61 [vecA f1 f2 f3 f4 x y]) (pntF x (J.qi 0) y (J.qi 0) (J.qi 0)) []:=
 call61 (rAt _ _ _ _ _ _ _ (ZeI f1 f2 false false f3 f4 false false false false _ _ _ _ _))
theorem ev144 (f1 f2 f3 f4 f5 f6 f7 f8 f9 f10:Bool) (ax bx ay by_ c:Rat):Ev M1 (.pure 144 [pntA f1 f2 f3 f4 f5 f6 f7 f8 f9 f10 ax bx ay by_ c]) (pntF ax bx ay by_ (J.rd2 bx by_ c)) []:=by
 refine call144 (mRed _ _ _ _ _ _ _ _ _ _ _ _ _ _ _ _ ⟨fun k => ?_,fun k => ?_⟩)
 ·rw [sgz,sgz] at k
  rw [show J.rd2 bx by_ c=J.qi 0 from if_pos k]
  exact ZeI f1 f2 f3 f4 f5 f6 f7 f8 false false _ _ _ _ _
 ·rw [sgz,sgz] at k
  rw [show J.rd2 bx by_ c=c from if_neg k]
  exact ZeI f1 f2 f3 f4 f5 f6 f7 f8 f9 f10 _ _ _ _ _
theorem ev67 (f1 f2 f3 f4 f5 f6:Bool) (a b c:Rat) (h:J.ZdT a b):Ev M1 (.pure 67 [Zar f1 f2 f3 f4 f5 f6 a b c]) (ratF (J.ZaC a b)) []:=by
 obtain ⟨ha,hb⟩:=h
 exact call67 (rNorm9 _ _ _ _ _ _ _ _ _ _ ⟨⟨Zak ha (by omega),Zak ha (by omega)⟩,⟨Zak hb (by omega),Zak hb (by omega)⟩,⟨Zak (Zaf ha ha) (by omega),Zak (Zaf hb hb) (by omega)⟩,.refl _⟩)
theorem ev30 (f1 f2 f3 f4 f5 f6 g1 g2 g3 g4:Bool) (a b c x y:Rat) (h:J.ZcW a b c/\J.ZdT x y):Ev M1 (.pure 30 [Zar f1 f2 f3 f4 f5 f6 a b c,ratA g1 g2 x,ratA g3 g4 y]) (ratF (J.ZaW a b c x y)) []:=by
 obtain ⟨⟨ha,hb,hc⟩,hx,hy⟩:=h
 exact call30 (rVal9 _ _ _ _ _ _ _ _ _ _ _ _ _ _ _ _ ⟨⟨Zak ha (by omega),Zak hx (by omega)⟩,⟨Zak hb (by omega),Zak hy (by omega)⟩,⟨Zak (Zaf ha hx) (by omega),Zak (Zaf hb hy) (by omega)⟩,⟨Zak (ZaG (Zaf ha hx) (Zaf hb hy)) (by omega),Zak hc (by omega)⟩,.refl _⟩)
theorem ev147 (f1 f2 f3 f4 f5 f6:Bool) (a b c:Rat):Ev M1 (.pure 147 [ratA f1 f2 a,ratA f3 f4 b,ratA f5 f6 c]) (ZaH a b (J.rad b c)) []:=by
 refine call147 (rCoord _ _ _ _ _ _ _ _ _ _ ⟨fun k => ?_,fun k => ?_⟩)
 ·rw [sgz] at k
  subst k
  rw [show J.rad 0 c=J.qi 0 from if_pos rfl]
  have:(0:Rat)=J.qi 0:=qi_z.symm
  rw [this]
  exact .refl _
 ·rw [sgz] at k
  rw [radn k]
  exact Zc1 (Zb2 f1 f2 a) (Zc1 (Zb2 f3 f4 b) (Zb2 f5 f6 c))
theorem sg3 (n:Int):J.sgnI n = -1\/J.sgnI n=0\/J.sgnI n=1:=by
 unfold J.sgnI
 (repeat' split) <;> omega
theorem cmpS {r s:Rat}:J.sgnI (r.num*(s.den:Int)-s.num*(r.den:Int))=J.sgR (r-s):=by
 rcases tri (r-s) with k | k | k
 ·rw [ZbG k]
  have:=Rat.lt_iff (a:=r) (b:=s)
  have:=this.1 (by grind)
  unfold J.sgnI;rw [if_pos (by omega)]
 ·rw [k,ZaY,cross];grind
 ·rw [Zbe k]
  have:=Rat.lt_iff (a:=s) (b:=r)
  have:=this.1 (by grind)
  unfold J.sgnI;rw [if_neg (by omega),if_pos (by omega)]
theorem ev167 (f1 f2 f3 f4 f5 f6:Bool) (a b c:Rat) (h:J.okTw a b c):Ev M1 (.pure 167 [ratA f1 f2 a,ratA f3 f4 b,ratA f5 f6 c]) (.int .i64 (J.sg2 a b c)) []:=by
 obtain ⟨ha,hb,hc⟩:=h
 have r1:=sg3 a.num
 have r2:=sg3 b.num
 have r3:=sg3 c.num
 have r4:=sg3 ((a*a).num*((b*b*c).den:Int)-(b*b*c).num*((a*a).den:Int))
 refine call167 (rTwo _ _ _ _ _ _ _ _ _ _ ⟨?_,fun k=>⟨fun j => ?_,fun j => ?_⟩,fun k=>⟨⟨Zak ha (by omega),Zak ha (by omega)⟩,⟨Zak hb (by omega),Zak hb (by omega)⟩,⟨Zak (Zaf hb hb) (by omega),Zak hc (by omega)⟩,⟨Zak (Zaf ha ha) (by omega),Zak (Zaf (Zaf hb hb) hc) (by omega)⟩,?_,?_⟩⟩)
 ·rcases r2 with r2 | r2 | r2 <;> rcases r3 with r3 | r3 | r3 <;> rw [r2,r3] <;> decide
 ·unfold J.sg2 J.sgR
  rw [if_pos (by rw [<- or_assoc];exact k),if_pos j]
 ·unfold J.sg2 J.sgR
  rw [if_pos (by rw [<- or_assoc];exact k),if_neg j]
 ·rcases r1 with r1 | r1 | r1 <;> rcases r4 with r4 | r4 | r4 <;> rw [r1,r4] <;> decide
 ·unfold J.sg2
  rw [if_neg (by rw [<- or_assoc];exact k),cmpS];rfl
theorem ev146 (f1 f2 f3 f4 f5 f6 g1 g2 g3 g4 g5 g6:Bool) (a b c x y z:Rat) (h:J.okT 2200 a/\J.okT 2200 x/\J.okT 2200 y):Ev M1 (.pure 146 [Zar f1 f2 f3 f4 f5 f6 a b c,Zar g1 g2 g3 g4 g5 g6 x y z]) (quadF (a-x) b (-y) (J.qi 0) c z) []:=by
 exact call146 (rSub5 _ _ _ _ _ _ _ _ _ _ _ _ _ _ _ _ _ _ _ ⟨⟨Zak h.1 (by omega),Zak h.2.1 (by omega)⟩,ok_of h.2.2 (by omega),by unfold J.inI;omega,weak_quad false false f3 f4 false false false false f5 f6 g5 g6 _ _ _ _ _ _⟩)
end Go.Av

namespace Go.Av
open Go.Proofs
set_option maxRecDepth 100000
def fi21:Fi:=⟨21,[.cell 4 26]⟩
def kp21:List (Nat × List Nat):=[(0,[2,3,4]),(1,[2,3,4,5]),(2,[4])]
def fi36:Fi:=⟨61,[.tmp 2]⟩
def kp36:List (Nat × List Nat):=[(0,[1]),(1,[1,32]),(2,[2]),(3,[1,42]),(4,[2]),(5,[1,4]),(6,[2])]
def fi64:Fi:=⟨51,[.cell 4 26,.cell 5 47]⟩
def kp64:List (Nat × List Nat):=[(0,[2,3,4,5]),(1,[2,3,4,5,6]),(2,[2,3,4,5,6,7,8]),(3,[2,4,5,6,9]),(4,[4,5])]
def fi69:Fi:=⟨37,[.cell 10 56]⟩
def kp69:List (Nat × List Nat):=[(0,[5,6,7,8,9,10]),(1,[5,6,7,8,9,10,11,12]),(2,[5,6,7,8,9,10,11,18]),(3,[10]),(4,[10])]
def fi76:Fi:=⟨17,[.cell 2 26]⟩
def kp76:List (Nat × List Nat):=[(0,[1,2]),(1,[2])]
def fi106:Fi:=⟨39,[.cell 4 56,.tmp 5]⟩
def kp106:List (Nat × List Nat):=[(0,[2,3,4]),(1,[2,3,4,6]),(2,[2,3,4,6,12]),(3,[2,3,4,6]),(4,[2,3,4,6,26]),(5,[4,5]),(6,[4,5])]
def fi108:Fi:=⟨10,[.cell 2 98]⟩
def kp108:List (Nat × List Nat):=[(0,[1,2]),(1,[2])]
def fi109:Fi:=⟨10,[.cell 2 98]⟩
def kp109:List (Nat × List Nat):=[(0,[1,2]),(1,[2])]
def fi145:Fi:=⟨107,[.tmp 2]⟩
def kp145:List (Nat × List Nat):=[(0,[1]),(1,[1,17]),(2,[2]),(3,[1,3,4]),(4,[1,3,4,46]),(5,[3,4,48]),(6,[2]),(7,[2]),(8,[1,3,5]),(9,[1,3,6]),(10,[1,3,6,7]),(11,[2])]
def mMake_at (f1 f2 f3 f4 f5 f6 g1 g2 g3 g4 g5 g6:Bool) (a b c x y z:Rat) (Q:AV->Heap->Prop):Prop:=Wp M1 (.run fi106 (atC (cd Tryz.f106) []) [(0,Zar f1 f2 f3 f4 f5 f6 a b c),(1,Zar g1 g2 g3 g4 g5 g6 x y z)] []) Q
def mDepth_at (f1 f2 f3 f4 f5 f6 g1 g2 g3 g4 g5 g6:Bool) (a b c x y q:Rat) (Q:AV->Heap->Prop):Prop:=Wp M1 (.run fi64 (atC (cd Tryz.f64) []) [(0,Zar f1 f2 f3 f4 f5 f6 a b c),(1,Zar g1 g2 g3 g4 g5 g6 x y q)] []) Q
def mRad1_at (f1 f2 f3 f4 f5 f6:Bool) (a b c:Rat) (Q:AV->Heap->Prop):Prop:=Wp M1 (.run fi76 (atC (cd Tryz.f76) []) [(0,Zar f1 f2 f3 f4 f5 f6 a b c)] []) Q
def rRoom_at (f1 f2 f3 f4 f5 f6 g1 g2 g3 g4 g5 g6:Bool) (a b c x y q:Rat) (Q:AV->Heap->Prop):Prop:=Wp M1 (.run fi21 (atC (cd Tryz.f21) []) [(0,Zar f1 f2 f3 f4 f5 f6 a b c),(1,Zar g1 g2 g3 g4 g5 g6 x y q)] []) Q
def rRed9_at (f1 f2 f3 f4 f5 f6 f7 f8 f9 f10:Bool) (ax bx ay by_ c:Rat) (Q:AV->Heap->Prop):Prop:=Wp M1 (.run fi69 (atC (cd Tryz.f69) []) [(0,ratA f1 f2 ax),(1,ratA f3 f4 bx),(2,ratA f5 f6 ay),(3,ratA f7 f8 by_),(4,ratA f9 f10 c)] []) Q
def rX7_at (f1 f2 f3 f4 f5 f6 f7 f8 f9 f10:Bool) (ax bx ay by_ c:Rat) (Q:AV->Heap->Prop):Prop:=Wp M1 (.run fi108 (atC (cd Tryz.f108) []) [(0,.agg [.bool (J.Zaa ax.num),.vec f1 1 ((J.Zab ax.num).map (.int .u32)),.bool (J.Zaa (ax.den:Int)),.vec f2 1 ((J.Zab (ax.den:Int)).map (.int .u32)),.bool (J.Zaa bx.num),.vec f3 1 ((J.Zab bx.num).map (.int .u32)),.bool (J.Zaa (bx.den:Int)),.vec f4 1 ((J.Zab (bx.den:Int)).map (.int .u32)),.bool (J.Zaa ay.num),.vec f5 1 ((J.Zab ay.num).map (.int .u32)),.bool (J.Zaa (ay.den:Int)),.vec f6 1 ((J.Zab (ay.den:Int)).map (.int .u32)),.bool (J.Zaa by_.num),.vec f7 1 ((J.Zab by_.num).map (.int .u32)),.bool (J.Zaa (by_.den:Int)),.vec f8 1 ((J.Zab (by_.den:Int)).map (.int .u32)),.bool (J.Zaa c.num),.vec f9 1 ((J.Zab c.num).map (.int .u32)),.bool (J.Zaa (c.den:Int)),.vec f10 1 ((J.Zab (c.den:Int)).map (.int .u32))])] []) Q
def rY7_at (f1 f2 f3 f4 f5 f6 f7 f8 f9 f10:Bool) (ax bx ay by_ c:Rat) (Q:AV->Heap->Prop):Prop:=Wp M1 (.run fi109 (atC (cd Tryz.f109) []) [(0,.agg [.bool (J.Zaa ax.num),.vec f1 1 ((J.Zab ax.num).map (.int .u32)),.bool (J.Zaa (ax.den:Int)),.vec f2 1 ((J.Zab (ax.den:Int)).map (.int .u32)),.bool (J.Zaa bx.num),.vec f3 1 ((J.Zab bx.num).map (.int .u32)),.bool (J.Zaa (bx.den:Int)),.vec f4 1 ((J.Zab (bx.den:Int)).map (.int .u32)),.bool (J.Zaa ay.num),.vec f5 1 ((J.Zab ay.num).map (.int .u32)),.bool (J.Zaa (ay.den:Int)),.vec f6 1 ((J.Zab (ay.den:Int)).map (.int .u32)),.bool (J.Zaa by_.num),.vec f7 1 ((J.Zab by_.num).map (.int .u32)),.bool (J.Zaa (by_.den:Int)),.vec f8 1 ((J.Zab (by_.den:Int)).map (.int .u32)),.bool (J.Zaa c.num),.vec f9 1 ((J.Zab c.num).map (.int .u32)),.bool (J.Zaa (c.den:Int)),.vec f10 1 ((J.Zab (c.den:Int)).map (.int .u32))])] []) Q
def rVal7_at (f1 f2 f3 f4 f5 f6 f7 f8 f9 f10:Bool) (ax bx ay by_ c:Rat) (Q:AV->Heap->Prop):Prop:=Wp M1 (.run fi36 (atC (cd Tryz.f36) []) [(0,.agg [.bool (J.Zaa ax.num),.vec f1 1 ((J.Zab ax.num).map (.int .u32)),.bool (J.Zaa (ax.den:Int)),.vec f2 1 ((J.Zab (ax.den:Int)).map (.int .u32)),.bool (J.Zaa bx.num),.vec f3 1 ((J.Zab bx.num).map (.int .u32)),.bool (J.Zaa (bx.den:Int)),.vec f4 1 ((J.Zab (bx.den:Int)).map (.int .u32)),.bool (J.Zaa ay.num),.vec f5 1 ((J.Zab ay.num).map (.int .u32)),.bool (J.Zaa (ay.den:Int)),.vec f6 1 ((J.Zab (ay.den:Int)).map (.int .u32)),.bool (J.Zaa by_.num),.vec f7 1 ((J.Zab by_.num).map (.int .u32)),.bool (J.Zaa (by_.den:Int)),.vec f8 1 ((J.Zab (by_.den:Int)).map (.int .u32)),.bool (J.Zaa c.num),.vec f9 1 ((J.Zab c.num).map (.int .u32)),.bool (J.Zaa (c.den:Int)),.vec f10 1 ((J.Zab (c.den:Int)).map (.int .u32))])] []) Q
def rSign5_at (f1 f2 f3 f4 f5 f6 f7 f8 f9 f10 f11 f12:Bool) (a b c d m n:Rat) (Q:AV->Heap->Prop):Prop:=Wp M1 (.run fi145 (atC (cd Tryz.f145) []) [(0,.agg [.bool (J.Zaa a.num),.vec f1 1 ((J.Zab a.num).map (.int .u32)),.bool (J.Zaa (a.den:Int)),.vec f2 1 ((J.Zab (a.den:Int)).map (.int .u32)),.bool (J.Zaa b.num),.vec f3 1 ((J.Zab b.num).map (.int .u32)),.bool (J.Zaa (b.den:Int)),.vec f4 1 ((J.Zab (b.den:Int)).map (.int .u32)),.bool (J.Zaa c.num),.vec f5 1 ((J.Zab c.num).map (.int .u32)),.bool (J.Zaa (c.den:Int)),.vec f6 1 ((J.Zab (c.den:Int)).map (.int .u32)),.bool (J.Zaa d.num),.vec f7 1 ((J.Zab d.num).map (.int .u32)),.bool (J.Zaa (d.den:Int)),.vec f8 1 ((J.Zab (d.den:Int)).map (.int .u32)),.bool (J.Zaa m.num),.vec f9 1 ((J.Zab m.num).map (.int .u32)),.bool (J.Zaa (m.den:Int)),.vec f10 1 ((J.Zab (m.den:Int)).map (.int .u32)),.bool (J.Zaa n.num),.vec f11 1 ((J.Zab n.num).map (.int .u32)),.bool (J.Zaa (n.den:Int)),.vec f12 1 ((J.Zab (n.den:Int)).map (.int .u32))])] []) Q
theorem call21 {args:List AV} {d:AV} (h:wc M1 fi21 Tryz.f21 args d):Ev M1 (.pure 21 args) d []:=pcl _ _ (by kernel_rfl) h
theorem call36 {args:List AV} {d:AV} (h:wc M1 fi36 Tryz.f36 args d):Ev M1 (.pure 36 args) d []:=pcl _ _ (by kernel_rfl) h
theorem call64 {args:List AV} {d:AV} (h:wc M1 fi64 Tryz.f64 args d):Ev M1 (.pure 64 args) d []:=pcl _ _ (by kernel_rfl) h
theorem call69 {args:List AV} {d:AV} (h:wc M1 fi69 Tryz.f69 args d):Ev M1 (.pure 69 args) d []:=pcl _ _ (by kernel_rfl) h
theorem call76 {args:List AV} {d:AV} (h:wc M1 fi76 Tryz.f76 args d):Ev M1 (.pure 76 args) d []:=pcl _ _ (by kernel_rfl) h
theorem call106 {args:List AV} {d:AV} (h:wc M1 fi106 Tryz.f106 args d):Ev M1 (.pure 106 args) d []:=pcl _ _ (by kernel_rfl) h
theorem call108 {args:List AV} {d:AV} (h:wc M1 fi108 Tryz.f108 args d):Ev M1 (.pure 108 args) d []:=pcl _ _ (by kernel_rfl) h
theorem call109 {args:List AV} {d:AV} (h:wc M1 fi109 Tryz.f109 args d):Ev M1 (.pure 109 args) d []:=pcl _ _ (by kernel_rfl) h
theorem call145 {args:List AV} {d:AV} (h:wc M1 fi145 Tryz.f145 args d):Ev M1 (.pure 145 args) d []:=pcl _ _ (by kernel_rfl) h
noncomputable abbrev zNmC1 (a:Rat) (b:Rat) (x:Rat) (y:Rat) (z:Rat):=(pntF a b x y (J.rd2 b y z))
noncomputable abbrev zNmC2 (a:Rat) (b:Rat) (x:Rat) (y:Rat) (c:Rat):=(pntF a b x y (J.rd2 b y c))
noncomputable abbrev zNmC3:=ag [vb false,AV.vnil,vb false,AV.vnil,vb false,AV.vnil,vb false,AV.vnil,vb false,AV.vnil,vb false,AV.vnil,vb false,AV.vnil,vb false,AV.vnil,vb false,AV.vnil,vb false,AV.vnil]
theorem mMake (f1 f2 f3 f4 f5 f6 g1 g2 g3 g4 g5 g6:Bool) (a b c x y z:Rat)  (dq:AV) (H :
  ((J.sgnI b.num=0)->Weak (tu [(pntF a b x y (J.rd2 b y z)),vi 0]) dq) /\
  (¬(J.sgnI b.num=0)->((¬J.sgnI y.num=0)->(J.okR c/\J.okR z)) /\
   (((¬J.sgnI y.num=0)/\(¬J.sgnI (c.num*(↑z.den:Int)-z.num*(↑c.den:Int))=0))->Weak (tu [ag [vb false,AV.vnil,vb false,AV.vnil,vb false,AV.vnil,vb false,AV.vnil,vb false,AV.vnil,vb false,AV.vnil,vb false,AV.vnil,vb false,AV.vnil,vb false,AV.vnil,vb false,AV.vnil],vi 1]) dq) /\
   (¬((¬J.sgnI y.num=0)/\(¬J.sgnI (c.num*(↑z.den:Int)-z.num*(↑c.den:Int))=0))->Weak (tu [(pntF a b x y (J.rd2 b y c)),vi 0]) dq))) :
 mMake_at f1 f2 f3 f4 f5 f6 g1 g2 g3 g4 g5 g6 a b c x y z (Zag dq):=by
 unfold mMake_at
 refine Zae (G:=Zac kp106 [(2,2,.call (vi (J.sgnI b.num)) none)] []) 7 [] ⟨(atC (cd Tryz.f106) [1,1,0,1]),[(2,AV.ptr 0 0 0 0),(3,AV.ptr 1 0 0 0),(4,AV.ptr 2 0 0 0),(6,AV.ptr 3 0 0 0),(12,vb (J.sgnI b.num==0))],[⟨[Zar f1 f2 f3 f4 f5 f6 a b c],12,0,false,false⟩,⟨[Zar g1 g2 g3 g4 g5 g6 x y z],12,0,false,false⟩,⟨[zNmC3],20,0,false,false⟩,⟨[ratA f5 f6 c],4,0,false,false⟩],_,[],_⟩ (by kernel_rfl) (bc rfl (bc rfl (bc rfl b0))) q0 (ce (@ev54 f3 f4 (b.num) ((↑b.den:Int))) c0) ?_
 rcases xq H with ⟨d2,H⟩|⟨d2,H⟩
 ·exact Zah (G:=Zac kp106 [(6,10,.call ((zNmC1 a b x y z)) none)] []) 1000 [true] (tu [(zNmC1 a b x y z),vi 0]) (by kernel_rfl) (bc (Zap (i_eq.2 d2)) (bc rfl (bc rfl (bc rfl (bc rfl (bc rfl (bc rfl (bc rfl (bc rfl b0))))))))) q0 (ce (@ev144 f1 f2 f3 f4 g1 g2 g3 g4 g5 g6 a b x y z) c0) H
 ·obtain ⟨k4,H⟩:=H
  refine Zae (G:=Zac kp106 [(4,2,.call (vi (J.sgnI y.num)) none),(4,9,.call (vi (J.sgnI (c.num*(↑z.den:Int)-z.num*(↑c.den:Int)))) none)] []) 3 [false] ⟨(atC (cd Tryz.f106) [1,1,0,1,1,1]),[(2,AV.ptr 0 0 0 0),(3,AV.ptr 1 0 0 0),(4,AV.ptr 2 0 0 0),(6,AV.ptr 3 0 0 0),(26,vb (bif J.sgnI y.num != 0 then J.sgnI (c.num*(↑z.den:Int)-z.num*(↑c.den:Int)) != 0 else false))],[⟨[Zar f1 f2 f3 f4 f5 f6 a b c],12,0,false,false⟩,⟨[Zar g1 g2 g3 g4 g5 g6 x y z],12,0,false,false⟩,⟨[zNmC3],20,0,false,false⟩,⟨[ratA f5 f6 c],4,0,false,false⟩],[(J.sgnI b.num==0)==false,true,!((J.sgnI y.num != 0)==true&&true)||true,!((J.sgnI y.num != 0)==true&&true)||true],[],[⟨true,false,54,[ratA g3 g4 y],[],vi (J.sgnI y.num),[]⟩,⟨(J.sgnI y.num != 0)==true&&true&&true,false,110,[ratA f5 f6 c,ratA g5 g6 z],[],vi (J.sgnI (c.num*(↑z.den:Int)-z.num*(↑c.den:Int))),[]⟩]⟩ (by kernel_rfl) (bc (Zam (fun h=>d2 (i_eq.1 h))) (bc rfl (bc (Bool.or_true _) (bc (Bool.or_true _) b0)))) q0 (cc (fun _=>(@ev54 g3 g4 (y.num) ((↑y.den:Int)))) (cc (fun hc=>((@ev110 f5 f6 g5 g6 c z (k4 ((i_at (i_at (i_bt i_ne))).1 hc))):Ev M1 (Conf.pure 110 [ratA f5 f6 c,ratA g5 g6 z]) (vi (J.sgnI (c.num*(↑z.den:Int)-z.num*(↑c.den:Int)))) [])) c0)) ?_
  rcases xq H with ⟨d6,H⟩|⟨d6,H⟩
  ·exact Zah (G:=Zac kp106 [] []) 1000 [true] (tu [zNmC3,vi 1]) (by kernel_rfl) (bc (Zap ((ZaI i_ne i_ne).2 d6)) (bc rfl b0)) q0 c0 H
  ·exact Zah (G:=Zac kp106 [(6,10,.call ((zNmC2 a b x y c)) none)] []) 1000 [false] (tu [(zNmC2 a b x y c),vi 0]) (by kernel_rfl) (bc (Zam (fun h=>d6 ((ZaI i_ne i_ne).1 h))) (bc rfl (bc rfl (bc rfl (bc rfl (bc rfl (bc rfl b0))))))) q0 (ce (@ev144 f1 f2 f3 f4 g1 g2 g3 g4 f5 f6 a b x y c) c0) H
noncomputable abbrev zNmC4 (a:Rat) (b:Rat) (c:Rat) (x:Rat) (y:Rat):=(vecF (J.fX a b c x y) (J.fY a b c x y))
noncomputable abbrev zNmC5:=ag [vb false,AV.vnil,vb false,AV.vnil,vb false,AV.vnil,vb false,AV.vnil]
theorem mDepth (f1 f2 f3 f4 f5 f6 g1 g2 g3 g4 g5 g6:Bool) (a b c x y q:Rat)  (dq:AV) (H :
  (J.Zfc a b c/\J.ZdT x y) /\
  (J.okR (J.fX a b c x y)/\J.okR x) /\
  (J.okR (J.fY a b c x y)/\J.okR y) /\
  (J.okR (J.fX a b c x y-x)/\J.okR (J.fX a b c x y-x)) /\
  (J.okR (J.fY a b c x y-y)/\J.okR (J.fY a b c x y-y)) /\
  (J.okR ((J.fX a b c x y-x)*(J.fX a b c x y-x))/\J.okR ((J.fY a b c x y-y)*(J.fY a b c x y-y))) /\
  (J.okR q/\J.okR ((J.fX a b c x y-x)*(J.fX a b c x y-x)+(J.fY a b c x y-y)*(J.fY a b c x y-y))) /\
  (J.okR a/\J.okR a) /\
  (J.okR b/\J.okR b) /\
  (J.okR (a*a)/\J.okR (b*b)) /\
  (J.okR (q-((J.fX a b c x y-x)*(J.fX a b c x y-x)+(J.fY a b c x y-y)*(J.fY a b c x y-y)))/\J.okR (a*a+b*b)/\(a*a+b*b).num ≠ 0) /\
  Weak (tu [ratF ((q-((J.fX a b c x y-x)*(J.fX a b c x y-x)+(J.fY a b c x y-y)*(J.fY a b c x y-y))) / (a*a+b*b)),(vecF (J.fX a b c x y) (J.fY a b c x y))]) dq) :
 mDepth_at f1 f2 f3 f4 f5 f6 g1 g2 g3 g4 g5 g6 a b c x y q (Zag dq):=by
 unfold mDepth_at
 obtain ⟨k1,k2,k3,H⟩:=H
 refine Zae (G:=Zac kp64 [(1,6,.call ((zNmC4 a b c x y)) none),(2,4,.call (ratF (J.fX a b c x y-x)) none),(2,9,.call (ratF (J.fY a b c x y-y)) none)] []) 5 [] ⟨(atC (cd Tryz.f64) [1,1,0]),[(2,AV.ptr 0 0 0 0),(3,AV.ptr 1 0 0 0),(4,AV.ptr 2 0 0 0),(5,AV.ptr 3 0 0 0),(6,AV.ptr 4 0 0 0)],[⟨[Zar f1 f2 f3 f4 f5 f6 a b c],12,0,false,false⟩,⟨[Zar g1 g2 g3 g4 g5 g6 x y q],12,0,false,false⟩,⟨[ag [vb false,AV.vnil,vb false,AV.vnil]],4,0,false,false⟩,⟨[zNmC5],8,0,false,false⟩,⟨[(zNmC4 a b c x y)],8,0,false,false⟩],_,[],_⟩ (by kernel_rfl) (bc rfl (bc rfl (bc rfl (bc rfl b0)))) q0 (ce (@ev103 f1 f2 f3 f4 f5 f6 g1 g2 g3 g4 a b c x y k1) c0) (Zb8 (G:=Zac kp64 [(1,6,.call ((zNmC4 a b c x y)) none),(2,4,.call (ratF (J.fX a b c x y-x)) none),(2,9,.call (ratF (J.fY a b c x y-y)) none)] []) [0,1,2,3,4,6,5] 10 (e1:=[(2,AV.ptr 0 0 0 0),(3,AV.ptr 1 0 0 0),(4,AV.ptr 2 0 0 0),(5,AV.ptr 3 0 0 0),(6,AV.ptr 4 0 0 0),(7,AV.ptr 5 0 0 0),(8,AV.ptr 6 0 0 0)]) (L1:=[⟨[Zar f1 f2 f3 f4 f5 f6 a b c],12,0,false,false⟩,⟨[Zar g1 g2 g3 g4 g5 g6 x y q],12,0,false,false⟩,⟨[ag [vb false,AV.vnil,vb false,AV.vnil]],4,0,false,false⟩,⟨[zNmC5],8,0,false,false⟩,⟨[(zNmC4 a b c x y)],8,0,false,false⟩,⟨[ratF (J.fX a b c x y-x)],4,0,false,false⟩,⟨[ratF (J.fY a b c x y-y)],4,0,false,false⟩]) (a:=[true,true,true,true,true,true]) (q:=[]) (cs:=[⟨true,false,52,[ratF (J.fX a b c x y),ratA g1 g2 x],[],ratF (J.fX a b c x y-x),[]⟩,⟨true,false,52,[ratF (J.fY a b c x y),ratA g3 g4 y],[],ratF (J.fY a b c x y-y),[]⟩]) (by kernel_rfl) (by kernel_rfl) (Zai rfl (Zai rfl (Zai rfl (Zai rfl (Zai rfl (Zai rfl ZaL)))))) Za1 (ZaB (fun _=>(@ev52 false false g1 g2 (J.fX a b c x y) x k2)) (ZaB (fun _=>(@ev52 false false g3 g4 (J.fY a b c x y) y k3)) Za2)) ?_)
 obtain ⟨k4,k5,k6,k7,k12,k13,k14,k15,H⟩:=H
 exact Zah (G:=Zac kp64 [(3,4,.call (ratF ((J.fX a b c x y-x)*(J.fX a b c x y-x))) none),(3,7,.call (ratF ((J.fY a b c x y-y)*(J.fY a b c x y-y))) none),(3,8,.call (ratF ((J.fX a b c x y-x)*(J.fX a b c x y-x)+(J.fY a b c x y-y)*(J.fY a b c x y-y))) none),(3,9,.call (ratF (q-((J.fX a b c x y-x)*(J.fX a b c x y-x)+(J.fY a b c x y-y)*(J.fY a b c x y-y)))) none),(4,5,.call (ratF (a*a)) none),(4,10,.call (ratF (b*b)) none),(4,11,.call (ratF (a*a+b*b)) none),(4,12,.call (ratF ((q-((J.fX a b c x y-x)*(J.fX a b c x y-x)+(J.fY a b c x y-y)*(J.fY a b c x y-y))) / (a*a+b*b))) none)] [(4,[5015,4014,6013,902012,902011,902010,2009,2007,902005,2004,2002,9000])]) 1000 [] (tu [ratF ((q-((J.fX a b c x y-x)*(J.fX a b c x y-x)+(J.fY a b c x y-y)*(J.fY a b c x y-y))) / (a*a+b*b)),(zNmC4 a b c x y)]) (by kernel_rfl) (bc rfl (bc rfl (bc rfl (bc rfl (bc rfl (bc rfl (bc rfl (bc rfl (bc rfl (bc rfl (bc rfl (bc rfl (bc rfl (bc rfl b0)))))))))))))) q0 (ce (@ev53 false false false false (J.fX a b c x y-x) (J.fX a b c x y-x) k4) (ce (@ev53 false false false false (J.fY a b c x y-y) (J.fY a b c x y-y) k5) (ce (@ev77 false false false false ((J.fX a b c x y-x)*(J.fX a b c x y-x)) ((J.fY a b c x y-y)*(J.fY a b c x y-y)) k6) (ce (@ev52 g5 g6 false false q ((J.fX a b c x y-x)*(J.fX a b c x y-x)+(J.fY a b c x y-y)*(J.fY a b c x y-y)) k7) (ce (@ev53 f1 f2 f1 f2 a a k12) (ce (@ev53 f3 f4 f3 f4 b b k13) (ce (@ev77 false false false false (a*a) (b*b) k14) (ce (@ev56 false false false false (q-((J.fX a b c x y-x)*(J.fX a b c x y-x)+(J.fY a b c x y-y)*(J.fY a b c x y-y))) (a*a+b*b) k15) c0)))))))) H
theorem mRad1 (f1 f2 f3 f4 f5 f6:Bool) (a b c:Rat)  (dq:AV) (H :
  (J.okR a/\J.okR a) /\
  (J.okR b/\J.okR b) /\
  (J.okR (a*a)/\J.okR (b*b)) /\
  (J.okR (a*a+b*b)/\J.okR c) /\
  Weak (ratF (a*a+b*b-c)) dq) :
 mRad1_at f1 f2 f3 f4 f5 f6 a b c (Zag dq):=by
 unfold mRad1_at
 obtain ⟨k1,k2,k3,k4,H⟩:=H
 exact Zah (G:=Zac kp76 [(1,4,.call (ratF (a*a)) none),(1,9,.call (ratF (b*b)) none),(1,10,.call (ratF (a*a+b*b)) none),(1,13,.call (ratF (a*a+b*b-c)) none)] []) 1000 [] (ratF (a*a+b*b-c)) (by kernel_rfl) (bc rfl (bc rfl (bc rfl (bc rfl (bc rfl (bc rfl b0)))))) q0 (ce (@ev53 f1 f2 f1 f2 a a k1) (ce (@ev53 f3 f4 f3 f4 b b k2) (ce (@ev77 false false false false (a*a) (b*b) k3) (ce (@ev52 false false f5 f6 (a*a+b*b) c k4) c0)))) H
theorem rRoom (f1 f2 f3 f4 f5 f6 g1 g2 g3 g4 g5 g6:Bool) (a b c x y q:Rat)  (dq:AV) (H :
  (J.ZcW a b c/\J.ZdT x y) /\
  (J.ZdT a b) /\
  (J.okR (J.ZaC a b)/\J.okR q) /\
  (J.okR (J.ZaW a b c x y)/\J.okR (J.ZaW a b c x y)) /\
  (J.okR (J.ZaC a b*q)/\J.okR (J.ZaW a b c x y*J.ZaW a b c x y)) /\
  Weak (ratF (J.ZaC a b*q-J.ZaW a b c x y*J.ZaW a b c x y)) dq) :
 rRoom_at f1 f2 f3 f4 f5 f6 g1 g2 g3 g4 g5 g6 a b c x y q (Zag dq):=by
 unfold rRoom_at
 obtain ⟨k1,k2,k3,k4,k5,H⟩:=H
 exact Zah (G:=Zac kp21 [(1,5,.call (ratF (J.ZaW a b c x y)) none),(2,1,.call (ratF (J.ZaC a b)) none),(2,4,.call (ratF (J.ZaC a b*q)) none),(2,7,.call (ratF (J.ZaW a b c x y*J.ZaW a b c x y)) none),(2,8,.call (ratF (J.ZaC a b*q-J.ZaW a b c x y*J.ZaW a b c x y)) none)] []) 1000 [] (ratF (J.ZaC a b*q-J.ZaW a b c x y*J.ZaW a b c x y)) (by kernel_rfl) (bc rfl (bc rfl (bc rfl (bc rfl (bc rfl (bc rfl (bc rfl (bc rfl (bc rfl b0))))))))) q0 (ce (@ev30 f1 f2 f3 f4 f5 f6 g1 g2 g3 g4 a b c x y k1) (ce (@ev67 f1 f2 f3 f4 f5 f6 a b c k2) (ce (@ev60 false false g5 g6 (J.ZaC a b) q k3) (ce (@ev60 false false false false (J.ZaW a b c x y) (J.ZaW a b c x y) k4) (ce (@ev59 false false false false (J.ZaC a b*q) (J.ZaW a b c x y*J.ZaW a b c x y) k5) c0))))) H
noncomputable abbrev zNmC6 (ax:Rat) (bx:Rat) (c:Rat) (ay:Rat) (by_:Rat):=(pntF (ax+bx*J.rt c) (J.qi 0) (ay+by_*J.rt c) (J.qi 0) (J.qi 0))
theorem rRed9 (f1 f2 f3 f4 f5 f6 f7 f8 f9 f10:Bool) (ax bx ay by_ c:Rat)  (dq:AV) (H :
  ((J.rsq c)->(J.okR c) /\
   (J.okR bx/\J.okR (J.rt c)) /\
   (J.okR ax/\J.okR (bx*J.rt c)) /\
   (J.okR by_/\J.okR (J.rt c)) /\
   (J.okR ay/\J.okR (by_*J.rt c)) /\
   Weak ((pntF (ax+bx*J.rt c) (J.qi 0) (ay+by_*J.rt c) (J.qi 0) (J.qi 0))) dq) /\
  (¬(J.rsq c)->(J.okR c) /\
   Weak (ag [vb (J.Zaa ax.num),AV.vec f1 1 (us (J.Zab ax.num)),vb (J.Zaa (↑ax.den:Int)),AV.vec f2 1 (us (J.Zab (↑ax.den:Int))),vb (J.Zaa bx.num),AV.vec f3 1 (us (J.Zab bx.num)),vb (J.Zaa (↑bx.den:Int)),AV.vec f4 1 (us (J.Zab (↑bx.den:Int))),vb (J.Zaa ay.num),AV.vec f5 1 (us (J.Zab ay.num)),vb (J.Zaa (↑ay.den:Int)),AV.vec f6 1 (us (J.Zab (↑ay.den:Int))),vb (J.Zaa by_.num),AV.vec f7 1 (us (J.Zab by_.num)),vb (J.Zaa (↑by_.den:Int)),AV.vec f8 1 (us (J.Zab (↑by_.den:Int))),vb (J.Zaa c.num),AV.vec f9 1 (us (J.Zab c.num)),vb (J.Zaa (↑c.den:Int)),AV.vec f10 1 (us (J.Zab (↑c.den:Int)))]) dq)) :
 rRed9_at f1 f2 f3 f4 f5 f6 f7 f8 f9 f10 ax bx ay by_ c (Zag dq):=by
 unfold rRed9_at
 rcases xq H with ⟨d1,H⟩|⟨d1,H⟩
 ·obtain ⟨k2,k3,k4,k5,k6,H⟩:=H
  exact Zah (G:=Zac kp69 [(1,1,.call (tu [ratF (J.rt c),vb true]) none),(3,3,.call (ratF (bx*J.rt c)) none),(3,4,.call (ratF (ax+bx*J.rt c)) none),(3,8,.call (ratF (by_*J.rt c)) none),(3,9,.call (ratF (ay+by_*J.rt c)) none),(3,11,.call (zNmC6 ax bx c ay by_) none)] []) 1000 [true] (zNmC6 ax bx c ay by_) (by kernel_rfl) (bc rfl (bc rfl (bc rfl (bc rfl (bc rfl (bc rfl (bc rfl (bc rfl (bc rfl (bc rfl b0)))))))))) q0 (ce (@ev91_y f9 f10 c k2 d1) (ce (@ev60 f3 f4 false false bx (J.rt c) k3) (ce (@ev83 f1 f2 false false ax (bx*J.rt c) k4) (ce (@ev60 f7 f8 false false by_ (J.rt c) k5) (ce (@ev83 f5 f6 false false ay (by_*J.rt c) k6) (ce (@ev61 false false false false (ax+bx*J.rt c) (ay+by_*J.rt c)) c0)))))) H
 ·obtain ⟨k7,H⟩:=H
  exact Zah (G:=Zac kp69 [(1,1,.call (tu [ag [vb false,vf [],vb false,vf []],vb false]) none)] []) 1000 [false] (ag [vb (J.Zaa ax.num),AV.vec f1 1 (us (J.Zab ax.num)),vb (J.Zaa (↑ax.den:Int)),AV.vec f2 1 (us (J.Zab (↑ax.den:Int))),vb (J.Zaa bx.num),AV.vec f3 1 (us (J.Zab bx.num)),vb (J.Zaa (↑bx.den:Int)),AV.vec f4 1 (us (J.Zab (↑bx.den:Int))),vb (J.Zaa ay.num),AV.vec f5 1 (us (J.Zab ay.num)),vb (J.Zaa (↑ay.den:Int)),AV.vec f6 1 (us (J.Zab (↑ay.den:Int))),vb (J.Zaa by_.num),AV.vec f7 1 (us (J.Zab by_.num)),vb (J.Zaa (↑by_.den:Int)),AV.vec f8 1 (us (J.Zab (↑by_.den:Int))),vb (J.Zaa c.num),AV.vec f9 1 (us (J.Zab c.num)),vb (J.Zaa (↑c.den:Int)),AV.vec f10 1 (us (J.Zab (↑c.den:Int)))]) (by kernel_rfl) (bc rfl (bc rfl (bc rfl (bc rfl (bc rfl (bc rfl (bc rfl (bc rfl (bc rfl b0))))))))) q0 (ce (@ev91_n f9 f10 c k7 d1) c0) H
theorem rX7 (f1 f2 f3 f4 f5 f6 f7 f8 f9 f10:Bool) (ax bx ay by_ c:Rat)  (dq:AV) (H :
  Weak (ZaH ax bx (J.rad bx c)) dq) :
 rX7_at f1 f2 f3 f4 f5 f6 f7 f8 f9 f10 ax bx ay by_ c (Zag dq):=by
 unfold rX7_at
 exact Zah (G:=Zac kp108 [(1,6,.call (ZaH ax bx (J.rad bx c)) none)] []) 1000 [] (ZaH ax bx (J.rad bx c)) (by kernel_rfl) (bc rfl (bc rfl (bc rfl (bc rfl b0)))) q0 (ce (@ev147 f1 f2 f3 f4 f9 f10 ax bx c) c0) H
theorem rY7 (f1 f2 f3 f4 f5 f6 f7 f8 f9 f10:Bool) (ax bx ay by_ c:Rat)  (dq:AV) (H :
  Weak (ZaH ay by_ (J.rad by_ c)) dq) :
 rY7_at f1 f2 f3 f4 f5 f6 f7 f8 f9 f10 ax bx ay by_ c (Zag dq):=by
 unfold rY7_at
 exact Zah (G:=Zac kp109 [(1,6,.call (ZaH ay by_ (J.rad by_ c)) none)] []) 1000 [] (ZaH ay by_ (J.rad by_ c)) (by kernel_rfl) (bc rfl (bc rfl (bc rfl (bc rfl b0)))) q0 (ce (@ev147 f5 f6 f7 f8 f9 f10 ay by_ c) c0) H
noncomputable abbrev zNmC7 (ax:Rat) (ay:Rat) (bx:Rat) (by_:Rat) (c:Rat):=bif bif bif bif !J.Zcw (J.Zaa ax.num) (J.Zab ax.num) (J.Zaa (↑ax.den:Int)) (J.Zab (↑ax.den:Int)) then true else !J.Zcw (J.Zaa ay.num) (J.Zab ay.num) (J.Zaa (↑ay.den:Int)) (J.Zab (↑ay.den:Int)) then true else !J.Zcw (J.Zaa bx.num) (J.Zab bx.num) (J.Zaa (↑bx.den:Int)) (J.Zab (↑bx.den:Int)) then true else !J.Zcw (J.Zaa by_.num) (J.Zab by_.num) (J.Zaa (↑by_.den:Int)) (J.Zab (↑by_.den:Int)) then true else !J.Zcw (J.Zaa c.num) (J.Zab c.num) (J.Zaa (↑c.den:Int)) (J.Zab (↑c.den:Int))
noncomputable abbrev zNmC8 (ax:Rat) (f1:Bool) (f2:Bool) (bx:Rat) (f3:Bool) (f4:Bool) (ay:Rat) (f5:Bool) (f6:Bool) (by_:Rat) (f7:Bool) (f8:Bool) (c:Rat) (f9:Bool) (f10:Bool):=ag [vb (J.Zaa ax.num),AV.vec f1 1 (us (J.Zab ax.num)),vb (J.Zaa (↑ax.den:Int)),AV.vec f2 1 (us (J.Zab (↑ax.den:Int))),vb (J.Zaa bx.num),AV.vec f3 1 (us (J.Zab bx.num)),vb (J.Zaa (↑bx.den:Int)),AV.vec f4 1 (us (J.Zab (↑bx.den:Int))),vb (J.Zaa ay.num),AV.vec f5 1 (us (J.Zab ay.num)),vb (J.Zaa (↑ay.den:Int)),AV.vec f6 1 (us (J.Zab (↑ay.den:Int))),vb (J.Zaa by_.num),AV.vec f7 1 (us (J.Zab by_.num)),vb (J.Zaa (↑by_.den:Int)),AV.vec f8 1 (us (J.Zab (↑by_.den:Int))),vb (J.Zaa c.num),AV.vec f9 1 (us (J.Zab c.num)),vb (J.Zaa (↑c.den:Int)),AV.vec f10 1 (us (J.Zab (↑c.den:Int)))]
noncomputable abbrev zNmC9 (ax:Rat) (ay:Rat) (bx:Rat) (by_:Rat):=bif bif bif !J.Zcw (J.Zaa ax.num) (J.Zab ax.num) (J.Zaa (↑ax.den:Int)) (J.Zab (↑ax.den:Int)) then true else !J.Zcw (J.Zaa ay.num) (J.Zab ay.num) (J.Zaa (↑ay.den:Int)) (J.Zab (↑ay.den:Int)) then true else !J.Zcw (J.Zaa bx.num) (J.Zab bx.num) (J.Zaa (↑bx.den:Int)) (J.Zab (↑bx.den:Int)) then true else !J.Zcw (J.Zaa by_.num) (J.Zab by_.num) (J.Zaa (↑by_.den:Int)) (J.Zab (↑by_.den:Int))
noncomputable abbrev zNmC10 (ax:Rat) (ay:Rat) (bx:Rat):=bif bif !J.Zcw (J.Zaa ax.num) (J.Zab ax.num) (J.Zaa (↑ax.den:Int)) (J.Zab (↑ax.den:Int)) then true else !J.Zcw (J.Zaa ay.num) (J.Zab ay.num) (J.Zaa (↑ay.den:Int)) (J.Zab (↑ay.den:Int)) then true else !J.Zcw (J.Zaa bx.num) (J.Zab bx.num) (J.Zaa (↑bx.den:Int)) (J.Zab (↑bx.den:Int))
noncomputable abbrev zNmC11 (ax:Rat) (ay:Rat):=bif !J.Zcw (J.Zaa ax.num) (J.Zab ax.num) (J.Zaa (↑ax.den:Int)) (J.Zab (↑ax.den:Int)) then true else !J.Zcw (J.Zaa ay.num) (J.Zab ay.num) (J.Zaa (↑ay.den:Int)) (J.Zab (↑ay.den:Int))
noncomputable abbrev zNmC12 (by_:Rat):=J.Zcw (J.Zaa by_.num) (J.Zab by_.num) (J.Zaa (↑by_.den:Int)) (J.Zab (↑by_.den:Int))
noncomputable abbrev zNmC13 (ay:Rat):=J.Zcw (J.Zaa ay.num) (J.Zab ay.num) (J.Zaa (↑ay.den:Int)) (J.Zab (↑ay.den:Int))
noncomputable abbrev zNmC14 (bx:Rat):=J.Zcw (J.Zaa bx.num) (J.Zab bx.num) (J.Zaa (↑bx.den:Int)) (J.Zab (↑bx.den:Int))
noncomputable abbrev zNmC15 (c:Rat):=J.Zcw (J.Zaa c.num) (J.Zab c.num) (J.Zaa (↑c.den:Int)) (J.Zab (↑c.den:Int))
theorem rVal7 (f1 f2 f3 f4 f5 f6 f7 f8 f9 f10:Bool) (ax bx ay by_ c:Rat)  (dq:AV) (H :
  (J.okA (J.Zab ax.num) (J.Zab (↑ax.den:Int))) /\
  ((¬(¬(J.Zcw (J.Zaa ax.num) (J.Zab ax.num) (J.Zaa (↑ax.den:Int)) (J.Zab (↑ax.den:Int))=true)))->(J.okA (J.Zab ay.num) (J.Zab (↑ay.den:Int)))) /\
  ((¬((¬(J.Zcw (J.Zaa ax.num) (J.Zab ax.num) (J.Zaa (↑ax.den:Int)) (J.Zab (↑ax.den:Int))=true))\/(¬(J.Zcw (J.Zaa ay.num) (J.Zab ay.num) (J.Zaa (↑ay.den:Int)) (J.Zab (↑ay.den:Int))=true))))->(J.okA (J.Zab bx.num) (J.Zab (↑bx.den:Int)))) /\
  ((¬(((¬(J.Zcw (J.Zaa ax.num) (J.Zab ax.num) (J.Zaa (↑ax.den:Int)) (J.Zab (↑ax.den:Int))=true))\/(¬(J.Zcw (J.Zaa ay.num) (J.Zab ay.num) (J.Zaa (↑ay.den:Int)) (J.Zab (↑ay.den:Int))=true)))\/(¬(J.Zcw (J.Zaa bx.num) (J.Zab bx.num) (J.Zaa (↑bx.den:Int)) (J.Zab (↑bx.den:Int))=true))))->(J.okA (J.Zab by_.num) (J.Zab (↑by_.den:Int)))) /\
  ((¬((((¬(J.Zcw (J.Zaa ax.num) (J.Zab ax.num) (J.Zaa (↑ax.den:Int)) (J.Zab (↑ax.den:Int))=true))\/(¬(J.Zcw (J.Zaa ay.num) (J.Zab ay.num) (J.Zaa (↑ay.den:Int)) (J.Zab (↑ay.den:Int))=true)))\/(¬(J.Zcw (J.Zaa bx.num) (J.Zab bx.num) (J.Zaa (↑bx.den:Int)) (J.Zab (↑bx.den:Int))=true)))\/(¬(J.Zcw (J.Zaa by_.num) (J.Zab by_.num) (J.Zaa (↑by_.den:Int)) (J.Zab (↑by_.den:Int))=true))))->(J.okA (J.Zab c.num) (J.Zab (↑c.den:Int)))) /\
  ((((((¬(J.Zcw (J.Zaa ax.num) (J.Zab ax.num) (J.Zaa (↑ax.den:Int)) (J.Zab (↑ax.den:Int))=true))\/(¬(J.Zcw (J.Zaa ay.num) (J.Zab ay.num) (J.Zaa (↑ay.den:Int)) (J.Zab (↑ay.den:Int))=true)))\/(¬(J.Zcw (J.Zaa bx.num) (J.Zab bx.num) (J.Zaa (↑bx.den:Int)) (J.Zab (↑bx.den:Int))=true)))\/(¬(J.Zcw (J.Zaa by_.num) (J.Zab by_.num) (J.Zaa (↑by_.den:Int)) (J.Zab (↑by_.den:Int))=true)))\/(¬(J.Zcw (J.Zaa c.num) (J.Zab c.num) (J.Zaa (↑c.den:Int)) (J.Zab (↑c.den:Int))=true)))->vb false=dq) /\
  (¬(((((¬(J.Zcw (J.Zaa ax.num) (J.Zab ax.num) (J.Zaa (↑ax.den:Int)) (J.Zab (↑ax.den:Int))=true))\/(¬(J.Zcw (J.Zaa ay.num) (J.Zab ay.num) (J.Zaa (↑ay.den:Int)) (J.Zab (↑ay.den:Int))=true)))\/(¬(J.Zcw (J.Zaa bx.num) (J.Zab bx.num) (J.Zaa (↑bx.den:Int)) (J.Zab (↑bx.den:Int))=true)))\/(¬(J.Zcw (J.Zaa by_.num) (J.Zab by_.num) (J.Zaa (↑by_.den:Int)) (J.Zab (↑by_.den:Int))=true)))\/(¬(J.Zcw (J.Zaa c.num) (J.Zab c.num) (J.Zaa (↑c.den:Int)) (J.Zab (↑c.den:Int))=true)))->(((J.sgnI bx.num=0)/\(J.sgnI by_.num=0))->vb (J.sgnI c.num==0)=dq) /\
   (¬((J.sgnI bx.num=0)/\(J.sgnI by_.num=0))->((J.rsq c)->(J.okR c) /\
     vb (bif decide (J.sgnI c.num>0) then false else false)=dq) /\
    (¬(J.rsq c)->(J.okR c) /\
     vb (bif decide (J.sgnI c.num>0) then true else false)=dq)))) :
 rVal7_at f1 f2 f3 f4 f5 f6 f7 f8 f9 f10 ax bx ay by_ c (Zag dq):=by
 unfold rVal7_at
 obtain ⟨k1,k3,k5,k7,k9,H⟩:=H
 refine Zae (G:=Zac kp36 [(1,2,.call (vb (J.Zcw (J.Zaa ax.num) (J.Zab ax.num) (J.Zaa (↑ax.den:Int)) (J.Zab (↑ax.den:Int)))) none),(1,7,.call (vb (zNmC13 ay)) none),(1,13,.call (vb (zNmC14 bx)) none),(1,19,.call (vb (zNmC12 by_)) none),(1,25,.call (vb (zNmC15 c)) none)] []) 5 [] ⟨(atC (cd Tryz.f36) [1,0,1]),[(1,AV.ptr 0 0 0 0),(32,vb (zNmC7 ax ay bx by_ c))],[⟨[(zNmC8 ax f1 f2 bx f3 f4 ay f5 f6 by_ f7 f8 c f9 f10)],20,0,false,false⟩],[true,!((!J.Zcw (J.Zaa ax.num) (J.Zab ax.num) (J.Zaa (↑ax.den:Int)) (J.Zab (↑ax.den:Int)))==false&&true)||true,!((zNmC11 ax ay)==false&&true)||true,!((zNmC10 ax ay bx)==false&&true)||true,!((zNmC9 ax ay bx by_)==false&&true)||true],[],[⟨true,false,27,[ratA f1 f2 ax],[],vb (J.Zcw (J.Zaa ax.num) (J.Zab ax.num) (J.Zaa (↑ax.den:Int)) (J.Zab (↑ax.den:Int))),[]⟩,⟨(!J.Zcw (J.Zaa ax.num) (J.Zab ax.num) (J.Zaa (↑ax.den:Int)) (J.Zab (↑ax.den:Int)))==false&&true&&true,false,27,[ratA f5 f6 ay],[],vb (zNmC13 ay),[]⟩,⟨(zNmC11 ax ay)==false&&true&&true,false,27,[ratA f3 f4 bx],[],vb (zNmC14 bx),[]⟩,⟨(zNmC10 ax ay bx)==false&&true&&true,false,27,[ratA f7 f8 by_],[],vb (zNmC12 by_),[]⟩,⟨(zNmC9 ax ay bx by_)==false&&true&&true,false,27,[ratA f9 f10 c],[],vb (zNmC15 c),[]⟩]⟩ (by kernel_rfl) (bc rfl (bc (Bool.or_true _) (bc (Bool.or_true _) (bc (Bool.or_true _) (bc (Bool.or_true _) b0))))) q0 (cc (fun _=>(@ev27 (J.Zaa ax.num) f1 (J.Zaa (↑ax.den:Int)) f2 (J.Zab ax.num) (J.Zab (↑ax.den:Int)) k1)) (cc (fun hc=>((@ev27 (J.Zaa ay.num) f5 (J.Zaa (↑ay.den:Int)) f6 (J.Zab ay.num) (J.Zab (↑ay.den:Int)) (k3 ((i_at (i_at (i_bf (ZaN (Zau _))))).1 hc))):Ev M1 (Conf.pure 27 [ratA f5 f6 ay]) (vb (zNmC13 ay)) [])) (cc (fun hc=>((@ev27 (J.Zaa bx.num) f3 (J.Zaa (↑bx.den:Int)) f4 (J.Zab bx.num) (J.Zab (↑bx.den:Int)) (k5 ((i_at (i_at (i_bf (Za4 (ZaN (Zau _)) (ZaN (Zau _)))))).1 hc))):Ev M1 (Conf.pure 27 [ratA f3 f4 bx]) (vb (zNmC14 bx)) [])) (cc (fun hc=>((@ev27 (J.Zaa by_.num) f7 (J.Zaa (↑by_.den:Int)) f8 (J.Zab by_.num) (J.Zab (↑by_.den:Int)) (k7 ((i_at (i_at (i_bf (Za4 (Za4 (ZaN (Zau _)) (ZaN (Zau _))) (ZaN (Zau _)))))).1 hc))):Ev M1 (Conf.pure 27 [ratA f7 f8 by_]) (vb (zNmC12 by_)) [])) (cc (fun hc=>((@ev27 (J.Zaa c.num) f9 (J.Zaa (↑c.den:Int)) f10 (J.Zab c.num) (J.Zab (↑c.den:Int)) (k9 ((i_at (i_at (i_bf (Za4 (Za4 (Za4 (ZaN (Zau _)) (ZaN (Zau _))) (ZaN (Zau _))) (ZaN (Zau _)))))).1 hc))):Ev M1 (Conf.pure 27 [ratA f9 f10 c]) (vb (zNmC15 c)) [])) c0))))) ?_
 rcases xq H with ⟨d11,H⟩|⟨d11,H⟩
 ·exact Zaq (G:=Zac kp36 [] []) 1000 [true] (asm:=[(zNmC7 ax ay bx by_ c)==true]) (vb false) (by kernel_rfl) (bc (Zap ((Za4 (Za4 (Za4 (Za4 (ZaN (Zau _)) (ZaN (Zau _))) (ZaN (Zau _))) (ZaN (Zau _))) (ZaN (Zau _))).2 d11)) b0) q0 c0 H
 ·refine Zae (G:=Zac kp36 [(3,2,.call (vi (J.sgnI bx.num)) none),(3,7,.call (vi (J.sgnI by_.num)) none)] []) 5 [false] ⟨(atC (cd Tryz.f36) [1,1,0,1]),[(1,AV.ptr 0 0 0 0),(42,vb (bif J.sgnI bx.num==0 then J.sgnI by_.num==0 else false))],[⟨[(zNmC8 ax f1 f2 bx f3 f4 ay f5 f6 by_ f7 f8 c f9 f10)],20,0,false,false⟩],[(zNmC7 ax ay bx by_ c)==false,true,!((J.sgnI bx.num==0)==true&&true)||true],[],[⟨true,false,20,[ratA f3 f4 bx],[],vi (J.sgnI bx.num),[]⟩,⟨(J.sgnI bx.num==0)==true&&true&&true,false,20,[ratA f7 f8 by_],[],vi (J.sgnI by_.num),[]⟩]⟩ (by kernel_rfl) (bc (Zam (fun h=>d11 ((Za4 (Za4 (Za4 (Za4 (ZaN (Zau _)) (ZaN (Zau _))) (ZaN (Zau _))) (ZaN (Zau _))) (ZaN (Zau _))).1 h))) (bc rfl (bc (Bool.or_true _) b0))) q0 (cc (fun _=>(@ev20 f3 f4 (bx.num) ((↑bx.den:Int)))) (cc (fun hc=>((@ev20 f7 f8 (by_.num) ((↑by_.den:Int))):Ev M1 (Conf.pure 20 [ratA f7 f8 by_]) (vi (J.sgnI by_.num)) [])) c0)) ?_
  rcases xq H with ⟨d14,H⟩|⟨d14,H⟩
  ·exact Zaq (G:=Zac kp36 [(4,2,.call (vi (J.sgnI c.num)) none)] []) 1000 [true] (vb (J.sgnI c.num==0)) (by kernel_rfl) (bc (Zap ((ZaI i_eq i_eq).2 d14)) (bc rfl b0)) q0 (ce (@ev20 f9 f10 (c.num) ((↑c.den:Int))) c0) H
  ·rcases xq H with ⟨d15,H⟩|⟨d15,H⟩
   ·obtain ⟨k16,H⟩:=H
    exact Zaq (G:=Zac kp36 [(5,2,.call (tu [ratF (J.rt c),vb true]) none),(6,2,.call (vi (J.sgnI c.num)) none)] []) 1000 [false] (vb (bif decide (J.sgnI c.num>0) then false else false)) (by kernel_rfl) (bc (Zam (fun h=>d14 ((ZaI i_eq i_eq).1 h))) (bc rfl (bc rfl (bc rfl b0)))) q0 (ce (@ev91_y f9 f10 c k16 d15) (ce (@ev20 f9 f10 (c.num) ((↑c.den:Int))) c0)) H
   ·obtain ⟨k17,H⟩:=H
    exact Zaq (G:=Zac kp36 [(5,2,.call (tu [ag [vb false,vf [],vb false,vf []],vb false]) none),(6,2,.call (vi (J.sgnI c.num)) none)] []) 1000 [false] (vb (bif decide (J.sgnI c.num>0) then true else false)) (by kernel_rfl) (bc (Zam (fun h=>d14 ((ZaI i_eq i_eq).1 h))) (bc rfl (bc rfl (bc rfl b0)))) q0 (ce (@ev91_n f9 f10 c k17 d15) (ce (@ev20 f9 f10 (c.num) ((↑c.den:Int))) c0)) H
noncomputable abbrev zNmC16 (a:Rat) (f1:Bool) (f2:Bool) (b:Rat) (f3:Bool) (f4:Bool) (c:Rat) (f5:Bool) (f6:Bool) (d:Rat) (f7:Bool) (f8:Bool) (m:Rat) (f9:Bool) (f10:Bool) (n:Rat) (f11:Bool) (f12:Bool):=ag [vb (J.Zaa a.num),AV.vec f1 1 (us (J.Zab a.num)),vb (J.Zaa (↑a.den:Int)),AV.vec f2 1 (us (J.Zab (↑a.den:Int))),vb (J.Zaa b.num),AV.vec f3 1 (us (J.Zab b.num)),vb (J.Zaa (↑b.den:Int)),AV.vec f4 1 (us (J.Zab (↑b.den:Int))),vb (J.Zaa c.num),AV.vec f5 1 (us (J.Zab c.num)),vb (J.Zaa (↑c.den:Int)),AV.vec f6 1 (us (J.Zab (↑c.den:Int))),vb (J.Zaa d.num),AV.vec f7 1 (us (J.Zab d.num)),vb (J.Zaa (↑d.den:Int)),AV.vec f8 1 (us (J.Zab (↑d.den:Int))),vb (J.Zaa m.num),AV.vec f9 1 (us (J.Zab m.num)),vb (J.Zaa (↑m.den:Int)),AV.vec f10 1 (us (J.Zab (↑m.den:Int))),vb (J.Zaa n.num),AV.vec f11 1 (us (J.Zab n.num)),vb (J.Zaa (↑n.den:Int)),AV.vec f12 1 (us (J.Zab (↑n.den:Int)))]
theorem rSign5 (f1 f2 f3 f4 f5 f6 f7 f8 f9 f10 f11 f12:Bool) (a b c d m n:Rat)  (dq:AV) (H :
  (((J.sgnI m.num<0)\/(J.sgnI n.num<0))->vi 0=dq) /\
  (¬((J.sgnI m.num<0)\/(J.sgnI n.num<0))->(J.okTw a b m) /\
   (J.okTw c d m) /\
   (-9223372036854775808<=J.sg2 c d m*J.sgnI n.num/\J.sg2 c d m*J.sgnI n.num<=9223372036854775807) /\
   ((((J.sg2 a b m=0)\/(J.sg2 c d m*J.sgnI n.num=0))\/(J.sg2 a b m=J.sg2 c d m*J.sgnI n.num))->((J.sg2 a b m=0)->vi (J.sg2 c d m*J.sgnI n.num)=dq) /\
    (¬(J.sg2 a b m=0)->vi (J.sg2 a b m)=dq)) /\
   (¬(((J.sg2 a b m=0)\/(J.sg2 c d m*J.sgnI n.num=0))\/(J.sg2 a b m=J.sg2 c d m*J.sgnI n.num))->(J.okR c/\J.okR c) /\
    (J.okR d/\J.okR d) /\
    (J.okR (d*d)/\J.okR m) /\
    (J.okR (c*c)/\J.okR (d*d*m)) /\
    (J.okR n/\J.okR (c*c+d*d*m)) /\
    (J.okR a/\J.okR a) /\
    (J.okR b/\J.okR b) /\
    (J.okR (b*b)/\J.okR m) /\
    (J.okR (a*a)/\J.okR (b*b*m)) /\
    (J.okR (a*a+b*b*m)/\J.okR (n*(c*c+d*d*m))) /\
    (J.okR a/\J.okR b) /\
    (J.okR c/\J.okR d) /\
    (J.okR n/\J.okR (c*d)) /\
    (J.okR (a*b)/\J.okR (n*(c*d))) /\
    (J.okR (a*b-n*(c*d))/\J.okR (a*b-n*(c*d))) /\
    (J.okTw (a*a+b*b*m-n*(c*c+d*d*m)) (a*b-n*(c*d)+(a*b-n*(c*d))) m) /\
    (-9223372036854775808<=J.sg2 a b m*J.sg2 (a*a+b*b*m-n*(c*c+d*d*m)) (a*b-n*(c*d)+(a*b-n*(c*d))) m/\J.sg2 a b m*J.sg2 (a*a+b*b*m-n*(c*c+d*d*m)) (a*b-n*(c*d)+(a*b-n*(c*d))) m<=9223372036854775807) /\
    vi (J.sg2 a b m*J.sg2 (a*a+b*b*m-n*(c*c+d*d*m)) (a*b-n*(c*d)+(a*b-n*(c*d))) m)=dq))) :
 rSign5_at f1 f2 f3 f4 f5 f6 f7 f8 f9 f10 f11 f12 a b c d m n (Zag dq):=by
 unfold rSign5_at
 refine Zae (G:=Zac kp145 [(1,2,.call (vi (J.sgnI m.num)) none),(1,7,.call (vi (J.sgnI n.num)) none)] []) 5 [] ⟨(atC (cd Tryz.f145) [1,0,1]),[(1,AV.ptr 0 0 0 0),(17,vb (bif decide (J.sgnI m.num<0) then true else decide (J.sgnI n.num<0)))],[⟨[(zNmC16 a f1 f2 b f3 f4 c f5 f6 d f7 f8 m f9 f10 n f11 f12)],24,0,false,false⟩],[true,!(decide (J.sgnI m.num<0)==false&&true)||true],[],[⟨true,false,20,[ratA f9 f10 m],[],vi (J.sgnI m.num),[]⟩,⟨decide (J.sgnI m.num<0)==false&&true&&true,false,20,[ratA f11 f12 n],[],vi (J.sgnI n.num),[]⟩]⟩ (by kernel_rfl) (bc rfl (bc (Bool.or_true _) b0)) q0 (cc (fun _=>(@ev20 f9 f10 (m.num) ((↑m.den:Int)))) (cc (fun hc=>((@ev20 f11 f12 (n.num) ((↑n.den:Int))):Ev M1 (Conf.pure 20 [ratA f11 f12 n]) (vi (J.sgnI n.num)) [])) c0)) ?_
 rcases xq H with ⟨d3,H⟩|⟨d3,H⟩
 ·exact Zaq (G:=Zac kp145 [] []) 1000 [true] (vi 0) (by kernel_rfl) (bc (Zap ((Za4 Zad Zad).2 d3)) b0) q0 c0 H
 ·obtain ⟨k4,k5,k6,H⟩:=H
  have w7:wi (J.sg2 c d m*J.sgnI n.num)=J.sg2 c d m*J.sgnI n.num:=wI64 k6
  have i8:(bif bif J.sg2 a b m==0 then true else wi (J.sg2 c d m*J.sgnI n.num)==0 then true else J.sg2 a b m==wi (J.sg2 c d m*J.sgnI n.num))=true ↔ (((J.sg2 a b m=0)\/(J.sg2 c d m*J.sgnI n.num=0))\/(J.sg2 a b m=J.sg2 c d m*J.sgnI n.num)):=(by (try rw [w7]);all_goals exact (Za4 (Za4 i_eq i_eq) i_eq))
  refine Zae (G:=Zac kp145 [(3,6,.call (vi (J.sg2 a b m)) none),(3,13,.call (vi (J.sg2 c d m)) none),(3,16,.call (vi (J.sgnI n.num)) none)] []) 7 [false] ⟨(atC (cd Tryz.f145) [1,1,1,0,1]),[(1,AV.ptr 0 0 0 0),(3,vi (J.sg2 a b m)),(4,vi (wi (J.sg2 c d m*J.sgnI n.num))),(46,vb (bif bif J.sg2 a b m==0 then true else wi (J.sg2 c d m*J.sgnI n.num)==0 then true else J.sg2 a b m==wi (J.sg2 c d m*J.sgnI n.num)))],[⟨[(zNmC16 a f1 f2 b f3 f4 c f5 f6 d f7 f8 m f9 f10 n f11 f12)],24,0,false,false⟩],_,[],_⟩ (by kernel_rfl) (bc (Zam (fun h=>d3 ((Za4 Zad Zad).1 h))) (bc rfl (bc rfl (bc rfl (bc rfl (bc rfl (bc rfl (bc rfl b0)))))))) q0 (ce (@ev167 f1 f2 f3 f4 f9 f10 a b m k4) (ce (@ev167 f5 f6 f7 f8 f9 f10 c d m k5) (ce (@ev20 f11 f12 (n.num) ((↑n.den:Int))) c0))) ?_
  rcases xq H with ⟨d9,H⟩|⟨d9,H⟩
  ·rcases xq H with ⟨d11,H⟩|⟨d11,H⟩
   ·exact Zaq (G:=Zac kp145 [] []) 1000 [true,true] (vi (wi (J.sg2 c d m*J.sgnI n.num))) (by kernel_rfl) (bc (Zap (i8.2 d9)) (bc (Zap (i_eq.2 d11)) b0)) q0 c0 (by (try rw [w7]);all_goals exact H)
   ·exact Zaq (G:=Zac kp145 [] []) 1000 [true,false] (vi (J.sg2 a b m)) (by kernel_rfl) (bc (Zap (i8.2 d9)) (bc (Zam (fun h=>d11 (i_eq.1 h))) b0)) q0 c0 H
  ·obtain ⟨k12,k13,k14,k15,k16,k17,k18,k19,k20,k21,k22,k23,k24,k25,k26,k27,k28,H⟩:=H
   have w29:wi (J.sg2 a b m*J.sg2 (a*a+b*b*m-n*(c*c+d*d*m)) (a*b-n*(c*d)+(a*b-n*(c*d))) m)=J.sg2 a b m*J.sg2 (a*a+b*b*m-n*(c*c+d*d*m)) (a*b-n*(c*d)+(a*b-n*(c*d))) m:=wI64 k28
   exact Zaq (G:=Zac kp145 [(8,6,.call (ratF (c*c)) none),(8,11,.call (ratF (d*d)) none),(8,14,.call (ratF (d*d*m)) none),(8,15,.call (ratF (c*c+d*d*m)) none),(8,16,.call (ratF (n*(c*c+d*d*m))) none),(9,4,.call (ratF (a*a)) none),(9,9,.call (ratF (b*b)) none),(9,12,.call (ratF (b*b*m)) none),(9,13,.call (ratF (a*a+b*b*m)) none),(9,15,.call (ratF (a*a+b*b*m-n*(c*c+d*d*m))) none),(10,4,.call (ratF (a*b)) none),(10,11,.call (ratF (c*d)) none),(10,12,.call (ratF (n*(c*d))) none),(10,13,.call (ratF (a*b-n*(c*d))) none),(11,4,.call (ratF (a*b-n*(c*d)+(a*b-n*(c*d)))) none),(11,7,.call (vi (J.sg2 (a*a+b*b*m-n*(c*c+d*d*m)) (a*b-n*(c*d)+(a*b-n*(c*d))) m)) none)] []) 1000 [false] (vi (wi (J.sg2 a b m*J.sg2 (a*a+b*b*m-n*(c*c+d*d*m)) (a*b-n*(c*d)+(a*b-n*(c*d))) m))) (by kernel_rfl) (bc (Zam (fun h=>d9 (i8.1 h))) (bc rfl (bc rfl (bc rfl (bc rfl (bc rfl (bc rfl (bc rfl (bc rfl (bc rfl (bc rfl (bc rfl (bc rfl (bc rfl (bc rfl (bc rfl (bc rfl (bc rfl (bc rfl (bc rfl (bc rfl (bc rfl (bc rfl (bc rfl (bc rfl b0))))))))))))))))))))))))) q0 (ce (@ev35 f5 f6 f5 f6 c c k12) (ce (@ev35 f7 f8 f7 f8 d d k13) (ce (@ev35 false false f9 f10 (d*d) m k14) (ce (@ev34 false false false false (c*c) (d*d*m) k15) (ce (@ev35 f11 f12 false false n (c*c+d*d*m) k16) (ce (@ev35 f1 f2 f1 f2 a a k17) (ce (@ev35 f3 f4 f3 f4 b b k18) (ce (@ev35 false false f9 f10 (b*b) m k19) (ce (@ev34 false false false false (a*a) (b*b*m) k20) (ce (@ev28 false false false false (a*a+b*b*m) (n*(c*c+d*d*m)) k21) (ce (@ev35 f1 f2 f3 f4 a b k22) (ce (@ev35 f5 f6 f7 f8 c d k23) (ce (@ev35 f11 f12 false false n (c*d) k24) (ce (@ev28 false false false false (a*b) (n*(c*d)) k25) (ce (@ev34 false false false false (a*b-n*(c*d)) (a*b-n*(c*d)) k26) (ce (@ev167 false false false false f9 f10 (a*a+b*b*m-n*(c*c+d*d*m)) (a*b-n*(c*d)+(a*b-n*(c*d))) m k27) c0)))))))))))))))) (by (try rw [w29]);all_goals exact H)
end Go.Av

namespace Go.Av
open Go.Proofs
noncomputable def Pnt.a (p:Pnt):AV:=pntF p.ax p.bx p.ay p.by_ p.c
namespace J
def ZfQ (p:Pnt):Prop:=(okT 2200 p.ax/\okT 200 p.bx)/\(okT 2200 p.ay/\okT 200 p.by_)/\okT 1700 p.c
def okMk (b c y z:Rat):Prop:=(okT 9000 c/\okT 9000 z)/\(b=0\/y=0\/c=z)
def okQ5 (a b c d m n:Rat):Prop:=okT 4500 a/\okT 2000 b/\okT 2000 c/\okT 5 d/\okT 2000 m/\okT 2000 n
open Classical in
noncomputable def vP (ax bx ay by_ c:Rat):Bool:=decide (ZbA ⟨ax,bx,ay,by_,c⟩)
end J
theorem okT_f {a b c x y:Rat} (h:J.Zfc a b c) (k:J.ZdT x y):J.okT 350 (J.fX a b c x y)/\J.okT 350 (J.fY a b c x y):=by
 obtain ⟨⟨ha,hb,hc⟩,h0⟩:=h
 obtain ⟨hx,hy⟩:=k
 have hn:(a*a+b*b).num ≠ 0:=ZhP (ZdV h0)
 exact ⟨Zas (k:=334) (Zat hx (Zaf (ZbK (Zat (ZaG (Zaf ha hx) (Zaf hb hy)) hc) (ZaG (Zaf ha ha) (Zaf hb hb)) hn) ha)) (by omega),Zas (k:=334) (Zat hy (Zaf (ZbK (Zat (ZaG (Zaf ha hx) (Zaf hb hy)) hc) (ZaG (Zaf ha ha) (Zaf hb hb)) hn) hb)) (by omega)⟩
theorem okT_dep {a b c x y q:Rat} (h:J.Zfc a b c) (k:J.ZdT x y) (hq:J.okT 30 q):J.okT 1700 (J.dep a b c x y q):=by
 have hf:=okT_f h k
 obtain ⟨⟨ha,hb,hc⟩,h0⟩:=h
 obtain ⟨hx,hy⟩:=k
 have hn:(a*a+b*b).num ≠ 0:=ZhP (ZdV h0)
 exact Zas (k:=1677) (ZbK (Zat hq (ZaG (Zaf (Zat hf.1 hx) (Zat hf.1 hx)) (Zaf (Zat hf.2 hy) (Zat hf.2 hy)))) (ZaG (Zaf ha ha) (Zaf hb hb)) hn) (by omega)
theorem okT_room {a b c x y q:Rat} (h:J.ZcW a b c) (k:J.ZdT x y) (hq:J.okT 30 q):J.okT 500 (J.Zb6 a b c x y q):=by
 obtain ⟨ha,hb,hc⟩:=h
 obtain ⟨hx,hy⟩:=k
 exact Zas (k:=456) (Zat (Zaf (ZaG (Zaf ha ha) (Zaf hb hb)) hq) (Zaf (Zat (ZaG (Zaf ha hx) (Zaf hb hy)) hc) (Zat (ZaG (Zaf ha hx) (Zaf hb hy)) hc))) (by omega)
theorem ev106 (f1 f2 f3 f4 f5 f6 g1 g2 g3 g4 g5 g6:Bool) (a b c x y z:Rat) (h:J.okMk b c y z):Ev M1 (.pure 106 [Zar f1 f2 f3 f4 f5 f6 a b c,Zar g1 g2 g3 g4 g5 g6 x y z]) (.tup [pntF a b x y (J.rd2 b y (J.com b c z)),.int .i64 0]) []:=by
 obtain ⟨⟨h1,h2⟩,h3⟩:=h
 refine call106 (mMake _ _ _ _ _ _ _ _ _ _ _ _ _ _ _ _ _ _ _ ⟨fun k => ?_,fun k=>⟨fun _=>⟨Zak h1 (by omega),Zak h2 (by omega)⟩,fun j => ?_,fun _ => ?_⟩⟩)
 ·rw [sgz] at k
  rw [show J.com b c z=z from if_pos k]
  exact .refl _
 ·rw [sgz] at k
  rw [sgz,cross] at j
  rcases h3 with h3 | h3 | h3
  ·exact absurd h3 k
  ·exact absurd h3 j.1
  ·exact absurd h3 j.2
 ·rw [sgz] at k
  rw [show J.com b c z=c from if_neg k]
  exact .refl _
theorem ev64 (f1 f2 f3 f4 f5 f6 g1 g2 g3 g4 g5 g6:Bool) (a b c x y q:Rat) (h:J.Zfc a b c/\J.ZdT x y/\J.okT 30 q):Ev M1 (.pure 64 [Zar f1 f2 f3 f4 f5 f6 a b c,Zar g1 g2 g3 g4 g5 g6 x y q]) (.tup [ratF (J.dep a b c x y q),vecF (J.fX a b c x y) (J.fY a b c x y)]) []:=by
 obtain ⟨hl,hv,hq⟩:=h
 have hf:=okT_f hl hv
 have hl':=hl
 have hv':=hv
 obtain ⟨⟨ha,hb,hc⟩,h0⟩:=hl
 obtain ⟨hx,hy⟩:=hv
 have hn:(a*a+b*b).num ≠ 0:=ZhP (ZdV h0)
 exact call64 (mDepth _ _ _ _ _ _ _ _ _ _ _ _ _ _ _ _ _ _ _ ⟨⟨hl',hv'⟩,⟨Zak hf.1 (by omega),Zak hx (by omega)⟩,⟨Zak hf.2 (by omega),Zak hy (by omega)⟩,⟨Zak (Zat hf.1 hx) (by omega),Zak (Zat hf.1 hx) (by omega)⟩,⟨Zak (Zat hf.2 hy) (by omega),Zak (Zat hf.2 hy) (by omega)⟩,⟨Zak (Zaf (Zat hf.1 hx) (Zat hf.1 hx)) (by omega),Zak (Zaf (Zat hf.2 hy) (Zat hf.2 hy)) (by omega)⟩,⟨Zak hq (by omega),Zak (ZaG (Zaf (Zat hf.1 hx) (Zat hf.1 hx)) (Zaf (Zat hf.2 hy) (Zat hf.2 hy))) (by omega)⟩,⟨Zak ha (by omega),Zak ha (by omega)⟩,⟨Zak hb (by omega),Zak hb (by omega)⟩,⟨Zak (Zaf ha ha) (by omega),Zak (Zaf hb hb) (by omega)⟩,⟨Zak (Zat hq (ZaG (Zaf (Zat hf.1 hx) (Zat hf.1 hx)) (Zaf (Zat hf.2 hy) (Zat hf.2 hy)))) (by omega),Zak (ZaG (Zaf ha ha) (Zaf hb hb)) (by omega),hn⟩,.refl _⟩)
theorem ev76 (f1 f2 f3 f4 f5 f6:Bool) (a b c:Rat) (h:J.ZcW a b c):Ev M1 (.pure 76 [Zar f1 f2 f3 f4 f5 f6 a b c]) (ratF (a*a+b*b-c)) []:=by
 obtain ⟨ha,hb,hc⟩:=h
 exact call76 (mRad1 _ _ _ _ _ _ _ _ _ _ ⟨⟨Zak ha (by omega),Zak ha (by omega)⟩,⟨Zak hb (by omega),Zak hb (by omega)⟩,⟨Zak (Zaf ha ha) (by omega),Zak (Zaf hb hb) (by omega)⟩,⟨Zak (ZaG (Zaf ha ha) (Zaf hb hb)) (by omega),Zak hc (by omega)⟩,.refl _⟩)
theorem okT_nv {a b c x y:Rat} (h:J.ZcW a b c) (k:J.ZdT x y):J.okT 130 (J.ZaC a b)/\J.okT 160 (J.ZaW a b c x y):=by
 obtain ⟨ha,hb,hc⟩:=h
 obtain ⟨hx,hy⟩:=k
 exact ⟨Zas (k:=121) (ZaG (Zaf ha ha) (Zaf hb hb)) (by omega),Zas (k:=152) (Zat (ZaG (Zaf ha hx) (Zaf hb hy)) hc) (by omega)⟩
theorem ev21 (f1 f2 f3 f4 f5 f6 g1 g2 g3 g4 g5 g6:Bool) (a b c x y q:Rat) (h:J.ZcW a b c/\J.ZdT x y/\J.okT 30 q):Ev M1 (.pure 21 [Zar f1 f2 f3 f4 f5 f6 a b c,Zar g1 g2 g3 g4 g5 g6 x y q]) (ratF (J.Zb6 a b c x y q)) []:=by
 obtain ⟨hl,hv,hq⟩:=h
 have hnv:=okT_nv hl hv
 exact call21 (rRoom _ _ _ _ _ _ _ _ _ _ _ _ _ _ _ _ _ _ _ ⟨⟨hl,hv⟩,⟨hl.1,hl.2.1⟩,⟨Zak hnv.1 (by omega),Zak hq (by omega)⟩,⟨Zak hnv.2 (by omega),Zak hnv.2 (by omega)⟩,⟨Zak (Zaf hnv.1 hq) (by omega),Zak (Zaf hnv.2 hnv.2) (by omega)⟩,.refl _⟩)
theorem red_y {ax bx ay by_ c:Rat} (k:J.rsq c):J.red ax bx ay by_ c=J.atP (ax+bx*J.rt c) (ay+by_*J.rt c):=if_pos k
theorem red_n {ax bx ay by_ c:Rat} (k:¬J.rsq c):J.red ax bx ay by_ c=⟨ax,bx,ay,by_,c⟩:=if_neg k
theorem ev69 (f1 f2 f3 f4 f5 f6 f7 f8 f9 f10:Bool) (ax bx ay by_ c:Rat) (h:J.ZfQ ⟨ax,bx,ay,by_,c⟩):Ev M1 (.pure 69 [ratA f1 f2 ax,ratA f3 f4 bx,ratA f5 f6 ay,ratA f7 f8 by_,ratA f9 f10 c]) (Pnt.a (J.red ax bx ay by_ c)) []:=by
 unfold J.ZfQ at h
 refine call69 (rRed9 _ _ _ _ _ _ _ _ _ _ _ _ _ _ _ _ ⟨fun k => ?_,fun k => ?_⟩)
 ·rw [red_y k]
  exact ⟨Zak h.2.2 (by omega),⟨Zak h.1.2 (by omega),Zak (ZeW k h.2.2) (by omega)⟩,⟨Zak h.1.1 (by omega),Zak (Zaf h.1.2 (ZeW k h.2.2)) (by omega)⟩,⟨Zak h.2.1.2 (by omega),Zak (ZeW k h.2.2) (by omega)⟩,⟨Zak h.2.1.1 (by omega),Zak (Zaf h.2.1.2 (ZeW k h.2.2)) (by omega)⟩,.refl _⟩
 ·rw [red_n k]
  exact ⟨Zak h.2.2 (by omega),ZeI f1 f2 f3 f4 f5 f6 f7 f8 f9 f10 _ _ _ _ _⟩
theorem ev108 (f1 f2 f3 f4 f5 f6 f7 f8 f9 f10:Bool) (ax bx ay by_ c:Rat):Ev M1 (.pure 108 [pntA f1 f2 f3 f4 f5 f6 f7 f8 f9 f10 ax bx ay by_ c]) (ZaH ax bx (J.rad bx c)) []:=
 call108 (rX7 _ _ _ _ _ _ _ _ _ _ _ _ _ _ _ _ (.refl _))
theorem ev109 (f1 f2 f3 f4 f5 f6 f7 f8 f9 f10:Bool) (ax bx ay by_ c:Rat):Ev M1 (.pure 109 [pntA f1 f2 f3 f4 f5 f6 f7 f8 f9 f10 ax bx ay by_ c]) (ZaH ay by_ (J.rad by_ c)) []:=
 call109 (rY7 _ _ _ _ _ _ _ _ _ _ _ _ _ _ _ _ (.refl _))
theorem vP_true {ax bx ay by_ c:Rat}:J.vP ax bx ay by_ c=true ↔ J.ZbA ⟨ax,bx,ay,by_,c⟩:=by
 unfold J.vP;exact @decide_eq_true_iff _ (Classical.propDecidable _)
theorem vP_false {ax bx ay by_ c:Rat} (h:¬J.ZbA ⟨ax,bx,ay,by_,c⟩):J.vP ax bx ay by_ c=false:=Bool.eq_false_iff.2 fun x=>h (vP_true.1 x)
theorem vP_z {ax bx ay by_ c:Rat} (h:bx=0/\by_=0):J.vP ax bx ay by_ c=decide (c=0):=by
 have e:J.ZbA ⟨ax,bx,ay,by_,c⟩ ↔ c=0:=by unfold J.ZbA;rw [if_pos h]
 by_cases q:c=0
 ·rw [decide_eq_true q,vP_true,e];exact q
 ·rw [decide_eq_false q,vP_false fun x=>q (e.1 x)]
theorem vP_n {ax bx ay by_ c:Rat} (h:¬(bx=0/\by_=0)) (k:¬J.rsq c):J.vP ax bx ay by_ c=decide (0<c):=by
 have e:J.ZbA ⟨ax,bx,ay,by_,c⟩ ↔ 0<c/\¬J.rsq c:=by unfold J.ZbA;rw [if_neg h]
 by_cases q:0<c
 ·rw [decide_eq_true q,vP_true,e];exact ⟨q,k⟩
 ·rw [decide_eq_false q,vP_false fun x=>q (e.1 x).1]
theorem vP_s {ax bx ay by_ c:Rat} (h:¬(bx=0/\by_=0)) (k:J.rsq c):J.vP ax bx ay by_ c=false:=by
 have e:J.ZbA ⟨ax,bx,ay,by_,c⟩ ↔ 0<c/\¬J.rsq c:=by unfold J.ZbA;rw [if_neg h]
 exact vP_false fun x=>(e.1 x).2 k
theorem sgp {r:Rat}:J.sgnI r.num>0 ↔ 0<r:=by
 have:=sg3 r.num
 have:=(@Zda r).1
 unfold J.sgR at this
 rw [<- this];omega
theorem ev36 (f1 f2 f3 f4 f5 f6 f7 f8 f9 f10:Bool) (ax bx ay by_ c:Rat) (h:J.ZfQ ⟨ax,bx,ay,by_,c⟩):Ev M1 (.pure 36 [pntA f1 f2 f3 f4 f5 f6 f7 f8 f9 f10 ax bx ay by_ c]) (.bool (J.vP ax bx ay by_ c)) []:=by
 unfold J.ZfQ at h
 have v1:=ZeL ax
 have v2:=ZeL bx
 have v3:=ZeL ay
 have v4:=ZeL by_
 have v5:=ZeL c
 refine call36 (rVal7 _ _ _ _ _ _ _ _ _ _ _ _ _ _ _ _ ⟨ZgE h.1.1 (by omega),fun _=>ZgE h.2.1.1 (by omega),fun _=>ZgE h.1.2 (by omega),fun _=>ZgE h.2.1.2 (by omega),fun _=>ZgE h.2.2 (by omega),fun x => ?_,fun _=>⟨fun z => ?_,fun z=>⟨fun k=>⟨Zak h.2.2 (by omega),?_⟩,fun k=>⟨Zak h.2.2 (by omega),?_⟩⟩⟩⟩)
 ·exact absurd x fun y=>y.elim (fun y=>y.elim (fun y=>y.elim (fun y=>y.elim (fun y=>y v1) fun y=>y v3) fun y=>y v2) fun y=>y v4) fun y=>y v5
 ·rw [sgz,sgz] at z
  rw [vP_z z]
  by_cases q:c=0
  ·rw [decide_eq_true q,beq_iff_eq.2 (sgz.2 q)]
  ·rw [decide_eq_false q];congr 1;simpa using fun x=>q (sgz.1 x)
 ·rw [sgz,sgz] at z
  rw [vP_s z k]
  cases decide (J.sgnI c.num>0) <;> rfl
 ·rw [sgz,sgz] at z
  rw [vP_n z k,decide_eq_decide.2 (@sgp c)]
  cases decide (0<c) <;> rfl
theorem sg2_3 (a b m:Rat):J.sg2 a b m = -1\/J.sg2 a b m=0\/J.sg2 a b m=1:=by
 have r1:=sg3 a.num
 have r2:=sg3 b.num
 have r3:=sg3 m.num
 have r4:=sg3 (a*a-b*b*m).num
 have p:∀ u v:Int,(u = -1\/u=0\/u=1)->(v = -1\/v=0\/v=1)->u*v = -1\/u*v=0\/u*v=1:=by
  rintro u v (rfl | rfl | rfl) (rfl | rfl | rfl) <;> decide
 unfold J.sg2
 split
 ·split
  ·exact p _ _ r2 r3
  ·exact r1
 ·exact p _ _ r1 r4
theorem mul3 {u v:Int} (h:u = -1\/u=0\/u=1) (k:v = -1\/v=0\/v=1):-9223372036854775808<=u*v/\u*v<=9223372036854775807:=by
 rcases h with rfl | rfl | rfl <;> rcases k with rfl | rfl | rfl <;> decide
theorem ev145 (f1 f2 f3 f4 f5 f6 f7 f8 f9 f10 f11 f12:Bool) (a b c d m n:Rat) (h:J.okQ5 a b c d m n):Ev M1 (.pure 145 [quadA f1 f2 f3 f4 f5 f6 f7 f8 f9 f10 f11 f12 a b c d m n]) (.int .i64 (J.sgQ a b c d m n)) []:=by
 obtain ⟨ha,hb,hc,hd,hm,hn⟩:=h
 refine call145 (rSign5 _ _ _ _ _ _ _ _ _ _ _ _ _ _ _ _ _ _ _ ⟨fun k => ?_,fun k=>⟨⟨Zas ha (by omega),Zas hb (by omega),hm⟩,⟨Zas hc (by omega),Zas hd (by omega),hm⟩,mul3 (sg2_3 c d m) (sg3 n.num),fun j=>⟨fun i => ?_,fun i => ?_⟩,fun j=>⟨⟨Zak hc (by omega),Zak hc (by omega)⟩,⟨Zak hd (by omega),Zak hd (by omega)⟩,⟨Zak (Zaf hd hd) (by omega),Zak hm (by omega)⟩,⟨Zak (Zaf hc hc) (by omega),Zak (Zaf (Zaf hd hd) hm) (by omega)⟩,⟨Zak hn (by omega),Zak (ZaG (Zaf hc hc) (Zaf (Zaf hd hd) hm)) (by omega)⟩,⟨Zak ha (by omega),Zak ha (by omega)⟩,⟨Zak hb (by omega),Zak hb (by omega)⟩,⟨Zak (Zaf hb hb) (by omega),Zak hm (by omega)⟩,⟨Zak (Zaf ha ha) (by omega),Zak (Zaf (Zaf hb hb) hm) (by omega)⟩,⟨Zak (ZaG (Zaf ha ha) (Zaf (Zaf hb hb) hm)) (by omega),Zak (Zaf hn (ZaG (Zaf hc hc) (Zaf (Zaf hd hd) hm))) (by omega)⟩,⟨Zak ha (by omega),Zak hb (by omega)⟩,⟨Zak hc (by omega),Zak hd (by omega)⟩,⟨Zak hn (by omega),Zak (Zaf hc hd) (by omega)⟩,⟨Zak (Zaf ha hb) (by omega),Zak (Zaf hn (Zaf hc hd)) (by omega)⟩,⟨Zak (Zat (Zaf ha hb) (Zaf hn (Zaf hc hd))) (by omega),Zak (Zat (Zaf ha hb) (Zaf hn (Zaf hc hd))) (by omega)⟩,⟨Zas (k:=23013) (Zat (ZaG (Zaf ha ha) (Zaf (Zaf hb hb) hm)) (Zaf hn (ZaG (Zaf hc hc) (Zaf (Zaf hd hd) hm)))) (by omega),Zas (k:=21013) (ZaG (Zat (Zaf ha hb) (Zaf hn (Zaf hc hd))) (Zat (Zaf ha hb) (Zaf hn (Zaf hc hd)))) (by omega),hm⟩,mul3 (sg2_3 _ _ _) (sg2_3 _ _ _),?_⟩⟩⟩)
 ·unfold J.sgQ J.sgR
  rw [if_pos k]
 ·unfold J.sgQ J.sgR
  rw [if_neg k,if_pos (or_assoc.1 j),if_pos i]
 ·unfold J.sgQ J.sgR
  rw [if_neg k,if_pos (or_assoc.1 j),if_neg i]
 ·unfold J.sgQ J.sgR
  rw [if_neg k,if_neg fun z=>j (or_assoc.2 z)]
end Go.Av

namespace Go.Av
open Go.Proofs
set_option maxRecDepth 100000
end Go.Av

namespace Go.Av
open Go.Proofs
theorem Zfg {n:Int} {s t:Bool} {x y:List Int} (h:J.Zer n s x t y=true):∃ r:Rat,J.okT n.toNat r/\s=J.Zaa r.num/\x=J.Zab r.num/\t=J.Zaa (r.den:Int)/\y=J.Zab (r.den:Int):=by
 obtain ⟨h1,h2,r,rfl,rfl,rfl,rfl⟩:=ZhC.1 h
 rw [ZaZ] at h1 h2
 rw [Int.natAbs_natCast] at h2
 exact ⟨r,⟨by omega,by omega⟩,rfl,rfl,rfl,rfl⟩
end Go.Av

namespace Go.Av
open Go.Proofs
set_option maxRecDepth 100000
def fi13:Fi:=⟨57,[.tmp 4,.tmp 5]⟩
def kp13:List (Nat × List Nat):=[(0,[2,3]),(1,[2,3,6]),(2,[2,3,6,22]),(3,[25]),(4,[4,5]),(5,[4,5]),(6,[2,3,6,7]),(7,[7,8]),(8,[4,5])]
def fi14:Fi:=⟨54,[.tmp 4,.tmp 5]⟩
def kp14:List (Nat × List Nat):=[(0,[2,3]),(1,[2,3,6]),(2,[6,7,8]),(3,[6,7,8,36]),(4,[4,5]),(5,[53]),(6,[4,5]),(7,[4,5])]
def fi19:Fi:=⟨16,[.tmp 4]⟩
def kp19:List (Nat × List Nat):=[(0,[2,3]),(1,[5]),(2,[4])]
def fi25:Fi:=⟨35,[.cell 4 28,.tmp 5]⟩
def kp25:List (Nat × List Nat):=[(0,[2,3,4]),(1,[2,3,4,10]),(2,[4,5]),(3,[2,3,4,6]),(4,[2,3,4,6,7]),(5,[4,5])]
def fi31:Fi:=⟨60,[.cell 4 28,.tmp 5]⟩
def kp31:List (Nat × List Nat):=[(0,[2,3,4]),(1,[2,3,4,11]),(2,[4,5]),(3,[2,3,4,6]),(4,[2,3,4,6,7]),(5,[2,3,4,6,7,8]),(6,[4,5])]
def fi66:Fi:=⟨38,[.cell 10 56]⟩
def kp66:List (Nat × List Nat):=[(0,[5,6,7,8,9,10]),(1,[7,8,9,10,11]),(2,[10,11,13]),(3,[10,15]),(4,[10])]
def fi107:Fi:=⟨9,[.tmp 4]⟩
def kp107:List (Nat × List Nat):=[(0,[2,3]),(1,[4])]
def mSurd_at (f1 f2 f3 f4 f5 f6 f7 f8 f9 f10:Bool) (x u y v k:Rat) (Q:AV->Heap->Prop):Prop:=Wp M1 (.run fi66 (atC (cd Tryz.f66) []) [(0,ratA f1 f2 x),(1,ratA f3 f4 u),(2,ratA f5 f6 y),(3,ratA f7 f8 v),(4,ratA f9 f10 k)] []) Q
def mTouch_at (f1 f2 f3 f4 f5 f6 g1 g2 g3 g4 g5 g6:Bool) (a b c x y q:Rat) (Q:AV->Heap->Prop):Prop:=Wp M1 (.run fi19 (atC (cd Tryz.f19) []) [(0,Zar f1 f2 f3 f4 f5 f6 a b c),(1,Zar g1 g2 g3 g4 g5 g6 x y q)] []) Q
def mLines_at (f1 f2 f3 f4 f5 f6 g1 g2 g3 g4 g5 g6:Bool) (a b c x y z:Rat) (Q:AV->Heap->Prop):Prop:=Wp M1 (.run fi13 (atC (cd Tryz.f13) []) [(0,Zar f1 f2 f3 f4 f5 f6 a b c),(1,Zar g1 g2 g3 g4 g5 g6 x y z)] []) Q
def ZgF (f1 f2 f3 f4 f5 f6 g1 g2 g3 g4 g5 g6:Bool) (a b c x y z:Rat) (Q:AV->Heap->Prop):Prop:=Wp M1 (.run fi25 (atC (cd Tryz.f25) []) [(0,Zar f1 f2 f3 f4 f5 f6 a b c),(1,Zar g1 g2 g3 g4 g5 g6 x y z)] []) Q
def ZhK (f1 f2 f3 f4 f5 f6 g1 g2 g3 g4 g5 g6:Bool) (a b c x y z:Rat) (Q:AV->Heap->Prop):Prop:=Wp M1 (.run fi14 (atC (cd Tryz.f14) []) [(0,Zar f1 f2 f3 f4 f5 f6 a b c),(1,Zar g1 g2 g3 g4 g5 g6 x y z)] []) Q
def ZfC (f1 f2 f3 f4 f5 f6 g1 g2 g3 g4 g5 g6:Bool) (a b c x y z:Rat) (Q:AV->Heap->Prop):Prop:=Wp M1 (.run fi31 (atC (cd Tryz.f31) []) [(0,Zar f1 f2 f3 f4 f5 f6 a b c),(1,Zar g1 g2 g3 g4 g5 g6 x y z)] []) Q
def rCmp5_at (f1 f2 f3 f4 f5 f6 g1 g2 g3 g4 g5 g6:Bool) (a b c x y z:Rat) (Q:AV->Heap->Prop):Prop:=Wp M1 (.run fi107 (atC (cd Tryz.f107) []) [(0,Zar f1 f2 f3 f4 f5 f6 a b c),(1,Zar g1 g2 g3 g4 g5 g6 x y z)] []) Q
theorem call13 {args:List AV} {d:AV} (h:wc M1 fi13 Tryz.f13 args d):Ev M1 (.pure 13 args) d []:=pcl _ _ (by kernel_rfl) h
theorem call14 {args:List AV} {d:AV} (h:wc M1 fi14 Tryz.f14 args d):Ev M1 (.pure 14 args) d []:=pcl _ _ (by kernel_rfl) h
theorem call19 {args:List AV} {d:AV} (h:wc M1 fi19 Tryz.f19 args d):Ev M1 (.pure 19 args) d []:=pcl _ _ (by kernel_rfl) h
theorem call25 {args:List AV} {d:AV} (h:wc M1 fi25 Tryz.f25 args d):Ev M1 (.pure 25 args) d []:=pcl _ _ (by kernel_rfl) h
theorem call31 {args:List AV} {d:AV} (h:wc M1 fi31 Tryz.f31 args d):Ev M1 (.pure 31 args) d []:=pcl _ _ (by kernel_rfl) h
theorem call66 {args:List AV} {d:AV} (h:wc M1 fi66 Tryz.f66 args d):Ev M1 (.pure 66 args) d []:=pcl _ _ (by kernel_rfl) h
theorem call107 {args:List AV} {d:AV} (h:wc M1 fi107 Tryz.f107 args d):Ev M1 (.pure 107 args) d []:=pcl _ _ (by kernel_rfl) h
noncomputable abbrev zNmD1 (x:Rat) (u:Rat) (k:Rat) (y:Rat) (v:Rat):=(pntF (J.mkA x u k) (J.mkB u k) (J.mkA y v k) (J.mkB v k) (J.rd2 (J.mkB u k) (J.mkB v k) (J.com (J.mkB u k) (J.mkC u k) (J.mkC v k))))
noncomputable abbrev zNmD2:=tu [ag [vb false,vf [],vb false,vf [],vb false,vf [],vb false,vf [],vb false,vf [],vb false,vf []],vi 7]
noncomputable abbrev zNmD3 (b1:Bool) (l1:List Int) (b2:Bool) (l2:List Int) (b3:Bool) (l3:List Int) (b4:Bool) (l4:List Int) (b5:Bool) (l5:List Int) (b6:Bool) (l6:List Int) (b7:Bool) (l7:List Int) (b8:Bool) (l8:List Int) (b9:Bool) (l9:List Int) (b10:Bool) (l10:List Int):=ag [vb b1,vf (us l1),vb b2,vf (us l2),vb b3,vf (us l3),vb b4,vf (us l4),vb b5,vf (us l5),vb b6,vf (us l6),vb b7,vf (us l7),vb b8,vf (us l8),vb b9,vf (us l9),vb b10,vf (us l10)]
theorem mSurd (f1 f2 f3 f4 f5 f6 f7 f8 f9 f10:Bool) (x u y v k:Rat)  (dq:AV) (H :
  ((J.isNN k)->(J.okO x u k) /\
   (J.okO y v k) /\
   (J.okMk (J.mkB u k) (J.mkC u k) (J.mkB v k) (J.mkC v k)) /\
   Weak ((pntF (J.mkA x u k) (J.mkB u k) (J.mkA y v k) (J.mkB v k) (J.rd2 (J.mkB u k) (J.mkB v k) (J.com (J.mkB u k) (J.mkC u k) (J.mkC v k))))) dq) /\
  (¬(J.isNN k)->(J.okO x u k) /\
   (J.okO y v k) /\
   ∃ (b1:Bool) (l1:List Int) (b2:Bool) (l2:List Int) (b3:Bool) (l3:List Int) (b4:Bool) (l4:List Int) (b5:Bool) (l5:List Int) (b6:Bool) (l6:List Int) (b7:Bool) (l7:List Int) (b8:Bool) (l8:List Int) (b9:Bool) (l9:List Int) (b10:Bool) (l10:List Int) (n1:Int),
   (Ev M1 (Conf.pure 106 [ag [vb false,vf [],vb false,vf [],vb false,vf [],vb false,vf [],vb false,vf [],vb false,vf []],ag [vb false,vf [],vb false,vf [],vb false,vf [],vb false,vf [],vb false,vf [],vb false,vf []]]) (tu [ag [vb b1,vf (us l1),vb b2,vf (us l2),vb b3,vf (us l3),vb b4,vf (us l4),vb b5,vf (us l5),vb b6,vf (us l6),vb b7,vf (us l7),vb b8,vf (us l8),vb b9,vf (us l9),vb b10,vf (us l10)],vi n1]) []) /\
   Weak (ag [vb b1,vf (us l1),vb b2,vf (us l2),vb b3,vf (us l3),vb b4,vf (us l4),vb b5,vf (us l5),vb b6,vf (us l6),vb b7,vf (us l7),vb b8,vf (us l8),vb b9,vf (us l9),vb b10,vf (us l10)]) dq)) :
 mSurd_at f1 f2 f3 f4 f5 f6 f7 f8 f9 f10 x u y v k (Zag dq):=by
 unfold mSurd_at
 rcases xq H with ⟨d1,H⟩|⟨d1,H⟩
 ·obtain ⟨k2,k3,k4,H⟩:=H
  exact Zah (G:=Zac kp66 [(1,3,.call (tu [ZaH (J.mkA x u k) (J.mkB u k) (J.mkC u k),vi 0]) none),(2,3,.call (tu [ZaH (J.mkA y v k) (J.mkB v k) (J.mkC v k),vi 0]) none),(3,2,.call (tu [(zNmD1 x u k y v),vi 0]) none)] []) 1000 [] ((zNmD1 x u k y v)) (by kernel_rfl) (bc rfl (bc rfl (bc rfl (bc rfl (bc rfl (bc rfl (bc rfl (bc rfl (bc rfl (bc rfl (bc rfl (bc rfl (bc rfl b0))))))))))))) q0 (ce (@ev105_y f1 f2 f3 f4 f9 f10 x u k k2 d1) (ce (@ev105_y f5 f6 f7 f8 f9 f10 y v k k3 d1) (ce (@ev106 false false false false false false false false false false false false (J.mkA x u k) (J.mkB u k) (J.mkC u k) (J.mkA y v k) (J.mkB v k) (J.mkC v k) k4) c0))) H
 ·obtain ⟨k5,k6,b1,l1,b2,l2,b3,l3,b4,l4,b5,l5,b6,l6,b7,l7,b8,l8,b9,l9,b10,l10,n1,k7,H⟩:=H
  exact Zah (G:=Zac kp66 [(1,3,.call zNmD2 none),(2,3,.call zNmD2 none),(3,2,.call (tu [(zNmD3 b1 l1 b2 l2 b3 l3 b4 l4 b5 l5 b6 l6 b7 l7 b8 l8 b9 l9 b10 l10),vi n1]) none)] []) 1000 [] ((zNmD3 b1 l1 b2 l2 b3 l3 b4 l4 b5 l5 b6 l6 b7 l7 b8 l8 b9 l9 b10 l10)) (by kernel_rfl) (bc rfl (bc rfl (bc rfl (bc rfl (bc rfl (bc rfl (bc rfl (bc rfl (bc rfl (bc rfl (bc rfl (bc rfl (bc rfl b0))))))))))))) q0 (ce (@ev105_n f1 f2 f3 f4 f9 f10 x u k k5 d1) (ce (@ev105_n f5 f6 f7 f8 f9 f10 y v k k6 d1) (ce k7 c0))) H
theorem mTouch (f1 f2 f3 f4 f5 f6 g1 g2 g3 g4 g5 g6:Bool) (a b c x y q:Rat)  (dq:AV) (H :
  (J.Zfc a b c/\J.ZdT x y/\J.okT 30 q) /\
  vb (J.sgnI (J.dep a b c x y q).num==0)=dq) :
 mTouch_at f1 f2 f3 f4 f5 f6 g1 g2 g3 g4 g5 g6 a b c x y q (Zag dq):=by
 unfold mTouch_at
 obtain ⟨k1,H⟩:=H
 exact Zaq (G:=Zac kp19 [(1,2,.call (tu [ratF (J.dep a b c x y q),(vecF (J.fX a b c x y) (J.fY a b c x y))]) none),(2,1,.call (vi (J.sgnI (J.dep a b c x y q).num)) none)] []) 1000 [] (vb (J.sgnI (J.dep a b c x y q).num==0)) (by kernel_rfl) (bc rfl (bc rfl (bc rfl (bc rfl (bc rfl b0))))) q0 (ce (@ev64 f1 f2 f3 f4 f5 f6 g1 g2 g3 g4 g5 g6 a b c x y q k1) (ce (@ev54 false false ((J.dep a b c x y q).num) ((↑(J.dep a b c x y q).den:Int))) c0)) H
noncomputable abbrev zNmD4 (c:Rat) (y:Rat) (z:Rat) (b:Rat) (a:Rat) (x:Rat):=(pntF ((c*y-z*b) / (a*y-x*b)) (J.qi 0) ((a*z-x*c) / (a*y-x*b)) (J.qi 0) (J.qi 0))
theorem mLines (f1 f2 f3 f4 f5 f6 g1 g2 g3 g4 g5 g6:Bool) (a b c x y z:Rat)  (dq:AV) (H :
  (J.okR a/\J.okR y) /\
  (J.okR x/\J.okR b) /\
  (J.okR (a*y)/\J.okR (x*b)) /\
  ((J.sgnI (a*y-x*b).num=0)->(J.ZcW a b c/\J.ZcW x y z) /\
   ((a*y=x*b/\a*z=x*c/\b*z=y*c)->Weak (tu [AV.vnil,vi 10]) dq) /\
   (¬(a*y=x*b/\a*z=x*c/\b*z=y*c)->Weak (tu [AV.vnil,vi 0]) dq)) /\
  (¬(J.sgnI (a*y-x*b).num=0)->(J.okR c/\J.okR y) /\
   (J.okR z/\J.okR b) /\
   (J.okR (c*y)/\J.okR (z*b)) /\
   (J.okR (c*y-z*b)/\J.okR (a*y-x*b)/\(a*y-x*b).num ≠ 0) /\
   (J.okR a/\J.okR z) /\
   (J.okR x/\J.okR c) /\
   (J.okR (a*z)/\J.okR (x*c)) /\
   (J.okR (a*z-x*c)/\J.okR (a*y-x*b)/\(a*y-x*b).num ≠ 0) /\
   Weak (tu [AV.vec true 20 [(pntF ((c*y-z*b) / (a*y-x*b)) (J.qi 0) ((a*z-x*c) / (a*y-x*b)) (J.qi 0) (J.qi 0))],vi 0]) dq)) :
 mLines_at f1 f2 f3 f4 f5 f6 g1 g2 g3 g4 g5 g6 a b c x y z (Zag dq):=by
 unfold mLines_at
 obtain ⟨k1,k2,k3,H⟩:=H
 refine Zae (G:=Zac kp13 [(1,4,.call (ratF (a*y)) none),(1,9,.call (ratF (x*b)) none),(1,10,.call (ratF (a*y-x*b)) none),(2,1,.call (vi (J.sgnI (a*y-x*b).num)) none)] []) 7 [] ⟨(atC (cd Tryz.f13) [1,1,0,1]),[(2,AV.ptr 0 0 0 0),(3,AV.ptr 1 0 0 0),(6,AV.ptr 2 0 0 0),(22,vb (J.sgnI (a*y-x*b).num==0))],[⟨[Zar f1 f2 f3 f4 f5 f6 a b c],12,0,false,false⟩,⟨[Zar g1 g2 g3 g4 g5 g6 x y z],12,0,false,false⟩,⟨[ratF (a*y-x*b)],4,0,false,false⟩],_,[],_⟩ (by kernel_rfl) (bc rfl (bc rfl (bc rfl (bc rfl (bc rfl (bc rfl b0)))))) q0 (ce (@ev53 f1 f2 g3 g4 a y k1) (ce (@ev53 g1 g2 f3 f4 x b k2) (ce (@ev52 false false false false (a*y) (x*b) k3) (ce (@ev54 false false ((a*y-x*b).num) ((↑(a*y-x*b).den:Int))) c0)))) ?_
 rcases xq H with ⟨d5,H⟩|⟨d5,H⟩
 ·obtain ⟨k6,H⟩:=H
  refine Zae (G:=Zac kp13 [(3,2,.call (vb (decide (a*y=x*b/\a*z=x*c/\b*z=y*c))) none)] []) 4 [true] ⟨(atC (cd Tryz.f13) [1,1,0,1,0,0,1]),[(25,vb (decide (a*y=x*b/\a*z=x*c/\b*z=y*c)))],[⟨[Zar f1 f2 f3 f4 f5 f6 a b c],12,0,false,false⟩,⟨[Zar g1 g2 g3 g4 g5 g6 x y z],12,0,false,false⟩,⟨[ratF (a*y-x*b)],4,0,false,false⟩],_,[],_⟩ (by kernel_rfl) (bc (Zap (i_eq.2 d5)) (bc rfl (bc rfl b0))) q0 (ce (@ev55 f1 f2 f3 f4 f5 f6 g1 g2 g3 g4 g5 g6 a b c x y z k6) c0) ?_
  rcases xq H with ⟨d8,H⟩|⟨d8,H⟩
  ·exact Zah (G:=Zac kp13 [] []) 1000 [true] (tu [AV.vnil,vi 10]) (by kernel_rfl) (bc (Zap (Zad.2 d8)) b0) q0 c0 H
  ·exact Zah (G:=Zac kp13 [] []) 1000 [false] (tu [AV.vnil,vi 0]) (by kernel_rfl) (bc (Zam (fun h=>d8 (Zad.1 h))) b0) q0 c0 H
 ·obtain ⟨k9,k10,k11,k12,k13,k14,k15,k16,H⟩:=H
  exact Zah (G:=Zac kp13 [(6,4,.call (ratF (c*y)) none),(6,9,.call (ratF (z*b)) none),(6,10,.call (ratF (c*y-z*b)) none),(6,12,.call (ratF ((c*y-z*b) / (a*y-x*b))) none),(7,4,.call (ratF (a*z)) none),(7,9,.call (ratF (x*c)) none),(7,10,.call (ratF (a*z-x*c)) none),(7,12,.call (ratF ((a*z-x*c) / (a*y-x*b))) none),(8,3,.call ((zNmD4 c y z b a x)) none)] []) 1000 [false] (tu [AV.vec true 20 [(zNmD4 c y z b a x)],vi 0]) (by kernel_rfl) (bc (Zam (fun h=>d5 (i_eq.1 h))) (bc rfl (bc rfl (bc rfl (bc rfl (bc rfl (bc rfl (bc rfl (bc rfl (bc rfl (bc rfl (bc rfl (bc rfl (bc rfl (bc rfl b0))))))))))))))) q0 (ce (@ev53 f5 f6 g3 g4 c y k9) (ce (@ev53 g5 g6 f3 f4 z b k10) (ce (@ev52 false false false false (c*y) (z*b) k11) (ce (@ev56 false false false false (c*y-z*b) (a*y-x*b) k12) (ce (@ev53 f1 f2 g5 g6 a z k13) (ce (@ev53 g1 g2 f5 f6 x c k14) (ce (@ev52 false false false false (a*z) (x*c) k15) (ce (@ev56 false false false false (a*z-x*c) (a*y-x*b) k16) (ce (@ev57 false false false false ((c*y-z*b) / (a*y-x*b)) ((a*z-x*c) / (a*y-x*b))) c0))))))))) H
noncomputable abbrev zNmD5:=ag [vb false,AV.vnil,vb false,AV.vnil,vb false,AV.vnil,vb false,AV.vnil,vb false,AV.vnil,vb false,AV.vnil]
theorem mRadical (f1 f2 f3 f4 f5 f6 g1 g2 g3 g4 g5 g6:Bool) (a b c x y z:Rat)  (dq:AV) (H :
  (J.ZcW a b c/\J.ZcW x y z) /\
  ((a=x/\b=y)->Weak (tu [ag [vb false,AV.vnil,vb false,AV.vnil,vb false,AV.vnil,vb false,AV.vnil,vb false,AV.vnil,vb false,AV.vnil],vi 6]) dq) /\
  (¬(a=x/\b=y)->(J.inI 2) /\
   (J.okR x/\J.okR a) /\
   (J.okR (J.qi 2)/\J.okR (x-a)) /\
   (J.okR y/\J.okR b) /\
   (J.okR (J.qi 2)/\J.okR (y-b)) /\
   (J.ZcW x y z) /\
   (J.ZcW a b c) /\
   (J.okR (x*x+y*y-z)/\J.okR (a*a+b*b-c)) /\
   Weak (tu [ZaH (J.qi 2*(x-a)) (J.qi 2*(y-b)) (x*x+y*y-z-(a*a+b*b-c)),vi 0]) dq)) :
 ZgF f1 f2 f3 f4 f5 f6 g1 g2 g3 g4 g5 g6 a b c x y z (Zag dq):=by
 unfold ZgF
 obtain ⟨k1,H⟩:=H
 refine Zae (G:=Zac kp25 [(1,2,.call (vb (decide (a=x/\b=y))) none)] []) 5 [] ⟨(atC (cd Tryz.f25) [1,0,1]),[(2,AV.ptr 0 0 0 0),(3,AV.ptr 1 0 0 0),(4,AV.ptr 2 0 0 0),(10,vb (decide (a=x/\b=y)))],[⟨[Zar f1 f2 f3 f4 f5 f6 a b c],12,0,false,false⟩,⟨[Zar g1 g2 g3 g4 g5 g6 x y z],12,0,false,false⟩,⟨[zNmD5],12,0,false,false⟩],_,[],_⟩ (by kernel_rfl) (bc rfl (bc rfl b0)) q0 (ce (@ev73 f1 f2 f3 f4 f5 f6 g1 g2 g3 g4 g5 g6 a b c x y z k1) c0) ?_
 rcases xq H with ⟨d3,H⟩|⟨d3,H⟩
 ·exact Zah (G:=Zac kp25 [] []) 1000 [true] (tu [zNmD5,vi 6]) (by kernel_rfl) (bc (Zap (Zad.2 d3)) (bc rfl b0)) q0 c0 H
 ·obtain ⟨k4,k5,k6,k7,k8,k9,k10,k11,H⟩:=H
  exact Zah (G:=Zac kp25 [(3,0,.call (ratF (J.qi 2)) none),(5,5,.call (ratF (x-a)) none),(5,6,.call (ratF (J.qi 2*(x-a))) none),(5,12,.call (ratF (y-b)) none),(5,13,.call (ratF (J.qi 2*(y-b))) none),(5,16,.call (ratF (x*x+y*y-z)) none),(5,19,.call (ratF (a*a+b*b-c)) none),(5,20,.call (ratF (x*x+y*y-z-(a*a+b*b-c))) none)] []) 1000 [false] (tu [ZaH (J.qi 2*(x-a)) (J.qi 2*(y-b)) (x*x+y*y-z-(a*a+b*b-c)),vi 0]) (by kernel_rfl) (bc (Zam (fun h=>d3 (Zad.1 h))) (bc rfl (bc rfl (bc rfl (bc rfl (bc rfl (bc rfl (bc rfl (bc rfl (bc rfl (bc rfl b0))))))))))) q0 (ce (@ev75 2 k4) (ce (@ev52 g1 g2 f1 f2 x a k5) (ce (@ev53 false false false false (J.qi 2) (x-a) k6) (ce (@ev52 g3 g4 f3 f4 y b k7) (ce (@ev53 false false false false (J.qi 2) (y-b) k8) (ce (@ev76 g1 g2 g3 g4 g5 g6 x y z k9) (ce (@ev76 f1 f2 f3 f4 f5 f6 a b c k10) (ce (@ev52 false false false false (x*x+y*y-z) (a*a+b*b-c) k11) c0)))))))) H
noncomputable abbrev zNmD6 (c:Rat) (y:Rat) (z:Rat) (b:Rat) (a:Rat) (x:Rat):=(pntF ((c*y-z*b) / (a*y-x*b)) (J.qi 0) ((a*z-x*c) / (a*y-x*b)) (J.qi 0) (J.qi 0))
theorem rLines9 (f1 f2 f3 f4 f5 f6 g1 g2 g3 g4 g5 g6:Bool) (a b c x y z:Rat)  (dq:AV) (H :
  (J.ZcW a b c/\J.ZcW x y z) /\
  (J.okR c/\J.okR y) /\
  (J.okR z/\J.okR b) /\
  (J.okR (c*y)/\J.okR (z*b)) /\
  (J.okR a/\J.okR z) /\
  (J.okR x/\J.okR c) /\
  (J.okR (a*z)/\J.okR (x*c)) /\
  ((¬J.sgnI (a*y-x*b).num=0)->(J.okR (c*y-z*b)/\J.okR (a*y-x*b)/\(a*y-x*b).num ≠ 0) /\
   (J.okR (a*z-x*c)/\J.okR (a*y-x*b)/\(a*y-x*b).num ≠ 0) /\
   Weak (tu [AV.vec true 20 [(pntF ((c*y-z*b) / (a*y-x*b)) (J.qi 0) ((a*z-x*c) / (a*y-x*b)) (J.qi 0) (J.qi 0))],vi 0]) dq) /\
  (¬(¬J.sgnI (a*y-x*b).num=0)->(((J.sgnI (c*y-z*b).num=0)/\(J.sgnI (a*z-x*c).num=0))->Weak (tu [AV.vnil,vi 10]) dq) /\
   (¬((J.sgnI (c*y-z*b).num=0)/\(J.sgnI (a*z-x*c).num=0))->Weak (tu [AV.vnil,vi 0]) dq))) :
 ZhK f1 f2 f3 f4 f5 f6 g1 g2 g3 g4 g5 g6 a b c x y z (Zag dq):=by
 unfold ZhK
 obtain ⟨k1,k2,k3,k4,k5,k6,k7,H⟩:=H
 refine Zae (G:=Zac kp14 [(1,2,.call (ratF (a*y-x*b)) none),(2,4,.call (ratF (c*y)) none),(2,9,.call (ratF (z*b)) none),(2,10,.call (ratF (c*y-z*b)) none),(2,15,.call (ratF (a*z)) none),(2,20,.call (ratF (x*c)) none),(2,21,.call (ratF (a*z-x*c)) none)] []) 5 [] ⟨(atC (cd Tryz.f14) [1,1,0]),[(2,AV.ptr 0 0 0 0),(3,AV.ptr 1 0 0 0),(6,AV.ptr 2 0 0 0)],[⟨[Zar f1 f2 f3 f4 f5 f6 a b c],12,0,false,false⟩,⟨[Zar g1 g2 g3 g4 g5 g6 x y z],12,0,false,false⟩,⟨[ratF (a*y-x*b)],4,0,false,false⟩],_,[],_⟩ (by kernel_rfl) (bc rfl (bc rfl (bc rfl b0))) q0 (ce (@ev58 f1 f2 f3 f4 f5 f6 g1 g2 g3 g4 g5 g6 a b c x y z k1) c0) (Zb8 (G:=Zac kp14 [(1,2,.call (ratF (a*y-x*b)) none),(2,4,.call (ratF (c*y)) none),(2,9,.call (ratF (z*b)) none),(2,10,.call (ratF (c*y-z*b)) none),(2,15,.call (ratF (a*z)) none),(2,20,.call (ratF (x*c)) none),(2,21,.call (ratF (a*z-x*c)) none)] []) [0,1,2,4,3] 22 (e1:=[(6,AV.ptr 2 0 0 0),(7,AV.ptr 3 0 0 0),(8,AV.ptr 4 0 0 0)]) (L1:=[⟨[Zar f1 f2 f3 f4 f5 f6 a b c],12,0,false,false⟩,⟨[Zar g1 g2 g3 g4 g5 g6 x y z],12,0,false,false⟩,⟨[ratF (a*y-x*b)],4,0,false,false⟩,⟨[ratF (c*y-z*b)],4,0,false,false⟩,⟨[ratF (a*z-x*c)],4,0,false,false⟩]) (a:=[true,true,true,true,true,true,true,true,true,true]) (q:=[]) (cs:=[⟨true,false,60,[ratA f5 f6 c,ratA g3 g4 y],[],ratF (c*y),[]⟩,⟨true,false,60,[ratA g5 g6 z,ratA f3 f4 b],[],ratF (z*b),[]⟩,⟨true,false,59,[ratF (c*y),ratF (z*b)],[],ratF (c*y-z*b),[]⟩,⟨true,false,60,[ratA f1 f2 a,ratA g5 g6 z],[],ratF (a*z),[]⟩,⟨true,false,60,[ratA g1 g2 x,ratA f5 f6 c],[],ratF (x*c),[]⟩,⟨true,false,59,[ratF (a*z),ratF (x*c)],[],ratF (a*z-x*c),[]⟩]) (by kernel_rfl) (by kernel_rfl) (Zai rfl (Zai rfl (Zai rfl (Zai rfl (Zai rfl (Zai rfl (Zai rfl (Zai rfl (Zai rfl (Zai rfl ZaL)))))))))) Za1 (ZaB (fun _=>(@ev60 f5 f6 g3 g4 c y k2)) (ZaB (fun _=>(@ev60 g5 g6 f3 f4 z b k3)) (ZaB (fun _=>(@ev59 false false false false (c*y) (z*b) k4)) (ZaB (fun _=>(@ev60 f1 f2 g5 g6 a z k5)) (ZaB (fun _=>(@ev60 g1 g2 f5 f6 x c k6)) (ZaB (fun _=>(@ev59 false false false false (a*z) (x*c) k7)) Za2)))))) ?_)
 refine Zae (G:=Zac kp14 [(3,1,.call (vi (J.sgnI (a*y-x*b).num)) none)] []) 3 [] ⟨(atC (cd Tryz.f14) [1,1,1,0,1]),[(6,AV.ptr 2 0 0 0),(7,AV.ptr 3 0 0 0),(8,AV.ptr 4 0 0 0),(36,vb (J.sgnI (a*y-x*b).num != 0))],[⟨[Zar f1 f2 f3 f4 f5 f6 a b c],12,0,false,false⟩,⟨[Zar g1 g2 g3 g4 g5 g6 x y z],12,0,false,false⟩,⟨[ratF (a*y-x*b)],4,0,false,false⟩,⟨[ratF (c*y-z*b)],4,0,false,false⟩,⟨[ratF (a*z-x*c)],4,0,false,false⟩],_,[],_⟩ (by kernel_rfl) (bc rfl b0) q0 (ce (@ev20 false false ((a*y-x*b).num) ((↑(a*y-x*b).den:Int))) c0) ?_
 rcases xq H with ⟨d9,H⟩|⟨d9,H⟩
 ·obtain ⟨k10,k11,H⟩:=H
  exact Zah (G:=Zac kp14 [(4,2,.call (ratF ((c*y-z*b) / (a*y-x*b))) none),(4,5,.call (ratF ((a*z-x*c) / (a*y-x*b))) none),(4,7,.call ((zNmD6 c y z b a x)) none)] []) 1000 [true] (tu [AV.vec true 20 [(zNmD6 c y z b a x)],vi 0]) (by kernel_rfl) (bc (Zap (i_ne.2 d9)) (bc rfl (bc rfl (bc rfl (bc rfl b0))))) q0 (ce (@ev62 false false false false (c*y-z*b) (a*y-x*b) k10) (ce (@ev62 false false false false (a*z-x*c) (a*y-x*b) k11) (ce (@ev61 false false false false ((c*y-z*b) / (a*y-x*b)) ((a*z-x*c) / (a*y-x*b))) c0))) H
 ·refine Zae (G:=Zac kp14 [(5,1,.call (vi (J.sgnI (c*y-z*b).num)) none),(5,5,.call (vi (J.sgnI (a*z-x*c).num)) none)] []) 5 [false] ⟨(atC (cd Tryz.f14) [1,1,1,1,0,1]),[(53,vb (bif J.sgnI (c*y-z*b).num==0 then J.sgnI (a*z-x*c).num==0 else false))],[⟨[Zar f1 f2 f3 f4 f5 f6 a b c],12,0,false,false⟩,⟨[Zar g1 g2 g3 g4 g5 g6 x y z],12,0,false,false⟩,⟨[ratF (a*y-x*b)],4,0,false,false⟩,⟨[ratF (c*y-z*b)],4,0,false,false⟩,⟨[ratF (a*z-x*c)],4,0,false,false⟩],[(J.sgnI (a*y-x*b).num != 0)==false,true,!((J.sgnI (c*y-z*b).num==0)==true&&true)||true],[],[⟨true,false,20,[ratF (c*y-z*b)],[],vi (J.sgnI (c*y-z*b).num),[]⟩,⟨(J.sgnI (c*y-z*b).num==0)==true&&true&&true,false,20,[ratF (a*z-x*c)],[],vi (J.sgnI (a*z-x*c).num),[]⟩]⟩ (by kernel_rfl) (bc (Zam (fun h=>d9 (i_ne.1 h))) (bc rfl (bc (Bool.or_true _) b0))) q0 (cc (fun _=>(@ev20 false false ((c*y-z*b).num) ((↑(c*y-z*b).den:Int)))) (cc (fun hc=>((@ev20 false false ((a*z-x*c).num) ((↑(a*z-x*c).den:Int))):Ev M1 (Conf.pure 20 [ratF (a*z-x*c)]) (vi (J.sgnI (a*z-x*c).num)) [])) c0)) ?_
  rcases xq H with ⟨d14,H⟩|⟨d14,H⟩
  ·exact Zah (G:=Zac kp14 [] []) 1000 [true] (tu [AV.vnil,vi 10]) (by kernel_rfl) (bc (Zap ((ZaI i_eq i_eq).2 d14)) b0) q0 c0 H
  ·exact Zah (G:=Zac kp14 [] []) 1000 [false] (tu [AV.vnil,vi 0]) (by kernel_rfl) (bc (Zam (fun h=>d14 ((ZaI i_eq i_eq).1 h))) b0) q0 c0 H
noncomputable abbrev zNmD7:=ag [vb false,AV.vnil,vb false,AV.vnil,vb false,AV.vnil,vb false,AV.vnil,vb false,AV.vnil,vb false,AV.vnil]
theorem rRadical9 (f1 f2 f3 f4 f5 f6 g1 g2 g3 g4 g5 g6:Bool) (a b c x y z:Rat)  (dq:AV) (H :
  (J.ZcW a b c/\J.ZcW x y z) /\
  ((a=x/\b=y)->Weak (tu [ag [vb false,AV.vnil,vb false,AV.vnil,vb false,AV.vnil,vb false,AV.vnil,vb false,AV.vnil,vb false,AV.vnil],vi 6]) dq) /\
  (¬(a=x/\b=y)->(J.inI 2) /\
   (J.okR a/\J.okR a) /\
   (J.okR b/\J.okR b) /\
   (J.okR (a*a)/\J.okR (b*b)) /\
   (J.okR (a*a+b*b)/\J.okR c) /\
   (J.okR x/\J.okR x) /\
   (J.okR y/\J.okR y) /\
   (J.okR (x*x)/\J.okR (y*y)) /\
   (J.okR (x*x+y*y)/\J.okR z) /\
   (J.okR x/\J.okR a) /\
   (J.okR (J.qi 2)/\J.okR (x-a)) /\
   (J.okR y/\J.okR b) /\
   (J.okR (J.qi 2)/\J.okR (y-b)) /\
   (J.okR (x*x+y*y-z)/\J.okR (a*a+b*b-c)) /\
   Weak (tu [ZaH (J.qi 2*(x-a)) (J.qi 2*(y-b)) (x*x+y*y-z-(a*a+b*b-c)),vi 0]) dq)) :
 ZfC f1 f2 f3 f4 f5 f6 g1 g2 g3 g4 g5 g6 a b c x y z (Zag dq):=by
 unfold ZfC
 obtain ⟨k1,H⟩:=H
 refine Zae (G:=Zac kp31 [(1,2,.call (vb (decide (a=x/\b=y))) none)] []) 5 [] ⟨(atC (cd Tryz.f31) [1,0,1]),[(2,AV.ptr 0 0 0 0),(3,AV.ptr 1 0 0 0),(4,AV.ptr 2 0 0 0),(11,vb (decide (a=x/\b=y)))],[⟨[Zar f1 f2 f3 f4 f5 f6 a b c],12,0,false,false⟩,⟨[Zar g1 g2 g3 g4 g5 g6 x y z],12,0,false,false⟩,⟨[zNmD7],12,0,false,false⟩],_,[],_⟩ (by kernel_rfl) (bc rfl (bc rfl b0)) q0 (ce (@ev26 f1 f2 f3 f4 f5 f6 g1 g2 g3 g4 g5 g6 a b c x y z k1) c0) ?_
 rcases xq H with ⟨d3,H⟩|⟨d3,H⟩
 ·exact Zah (G:=Zac kp31 [] []) 1000 [true] (tu [zNmD7,vi 6]) (by kernel_rfl) (bc (Zap (Zad.2 d3)) (bc rfl b0)) q0 c0 H
 ·obtain ⟨k4,k5,k6,k7,k8,k9,k10,k11,k12,k13,k14,k15,k16,k17,H⟩:=H
  exact Zah (G:=Zac kp31 [(3,0,.call (ratF (J.qi 2)) none),(4,4,.call (ratF (a*a)) none),(4,9,.call (ratF (b*b)) none),(4,10,.call (ratF (a*a+b*b)) none),(4,13,.call (ratF (a*a+b*b-c)) none),(5,4,.call (ratF (x*x)) none),(5,9,.call (ratF (y*y)) none),(5,10,.call (ratF (x*x+y*y)) none),(5,13,.call (ratF (x*x+y*y-z)) none),(6,5,.call (ratF (x-a)) none),(6,6,.call (ratF (J.qi 2*(x-a))) none),(6,12,.call (ratF (y-b)) none),(6,13,.call (ratF (J.qi 2*(y-b))) none),(6,16,.call (ratF (x*x+y*y-z-(a*a+b*b-c))) none)] []) 1000 [false] (tu [ZaH (J.qi 2*(x-a)) (J.qi 2*(y-b)) (x*x+y*y-z-(a*a+b*b-c)),vi 0]) (by kernel_rfl) (bc (Zam (fun h=>d3 (Zad.1 h))) (bc rfl (bc rfl (bc rfl (bc rfl (bc rfl (bc rfl (bc rfl (bc rfl (bc rfl (bc rfl (bc rfl (bc rfl (bc rfl (bc rfl (bc rfl (bc rfl (bc rfl (bc rfl (bc rfl (bc rfl (bc rfl (bc rfl b0))))))))))))))))))))))) q0 (ce (@ev84 2 k4) (ce (@ev60 f1 f2 f1 f2 a a k5) (ce (@ev60 f3 f4 f3 f4 b b k6) (ce (@ev83 false false false false (a*a) (b*b) k7) (ce (@ev59 false false f5 f6 (a*a+b*b) c k8) (ce (@ev60 g1 g2 g1 g2 x x k9) (ce (@ev60 g3 g4 g3 g4 y y k10) (ce (@ev83 false false false false (x*x) (y*y) k11) (ce (@ev59 false false g5 g6 (x*x+y*y) z k12) (ce (@ev59 g1 g2 f1 f2 x a k13) (ce (@ev60 false false false false (J.qi 2) (x-a) k14) (ce (@ev59 g3 g4 f3 f4 y b k15) (ce (@ev60 false false false false (J.qi 2) (y-b) k16) (ce (@ev59 false false false false (x*x+y*y-z) (a*a+b*b-c) k17) c0)))))))))))))) H
theorem rCmp5 (f1 f2 f3 f4 f5 f6 g1 g2 g3 g4 g5 g6:Bool) (a b c x y z:Rat)  (dq:AV) (H :
  (J.okT 2200 a/\J.okT 2200 x/\J.okT 2200 y) /\
  (J.okQ5 (a-x) b (-y) (J.qi 0) c z) /\
  vi (J.sgQ (a-x) b (-y) (J.qi 0) c z)=dq) :
 rCmp5_at f1 f2 f3 f4 f5 f6 g1 g2 g3 g4 g5 g6 a b c x y z (Zag dq):=by
 unfold rCmp5_at
 obtain ⟨k1,k2,H⟩:=H
 exact Zaq (G:=Zac kp107 [(1,2,.call (ag [vb (J.Zaa (a-x).num),vf (us (J.Zab (a-x).num)),vb (J.Zaa (↑(a-x).den:Int)),vf (us (J.Zab (↑(a-x).den:Int))),vb (J.Zaa b.num),vf (us (J.Zab b.num)),vb (J.Zaa (↑b.den:Int)),vf (us (J.Zab (↑b.den:Int))),vb (J.Zaa (-y).num),vf (us (J.Zab (-y).num)),vb (J.Zaa (↑(-y).den:Int)),vf (us (J.Zab (↑(-y).den:Int))),vb (J.Zaa (J.qi 0).num),vf (us (J.Zab (J.qi 0).num)),vb (J.Zaa (↑(J.qi 0).den:Int)),vf (us (J.Zab (↑(J.qi 0).den:Int))),vb (J.Zaa c.num),vf (us (J.Zab c.num)),vb (J.Zaa (↑c.den:Int)),vf (us (J.Zab (↑c.den:Int))),vb (J.Zaa z.num),vf (us (J.Zab z.num)),vb (J.Zaa (↑z.den:Int)),vf (us (J.Zab (↑z.den:Int)))]) none),(1,3,.call (vi (J.sgQ (a-x) b (-y) (J.qi 0) c z)) none)] []) 1000 [] (vi (J.sgQ (a-x) b (-y) (J.qi 0) c z)) (by kernel_rfl) (bc rfl (bc rfl b0)) q0 (ce (@ev146 f1 f2 f3 f4 f5 f6 g1 g2 g3 g4 g5 g6 a b c x y z k1) (ce (@ev145 false false false false false false false false false false false false (a-x) b (-y) (J.qi 0) c z k2) c0)) H
end Go.Av

namespace Go.Av
open Go.Proofs
namespace J
def okSr (x u y v k:Rat):Prop:=(okT 350 x/\okT 30 u)/\(okT 350 y/\okT 30 v)/\okT 1700 k/\0<k
noncomputable def Zdx (a b c x y z:Rat):Int:=if a*y-x*b=0 then (if a*z=x*c/\b*z=y*c then 10 else 0) else 0
noncomputable def Zfr (a b c x y z:Rat):List Pnt:=if a*y-x*b=0 then [] else [atP ((c*y-z*b) / (a*y-x*b)) ((a*z-x*c) / (a*y-x*b))]
def okC5 (a b c x y z:Rat):Prop:=(okT 2200 a/\okT 200 b/\okT 1700 c)/\okT 2200 x/\okT 200 y/\okT 1700 z
end J
theorem nn_pos2 {c:Rat} (h:0<c):J.isNN c:=by
 unfold J.isNN
 have:=num_gt.2 h
 omega
theorem surd_f (x u y v k:Rat):(J.Zd7 x u y v k).ax=J.mkA x u k/\(J.Zd7 x u y v k).bx=J.mkB u k/\(J.Zd7 x u y v k).ay=J.mkA y v k/\(J.Zd7 x u y v k).by_=J.mkB v k/\(J.Zd7 x u y v k).c=J.rd2 (J.mkB u k) (J.mkB v k) (J.com (J.mkB u k) (J.mkC u k) (J.mkC v k)):=by
 by_cases h:J.rsq k
 ·rw [show J.Zd7 x u y v k=J.atP (x+u*J.rt k) (y+v*J.rt k) from if_pos h,show J.mkA x u k=x+u*J.rt k from if_pos h,show J.mkA y v k=y+v*J.rt k from if_pos h,show J.mkB u k=J.qi 0 from if_pos h,show J.mkB v k=J.qi 0 from if_pos h]
  refine ⟨rfl,rfl,rfl,rfl,?_⟩
  rw [show ∀ t,J.rd2 (J.qi 0) (J.qi 0) t=J.qi 0 from fun t=>if_pos ⟨qi_z,qi_z⟩];rfl
 ·rw [show J.Zd7 x u y v k=⟨x,u,y,v,if u=0/\v=0 then J.qi 0 else k⟩ from if_neg h,show J.mkA x u k=x from if_neg h,show J.mkA y v k=y from if_neg h,show J.mkB u k=u from if_neg h,show J.mkB v k=v from if_neg h,show J.mkC u k=J.rad u k from if_neg h,show J.mkC v k=J.rad v k from if_neg h]
  refine ⟨rfl,rfl,rfl,rfl,?_⟩
  unfold J.rd2 J.com
  by_cases z:u=0
  ·by_cases w:v=0
   ·simp only [z,w,and_self,if_true]
   ·simp only [z,w,and_false,if_false,if_true]
    exact (radn w).symm
  ·simp only [z,false_and,if_false]
   exact (radn z).symm
theorem ev66 (f1 f2 f3 f4 f5 f6 f7 f8 f9 f10:Bool) (x u y v k:Rat) (h:J.okSr x u y v k):Ev M1 (.pure 66 [ratA f1 f2 x,ratA f3 f4 u,ratA f5 f6 y,ratA f7 f8 v,ratA f9 f10 k]) (Pnt.a (J.Zd7 x u y v k)) []:=by
 obtain ⟨⟨h1,h2⟩,⟨h3,h4⟩,h5,h6⟩:=h
 obtain ⟨e1,e2,e3,e4,e5⟩:=surd_f x u y v k
 refine call66 (mSurd _ _ _ _ _ _ _ _ _ _ _ _ _ _ _ _ ⟨fun _=>⟨okT_O (k:=9000) (Zas h1 (by omega)) (Zas h2 (by omega)) (Zas h5 (by omega)) (by omega),okT_O (k:=9000) (Zas h3 (by omega)) (Zas h4 (by omega)) (Zas h5 (by omega)) (by omega),⟨⟨Zas (okT_mkC h5) (by omega),Zas (okT_mkC h5) (by omega)⟩,?_⟩,?_⟩,fun n=>absurd (nn_pos2 h6) n⟩)
 ·by_cases s:J.rsq k
  ·exact .inl (by rw [show J.mkB u k=J.qi 0 from if_pos s];exact qi_z)
  ·rw [show J.mkB u k=u from if_neg s,show J.mkB v k=v from if_neg s,show J.mkC u k=J.rad u k from if_neg s,show J.mkC v k=J.rad v k from if_neg s]
   by_cases z:u=0
   ·exact .inl z
   ·by_cases w:v=0
    ·exact .inr (.inl w)
    ·exact .inr (.inr (by rw [radn z,radn w]))
 ·unfold Pnt.a
  rw [e1,e2,e3,e4,e5]
  exact .refl _
theorem ev19 (f1 f2 f3 f4 f5 f6 g1 g2 g3 g4 g5 g6:Bool) (a b c x y q:Rat) (h:J.Zfc a b c/\J.ZdT x y/\J.okT 30 q):Ev M1 (.pure 19 [Zar f1 f2 f3 f4 f5 f6 a b c,Zar g1 g2 g3 g4 g5 g6 x y q]) (.bool (decide (J.dep a b c x y q=0))) []:=by
 refine call19 (mTouch _ _ _ _ _ _ _ _ _ _ _ _ _ _ _ _ _ _ _ ⟨h,?_⟩)
 by_cases k:J.dep a b c x y q=0
 ·rw [decide_eq_true k,beq_iff_eq.2 (sgz.2 k)]
 ·rw [decide_eq_false k];congr 1;simpa using fun x=>k (sgz.1 x)
theorem lin_0 {a b c x y z:Rat} (k:a*y-x*b=0) (j:a*z=x*c/\b*z=y*c):J.Zfr a b c x y z=[]/\J.Zdx a b c x y z=10:=by
 unfold J.Zfr J.Zdx;rw [if_pos k,if_pos k,if_pos j];exact ⟨rfl,rfl⟩
theorem lin_1 {a b c x y z:Rat} (k:a*y-x*b=0) (j:¬(a*z=x*c/\b*z=y*c)):J.Zfr a b c x y z=[]/\J.Zdx a b c x y z=0:=by
 unfold J.Zfr J.Zdx;rw [if_pos k,if_pos k,if_neg j];exact ⟨rfl,rfl⟩
theorem lin_2 {a b c x y z:Rat} (k:¬a*y-x*b=0):J.Zfr a b c x y z=[J.atP ((c*y-z*b) / (a*y-x*b)) ((a*z-x*c) / (a*y-x*b))]/\J.Zdx a b c x y z=0:=by
 unfold J.Zfr J.Zdx;rw [if_neg k,if_neg k];exact ⟨rfl,rfl⟩
theorem weak_list (l:List Pnt) (e:Int):Weak (.tup [.vec true 20 (l.map Pnt.a),.int .i64 e]) (.tup [.vec false 20 (l.map Pnt.a),.int .i64 e]):=Zch (.full _ _) (.refl _)
theorem ZbW (e:Int):Weak (.tup [.vnil,.int .i64 e]) (.tup [.vec false 20 (([]:List Pnt).map Pnt.a),.int .i64 e]):=Zch (.vnil 20) (.refl _)
theorem ev13 (f1 f2 f3 f4 f5 f6 g1 g2 g3 g4 g5 g6:Bool) (a b c x y z:Rat) (h:J.ZcW a b c/\J.ZcW x y z):Ev M1 (.pure 13 [Zar f1 f2 f3 f4 f5 f6 a b c,Zar g1 g2 g3 g4 g5 g6 x y z]) (.tup [.vec false 20 ((J.Zfr a b c x y z).map Pnt.a),.int .i64 (J.Zdx a b c x y z)]) []:=by
 have h':=h
 obtain ⟨⟨ha,hb,hc⟩,hx,hy,hz⟩:=h
 refine call13 (mLines _ _ _ _ _ _ _ _ _ _ _ _ _ _ _ _ _ _ _ ⟨⟨Zak ha (by omega),Zak hy (by omega)⟩,⟨Zak hx (by omega),Zak hb (by omega)⟩,⟨Zak (Zaf ha hy) (by omega),Zak (Zaf hx hb) (by omega)⟩,fun k=>⟨h',fun j => ?_,fun j => ?_⟩,fun k=>⟨⟨Zak hc (by omega),Zak hy (by omega)⟩,⟨Zak hz (by omega),Zak hb (by omega)⟩,⟨Zak (Zaf hc hy) (by omega),Zak (Zaf hz hb) (by omega)⟩,⟨Zak (Zat (Zaf hc hy) (Zaf hz hb)) (by omega),Zak (Zat (Zaf ha hy) (Zaf hx hb)) (by omega),fun n=>k (sgz.2 (by rwa [Rat.num_eq_zero] at n))⟩,⟨Zak ha (by omega),Zak hz (by omega)⟩,⟨Zak hx (by omega),Zak hc (by omega)⟩,⟨Zak (Zaf ha hz) (by omega),Zak (Zaf hx hc) (by omega)⟩,⟨Zak (Zat (Zaf ha hz) (Zaf hx hc)) (by omega),Zak (Zat (Zaf ha hy) (Zaf hx hb)) (by omega),fun n=>k (sgz.2 (by rwa [Rat.num_eq_zero] at n))⟩,?_⟩⟩)
 ·rw [sgz] at k
  rw [(lin_0 k j.2).1,(lin_0 k j.2).2]
  exact ZbW _
 ·rw [sgz] at k
  have k2:a*y=x*b:=by grind
  have j2:¬(a*z=x*c/\b*z=y*c):=fun q=>j ⟨k2,q⟩
  rw [(lin_1 k j2).1,(lin_1 k j2).2]
  exact ZbW _
 ·rw [sgz] at k
  rw [(lin_2 k).1,(lin_2 k).2]
  exact weak_list [J.atP ((c*y-z*b) / (a*y-x*b)) ((a*z-x*c) / (a*y-x*b))] 0
theorem ev14 (f1 f2 f3 f4 f5 f6 g1 g2 g3 g4 g5 g6:Bool) (a b c x y z:Rat) (h:J.ZcW a b c/\J.ZcW x y z):Ev M1 (.pure 14 [Zar f1 f2 f3 f4 f5 f6 a b c,Zar g1 g2 g3 g4 g5 g6 x y z]) (.tup [.vec false 20 ((J.Zfr a b c x y z).map Pnt.a),.int .i64 (J.Zdx a b c x y z)]) []:=by
 have h':=h
 obtain ⟨⟨ha,hb,hc⟩,hx,hy,hz⟩:=h
 refine call14 (rLines9 _ _ _ _ _ _ _ _ _ _ _ _ _ _ _ _ _ _ _ ⟨h',⟨Zak hc (by omega),Zak hy (by omega)⟩,⟨Zak hz (by omega),Zak hb (by omega)⟩,⟨Zak (Zaf hc hy) (by omega),Zak (Zaf hz hb) (by omega)⟩,⟨Zak ha (by omega),Zak hz (by omega)⟩,⟨Zak hx (by omega),Zak hc (by omega)⟩,⟨Zak (Zaf ha hz) (by omega),Zak (Zaf hx hc) (by omega)⟩,fun k=>⟨⟨Zak (Zat (Zaf hc hy) (Zaf hz hb)) (by omega),Zak (Zat (Zaf ha hy) (Zaf hx hb)) (by omega),fun n=>k (sgz.2 (by rwa [Rat.num_eq_zero] at n))⟩,⟨Zak (Zat (Zaf ha hz) (Zaf hx hc)) (by omega),Zak (Zat (Zaf ha hy) (Zaf hx hb)) (by omega),fun n=>k (sgz.2 (by rwa [Rat.num_eq_zero] at n))⟩,?_⟩,fun k=>⟨fun j => ?_,fun j => ?_⟩⟩)
 ·rw [sgz] at k
  rw [(lin_2 k).1,(lin_2 k).2]
  exact weak_list [J.atP ((c*y-z*b) / (a*y-x*b)) ((a*z-x*c) / (a*y-x*b))] 0
 ·have k:=Classical.not_not.1 k
  rw [sgz] at k
  rw [sgz,sgz] at j
  have j2:a*z=x*c/\b*z=y*c:=⟨by grind,by grind⟩
  rw [(lin_0 k j2).1,(lin_0 k j2).2]
  exact ZbW _
 ·have k:=Classical.not_not.1 k
  rw [sgz] at k
  rw [sgz,sgz] at j
  have j2:¬(a*z=x*c/\b*z=y*c):=fun q=>j ⟨by grind,by grind⟩
  rw [(lin_1 k j2).1,(lin_1 k j2).2]
  exact ZbW _
theorem ev25_n (f1 f2 f3 f4 f5 f6 g1 g2 g3 g4 g5 g6:Bool) (a b c x y z:Rat) (h:J.ZcW a b c/\J.ZcW x y z) (k:¬((a=x/\b=y))):Ev M1 (.pure 25 [Zar f1 f2 f3 f4 f5 f6 a b c,Zar g1 g2 g3 g4 g5 g6 x y z]) (.tup [ZaH (J.qi 2*(x-a)) (J.qi 2*(y-b)) (x*x+y*y-z-(a*a+b*b-c)),.int .i64 0]) []:=by
 have h':=h
 obtain ⟨⟨ha,hb,hc⟩,hx,hy,hz⟩:=h
 exact call25 (mRadical _ _ _ _ _ _ _ _ _ _ _ _ _ _ _ _ _ _ _ ⟨h',fun n=>absurd n k,fun _=>⟨by unfold J.inI;omega,⟨Zak hx (by omega),Zak ha (by omega)⟩,⟨Zak (Zfl (by unfold J.inI;omega):J.okT 3 (J.qi 2)) (by omega),Zak (Zat hx ha) (by omega)⟩,⟨Zak hy (by omega),Zak hb (by omega)⟩,⟨Zak (Zfl (by unfold J.inI;omega):J.okT 3 (J.qi 2)) (by omega),Zak (Zat hy hb) (by omega)⟩,h'.2,h'.1,⟨Zak (Zat (ZaG (Zaf hx hx) (Zaf hy hy)) hz) (by omega),Zak (Zat (ZaG (Zaf ha ha) (Zaf hb hb)) hc) (by omega)⟩,.refl _⟩⟩)
theorem ev31_n (f1 f2 f3 f4 f5 f6 g1 g2 g3 g4 g5 g6:Bool) (a b c x y z:Rat) (h:J.ZcW a b c/\J.ZcW x y z) (k:¬((a=x/\b=y))):Ev M1 (.pure 31 [Zar f1 f2 f3 f4 f5 f6 a b c,Zar g1 g2 g3 g4 g5 g6 x y z]) (.tup [ZaH (J.qi 2*(x-a)) (J.qi 2*(y-b)) (x*x+y*y-z-(a*a+b*b-c)),.int .i64 0]) []:=by
 have h':=h
 obtain ⟨⟨ha,hb,hc⟩,hx,hy,hz⟩:=h
 exact call31 (rRadical9 _ _ _ _ _ _ _ _ _ _ _ _ _ _ _ _ _ _ _ ⟨h',fun n=>absurd n k,fun _=>⟨by unfold J.inI;omega,⟨Zak ha (by omega),Zak ha (by omega)⟩,⟨Zak hb (by omega),Zak hb (by omega)⟩,⟨Zak (Zaf ha ha) (by omega),Zak (Zaf hb hb) (by omega)⟩,⟨Zak (ZaG (Zaf ha ha) (Zaf hb hb)) (by omega),Zak hc (by omega)⟩,⟨Zak hx (by omega),Zak hx (by omega)⟩,⟨Zak hy (by omega),Zak hy (by omega)⟩,⟨Zak (Zaf hx hx) (by omega),Zak (Zaf hy hy) (by omega)⟩,⟨Zak (ZaG (Zaf hx hx) (Zaf hy hy)) (by omega),Zak hz (by omega)⟩,⟨Zak hx (by omega),Zak ha (by omega)⟩,⟨Zak (Zfl (by unfold J.inI;omega):J.okT 3 (J.qi 2)) (by omega),Zak (Zat hx ha) (by omega)⟩,⟨Zak hy (by omega),Zak hb (by omega)⟩,⟨Zak (Zfl (by unfold J.inI;omega):J.okT 3 (J.qi 2)) (by omega),Zak (Zat hy hb) (by omega)⟩,⟨Zak (Zat (ZaG (Zaf hx hx) (Zaf hy hy)) hz) (by omega),Zak (Zat (ZaG (Zaf ha ha) (Zaf hb hb)) hc) (by omega)⟩,.refl _⟩⟩)
theorem ev107 (f1 f2 f3 f4 f5 f6 g1 g2 g3 g4 g5 g6:Bool) (a b c x y z:Rat) (h:J.okC5 a b c x y z):Ev M1 (.pure 107 [Zar f1 f2 f3 f4 f5 f6 a b c,Zar g1 g2 g3 g4 g5 g6 x y z]) (.int .i64 (J.Zh1 a b c x y z)) []:=by
 obtain ⟨⟨h1,h2,h3⟩,h4,h5,h6⟩:=h
 exact call107 (rCmp5 _ _ _ _ _ _ _ _ _ _ _ _ _ _ _ _ _ _ _ ⟨⟨Zas h1 (by omega),Zas h4 (by omega),Zas h5 (by omega)⟩,⟨Zas (Zat h1 h4) (by omega),Zas h2 (by omega),Zas (Zbs h5) (by omega),Zas Zcr (by omega),Zas h3 (by omega),Zas h6 (by omega)⟩,rfl⟩)
end Go.Av

namespace Go.Av
open Go.Proofs
set_option maxRecDepth 100000
def fi17:Fi:=⟨66,[.tmp 4]⟩
def kp17:List (Nat × List Nat):=[(0,[2,3]),(1,[2,5,6]),(2,[2,5,6,17]),(3,[2,5,6,17,18]),(4,[4]),(5,[2,5,6,20]),(6,[4]),(7,[5,6,7,8]),(8,[5,6,7,8,9]),(9,[5,6,7,8,42]),(10,[5,6,7,8]),(11,[4])]
def fi70:Fi:=⟨19,[.tmp 4]⟩
def kp70:List (Nat × List Nat):=[(0,[2,3]),(1,[2,3,5]),(2,[2,3,5,12]),(3,[4]),(4,[4])]
def mLC_at (f1 f2 f3 f4 f5 f6 g1 g2 g3 g4 g5 g6:Bool) (a b c x y q:Rat) (Q:AV->Heap->Prop):Prop:=Wp M1 (.run fi17 (atC (cd Tryz.f17) []) [(0,Zar f1 f2 f3 f4 f5 f6 a b c),(1,Zar g1 g2 g3 g4 g5 g6 x y q)] []) Q
def rComp7_at (f1 f2 f3 f4 f5 f6 f7 f8 f9 f10 g1 g2 g3 g4 g5 g6 g7 g8 g9 g10:Bool) (ax bx ay by_ c ux vx uy vy d:Rat) (Q:AV->Heap->Prop):Prop:=Wp M1 (.run fi70 (atC (cd Tryz.f70) []) [(0,.agg [.bool (J.Zaa ax.num),.vec f1 1 ((J.Zab ax.num).map (.int .u32)),.bool (J.Zaa (ax.den:Int)),.vec f2 1 ((J.Zab (ax.den:Int)).map (.int .u32)),.bool (J.Zaa bx.num),.vec f3 1 ((J.Zab bx.num).map (.int .u32)),.bool (J.Zaa (bx.den:Int)),.vec f4 1 ((J.Zab (bx.den:Int)).map (.int .u32)),.bool (J.Zaa ay.num),.vec f5 1 ((J.Zab ay.num).map (.int .u32)),.bool (J.Zaa (ay.den:Int)),.vec f6 1 ((J.Zab (ay.den:Int)).map (.int .u32)),.bool (J.Zaa by_.num),.vec f7 1 ((J.Zab by_.num).map (.int .u32)),.bool (J.Zaa (by_.den:Int)),.vec f8 1 ((J.Zab (by_.den:Int)).map (.int .u32)),.bool (J.Zaa c.num),.vec f9 1 ((J.Zab c.num).map (.int .u32)),.bool (J.Zaa (c.den:Int)),.vec f10 1 ((J.Zab (c.den:Int)).map (.int .u32))]),(1,.agg [.bool (J.Zaa ux.num),.vec g1 1 ((J.Zab ux.num).map (.int .u32)),.bool (J.Zaa (ux.den:Int)),.vec g2 1 ((J.Zab (ux.den:Int)).map (.int .u32)),.bool (J.Zaa vx.num),.vec g3 1 ((J.Zab vx.num).map (.int .u32)),.bool (J.Zaa (vx.den:Int)),.vec g4 1 ((J.Zab (vx.den:Int)).map (.int .u32)),.bool (J.Zaa uy.num),.vec g5 1 ((J.Zab uy.num).map (.int .u32)),.bool (J.Zaa (uy.den:Int)),.vec g6 1 ((J.Zab (uy.den:Int)).map (.int .u32)),.bool (J.Zaa vy.num),.vec g7 1 ((J.Zab vy.num).map (.int .u32)),.bool (J.Zaa (vy.den:Int)),.vec g8 1 ((J.Zab (vy.den:Int)).map (.int .u32)),.bool (J.Zaa d.num),.vec g9 1 ((J.Zab d.num).map (.int .u32)),.bool (J.Zaa (d.den:Int)),.vec g10 1 ((J.Zab (d.den:Int)).map (.int .u32))])] []) Q
theorem call17 {args:List AV} {d:AV} (h:wc M1 fi17 Tryz.f17 args d):Ev M1 (.pure 17 args) d []:=pcl _ _ (by kernel_rfl) h
theorem call70 {args:List AV} {d:AV} (h:wc M1 fi70 Tryz.f70 args d):Ev M1 (.pure 70 args) d []:=pcl _ _ (by kernel_rfl) h
noncomputable abbrev zNmE1 (a:Rat) (b:Rat) (c:Rat) (x:Rat) (y:Rat) (q:Rat):=(Pnt.a (J.Zd7 (J.fX a b c x y) (-b) (J.fY a b c x y) (- -a) (J.dep a b c x y q)))
noncomputable abbrev zNmE2 (a:Rat) (b:Rat) (c:Rat) (x:Rat) (y:Rat) (q:Rat):=(Pnt.a (J.Zd7 (J.fX a b c x y) (- -b) (J.fY a b c x y) (- - -a) (J.dep a b c x y q)))
noncomputable abbrev zNmE3 (a:Rat) (b:Rat) (c:Rat) (x:Rat) (y:Rat) (q:Rat):=(Pnt.a (J.Zd7 (J.fX a b c x y) b (J.fY a b c x y) (-a) (J.dep a b c x y q)))
noncomputable abbrev zNmE4 (a:Rat) (b:Rat) (c:Rat) (x:Rat) (y:Rat):=(vecF (J.fX a b c x y) (J.fY a b c x y))
noncomputable abbrev zNmE5 (a:Rat) (b:Rat) (c:Rat) (x:Rat) (y:Rat):=(pntF (J.fX a b c x y) (J.qi 0) (J.fY a b c x y) (J.qi 0) (J.qi 0))
theorem mLC (f1 f2 f3 f4 f5 f6 g1 g2 g3 g4 g5 g6:Bool) (a b c x y q:Rat)  (dq:AV) (H :
  (J.Zfc a b c/\J.ZdT x y/\J.okT 30 q) /\
  ((J.sgnI (J.dep a b c x y q).num = -1)->Weak (AV.vnil) dq) /\
  (¬(J.sgnI (J.dep a b c x y q).num = -1)->((J.sgnI (J.dep a b c x y q).num=0)->Weak (AV.vec true 20 [(pntF (J.fX a b c x y) (J.qi 0) (J.fY a b c x y) (J.qi 0) (J.qi 0))]) dq) /\
   (¬(J.sgnI (J.dep a b c x y q).num=0)->(J.okB a.num) /\
    (((J.sgnI b.num<0)\/((J.sgnI b.num=0)/\(J.sgnI (-a).num<0)))->(J.okB b.num) /\
     (J.okB (-a).num) /\
     (J.okB (-b).num) /\
     (J.okB (- -a).num) /\
     (J.okSr (J.fX a b c x y) (- -b) (J.fY a b c x y) (- - -a) (J.dep a b c x y q)) /\
     (J.okSr (J.fX a b c x y) (-b) (J.fY a b c x y) (- -a) (J.dep a b c x y q)) /\
     Weak (AV.vec true 20 [(Pnt.a (J.Zd7 (J.fX a b c x y) (- -b) (J.fY a b c x y) (- - -a) (J.dep a b c x y q))),(Pnt.a (J.Zd7 (J.fX a b c x y) (-b) (J.fY a b c x y) (- -a) (J.dep a b c x y q)))]) dq) /\
    (¬((J.sgnI b.num<0)\/((J.sgnI b.num=0)/\(J.sgnI (-a).num<0)))->(J.okB b.num) /\
     (J.okB (-a).num) /\
     (J.okSr (J.fX a b c x y) (-b) (J.fY a b c x y) (- -a) (J.dep a b c x y q)) /\
     (J.okSr (J.fX a b c x y) b (J.fY a b c x y) (-a) (J.dep a b c x y q)) /\
     Weak (AV.vec true 20 [(Pnt.a (J.Zd7 (J.fX a b c x y) (-b) (J.fY a b c x y) (- -a) (J.dep a b c x y q))),(Pnt.a (J.Zd7 (J.fX a b c x y) b (J.fY a b c x y) (-a) (J.dep a b c x y q)))]) dq)))) :
 mLC_at f1 f2 f3 f4 f5 f6 g1 g2 g3 g4 g5 g6 a b c x y q (Zag dq):=by
 unfold mLC_at
 obtain ⟨k1,H⟩:=H
 refine Zae (G:=Zac kp17 [(1,2,.call (tu [ratF (J.dep a b c x y q),(zNmE4 a b c x y)]) none),(2,1,.call (vi (J.sgnI (J.dep a b c x y q).num)) none)] []) 10 [] ⟨(atC (cd Tryz.f17) [1,1,0,1,0,1]),[(2,AV.ptr 0 0 0 0),(5,AV.ptr 2 0 0 0),(6,AV.ptr 3 0 0 0),(17,vi (J.sgnI (J.dep a b c x y q).num)),(18,vb (J.sgnI (J.dep a b c x y q).num == -1))],[⟨[Zar f1 f2 f3 f4 f5 f6 a b c],12,0,false,false⟩,⟨[Zar g1 g2 g3 g4 g5 g6 x y q],12,0,false,false⟩,⟨[ratF (J.dep a b c x y q)],4,0,false,false⟩,⟨[(zNmE4 a b c x y)],8,0,false,false⟩],_,[],_⟩ (by kernel_rfl) (bc rfl (bc rfl (bc rfl (bc rfl (bc rfl b0))))) q0 (ce (@ev64 f1 f2 f3 f4 f5 f6 g1 g2 g3 g4 g5 g6 a b c x y q k1) (ce (@ev54 false false ((J.dep a b c x y q).num) ((↑(J.dep a b c x y q).den:Int))) c0)) ?_
 rcases xq H with ⟨d3,H⟩|⟨d3,H⟩
 ·exact Zah (G:=Zac kp17 [] []) 1000 [true] (AV.vnil) (by kernel_rfl) (bc (Zap (i_eq.2 d3)) b0) q0 c0 H
 ·rcases xq H with ⟨d5,H⟩|⟨d5,H⟩
  ·exact Zah (G:=Zac kp17 [(6,1,.call ((zNmE5 a b c x y)) none)] []) 1000 [false,true] (AV.vec true 20 [(zNmE5 a b c x y)]) (by kernel_rfl) (bc (Zam (fun h=>d3 (i_eq.1 h))) (bc (Zap (i_eq.2 d5)) (bc rfl b0))) q0 (ce (@ev57 false false false false (J.fX a b c x y) (J.fY a b c x y)) c0) H
  ·obtain ⟨k6,H⟩:=H
   refine Zae (G:=Zac kp17 [(7,4,.call (ratF (-a)) none)] []) 7 [false,false] ⟨(atC (cd Tryz.f17) [1,1,1,0]),[(2,AV.ptr 0 0 0 0),(5,AV.ptr 2 0 0 0),(6,AV.ptr 3 0 0 0),(20,vb (J.sgnI (J.dep a b c x y q).num==0))],[⟨[Zar f1 f2 f3 f4 f5 f6 a b c],12,0,false,false⟩,⟨[Zar g1 g2 g3 g4 g5 g6 x y q],12,0,false,false⟩,⟨[ratF (J.dep a b c x y q)],4,0,false,false⟩,⟨[(zNmE4 a b c x y)],8,0,false,false⟩],_,[],_⟩ (by kernel_rfl) (bc (Zam (fun h=>d3 (i_eq.1 h))) (bc (Zam (fun h=>d5 (i_eq.1 h))) b0)) q0 c0 (Zb8 (G:=Zac kp17 [(7,4,.call (ratF (-a)) none)] []) [0,1,2,3,5,4] 5 (e1:=[(5,AV.ptr 2 0 0 0),(6,AV.ptr 3 0 0 0),(7,AV.ptr 4 0 0 0),(8,AV.ptr 5 0 0 0)]) (L1:=[⟨[Zar f1 f2 f3 f4 f5 f6 a b c],12,0,false,false⟩,⟨[Zar g1 g2 g3 g4 g5 g6 x y q],12,0,false,false⟩,⟨[ratF (J.dep a b c x y q)],4,0,false,false⟩,⟨[(zNmE4 a b c x y)],8,0,false,false⟩,⟨[ratA f3 f4 b],4,0,false,false⟩,⟨[ratF (-a)],4,0,false,false⟩]) (a:=[true,true,true,true]) (q:=[]) (cs:=[⟨true,false,65,[ratA f1 f2 a],[],ratF (-a),[]⟩]) (by kernel_rfl) (by kernel_rfl) (Zai rfl (Zai rfl (Zai rfl (Zai rfl ZaL)))) Za1 (ZaB (fun _=>(@ev65 f1 f2 a k6)) Za2) ?_)
   refine Zae (G:=Zac kp17 [(8,1,.call (vi (J.sgnI b.num)) none),(9,7,.call (vi (J.sgnI (-a).num)) none)] []) 5 [] ⟨(atC (cd Tryz.f17) [1,1,1,1,0,1,1]),[(5,AV.ptr 2 0 0 0),(6,AV.ptr 3 0 0 0),(7,AV.ptr 4 0 0 0),(8,AV.ptr 5 0 0 0),(42,vb (bif decide (J.sgnI b.num<0) then true else bif J.sgnI b.num==0 then decide (J.sgnI (-a).num<0) else false))],[⟨[Zar f1 f2 f3 f4 f5 f6 a b c],12,0,false,false⟩,⟨[Zar g1 g2 g3 g4 g5 g6 x y q],12,0,false,false⟩,⟨[ratF (J.dep a b c x y q)],4,0,false,false⟩,⟨[(zNmE4 a b c x y)],8,0,false,false⟩,⟨[ratA f3 f4 b],4,0,false,false⟩,⟨[ratF (-a)],4,0,false,false⟩],[true,!((J.sgnI b.num==0)==true&&(decide (J.sgnI b.num<0)==false&&true))||true],[],[⟨true,false,54,[ratA f3 f4 b],[],vi (J.sgnI b.num),[]⟩,⟨(J.sgnI b.num==0)==true&&(decide (J.sgnI b.num<0)==false&&true)&&true,false,54,[ratF (-a)],[],vi (J.sgnI (-a).num),[]⟩]⟩ (by kernel_rfl) (bc rfl (bc (Bool.or_true _) b0)) q0 (cc (fun _=>(@ev54 f3 f4 (b.num) ((↑b.den:Int)))) (cc (fun hc=>((@ev54 false false ((-a).num) ((↑(-a).den:Int))):Ev M1 (Conf.pure 54 [ratF (-a)]) (vi (J.sgnI (-a).num)) [])) c0)) ?_
   rcases xq H with ⟨d9,H⟩|⟨d9,H⟩
   ·obtain ⟨k10,k11,k12,k13,k14,k15,H⟩:=H
    exact Zah (G:=Zac kp17 [(10,1,.call (ratF (-b)) none),(10,3,.call (ratF (- -a)) none),(11,3,.call (ratF (- -b)) none),(11,7,.call (ratF (- - -a)) none),(11,9,.call ((zNmE2 a b c x y q)) none),(11,17,.call ((zNmE1 a b c x y q)) none)] []) 1000 [true] (AV.vec true 20 [(zNmE2 a b c x y q),(zNmE1 a b c x y q)]) (by kernel_rfl) (bc (Zap ((Za4 Zad (ZaI i_eq Zad)).2 d9)) (bc rfl (bc rfl (bc rfl (bc rfl (bc rfl (bc rfl (bc rfl (bc rfl (bc rfl (bc rfl (bc rfl (bc rfl (bc rfl (bc rfl b0))))))))))))))) q0 (ce (@ev65 f3 f4 b k10) (ce (@ev65 false false (-a) k11) (ce (@ev65 false false (-b) k12) (ce (@ev65 false false (- -a) k13) (ce (@ev66 false false false false false false false false false false (J.fX a b c x y) (- -b) (J.fY a b c x y) (- - -a) (J.dep a b c x y q) k14) (ce (@ev66 false false false false false false false false false false (J.fX a b c x y) (-b) (J.fY a b c x y) (- -a) (J.dep a b c x y q) k15) c0)))))) H
   ·obtain ⟨k16,k17,k18,k19,H⟩:=H
    exact Zah (G:=Zac kp17 [(11,3,.call (ratF (-b)) none),(11,7,.call (ratF (- -a)) none),(11,9,.call ((zNmE1 a b c x y q)) none),(11,17,.call ((zNmE3 a b c x y q)) none)] []) 1000 [false] (AV.vec true 20 [(zNmE1 a b c x y q),(zNmE3 a b c x y q)]) (by kernel_rfl) (bc (Zam (fun h=>d9 ((Za4 Zad (ZaI i_eq Zad)).1 h))) (bc rfl (bc rfl (bc rfl (bc rfl (bc rfl (bc rfl (bc rfl (bc rfl (bc rfl (bc rfl b0))))))))))) q0 (ce (@ev65 f3 f4 b k16) (ce (@ev65 false false (-a) k17) (ce (@ev66 false false false false false false false false false false (J.fX a b c x y) (-b) (J.fY a b c x y) (- -a) (J.dep a b c x y q) k18) (ce (@ev66 false false f3 f4 false false false false false false (J.fX a b c x y) b (J.fY a b c x y) (-a) (J.dep a b c x y q) k19) c0)))) H
theorem rComp7 (f1 f2 f3 f4 f5 f6 f7 f8 f9 f10 g1 g2 g3 g4 g5 g6 g7 g8 g9 g10:Bool) (ax bx ay by_ c ux vx uy vy d:Rat)  (dq:AV) (H :
  (J.okC5 ax bx (J.rad bx c) ux vx (J.rad vx d)) /\
  ((¬J.Zh1 ax bx (J.rad bx c) ux vx (J.rad vx d)=0)->vi (J.Zh1 ax bx (J.rad bx c) ux vx (J.rad vx d))=dq) /\
  (¬(¬J.Zh1 ax bx (J.rad bx c) ux vx (J.rad vx d)=0)->(J.okC5 ay by_ (J.rad by_ c) uy vy (J.rad vy d)) /\
   vi (J.Zh1 ay by_ (J.rad by_ c) uy vy (J.rad vy d))=dq)) :
 rComp7_at f1 f2 f3 f4 f5 f6 f7 f8 f9 f10 g1 g2 g3 g4 g5 g6 g7 g8 g9 g10 ax bx ay by_ c ux vx uy vy d (Zag dq):=by
 unfold rComp7_at
 obtain ⟨k1,H⟩:=H
 refine Zae (G:=Zac kp70 [(1,1,.call (ZaH ax bx (J.rad bx c)) none),(1,3,.call (ZaH ux vx (J.rad vx d)) none),(1,4,.call (vi (J.Zh1 ax bx (J.rad bx c) ux vx (J.rad vx d))) none)] []) 7 [] ⟨(atC (cd Tryz.f70) [1,0,1,1]),[(2,AV.ptr 0 0 0 0),(3,AV.ptr 1 0 0 0),(5,vi (J.Zh1 ax bx (J.rad bx c) ux vx (J.rad vx d))),(12,vb (J.Zh1 ax bx (J.rad bx c) ux vx (J.rad vx d) != 0))],[⟨[ag [vb (J.Zaa ax.num),AV.vec f1 1 (us (J.Zab ax.num)),vb (J.Zaa (↑ax.den:Int)),AV.vec f2 1 (us (J.Zab (↑ax.den:Int))),vb (J.Zaa bx.num),AV.vec f3 1 (us (J.Zab bx.num)),vb (J.Zaa (↑bx.den:Int)),AV.vec f4 1 (us (J.Zab (↑bx.den:Int))),vb (J.Zaa ay.num),AV.vec f5 1 (us (J.Zab ay.num)),vb (J.Zaa (↑ay.den:Int)),AV.vec f6 1 (us (J.Zab (↑ay.den:Int))),vb (J.Zaa by_.num),AV.vec f7 1 (us (J.Zab by_.num)),vb (J.Zaa (↑by_.den:Int)),AV.vec f8 1 (us (J.Zab (↑by_.den:Int))),vb (J.Zaa c.num),AV.vec f9 1 (us (J.Zab c.num)),vb (J.Zaa (↑c.den:Int)),AV.vec f10 1 (us (J.Zab (↑c.den:Int)))]],20,0,false,false⟩,⟨[ag [vb (J.Zaa ux.num),AV.vec g1 1 (us (J.Zab ux.num)),vb (J.Zaa (↑ux.den:Int)),AV.vec g2 1 (us (J.Zab (↑ux.den:Int))),vb (J.Zaa vx.num),AV.vec g3 1 (us (J.Zab vx.num)),vb (J.Zaa (↑vx.den:Int)),AV.vec g4 1 (us (J.Zab (↑vx.den:Int))),vb (J.Zaa uy.num),AV.vec g5 1 (us (J.Zab uy.num)),vb (J.Zaa (↑uy.den:Int)),AV.vec g6 1 (us (J.Zab (↑uy.den:Int))),vb (J.Zaa vy.num),AV.vec g7 1 (us (J.Zab vy.num)),vb (J.Zaa (↑vy.den:Int)),AV.vec g8 1 (us (J.Zab (↑vy.den:Int))),vb (J.Zaa d.num),AV.vec g9 1 (us (J.Zab d.num)),vb (J.Zaa (↑d.den:Int)),AV.vec g10 1 (us (J.Zab (↑d.den:Int)))]],20,0,false,false⟩],_,[],_⟩ (by kernel_rfl) (bc rfl (bc rfl b0)) q0 (ce (@ev108 f1 f2 f3 f4 f5 f6 f7 f8 f9 f10 ax bx ay by_ c) (ce (@ev108 g1 g2 g3 g4 g5 g6 g7 g8 g9 g10 ux vx uy vy d) (ce (@ev107 false false false false false false false false false false false false ax bx (J.rad bx c) ux vx (J.rad vx d) k1) c0))) ?_
 rcases xq H with ⟨d3,H⟩|⟨d3,H⟩
 ·exact Zaq (G:=Zac kp70 [] []) 1000 [true] (vi (J.Zh1 ax bx (J.rad bx c) ux vx (J.rad vx d))) (by kernel_rfl) (bc (Zap (i_ne.2 d3)) b0) q0 c0 H
 ·obtain ⟨k4,H⟩:=H
  exact Zaq (G:=Zac kp70 [(4,1,.call (ZaH ay by_ (J.rad by_ c)) none),(4,3,.call (ZaH uy vy (J.rad vy d)) none),(4,4,.call (vi (J.Zh1 ay by_ (J.rad by_ c) uy vy (J.rad vy d))) none)] []) 1000 [false] (vi (J.Zh1 ay by_ (J.rad by_ c) uy vy (J.rad vy d))) (by kernel_rfl) (bc (Zam (fun h=>d3 (i_ne.1 h))) (bc rfl (bc rfl b0))) q0 (ce (@ev109 f1 f2 f3 f4 f5 f6 f7 f8 f9 f10 ax bx ay by_ c) (ce (@ev109 g1 g2 g3 g4 g5 g6 g7 g8 g9 g10 ux vx uy vy d) (ce (@ev107 false false false false false false false false false false false false ay by_ (J.rad by_ c) uy vy (J.rad vy d) k4) c0))) H
end Go.Av

namespace Go.Av
open Go.Proofs
theorem sgl {r:Rat}:J.sgnI r.num<0 ↔ r<0:=by
 have:=sg3 r.num
 have:=(@Zda r).2.2
 unfold J.sgR at this
 rw [<- this];omega
theorem ZgD {k:Nat} {r:Rat} (h:J.okT k r) (hk:k<=90000):J.okB r.num:=by
 have:=h.1
 unfold J.okB;omega
theorem Zf2 {k:Nat} {b c:Rat} (h:J.okT k c) (hk:1<=k):J.okT k (J.rad b c):=by
 unfold J.rad
 split
 ·exact Zas Zcr hk
 ·exact h
theorem ZcL (l:List Pnt):Weak (.vec true 20 (l.map Pnt.a)) (.vec false 20 (l.map Pnt.a)):=.full _ _
theorem lineC_0 {a b c x y q:Rat} (k:J.dep a b c x y q<0):J.ZbN a b c x y q=[]:=by
 unfold J.ZbN;rw [ZbG k,if_pos (by decide)]
theorem lineC_1 {a b c x y q:Rat} (k:J.dep a b c x y q=0):J.ZbN a b c x y q=[J.atP (J.fX a b c x y) (J.fY a b c x y)]:=by
 unfold J.ZbN;rw [k,ZaY,if_neg (by decide),if_pos rfl]
theorem ZgO {a b c x y q:Rat} (k:0<J.dep a b c x y q):J.ZbN a b c x y q=[J.Zd7 (J.fX a b c x y) (-J.dU a b) (J.fY a b c x y) (-J.dV a b) (J.dep a b c x y q),J.Zd7 (J.fX a b c x y) (J.dU a b) (J.fY a b c x y) (J.dV a b) (J.dep a b c x y q)]:=by
 unfold J.ZbN;rw [Zbe k,if_neg (by decide),if_neg (by decide)]
theorem ev17 (f1 f2 f3 f4 f5 f6 g1 g2 g3 g4 g5 g6:Bool) (a b c x y q:Rat) (h:J.Zfc a b c/\J.ZdT x y/\J.okT 30 q):Ev M1 (.pure 17 [Zar f1 f2 f3 f4 f5 f6 a b c,Zar g1 g2 g3 g4 g5 g6 x y q]) (.vec false 20 ((J.ZbN a b c x y q).map Pnt.a)) []:=by
 obtain ⟨hl,hv,hq⟩:=h
 have hf:=okT_f hl hv
 have hd:=okT_dep hl hv hq
 obtain ⟨⟨ha,hb,hc⟩,h0⟩:=hl
 have na:=Zbs ha
 have nb:=Zbs hb
 have nna:=Zbs na
 refine call17 (mLC _ _ _ _ _ _ _ _ _ _ _ _ _ _ _ _ _ _ _ ⟨⟨⟨⟨ha,hb,hc⟩,h0⟩,hv,hq⟩,fun k => ?_,fun k=>⟨fun j => ?_,fun j=>⟨ZgD ha (by omega),fun i => ?_,fun i => ?_⟩⟩⟩)
 ·rw [lineC_0 (Zda.2.2.1 k)]
  exact .vnil 20
 ·rw [lineC_1 (sgz.1 j)]
  exact ZcL [J.atP (J.fX a b c x y) (J.fY a b c x y)]
 ·have p:0<J.dep a b c x y q:=by
   rcases tri (J.dep a b c x y q) with t | t | t
   ·exact absurd (ZbG t) k
   ·exact absurd (sgz.2 t) j
   ·exact t
  rw [sgl,sgz,sgl] at i
  have e:J.dn a b=true:=decide_eq_true i
  rw [ZgO p]
  unfold J.dU J.dV
  rw [e,cond_true,cond_true]
  exact ⟨ZgD hb (by omega),ZgD na (by omega),ZgD nb (by omega),ZgD nna (by omega),⟨⟨hf.1,Zbs nb⟩,⟨hf.2,Zbs nna⟩,hd,p⟩,⟨⟨hf.1,nb⟩,⟨hf.2,nna⟩,hd,p⟩,ZcL [J.Zd7 (J.fX a b c x y) (- -b) (J.fY a b c x y) (- - -a) (J.dep a b c x y q),J.Zd7 (J.fX a b c x y) (-b) (J.fY a b c x y) (- -a) (J.dep a b c x y q)]⟩
 ·have p:0<J.dep a b c x y q:=by
   rcases tri (J.dep a b c x y q) with t | t | t
   ·exact absurd (ZbG t) k
   ·exact absurd (sgz.2 t) j
   ·exact t
  rw [sgl,sgz,sgl] at i
  have e:J.dn a b=false:=decide_eq_false i
  rw [ZgO p]
  unfold J.dU J.dV
  rw [e,cond_false,cond_false]
  exact ⟨ZgD hb (by omega),ZgD na (by omega),⟨⟨hf.1,nb⟩,⟨hf.2,nna⟩,hd,p⟩,⟨⟨hf.1,hb⟩,⟨hf.2,na⟩,hd,p⟩,ZcL [J.Zd7 (J.fX a b c x y) (-b) (J.fY a b c x y) (- -a) (J.dep a b c x y q),J.Zd7 (J.fX a b c x y) b (J.fY a b c x y) (-a) (J.dep a b c x y q)]⟩
theorem ev70 (f1 f2 f3 f4 f5 f6 f7 f8 f9 f10 g1 g2 g3 g4 g5 g6 g7 g8 g9 g10:Bool) (ax bx ay by_ c ux vx uy vy d:Rat) (h:J.ZfQ ⟨ax,bx,ay,by_,c⟩/\J.ZfQ ⟨ux,vx,uy,vy,d⟩):Ev M1 (.pure 70 [pntA f1 f2 f3 f4 f5 f6 f7 f8 f9 f10 ax bx ay by_ c,pntA g1 g2 g3 g4 g5 g6 g7 g8 g9 g10 ux vx uy vy d]) (.int .i64 (J.Ze9 ⟨ax,bx,ay,by_,c⟩ ⟨ux,vx,uy,vy,d⟩)) []:=by
 obtain ⟨h,k⟩:=h
 unfold J.ZfQ at h k
 refine call70 (rComp7 _ _ _ _ _ _ _ _ _ _ _ _ _ _ _ _ _ _ _ _ _ _ _ _ _ _ _ _ _ _ _ ⟨⟨⟨h.1.1,h.1.2,Zf2 h.2.2 (by omega)⟩,k.1.1,k.1.2,Zf2 k.2.2 (by omega)⟩,fun j => ?_,fun j=>⟨⟨⟨h.2.1.1,h.2.1.2,Zf2 h.2.2 (by omega)⟩,k.2.1.1,k.2.1.2,Zf2 k.2.2 (by omega)⟩,?_⟩⟩)
 ·unfold J.Ze9
  simp only [if_neg j]
 ·unfold J.Ze9
  simp only [if_pos (Classical.not_not.1 j)]
end Go.Av

namespace Go.Av
open Go.Proofs
set_option maxRecDepth 100000
def fi18:Fi:=⟨84,[.tmp 4]⟩
def kp18:List (Nat × List Nat):=[(0,[2,3]),(1,[2,3,5,6]),(2,[2,3,5,6,21]),(3,[4]),(4,[2,3,5,6,7]),(5,[2,5,6,8,9]),(6,[2,5,6,8,9,46]),(7,[4]),(8,[5,8,9,10,11]),(9,[12,13]),(10,[12,13,78]),(11,[12,13]),(12,[4])]
def fi22:Fi:=⟨23,[.tmp 4,.tmp 5]⟩
def kp22:List (Nat × List Nat):=[(0,[2,3]),(1,[2,3,10]),(2,[4,5]),(3,[2,3,13]),(4,[4,5]),(5,[2,6]),(6,[4,5])]
def fi37:Fi:=⟨9,[.tmp 4]⟩
def kp37:List (Nat × List Nat):=[(0,[2,3]),(1,[4])]
def fi63:Fi:=⟨16,[.tmp 2]⟩
def kp63:List (Nat × List Nat):=[(0,[0]),(1,[0,3]),(2,[0,3,7]),(3,[0,3]),(4,[0,3,15]),(5,[2]),(6,[2])]
def ZgG (f1 f2 f3 f4 f5 f6 g1 g2 g3 g4 g5 g6:Bool) (a b c x y z:Rat) (Q:AV->Heap->Prop):Prop:=Wp M1 (.run fi22 (atC (cd Tryz.f22) []) [(0,Zar f1 f2 f3 f4 f5 f6 a b c),(1,Zar g1 g2 g3 g4 g5 g6 x y z)] []) Q
def rLC9_at (f1 f2 f3 f4 f5 f6 g1 g2 g3 g4 g5 g6:Bool) (a b c x y q:Rat) (Q:AV->Heap->Prop):Prop:=Wp M1 (.run fi18 (atC (cd Tryz.f18) []) [(0,Zar f1 f2 f3 f4 f5 f6 a b c),(1,Zar g1 g2 g3 g4 g5 g6 x y q)] []) Q
def rEq7_at (f1 f2 f3 f4 f5 f6 f7 f8 f9 f10 g1 g2 g3 g4 g5 g6 g7 g8 g9 g10:Bool) (ax bx ay by_ c ux vx uy vy d:Rat) (Q:AV->Heap->Prop):Prop:=Wp M1 (.run fi37 (atC (cd Tryz.f37) []) [(0,.agg [.bool (J.Zaa ax.num),.vec f1 1 ((J.Zab ax.num).map (.int .u32)),.bool (J.Zaa (ax.den:Int)),.vec f2 1 ((J.Zab (ax.den:Int)).map (.int .u32)),.bool (J.Zaa bx.num),.vec f3 1 ((J.Zab bx.num).map (.int .u32)),.bool (J.Zaa (bx.den:Int)),.vec f4 1 ((J.Zab (bx.den:Int)).map (.int .u32)),.bool (J.Zaa ay.num),.vec f5 1 ((J.Zab ay.num).map (.int .u32)),.bool (J.Zaa (ay.den:Int)),.vec f6 1 ((J.Zab (ay.den:Int)).map (.int .u32)),.bool (J.Zaa by_.num),.vec f7 1 ((J.Zab by_.num).map (.int .u32)),.bool (J.Zaa (by_.den:Int)),.vec f8 1 ((J.Zab (by_.den:Int)).map (.int .u32)),.bool (J.Zaa c.num),.vec f9 1 ((J.Zab c.num).map (.int .u32)),.bool (J.Zaa (c.den:Int)),.vec f10 1 ((J.Zab (c.den:Int)).map (.int .u32))]),(1,.agg [.bool (J.Zaa ux.num),.vec g1 1 ((J.Zab ux.num).map (.int .u32)),.bool (J.Zaa (ux.den:Int)),.vec g2 1 ((J.Zab (ux.den:Int)).map (.int .u32)),.bool (J.Zaa vx.num),.vec g3 1 ((J.Zab vx.num).map (.int .u32)),.bool (J.Zaa (vx.den:Int)),.vec g4 1 ((J.Zab (vx.den:Int)).map (.int .u32)),.bool (J.Zaa uy.num),.vec g5 1 ((J.Zab uy.num).map (.int .u32)),.bool (J.Zaa (uy.den:Int)),.vec g6 1 ((J.Zab (uy.den:Int)).map (.int .u32)),.bool (J.Zaa vy.num),.vec g7 1 ((J.Zab vy.num).map (.int .u32)),.bool (J.Zaa (vy.den:Int)),.vec g8 1 ((J.Zab (vy.den:Int)).map (.int .u32)),.bool (J.Zaa d.num),.vec g9 1 ((J.Zab d.num).map (.int .u32)),.bool (J.Zaa (d.den:Int)),.vec g10 1 ((J.Zab (d.den:Int)).map (.int .u32))])] []) Q
def rGood_at (u:Bool) (l:List Pnt) (Q:AV->Heap->Prop):Prop:=Wp M1 (.run fi63 (atC (cd Tryz.f63) []) [(0,.vec u 20 (l.map Pnt.a))] []) Q
def ZdR (u:Bool) (l:List Pnt) (i:Int) (Q:AV->Heap->Prop):Prop:=Wp M1 (.run fi63 (atC (cd Tryz.f63) [1,0,1,0,0]) [(0,.vec u 20 (l.map Pnt.a)),(3,.int .i64 i)] []) Q
theorem call18 {args:List AV} {d:AV} (h:wc M1 fi18 Tryz.f18 args d):Ev M1 (.pure 18 args) d []:=pcl _ _ (by kernel_rfl) h
theorem call22 {args:List AV} {d:AV} (h:wc M1 fi22 Tryz.f22 args d):Ev M1 (.pure 22 args) d []:=pcl _ _ (by kernel_rfl) h
theorem call37 {args:List AV} {d:AV} (h:wc M1 fi37 Tryz.f37 args d):Ev M1 (.pure 37 args) d []:=pcl _ _ (by kernel_rfl) h
theorem call63 {args:List AV} {d:AV} (h:wc M1 fi63 Tryz.f63 args d):Ev M1 (.pure 63 args) d []:=pcl _ _ (by kernel_rfl) h
theorem mCircles (f1 f2 f3 f4 f5 f6 g1 g2 g3 g4 g5 g6:Bool) (a b c x y z:Rat)  (dq:AV) (H :
  (J.ZcW a b c/\J.ZcW x y z) /\
  ((a=x/\b=y/\c=z)->Weak (tu [AV.vnil,vi 10]) dq) /\
  (¬(a=x/\b=y/\c=z)->((a=x/\b=y)->Weak (tu [AV.vnil,vi 0]) dq) /\
   (¬(a=x/\b=y)->(J.Zfc (J.qi 2*(x-a)) (J.qi 2*(y-b)) (x*x+y*y-z-(a*a+b*b-c))/\J.ZdT a b/\J.okT 30 c) /\
    Weak (tu [AV.vec false 20 (List.map Pnt.a (J.ZbN (J.qi 2*(x-a)) (J.qi 2*(y-b)) (x*x+y*y-z-(a*a+b*b-c)) a b c)),vi 0]) dq))) :
 ZgG f1 f2 f3 f4 f5 f6 g1 g2 g3 g4 g5 g6 a b c x y z (Zag dq):=by
 unfold ZgG
 obtain ⟨k1,H⟩:=H
 refine Zae (G:=Zac kp22 [(1,2,.call (vb (decide (a=x/\b=y/\c=z))) none)] []) 5 [] ⟨(atC (cd Tryz.f22) [1,0,1]),[(2,AV.ptr 0 0 0 0),(3,AV.ptr 1 0 0 0),(10,vb (decide (a=x/\b=y/\c=z)))],[⟨[Zar f1 f2 f3 f4 f5 f6 a b c],12,0,false,false⟩,⟨[Zar g1 g2 g3 g4 g5 g6 x y z],12,0,false,false⟩],_,[],_⟩ (by kernel_rfl) (bc rfl (bc rfl b0)) q0 (ce (@ev72 f1 f2 f3 f4 f5 f6 g1 g2 g3 g4 g5 g6 a b c x y z k1) c0) ?_
 rcases xq H with ⟨d3,H⟩|⟨d3,H⟩
 ·exact Zah (G:=Zac kp22 [] []) 1000 [true] (tu [AV.vnil,vi 10]) (by kernel_rfl) (bc (Zap (Zad.2 d3)) b0) q0 c0 H
 ·refine Zae (G:=Zac kp22 [(3,2,.call (vb (decide (a=x/\b=y))) none)] []) 5 [false] ⟨(atC (cd Tryz.f22) [1,1,0,1]),[(2,AV.ptr 0 0 0 0),(3,AV.ptr 1 0 0 0),(13,vb (decide (a=x/\b=y)))],[⟨[Zar f1 f2 f3 f4 f5 f6 a b c],12,0,false,false⟩,⟨[Zar g1 g2 g3 g4 g5 g6 x y z],12,0,false,false⟩],_,[],_⟩ (by kernel_rfl) (bc (Zam (fun h=>d3 (Zad.1 h))) (bc rfl (bc rfl b0))) q0 (ce (@ev73 f1 f2 f3 f4 f5 f6 g1 g2 g3 g4 g5 g6 a b c x y z k1) c0) ?_
  rcases xq H with ⟨d5,H⟩|⟨d5,H⟩
  ·exact Zah (G:=Zac kp22 [] []) 1000 [true] (tu [AV.vnil,vi 0]) (by kernel_rfl) (bc (Zap (Zad.2 d5)) b0) q0 c0 H
  ·obtain ⟨k6,H⟩:=H
   exact Zah (G:=Zac kp22 [(5,2,.call (tu [ZaH (J.qi 2*(x-a)) (J.qi 2*(y-b)) (x*x+y*y-z-(a*a+b*b-c)),vi 0]) none),(6,2,.call (AV.vec false 20 (List.map Pnt.a (J.ZbN (J.qi 2*(x-a)) (J.qi 2*(y-b)) (x*x+y*y-z-(a*a+b*b-c)) a b c))) none)] []) 1000 [false] (tu [AV.vec false 20 (List.map Pnt.a (J.ZbN (J.qi 2*(x-a)) (J.qi 2*(y-b)) (x*x+y*y-z-(a*a+b*b-c)) a b c)),vi 0]) (by kernel_rfl) (bc (Zam (fun h=>d5 (Zad.1 h))) (bc rfl (bc rfl (bc rfl (bc rfl (bc rfl b0)))))) q0 (ce (@ev25_n f1 f2 f3 f4 f5 f6 g1 g2 g3 g4 g5 g6 a b c x y z k1 d5) (ce (@ev17 false false false false false false f1 f2 f3 f4 f5 f6 (J.qi 2*(x-a)) (J.qi 2*(y-b)) (x*x+y*y-z-(a*a+b*b-c)) a b c k6) c0)) H
noncomputable abbrev zNmF3 (x:Rat) (a:Rat) (b:Rat) (c:Rat) (y:Rat) (q:Rat):=J.red (x-J.ZaW a b c x y / J.ZaC a b*a) (-(b / J.ZaC a b)) (y-J.ZaW a b c x y / J.ZaC a b*b) (-(-a / J.ZaC a b)) (J.Zb6 a b c x y q)
noncomputable abbrev zNmF1 (x:Rat) (a:Rat) (b:Rat) (c:Rat) (y:Rat) (q:Rat):=(Pnt.a (zNmF3 x a b c y q))
noncomputable abbrev zNmF4 (x:Rat) (a:Rat) (b:Rat) (c:Rat) (y:Rat) (q:Rat):=J.red (x-J.ZaW a b c x y / J.ZaC a b*a) (b / J.ZaC a b) (y-J.ZaW a b c x y / J.ZaC a b*b) (-a / J.ZaC a b) (J.Zb6 a b c x y q)
noncomputable abbrev zNmF2 (x:Rat) (a:Rat) (b:Rat) (c:Rat) (y:Rat) (q:Rat):=(Pnt.a (zNmF4 x a b c y q))
noncomputable abbrev zNmF5 (x:Rat) (a:Rat) (b:Rat) (c:Rat) (y:Rat):=(pntF (x-J.ZaW a b c x y / J.ZaC a b*a) (J.qi 0) (y-J.ZaW a b c x y / J.ZaC a b*b) (J.qi 0) (J.qi 0))
theorem rLC9 (f1 f2 f3 f4 f5 f6 g1 g2 g3 g4 g5 g6:Bool) (a b c x y q:Rat)  (dq:AV) (H :
  (J.ZcW a b c/\J.ZdT x y/\J.okT 30 q) /\
  (J.ZdT a b) /\
  ((J.sgnI (J.Zb6 a b c x y q).num<0)->Weak (AV.vnil) dq) /\
  (¬(J.sgnI (J.Zb6 a b c x y q).num<0)->(J.ZcW a b c/\J.ZdT x y) /\
   (J.okR (J.ZaW a b c x y)/\J.okR (J.ZaC a b)/\(J.ZaC a b).num ≠ 0) /\
   (J.okR (J.ZaW a b c x y / J.ZaC a b)/\J.okR a) /\
   (J.okR x/\J.okR (J.ZaW a b c x y / J.ZaC a b*a)) /\
   (J.okR (J.ZaW a b c x y / J.ZaC a b)/\J.okR b) /\
   (J.okR y/\J.okR (J.ZaW a b c x y / J.ZaC a b*b)) /\
   ((J.sgnI (J.Zb6 a b c x y q).num=0)->Weak (AV.vec true 20 [(pntF (x-J.ZaW a b c x y / J.ZaC a b*a) (J.qi 0) (y-J.ZaW a b c x y / J.ZaC a b*b) (J.qi 0) (J.qi 0))]) dq) /\
   (¬(J.sgnI (J.Zb6 a b c x y q).num=0)->(J.okR b/\J.okR (J.ZaC a b)/\(J.ZaC a b).num ≠ 0) /\
    (J.ok a.num) /\
    (J.okR (-a)/\J.okR (J.ZaC a b)/\(J.ZaC a b).num ≠ 0) /\
    (J.ok (b / J.ZaC a b).num) /\
    (J.ok (-a / J.ZaC a b).num) /\
    (J.ZfQ { ax:=x-J.ZaW a b c x y / J.ZaC a b*a,bx:=-(b / J.ZaC a b),ay:=y-J.ZaW a b c x y / J.ZaC a b*b,by_:=-(-a / J.ZaC a b),c:=J.Zb6 a b c x y q }) /\
    (J.ZfQ { ax:=x-J.ZaW a b c x y / J.ZaC a b*a,bx:=b / J.ZaC a b,ay:=y-J.ZaW a b c x y / J.ZaC a b*b,by_:=-a / J.ZaC a b,c:=J.Zb6 a b c x y q }) /\
    (J.ZfQ (J.red (x-J.ZaW a b c x y / J.ZaC a b*a) (-(b / J.ZaC a b)) (y-J.ZaW a b c x y / J.ZaC a b*b) (-(-a / J.ZaC a b)) (J.Zb6 a b c x y q))/\J.ZfQ (J.red (x-J.ZaW a b c x y / J.ZaC a b*a) (b / J.ZaC a b) (y-J.ZaW a b c x y / J.ZaC a b*b) (-a / J.ZaC a b) (J.Zb6 a b c x y q))) /\
    ((J.Ze9 (J.red (x-J.ZaW a b c x y / J.ZaC a b*a) (-(b / J.ZaC a b)) (y-J.ZaW a b c x y / J.ZaC a b*b) (-(-a / J.ZaC a b)) (J.Zb6 a b c x y q)) (J.red (x-J.ZaW a b c x y / J.ZaC a b*a) (b / J.ZaC a b) (y-J.ZaW a b c x y / J.ZaC a b*b) (-a / J.ZaC a b) (J.Zb6 a b c x y q))>0)->Weak (AV.vec true 20 [(Pnt.a (J.red (x-J.ZaW a b c x y / J.ZaC a b*a) (b / J.ZaC a b) (y-J.ZaW a b c x y / J.ZaC a b*b) (-a / J.ZaC a b) (J.Zb6 a b c x y q))),(Pnt.a (J.red (x-J.ZaW a b c x y / J.ZaC a b*a) (-(b / J.ZaC a b)) (y-J.ZaW a b c x y / J.ZaC a b*b) (-(-a / J.ZaC a b)) (J.Zb6 a b c x y q)))]) dq) /\
    (¬(J.Ze9 (J.red (x-J.ZaW a b c x y / J.ZaC a b*a) (-(b / J.ZaC a b)) (y-J.ZaW a b c x y / J.ZaC a b*b) (-(-a / J.ZaC a b)) (J.Zb6 a b c x y q)) (J.red (x-J.ZaW a b c x y / J.ZaC a b*a) (b / J.ZaC a b) (y-J.ZaW a b c x y / J.ZaC a b*b) (-a / J.ZaC a b) (J.Zb6 a b c x y q))>0)->Weak (AV.vec true 20 [(Pnt.a (J.red (x-J.ZaW a b c x y / J.ZaC a b*a) (-(b / J.ZaC a b)) (y-J.ZaW a b c x y / J.ZaC a b*b) (-(-a / J.ZaC a b)) (J.Zb6 a b c x y q))),(Pnt.a (J.red (x-J.ZaW a b c x y / J.ZaC a b*a) (b / J.ZaC a b) (y-J.ZaW a b c x y / J.ZaC a b*b) (-a / J.ZaC a b) (J.Zb6 a b c x y q)))]) dq)))) :
 rLC9_at f1 f2 f3 f4 f5 f6 g1 g2 g3 g4 g5 g6 a b c x y q (Zag dq):=by
 unfold rLC9_at
 obtain ⟨k1,k2,H⟩:=H
 refine Zae (G:=Zac kp18 [(1,2,.call (ratF (J.Zb6 a b c x y q)) none),(1,4,.call (ratF (J.ZaC a b)) none)] []) 3 [] ⟨(atC (cd Tryz.f18) [1,0]),[(2,AV.ptr 0 0 0 0),(3,AV.ptr 1 0 0 0)],[⟨[Zar f1 f2 f3 f4 f5 f6 a b c],12,0,false,false⟩,⟨[Zar g1 g2 g3 g4 g5 g6 x y q],12,0,false,false⟩],_,[],_⟩ (by kernel_rfl) b0 q0 c0 (Zb8 (G:=Zac kp18 [(1,2,.call (ratF (J.Zb6 a b c x y q)) none),(1,4,.call (ratF (J.ZaC a b)) none)] []) [0,1,3,2] 5 (e1:=[(2,AV.ptr 0 0 0 0),(3,AV.ptr 1 0 0 0),(5,AV.ptr 2 0 0 0),(6,AV.ptr 3 0 0 0)]) (L1:=[⟨[Zar f1 f2 f3 f4 f5 f6 a b c],12,0,false,false⟩,⟨[Zar g1 g2 g3 g4 g5 g6 x y q],12,0,false,false⟩,⟨[ratF (J.Zb6 a b c x y q)],4,0,false,false⟩,⟨[ratF (J.ZaC a b)],4,0,false,false⟩]) (a:=[true,true,true,true,true]) (q:=[]) (cs:=[⟨true,false,21,[Zar f1 f2 f3 f4 f5 f6 a b c,Zar g1 g2 g3 g4 g5 g6 x y q],[],ratF (J.Zb6 a b c x y q),[]⟩,⟨true,false,67,[Zar f1 f2 f3 f4 f5 f6 a b c],[],ratF (J.ZaC a b),[]⟩]) (by kernel_rfl) (by kernel_rfl) (Zai rfl (Zai rfl (Zai rfl (Zai rfl (Zai rfl ZaL))))) Za1 (ZaB (fun _=>(@ev21 f1 f2 f3 f4 f5 f6 g1 g2 g3 g4 g5 g6 a b c x y q k1)) (ZaB (fun _=>(@ev67 f1 f2 f3 f4 f5 f6 a b c k2)) Za2)) ?_)
 refine Zae (G:=Zac kp18 [(2,1,.call (vi (J.sgnI (J.Zb6 a b c x y q).num)) none)] []) 3 [] ⟨(atC (cd Tryz.f18) [1,1,0,1]),[(2,AV.ptr 0 0 0 0),(3,AV.ptr 1 0 0 0),(5,AV.ptr 2 0 0 0),(6,AV.ptr 3 0 0 0),(21,vb (decide (J.sgnI (J.Zb6 a b c x y q).num<0)))],[⟨[Zar f1 f2 f3 f4 f5 f6 a b c],12,0,false,false⟩,⟨[Zar g1 g2 g3 g4 g5 g6 x y q],12,0,false,false⟩,⟨[ratF (J.Zb6 a b c x y q)],4,0,false,false⟩,⟨[ratF (J.ZaC a b)],4,0,false,false⟩],_,[],_⟩ (by kernel_rfl) (bc rfl b0) q0 (ce (@ev20 false false ((J.Zb6 a b c x y q).num) ((↑(J.Zb6 a b c x y q).den:Int))) c0) ?_
 rcases xq H with ⟨d4,H⟩|⟨d4,H⟩
 ·exact Zah (G:=Zac kp18 [] []) 1000 [true] (AV.vnil) (by kernel_rfl) (bc (Zap (Zad.2 d4)) b0) q0 c0 H
 ·obtain ⟨k5,k6,k7,k8,k9,k10,H⟩:=H
  refine Zae (G:=Zac kp18 [(4,5,.call (ratF (J.ZaW a b c x y)) none),(4,7,.call (ratF (J.ZaW a b c x y / J.ZaC a b)) none),(5,5,.call (ratF (J.ZaW a b c x y / J.ZaC a b*a)) none),(5,6,.call (ratF (x-J.ZaW a b c x y / J.ZaC a b*a)) none),(5,12,.call (ratF (J.ZaW a b c x y / J.ZaC a b*b)) none),(5,13,.call (ratF (y-J.ZaW a b c x y / J.ZaC a b*b)) none)] []) 5 [false] ⟨(atC (cd Tryz.f18) [1,1,1,1,0]),[(2,AV.ptr 0 0 0 0),(3,AV.ptr 1 0 0 0),(5,AV.ptr 2 0 0 0),(6,AV.ptr 3 0 0 0),(7,AV.ptr 4 0 0 0)],[⟨[Zar f1 f2 f3 f4 f5 f6 a b c],12,0,false,false⟩,⟨[Zar g1 g2 g3 g4 g5 g6 x y q],12,0,false,false⟩,⟨[ratF (J.Zb6 a b c x y q)],4,0,false,false⟩,⟨[ratF (J.ZaC a b)],4,0,false,false⟩,⟨[ratF (J.ZaW a b c x y / J.ZaC a b)],4,0,false,false⟩],_,[],_⟩ (by kernel_rfl) (bc (Zam (fun h=>d4 (Zad.1 h))) (bc rfl (bc rfl (bc rfl (bc rfl (bc rfl b0)))))) q0 (ce (@ev30 f1 f2 f3 f4 f5 f6 g1 g2 g3 g4 a b c x y k5) (ce (@ev62 false false false false (J.ZaW a b c x y) (J.ZaC a b) k6) c0)) (Zb8 (G:=Zac kp18 [(4,5,.call (ratF (J.ZaW a b c x y)) none),(4,7,.call (ratF (J.ZaW a b c x y / J.ZaC a b)) none),(5,5,.call (ratF (J.ZaW a b c x y / J.ZaC a b*a)) none),(5,6,.call (ratF (x-J.ZaW a b c x y / J.ZaC a b*a)) none),(5,12,.call (ratF (J.ZaW a b c x y / J.ZaC a b*b)) none),(5,13,.call (ratF (y-J.ZaW a b c x y / J.ZaC a b*b)) none)] []) [0,1,2,3,4,6,5] 14 (e1:=[(2,AV.ptr 0 0 0 0),(5,AV.ptr 2 0 0 0),(6,AV.ptr 3 0 0 0),(8,AV.ptr 5 0 0 0),(9,AV.ptr 6 0 0 0)]) (L1:=[⟨[Zar f1 f2 f3 f4 f5 f6 a b c],12,0,false,false⟩,⟨[Zar g1 g2 g3 g4 g5 g6 x y q],12,0,false,false⟩,⟨[ratF (J.Zb6 a b c x y q)],4,0,false,false⟩,⟨[ratF (J.ZaC a b)],4,0,false,false⟩,⟨[ratF (J.ZaW a b c x y / J.ZaC a b)],4,0,false,false⟩,⟨[ratF (x-J.ZaW a b c x y / J.ZaC a b*a)],4,0,false,false⟩,⟨[ratF (y-J.ZaW a b c x y / J.ZaC a b*b)],4,0,false,false⟩]) (a:=[true,true,true,true,true,true,true,true]) (q:=[]) (cs:=[⟨true,false,60,[ratF (J.ZaW a b c x y / J.ZaC a b),ratA f1 f2 a],[],ratF (J.ZaW a b c x y / J.ZaC a b*a),[]⟩,⟨true,false,59,[ratA g1 g2 x,ratF (J.ZaW a b c x y / J.ZaC a b*a)],[],ratF (x-J.ZaW a b c x y / J.ZaC a b*a),[]⟩,⟨true,false,60,[ratF (J.ZaW a b c x y / J.ZaC a b),ratA f3 f4 b],[],ratF (J.ZaW a b c x y / J.ZaC a b*b),[]⟩,⟨true,false,59,[ratA g3 g4 y,ratF (J.ZaW a b c x y / J.ZaC a b*b)],[],ratF (y-J.ZaW a b c x y / J.ZaC a b*b),[]⟩]) (by kernel_rfl) (by kernel_rfl) (Zai rfl (Zai rfl (Zai rfl (Zai rfl (Zai rfl (Zai rfl (Zai rfl (Zai rfl ZaL)))))))) Za1 (ZaB (fun _=>(@ev60 false false f1 f2 (J.ZaW a b c x y / J.ZaC a b) a k7)) (ZaB (fun _=>(@ev59 g1 g2 false false x (J.ZaW a b c x y / J.ZaC a b*a) k8)) (ZaB (fun _=>(@ev60 false false f3 f4 (J.ZaW a b c x y / J.ZaC a b) b k9)) (ZaB (fun _=>(@ev59 g3 g4 false false y (J.ZaW a b c x y / J.ZaC a b*b) k10)) Za2)))) ?_)
  refine Zae (G:=Zac kp18 [(6,1,.call (vi (J.sgnI (J.Zb6 a b c x y q).num)) none)] []) 3 [] ⟨(atC (cd Tryz.f18) [1,1,1,1,1,0,1]),[(2,AV.ptr 0 0 0 0),(5,AV.ptr 2 0 0 0),(6,AV.ptr 3 0 0 0),(8,AV.ptr 5 0 0 0),(9,AV.ptr 6 0 0 0),(46,vb (J.sgnI (J.Zb6 a b c x y q).num==0))],[⟨[Zar f1 f2 f3 f4 f5 f6 a b c],12,0,false,false⟩,⟨[Zar g1 g2 g3 g4 g5 g6 x y q],12,0,false,false⟩,⟨[ratF (J.Zb6 a b c x y q)],4,0,false,false⟩,⟨[ratF (J.ZaC a b)],4,0,false,false⟩,⟨[ratF (J.ZaW a b c x y / J.ZaC a b)],4,0,false,false⟩,⟨[ratF (x-J.ZaW a b c x y / J.ZaC a b*a)],4,0,false,false⟩,⟨[ratF (y-J.ZaW a b c x y / J.ZaC a b*b)],4,0,false,false⟩],_,[],_⟩ (by kernel_rfl) (bc rfl b0) q0 (ce (@ev20 false false ((J.Zb6 a b c x y q).num) ((↑(J.Zb6 a b c x y q).den:Int))) c0) ?_
  rcases xq H with ⟨d12,H⟩|⟨d12,H⟩
  ·exact Zah (G:=Zac kp18 [(7,3,.call ((zNmF5 x a b c y)) none)] []) 1000 [true] (AV.vec true 20 [(zNmF5 x a b c y)]) (by kernel_rfl) (bc (Zap (i_eq.2 d12)) (bc rfl (bc rfl b0))) q0 (ce (@ev61 false false false false (x-J.ZaW a b c x y / J.ZaC a b*a) (y-J.ZaW a b c x y / J.ZaC a b*b)) c0) H
  ·obtain ⟨k13,k14,k15,H⟩:=H
   refine Zae (G:=Zac kp18 [(8,3,.call (ratF (b / J.ZaC a b)) none),(8,6,.call (ratF (-a)) none),(8,8,.call (ratF (-a / J.ZaC a b)) none)] []) 3 [false] ⟨(atC (cd Tryz.f18) [1,1,1,1,1,1,0]),[(2,AV.ptr 0 0 0 0),(5,AV.ptr 2 0 0 0),(6,AV.ptr 3 0 0 0),(8,AV.ptr 5 0 0 0),(9,AV.ptr 6 0 0 0),(46,vb (J.sgnI (J.Zb6 a b c x y q).num==0))],[⟨[Zar f1 f2 f3 f4 f5 f6 a b c],12,0,false,false⟩,⟨[Zar g1 g2 g3 g4 g5 g6 x y q],12,0,false,false⟩,⟨[ratF (J.Zb6 a b c x y q)],4,0,false,false⟩,⟨[ratF (J.ZaC a b)],4,0,false,false⟩,⟨[ratF (J.ZaW a b c x y / J.ZaC a b)],4,0,false,false⟩,⟨[ratF (x-J.ZaW a b c x y / J.ZaC a b*a)],4,0,false,false⟩,⟨[ratF (y-J.ZaW a b c x y / J.ZaC a b*b)],4,0,false,false⟩],_,[],_⟩ (by kernel_rfl) (bc (Zam (fun h=>d12 (i_eq.1 h))) b0) q0 c0 (Zb8 (G:=Zac kp18 [(8,3,.call (ratF (b / J.ZaC a b)) none),(8,6,.call (ratF (-a)) none),(8,8,.call (ratF (-a / J.ZaC a b)) none)] []) [0,1,2,3,4,5,6,8,7] 9 (e1:=[(5,AV.ptr 2 0 0 0),(8,AV.ptr 5 0 0 0),(9,AV.ptr 6 0 0 0),(10,AV.ptr 7 0 0 0),(11,AV.ptr 8 0 0 0)]) (L1:=[⟨[Zar f1 f2 f3 f4 f5 f6 a b c],12,0,false,false⟩,⟨[Zar g1 g2 g3 g4 g5 g6 x y q],12,0,false,false⟩,⟨[ratF (J.Zb6 a b c x y q)],4,0,false,false⟩,⟨[ratF (J.ZaC a b)],4,0,false,false⟩,⟨[ratF (J.ZaW a b c x y / J.ZaC a b)],4,0,false,false⟩,⟨[ratF (x-J.ZaW a b c x y / J.ZaC a b*a)],4,0,false,false⟩,⟨[ratF (y-J.ZaW a b c x y / J.ZaC a b*b)],4,0,false,false⟩,⟨[ratF (b / J.ZaC a b)],4,0,false,false⟩,⟨[ratF (-a / J.ZaC a b)],4,0,false,false⟩]) (a:=[true,true,true,true,true,true]) (q:=[]) (cs:=[⟨true,false,62,[ratA f3 f4 b,ratF (J.ZaC a b)],[],ratF (b / J.ZaC a b),[]⟩,⟨true,false,68,[ratA f1 f2 a],[],ratF (-a),[]⟩,⟨true,false,62,[ratF (-a),ratF (J.ZaC a b)],[],ratF (-a / J.ZaC a b),[]⟩]) (by kernel_rfl) (by kernel_rfl) (Zai rfl (Zai rfl (Zai rfl (Zai rfl (Zai rfl (Zai rfl ZaL)))))) Za1 (ZaB (fun _=>(@ev62 f3 f4 false false b (J.ZaC a b) k13)) (ZaB (fun _=>(@ev68 f1 f2 a k14)) (ZaB (fun _=>(@ev62 false false false false (-a) (J.ZaC a b) k15)) Za2))) ?_)
   obtain ⟨k16,k17,k18,k19,H⟩:=H
   refine Zae (G:=Zac kp18 [(9,2,.call (ratF (-(b / J.ZaC a b))) none),(9,5,.call (ratF (-(-a / J.ZaC a b))) none),(9,7,.call ((zNmF1 x a b c y q)) none),(9,13,.call ((zNmF2 x a b c y q)) none)] []) 1 [] ⟨(atC (cd Tryz.f18) [1,1,1,1,1,1,1,0]),[(5,AV.ptr 2 0 0 0),(8,AV.ptr 5 0 0 0),(9,AV.ptr 6 0 0 0),(10,AV.ptr 7 0 0 0),(11,AV.ptr 8 0 0 0)],[⟨[Zar f1 f2 f3 f4 f5 f6 a b c],12,0,false,false⟩,⟨[Zar g1 g2 g3 g4 g5 g6 x y q],12,0,false,false⟩,⟨[ratF (J.Zb6 a b c x y q)],4,0,false,false⟩,⟨[ratF (J.ZaC a b)],4,0,false,false⟩,⟨[ratF (J.ZaW a b c x y / J.ZaC a b)],4,0,false,false⟩,⟨[ratF (x-J.ZaW a b c x y / J.ZaC a b*a)],4,0,false,false⟩,⟨[ratF (y-J.ZaW a b c x y / J.ZaC a b*b)],4,0,false,false⟩,⟨[ratF (b / J.ZaC a b)],4,0,false,false⟩,⟨[ratF (-a / J.ZaC a b)],4,0,false,false⟩],_,[],_⟩ (by kernel_rfl) b0 q0 c0 (Zb8 (G:=Zac kp18 [(9,2,.call (ratF (-(b / J.ZaC a b))) none),(9,5,.call (ratF (-(-a / J.ZaC a b))) none),(9,7,.call ((zNmF1 x a b c y q)) none),(9,13,.call ((zNmF2 x a b c y q)) none)] []) [0,1,2,3,4,5,6,7,8,10,9] 14 (e1:=[(12,AV.ptr 9 0 0 0),(13,AV.ptr 10 0 0 0)]) (L1:=[⟨[Zar f1 f2 f3 f4 f5 f6 a b c],12,0,false,false⟩,⟨[Zar g1 g2 g3 g4 g5 g6 x y q],12,0,false,false⟩,⟨[ratF (J.Zb6 a b c x y q)],4,0,false,false⟩,⟨[ratF (J.ZaC a b)],4,0,false,false⟩,⟨[ratF (J.ZaW a b c x y / J.ZaC a b)],4,0,false,false⟩,⟨[ratF (x-J.ZaW a b c x y / J.ZaC a b*a)],4,0,false,false⟩,⟨[ratF (y-J.ZaW a b c x y / J.ZaC a b*b)],4,0,false,false⟩,⟨[ratF (b / J.ZaC a b)],4,0,false,false⟩,⟨[ratF (-a / J.ZaC a b)],4,0,false,false⟩,⟨[(zNmF1 x a b c y q)],20,0,false,false⟩,⟨[(zNmF2 x a b c y q)],20,0,false,false⟩]) (a:=[true,true,true,true,true,true,true,true,true,true,true,true]) (q:=[]) (cs:=[⟨true,false,68,[ratF (b / J.ZaC a b)],[],ratF (-(b / J.ZaC a b)),[]⟩,⟨true,false,68,[ratF (-a / J.ZaC a b)],[],ratF (-(-a / J.ZaC a b)),[]⟩,⟨true,false,69,[ratF (x-J.ZaW a b c x y / J.ZaC a b*a),ratF (-(b / J.ZaC a b)),ratF (y-J.ZaW a b c x y / J.ZaC a b*b),ratF (-(-a / J.ZaC a b)),ratF (J.Zb6 a b c x y q)],[],(zNmF1 x a b c y q),[]⟩,⟨true,false,69,[ratF (x-J.ZaW a b c x y / J.ZaC a b*a),ratF (b / J.ZaC a b),ratF (y-J.ZaW a b c x y / J.ZaC a b*b),ratF (-a / J.ZaC a b),ratF (J.Zb6 a b c x y q)],[],(zNmF2 x a b c y q),[]⟩]) (by kernel_rfl) (by kernel_rfl) (Zai rfl (Zai rfl (Zai rfl (Zai rfl (Zai rfl (Zai rfl (Zai rfl (Zai rfl (Zai rfl (Zai rfl (Zai rfl (Zai rfl ZaL)))))))))))) Za1 (ZaB (fun _=>(@ev68 false false (b / J.ZaC a b) k16)) (ZaB (fun _=>(@ev68 false false (-a / J.ZaC a b) k17)) (ZaB (fun _=>(@ev69 false false false false false false false false false false (x-J.ZaW a b c x y / J.ZaC a b*a) (-(b / J.ZaC a b)) (y-J.ZaW a b c x y / J.ZaC a b*b) (-(-a / J.ZaC a b)) (J.Zb6 a b c x y q) k18)) (ZaB (fun _=>(@ev69 false false false false false false false false false false (x-J.ZaW a b c x y / J.ZaC a b*a) (b / J.ZaC a b) (y-J.ZaW a b c x y / J.ZaC a b*b) (-a / J.ZaC a b) (J.Zb6 a b c x y q) k19)) Za2)))) ?_)
   obtain ⟨k20,H⟩:=H
   refine Zae (G:=Zac kp18 [(10,2,.call (vi (J.Ze9 (zNmF3 x a b c y q) (zNmF4 x a b c y q))) none)] []) 3 [] ⟨(atC (cd Tryz.f18) [1,1,1,1,1,1,1,1,0,1]),[(12,AV.ptr 9 0 0 0),(13,AV.ptr 10 0 0 0),(78,vb (decide (J.Ze9 (zNmF3 x a b c y q) (zNmF4 x a b c y q)>0)))],[⟨[Zar f1 f2 f3 f4 f5 f6 a b c],12,0,false,false⟩,⟨[Zar g1 g2 g3 g4 g5 g6 x y q],12,0,false,false⟩,⟨[ratF (J.Zb6 a b c x y q)],4,0,false,false⟩,⟨[ratF (J.ZaC a b)],4,0,false,false⟩,⟨[ratF (J.ZaW a b c x y / J.ZaC a b)],4,0,false,false⟩,⟨[ratF (x-J.ZaW a b c x y / J.ZaC a b*a)],4,0,false,false⟩,⟨[ratF (y-J.ZaW a b c x y / J.ZaC a b*b)],4,0,false,false⟩,⟨[ratF (b / J.ZaC a b)],4,0,false,false⟩,⟨[ratF (-a / J.ZaC a b)],4,0,false,false⟩,⟨[(zNmF1 x a b c y q)],20,0,false,false⟩,⟨[(zNmF2 x a b c y q)],20,0,false,false⟩],_,[],_⟩ (by kernel_rfl) (bc rfl (bc rfl b0)) q0 (ce (@ev70 false false false false false false false false false false false false false false false false false false false false ((zNmF3 x a b c y q).ax) ((zNmF3 x a b c y q).bx) ((zNmF3 x a b c y q).ay) ((zNmF3 x a b c y q).by_) ((zNmF3 x a b c y q).c) ((zNmF4 x a b c y q).ax) ((zNmF4 x a b c y q).bx) ((zNmF4 x a b c y q).ay) ((zNmF4 x a b c y q).by_) ((zNmF4 x a b c y q).c) k20) c0) ?_
   rcases xq H with ⟨d22,H⟩|⟨d22,H⟩
   ·exact Zah (G:=Zac kp18 [] []) 1000 [true] (AV.vec true 20 [(zNmF2 x a b c y q),(zNmF1 x a b c y q)]) (by kernel_rfl) (bc (Zap (Zad.2 d22)) (bc rfl (bc rfl (bc rfl (bc rfl (bc rfl (bc rfl b0))))))) q0 c0 H
   ·exact Zah (G:=Zac kp18 [] []) 1000 [false] (AV.vec true 20 [(zNmF1 x a b c y q),(zNmF2 x a b c y q)]) (by kernel_rfl) (bc (Zam (fun h=>d22 (Zad.1 h))) (bc rfl (bc rfl b0))) q0 c0 H
theorem rEq7 (f1 f2 f3 f4 f5 f6 f7 f8 f9 f10 g1 g2 g3 g4 g5 g6 g7 g8 g9 g10:Bool) (ax bx ay by_ c ux vx uy vy d:Rat)  (dq:AV) (H :
  (J.ZfQ { ax:=ax,bx:=bx,ay:=ay,by_:=by_,c:=c } /\ J.ZfQ { ax:=ux,bx:=vx,ay:=uy,by_:=vy,c:=d }) /\
  vb (J.Ze9 { ax:=ax,bx:=bx,ay:=ay,by_:=by_,c:=c } { ax:=ux,bx:=vx,ay:=uy,by_:=vy,c:=d } == 0)=dq) :
 rEq7_at f1 f2 f3 f4 f5 f6 f7 f8 f9 f10 g1 g2 g3 g4 g5 g6 g7 g8 g9 g10 ax bx ay by_ c ux vx uy vy d (Zag dq):=by
 unfold rEq7_at
 obtain ⟨k1,H⟩:=H
 exact Zaq (G:=Zac kp37 [(1,2,.call (vi (J.Ze9 { ax:=ax,bx:=bx,ay:=ay,by_:=by_,c:=c } { ax:=ux,bx:=vx,ay:=uy,by_:=vy,c:=d })) none)] []) 1000 [] (vb (J.Ze9 { ax:=ax,bx:=bx,ay:=ay,by_:=by_,c:=c } { ax:=ux,bx:=vx,ay:=uy,by_:=vy,c:=d } == 0)) (by kernel_rfl) (bc rfl (bc rfl b0)) q0 (ce (@ev70 f1 f2 f3 f4 f5 f6 f7 f8 f9 f10 g1 g2 g3 g4 g5 g6 g7 g8 g9 g10 ax bx ay by_ c ux vx uy vy d k1) c0) H
theorem rGood (u:Bool) (l:List Pnt)  (dq:AV) (H :
  ZdR u l 0 (Zag dq)) :
 rGood_at u l (Zag dq):=by
 unfold rGood_at
 exact Zae (G:=Zac kp63 [] []) 1000 [] ⟨(atC (cd Tryz.f63) [1,0,1,0,0]),[(0,AV.vec u 20 (List.map Pnt.a l)),(3,vi 0)],[],_,[],_⟩ (by kernel_rfl) b0 q0 c0 H
noncomputable abbrev zNmF6 (l:List Pnt) (i:Int):=(Pnt.a (l.getD i.toNat default))
theorem rGoodH (u:Bool) (l:List Pnt) (i:Int)  (dq:AV) (H :
  ((i<(↑l.length:Int))->(J.ZfQ (l.getD i.toNat default)) /\
   (0<=i) /\
   (i.toNat<l.length) /\
   ((¬(J.vP (l.getD i.toNat default).ax (l.getD i.toNat default).bx (l.getD i.toNat default).ay (l.getD i.toNat default).by_ (l.getD i.toNat default).c=true))->vb false=dq) /\
   (¬(¬(J.vP (l.getD i.toNat default).ax (l.getD i.toNat default).bx (l.getD i.toNat default).ay (l.getD i.toNat default).by_ (l.getD i.toNat default).c=true))->(-9223372036854775808<=i+1/\i+1<=9223372036854775807) /\
    ZdR u l (i+1) (Zag dq))) /\
  (¬(i<(↑l.length:Int))->vb true=dq)) :
 ZdR u l i (Zag dq):=by
 unfold ZdR
 have w1:(List.map Pnt.a l).length=l.length:=List.length_map ..
 have i2:(decide (i<(↑(List.map Pnt.a l).length:Int)))=true ↔ (i<(↑l.length:Int)):=(by (try rw [w1]);all_goals exact Zad)
 rcases xq H with ⟨d3,H⟩|⟨d3,H⟩
 ·obtain ⟨k4,k6,H⟩:=H
  have i7:(decide (i.toNat<(List.map Pnt.a l).length))=true ↔ (i.toNat<l.length):=(by (try rw [w1]);all_goals exact Zad)
  obtain ⟨k8,H⟩:=H
  refine Zae (G:=Zac kp63 [(4,3,.elem (zNmF6 l i)),(4,4,.call (vb (J.vP (l.getD i.toNat default).ax (l.getD i.toNat default).bx (l.getD i.toNat default).ay (l.getD i.toNat default).by_ (l.getD i.toNat default).c)) none)] []) 9 [true] ⟨(atC (cd Tryz.f63) [1,0,1,0,0,1,0,0,1]),[(0,AV.vec u 20 (List.map Pnt.a l)),(3,vi i),(15,vb !J.vP (l.getD i.toNat default).ax (l.getD i.toNat default).bx (l.getD i.toNat default).ay (l.getD i.toNat default).by_ (l.getD i.toNat default).c)],[],_,[((List.map Pnt.a l).get?Internal i.toNat=some (zNmF6 l i))],_⟩ (by kernel_rfl) (bc (Zap (i2.2 d3)) (bc (Zad.2 k6) (bc (i7.2 k8) b0))) (qc (Zaw k8) q0) (ce (@ev36 false false false false false false false false false false ((l.getD i.toNat default).ax) ((l.getD i.toNat default).bx) ((l.getD i.toNat default).ay) ((l.getD i.toNat default).by_) ((l.getD i.toNat default).c) k4) c0) ?_
  rcases xq H with ⟨d10,H⟩|⟨d10,H⟩
  ·exact Zaq (G:=Zac kp63 [] []) 1000 [true] (asm:=[(!J.vP (l.getD i.toNat default).ax (l.getD i.toNat default).bx (l.getD i.toNat default).ay (l.getD i.toNat default).by_ (l.getD i.toNat default).c)==true]) (vb false) (by kernel_rfl) (bc (Zap ((ZaN (Zau _)).2 d10)) b0) q0 c0 H
  ·obtain ⟨k11,H⟩:=H
   have w12:wi (i+1)=i+1:=wI64 k11
   exact Zae (G:=Zac kp63 [] []) 1000 [false] ⟨(atC (cd Tryz.f63) [1,0,1,0,0]),[(0,AV.vec u 20 (List.map Pnt.a l)),(3,vi (wi (i+1)))],[],[(!J.vP (l.getD i.toNat default).ax (l.getD i.toNat default).bx (l.getD i.toNat default).ay (l.getD i.toNat default).by_ (l.getD i.toNat default).c)==false],[],_⟩ (by kernel_rfl) (bc (Zam (fun h=>d10 ((ZaN (Zau _)).1 h))) b0) q0 c0 (by (try rw [w12]);all_goals exact H)
 ·exact Zaq (G:=Zac kp63 [] []) 1000 [false] (vb true) (by kernel_rfl) (bc (Zam (fun h=>d3 (i2.1 h))) b0) q0 c0 H
end Go.Av

namespace Go.Av
open Go.Proofs
namespace J
def ZeF (a b c:Rat):Prop:=okT 2 a/\okT 2 b/\okT 2 c
noncomputable def rdA (a x:Rat):Rat:=qi 2*(x-a)
noncomputable def rdC (a b c x y z:Rat):Rat:=x*x+y*y-z-(a*a+b*b-c)
noncomputable def ZcY (a b c x y z:Rat):Int:=if a=x/\b=y then (if c=z then 10 else 0) else 0
noncomputable def ZeG (a b c x y z:Rat):List Pnt:=if a=x/\b=y then [] else ZbN (rdA a x) (rdA b y) (rdC a b c x y z) a b c
noncomputable def cirR (a b c x y z:Rat):List Pnt:=if a=x/\b=y then [] else Zcz (rdA a x) (rdA b y) (rdC a b c x y z) a b c
noncomputable def Zfu (l:List Pnt):Bool:=l.all fun p=>vP p.ax p.bx p.ay p.by_ p.c
noncomputable def eqL:List Pnt->List Pnt->Bool
 | [],[]=>true
 | p::l,q::m=>bif decide (Ze9 p q=0) then eqL l m else false
 | _,_=>false
end J
theorem ZbY {a b c:Rat} (h:J.ZeF a b c):J.ZcW a b c:=⟨Zas h.1 (by omega),Zas h.2.1 (by omega),Zas h.2.2 (by omega)⟩
theorem rd_ln {a b c x y z:Rat} (h:J.ZeF a b c) (k:J.ZeF x y z) (n:¬(a=x/\b=y)):J.Zfc (J.rdA a x) (J.rdA b y) (J.rdC a b c x y z):=by
 obtain ⟨ha,hb,hc⟩:=h
 obtain ⟨hx,hy,hz⟩:=k
 refine ⟨⟨Zas (k:=8) (Zaf (Zfl (by unfold J.inI;omega):J.okT 3 (J.qi 2)) (Zat hx ha)) (by omega),Zas (k:=8) (Zaf (Zfl (by unfold J.inI;omega):J.okT 3 (J.qi 2)) (Zat hy hb)) (by omega),Zas (k:=25) (Zat (Zat (ZaG (Zaf hx hx) (Zaf hy hy)) hz) (Zat (ZaG (Zaf ha ha) (Zaf hb hb)) hc)) (by omega)⟩,?_⟩
 have t:J.qi 2=2:=by rw [ZfP];rfl
 unfold J.rdA
 rw [t]
 by_cases e:a=x
 ·right
  have:¬b=y:=fun f=>n ⟨e,f⟩
  grind
 ·left
  grind
theorem ev22 (f1 f2 f3 f4 f5 f6 g1 g2 g3 g4 g5 g6:Bool) (a b c x y z:Rat) (h:J.ZeF a b c/\J.ZeF x y z):Ev M1 (.pure 22 [Zar f1 f2 f3 f4 f5 f6 a b c,Zar g1 g2 g3 g4 g5 g6 x y z]) (.tup [.vec false 20 ((J.ZeG a b c x y z).map Pnt.a),.int .i64 (J.ZcY a b c x y z)]) []:=by
 obtain ⟨h1,h2⟩:=h
 have t1:=ZbY h1
 refine call22 (mCircles _ _ _ _ _ _ _ _ _ _ _ _ _ _ _ _ _ _ _ ⟨⟨t1,ZbY h2⟩,fun k => ?_,fun k=>⟨fun j => ?_,fun j=>⟨⟨rd_ln h1 h2 j,⟨t1.1,t1.2.1⟩,t1.2.2⟩,?_⟩⟩⟩)
 ·rw [show J.ZeG a b c x y z=[] from if_pos ⟨k.1,k.2.1⟩,show J.ZcY a b c x y z=10 by unfold J.ZcY;rw [if_pos ⟨k.1,k.2.1⟩,if_pos k.2.2]]
  exact ZbW _
 ·rw [show J.ZeG a b c x y z=[] from if_pos j,show J.ZcY a b c x y z=0 by unfold J.ZcY;rw [if_pos j,if_neg fun q=>k ⟨j.1,j.2,q⟩]]
  exact ZbW _
 ·rw [show J.ZeG a b c x y z=J.ZbN (J.rdA a x) (J.rdA b y) (J.rdC a b c x y z) a b c from if_neg j,show J.ZcY a b c x y z=0 by unfold J.ZcY;rw [if_neg j]]
  exact .refl _
theorem qi1_ne:J.qi 1 ≠ 0:=by rw [ZfP];exact fun h=>by have:(1:Rat)=0:=h;grind
theorem okP5_red {x w y t r:Rat} (hx:J.okT 350 x) (hw:J.okT 160 w) (hy:J.okT 350 y) (ht:J.okT 160 t) (hr:J.okT 500 r):J.ZfQ (J.red x w y t r):=by
 by_cases k:J.rsq r
 ·rw [red_y k]
  exact ⟨⟨Zas (k:=1011) (ZaG hx (Zaf hw (ZeW k hr))) (by omega),Zas Zcr (by omega)⟩,⟨Zas (k:=1011) (ZaG hy (Zaf ht (ZeW k hr))) (by omega),Zas Zcr (by omega)⟩,Zas Zcr (by omega)⟩
 ·rw [red_n k]
  exact ⟨⟨Zas hx (by omega),Zas hw (by omega)⟩,⟨Zas hy (by omega),Zas ht (by omega)⟩,Zas hr (by omega)⟩
theorem lineR_0 {a b c x y q:Rat} (k:J.Zb6 a b c x y q<0):J.Zcz a b c x y q=[]:=by
 unfold J.Zcz;rw [ZbG k,if_pos (by decide)]
theorem lineR_1 {a b c x y q:Rat} (k:J.Zb6 a b c x y q=0):J.Zcz a b c x y q=[J.atP (J.fX a b c x y) (J.fY a b c x y)]:=by
 unfold J.Zcz;rw [k,ZaY,if_neg (by decide),if_pos rfl]
theorem lineR_2 {a b c x y q:Rat} (k:0<J.Zb6 a b c x y q):J.Zcz a b c x y q=if J.Ze9 (J.rP true a b c x y q) (J.rP false a b c x y q)>0 then [J.rP false a b c x y q,J.rP true a b c x y q] else [J.rP true a b c x y q,J.rP false a b c x y q]:=by
 unfold J.Zcz;rw [Zbe k,if_neg (by decide),if_neg (by decide)]
theorem okP5_rP {a b c x y q:Rat} (h:J.Zfc a b c) (hv:J.ZdT x y) (hq:J.okT 30 q) (s:Bool):J.ZfQ (J.rP s a b c x y q):=by
 have hf:=okT_f h hv
 have hnv:=okT_nv h.1 hv
 have hr:=okT_room h.1 hv hq
 obtain ⟨⟨ha,hb,hc⟩,h0⟩:=h
 have hn:(J.ZaC a b).num ≠ 0:=ZhP (ZdV h0)
 have w1:=ZbK hb hnv.1 hn
 have w2:=ZbK (Zbs ha) hnv.1 hn
 unfold J.rP
 cases s with
 | true=>rw [cond_true];exact okP5_red hf.1 (Zbs w1) hf.2 (Zbs w2) hr
 | false=>rw [cond_false];exact okP5_red hf.1 w1 hf.2 w2 hr
theorem ev18 (f1 f2 f3 f4 f5 f6 g1 g2 g3 g4 g5 g6:Bool) (a b c x y q:Rat) (h:J.Zfc a b c/\J.ZdT x y/\J.okT 30 q):Ev M1 (.pure 18 [Zar f1 f2 f3 f4 f5 f6 a b c,Zar g1 g2 g3 g4 g5 g6 x y q]) (.vec false 20 ((J.Zcz a b c x y q).map Pnt.a)) []:=by
 obtain ⟨hl,hv,hq⟩:=h
 have hf:=okT_f hl hv
 have hnv:=okT_nv hl.1 hv
 have hr:=okT_room hl.1 hv hq
 have r1:=okP5_rP hl hv hq true
 have r2:=okP5_rP hl hv hq false
 have h3:=hl.1
 have hv':=hv
 obtain ⟨⟨ha,hb,hc⟩,h0⟩:=hl
 obtain ⟨hx,hy⟩:=hv
 have hn:(J.ZaC a b).num ≠ 0:=ZhP (ZdV h0)
 have w1:=ZbK hb hnv.1 hn
 have w2:=ZbK (Zbs ha) hnv.1 hn
 have le5 {k m:Nat} {r:Rat} (h:J.okT k r) (hk:k<=1700):J.okT 1700 r:=Zas h hk
 refine call18 (rLC9 _ _ _ _ _ _ _ _ _ _ _ _ _ _ _ _ _ _ _ ⟨⟨h3,hv',hq⟩,⟨ha,hb⟩,fun k => ?_,fun k=>⟨⟨h3,hv'⟩,⟨Zak hnv.2 (by omega),Zak hnv.1 (by omega),hn⟩,⟨Zak (ZbK hnv.2 hnv.1 hn) (by omega),Zak ha (by omega)⟩,⟨Zak hx (by omega),Zak (Zaf (ZbK hnv.2 hnv.1 hn) ha) (by omega)⟩,⟨Zak (ZbK hnv.2 hnv.1 hn) (by omega),Zak hb (by omega)⟩,⟨Zak hy (by omega),Zak (Zaf (ZbK hnv.2 hnv.1 hn) hb) (by omega)⟩,fun j => ?_,fun j=>⟨⟨Zak hb (by omega),Zak hnv.1 (by omega),hn⟩,ok_of ha (by omega),⟨Zak (Zbs ha) (by omega),Zak hnv.1 (by omega),hn⟩,ok_of w1 (by omega),ok_of w2 (by omega),⟨⟨Zas hf.1 (by omega),Zas (Zbs w1) (by omega)⟩,⟨Zas hf.2 (by omega),Zas (Zbs w2) (by omega)⟩,Zas hr (by omega)⟩,⟨⟨Zas hf.1 (by omega),Zas w1 (by omega)⟩,⟨Zas hf.2 (by omega),Zas w2 (by omega)⟩,Zas hr (by omega)⟩,⟨r1,r2⟩,fun i => ?_,fun i => ?_⟩⟩⟩)
 ·rw [lineR_0 (sgl.1 k)]
  exact .vnil 20
 ·rw [lineR_1 (sgz.1 j)]
  exact ZcL [J.atP (J.fX a b c x y) (J.fY a b c x y)]
 ·have p:0<J.Zb6 a b c x y q:=by
   rw [sgl] at k;rw [sgz] at j;grind
  rw [lineR_2 p,if_pos (show J.Ze9 (J.rP true a b c x y q) (J.rP false a b c x y q)>0 from i)]
  exact ZcL [J.rP false a b c x y q,J.rP true a b c x y q]
 ·have p:0<J.Zb6 a b c x y q:=by
   rw [sgl] at k;rw [sgz] at j;grind
  rw [lineR_2 p,if_neg (show ¬J.Ze9 (J.rP true a b c x y q) (J.rP false a b c x y q)>0 from i)]
  exact ZcL [J.rP true a b c x y q,J.rP false a b c x y q]
theorem beq_dec (n:Int):(n==0)=decide (n=0):=by
 by_cases k:n=0
 ·rw [decide_eq_true k,beq_iff_eq.2 k]
 ·rw [decide_eq_false k];simpa using k
theorem ev37 (f1 f2 f3 f4 f5 f6 f7 f8 f9 f10 g1 g2 g3 g4 g5 g6 g7 g8 g9 g10:Bool) (ax bx ay by_ c ux vx uy vy d:Rat) (h:J.ZfQ ⟨ax,bx,ay,by_,c⟩/\J.ZfQ ⟨ux,vx,uy,vy,d⟩):Ev M1 (.pure 37 [pntA f1 f2 f3 f4 f5 f6 f7 f8 f9 f10 ax bx ay by_ c,pntA g1 g2 g3 g4 g5 g6 g7 g8 g9 g10 ux vx uy vy d]) (.bool (decide (J.Ze9 ⟨ax,bx,ay,by_,c⟩ ⟨ux,vx,uy,vy,d⟩=0))) []:=
 call37 (rEq7 _ _ _ _ _ _ _ _ _ _ _ _ _ _ _ _ _ _ _ _ _ _ _ _ _ _ _ _ _ _ _ ⟨h,by rw [beq_dec]⟩)
def J.Zhh (l:List Pnt):Prop:=(∀ p ∈ l,ZfQ p)/\l.length<=100
theorem good_loop {f:Bool} {l:List Pnt} {dq:AV} (h:J.Zhh l) (k:Nat):∀ (i:Nat),i+k=l.length->AV.bool (J.Zfu (l.drop i))=dq->ZdR f l i (Zag dq):=by
 have hl:=h.2
 induction k with
 | zero =>
  intro i e hq
  refine rGoodH _ _ _ _ ⟨fun x=>by omega,fun _ => ?_⟩
  rw [List.drop_eq_nil_of_le (by omega)] at hq
  exact hq
 | succ k ih =>
  intro i e hq
  rw [Zcv (d:=l) (i:=i) (by omega)] at hq
  have m:=h.1 _ (Zf8 (d:=l) (i:=i) (by omega))
  have nx:=ih (i+1) (by omega)
  refine rGoodH _ _ _ _ ⟨fun x => ?_,fun x=>by omega⟩
  rw [Int.toNat_natCast,show (i:Int)+1=((i+1:Nat):Int) by omega]
  have e2:J.Zfu (l.getD i default::l.drop (i+1))=(J.vP (l.getD i default).ax (l.getD i default).bx (l.getD i default).ay (l.getD i default).by_ (l.getD i default).c&&J.Zfu (l.drop (i+1))):=rfl
  rw [e2] at hq
  refine ⟨m,by omega,by omega,fun y => ?_,fun y=>⟨by omega,nx ?_⟩⟩
  ·rw [(Bool.not_eq_true _).mp y,Bool.false_and] at hq;exact hq
  ·rw [Classical.not_not.1 y,Bool.true_and] at hq;exact hq
theorem ev63 (f:Bool) (l:List Pnt) (h:J.Zhh l):Ev M1 (.pure 63 [.vec f 20 (l.map Pnt.a)]) (.bool (J.Zfu l)) []:=
 call63 (rGood _ _ _ (good_loop h l.length 0 (by omega) rfl))
end Go.Av
