/- PART 5 of the texts of a claim, joined by a program: what each part shows stands at its head. -/
import Derived.Test.YtnalglhidkknbaaGreatPart26e1d3fd16

namespace Go.Av
open Go.Proofs
abbrev fracA (f g:Bool) (p q:Int):AV:=.agg [.bool (J.Zaa p),.vec f 1 ((J.Zab p).map (.int .u32)),.bool (J.Zaa q),.vec g 1 ((J.Zab q).map (.int .u32))]
abbrev noR:AV:=.agg [.bool false,.vec false 1 [],.bool false,.vec false 1 []]
theorem weak_nr:Weak (.agg [.bool false,.vnil,.bool false,.vnil]) noR:=by
 have w:Weak .vnil (.vec false 1 []):=by
  have:=Zdb false
  cases this with
  | agg xs ys hl h=>exact h 1 _ _ rfl rfl
 refine .agg _ _ rfl fun i x y hx hy => ?_
 match i with
 | 0=>simp at hx hy;subst hx;subst hy;exact .refl _
 | 1=>simp at hx hy;subst hx;subst hy;exact w
 | 2=>simp at hx hy;subst hx;subst hy;exact .refl _
 | 3=>simp at hx hy;subst hx;subst hy;exact w
 | i+4=>simp at hx
theorem okR_S {r:Rat} (h:J.okR r):J.okS r.num/\J.okS (r.den:Int):=by
 unfold J.okR at h
 unfold J.okS
 rw [Int.natAbs_natCast];omega
theorem ev141_y (fa ga:Bool) (r:Rat) (h:J.okR r) (k:J.rsq r):Ev M1 (.pure 141 [ratA fa ga r]) (.tup [ratF (J.rt r),.bool true]) []:=by
 obtain ⟨h1,h2⟩:=okR_S h
 obtain ⟨e1,e2⟩:=rt_num k
 refine call141 (vRSqrt _ _ _ _ ⟨h1,fun _=>⟨h2,fun _ => ?_,fun x=>absurd k.2 x⟩,fun x=>absurd k.1 x⟩)
 show Weak _ (AV.tup [AV.agg [.bool (J.Zaa (J.rt r).num),.vec false 1 ((J.Zab (J.rt r).num).map (.int .u32)),.bool (J.Zaa ((J.rt r).den:Int)),.vec false 1 ((J.Zab ((J.rt r).den:Int)).map (.int .u32))],.bool true])
 rw [e1,e2];exact .refl _
theorem ev141_n (fa ga:Bool) (r:Rat) (h:J.okR r) (k:¬(J.rsq r)):Ev M1 (.pure 141 [ratA fa ga r]) (.tup [noR,.bool false]) []:=by
 obtain ⟨h1,h2⟩:=okR_S h
 exact call141 (vRSqrt _ _ _ _ ⟨h1,fun x=>⟨h2,fun y=>absurd ⟨x,y⟩ k,fun _=>ZbH weak_nr (.refl _)⟩,fun _=>ZbH weak_nr (.refl _)⟩)
theorem val_big {s:Bool} {a:List Int} (hx:∀ x ∈ a,0<=x) (h:J.val s a=true):∃ v:Int,J.Zaa v=s/\J.Zab v=a:=by
 unfold J.val at h
 rw [Bool.and_eq_true,List.all_eq_true] at h
 obtain ⟨h1,h2⟩:=h
 have ha:∀ x ∈ a,0<=x/\x<1000000000:=fun x hm=>⟨hx x hm,by simpa using h1 x hm⟩
 obtain ⟨e,f⟩:=Zfd a ha
 by_cases hl:0<a.length
 ·rw [show decide (0<a.length)=true from decide_eq_true hl,cond_true] at h2
  have hn:¬J.fits (a.length-1) (valL a):=by
   intro hf
   have hz:=Zcr.1 hf
   have hg:=ZaA (n:=a.length) (valL a) (show a.length-1<a.length by omega)
   rw [<- e,hz] at hg
   rw [hg] at h2
   simp at h2
  have el:=lim_of f (.inr hn)
  rw [<- e] at el
  refine ⟨J.sg s (valL a),?_,by rw [sg_limI];exact el.symm⟩
  rw [sg_neg]
  have:valL a ≠ 0:=by
   intro hz
   apply hn
   rw [hz]
   exact Zcr.2 (Nat.zero_div _)
  cases s <;> simp [this]
 ·have:a=[]:=List.eq_nil_of_length_eq_zero (by omega)
  subst this
  have hs:s=false:=by simpa using h2
  subst hs
  exact ⟨0,rfl,ZbR⟩
theorem big_inj {v w:Int} (h:J.Zab v=J.Zab w) (hs:J.Zaa v=J.Zaa w):v=w:=by
 have e:v.natAbs=w.natAbs:=by
  have a:=ZeR _ _ (Zai v.natAbs)
  have b:=ZeR _ _ (Zai w.natAbs)
  rw [<- a,<- b]
  exact congrArg valL h
 have a:=@Zak v
 have b:=@Zak w
 rw [hs] at a
 have c:=a.symm.trans b
 omega
def J.valR (s:Bool) (a:List Int) (t:Bool) (b:List Int):Prop:=∃ r:Rat,J.Zaa r.num=s/\J.Zab r.num=a/\J.Zaa (r.den:Int)=t/\J.Zab (r.den:Int)=b
theorem valR_pq (p q:Int):J.valR (J.Zaa p) (J.Zab p) (J.Zaa q) (J.Zab q) ↔ 0<q/\Int.gcd p q=1:=by
 constructor
 ·rintro ⟨r,h1,h2,h3,h4⟩
  have e1:=big_inj h2 h1
  have e2:=big_inj h4 h3
  subst e1;subst e2
  have:=r.den_pos
  exact ⟨by omega,r.reduced⟩
 ·rintro ⟨h1,h2⟩
  obtain ⟨e1,e2⟩:=Zfv (a:=p) h1
  rw [h2] at e1 e2
  refine ⟨Rat.divInt p q,?_⟩
  rw [e1,e2];simp
theorem valR_val {s t:Bool} {a b:List Int} (h:J.valR s a t b):J.val s a=true/\J.val t b=true:=by
 obtain ⟨r,rfl,rfl,rfl,rfl⟩:=h
 exact ⟨val_true _,val_true _⟩
theorem valR_rat (r:Rat):J.valR (J.Zaa r.num) (J.Zab r.num) (J.Zaa (r.den:Int)) (J.Zab (r.den:Int)):=⟨r,rfl,rfl,rfl,rfl⟩
end Go.Av

namespace Go.Av
open Go.Proofs
theorem gcd_cnt {a b:Int} (hb:b ≠ 0) (h:J.cnt b.natAbs<=399000):J.cnt ((a.gcd b:Nat):Int).natAbs<=399000/\((a.gcd b:Nat):Int) ≠ 0:=by
 have h1:0<a.gcd b:=Int.gcd_pos_of_ne_zero_right _ hb
 have h2:a.gcd b<=b.natAbs:=Nat.le_of_dvd (by omega) (Int.gcd_dvd_natAbs_right a b)
 have:=ZaJ h2
 rw [Int.natAbs_natCast]
 omega
theorem ev81:Ev M1 (.pure 81 []) (.agg [.bool false,.vec false 1 ((J.Zab 1).map (.int .u32))]) []:=
 call81 (rUnit _ ⟨by unfold J.inI;omega,.refl _⟩)
theorem ev89 (fa fb:Bool) (a b:Int) (h:J.cnt a.natAbs<=399000/\J.cnt b.natAbs<=399000/\b ≠ 0):Ev M1 (.pure 89 [bigA fa a,bigA fb b]) (ratF (Rat.divInt a b)) []:=by
 obtain ⟨ha,hb,h0⟩:=h
 have hna:J.cnt (-a).natAbs<=399000:=by rwa [Int.natAbs_neg]
 have hnb:J.cnt (-b).natAbs<=399000:=by rwa [Int.natAbs_neg]
 refine call89 (rOf _ _ _ _ _ ⟨fun k => ?_,fun k => ?_⟩)
 ·rw [Zbn] at k
  obtain ⟨g1,g2⟩:=gcd_cnt (a:=-a) (b:=-b) (by omega) hnb
  obtain ⟨r1,r2⟩:=rat_neg (a:=a) k
  refine ⟨by unfold J.ok;omega,by unfold J.ok;omega,⟨hna,hnb⟩,⟨hna,g1,g2⟩,⟨hnb,g1,g2⟩,?_⟩
  show Weak _ (AV.agg [.bool (J.Zaa (Rat.divInt a b).num),.vec false 1 ((J.Zab (Rat.divInt a b).num).map (.int .u32)),.bool (J.Zaa ((Rat.divInt a b).den:Int)),.vec false 1 ((J.Zab ((Rat.divInt a b).den:Int)).map (.int .u32))])
  rw [r1,r2,Zd6 g2,Zd6 g2];exact .refl _
 ·rw [Zbn] at k
  obtain ⟨g1,g2⟩:=gcd_cnt (a:=a) (b:=b) h0 hb
  obtain ⟨r1,r2⟩:=Zfv (a:=a) (show 0<b by omega)
  refine ⟨⟨ha,hb⟩,⟨ha,g1,g2⟩,⟨hb,g1,g2⟩,?_⟩
  show Weak _ (AV.agg [.bool (J.Zaa (Rat.divInt a b).num),.vec false 1 ((J.Zab (Rat.divInt a b).num).map (.int .u32)),.bool (J.Zaa ((Rat.divInt a b).den:Int)),.vec false 1 ((J.Zab ((Rat.divInt a b).den:Int)).map (.int .u32))])
  rw [r1,r2,Zd6 g2,Zd6 g2];exact .refl _
theorem ev20 (fa ga:Bool) (p q:Int):Ev M1 (.pure 20 [fracA fa ga p q]) (.int .i64 (J.sgnI p)) []:=
 call20 (rRSign _ _ _ _ _ rfl)
theorem ev82 (fa ga:Bool) (r:Rat) (h:J.ok r.num):Ev M1 (.pure 82 [ratA fa ga r]) (ratF (-r)) []:=by
 refine call82 (rRNeg _ _ _ _ _ ⟨h,?_⟩)
 show Weak _ (AV.agg [.bool (J.Zaa (-r).num),.vec false 1 ((J.Zab (-r).num).map (.int .u32)),.bool (J.Zaa ((-r).den:Int)),.vec false 1 ((J.Zab ((-r).den:Int)).map (.int .u32))])
 rw [Rat.neg_num,Rat.neg_den]
 exact Zds _ _ _ _ _ _
theorem isSqD (a:Int):(bif J.sqe a==0 then decide (J.sq a*J.sq a=a) else false)=J.Zfh a:=by
 unfold J.Zfh
 congr 1
 have h:=@ZbK (J.sq a*J.sq a-a)
 by_cases e:J.sq a*J.sq a=a
 ·rw [decide_eq_true e,h.2 (by omega)];rfl
 ·rw [decide_eq_false e]
  exact (beq_eq_false_iff_ne.2 fun x=>e (by have:=h.1 x;omega)).symm
theorem ev131 (fa:Bool) (a:Int) (h:J.okS a):Ev M1 (.pure 131 [bigA fa a]) (.tup [bigA false (J.sq a),.bool (J.Zfh a)]) []:=by
 have hk:J.sqe a=0->0<=a:=by
  intro k
  unfold J.sqe at k
  split at k <;> omega
 have h':=h
 unfold J.okS at h'
 refine call131 (rPerf _ _ _ ⟨h,fun k => ?_,fun k=>⟨?_,?_⟩,?_⟩)
 ·have:=ZaJ (sq_le (hk k)).2
  unfold J.okB
  omega
 ·have:=ZaJ (sq_le (hk k)).1
  unfold J.ok
  rw [Int.natAbs_mul];omega
 ·unfold J.ok;omega
 ·rw [isSqD];exact .refl _
end Go.Av

namespace Go.Av
open Go.Proofs
set_option maxRecDepth 100000
def fi27:Fi:=⟨26,[.tmp 2]⟩
def kp27:List (Nat × List Nat):=[(0,[1]),(1,[1,18]),(2,[2]),(3,[2])]
def fi34:Fi:=⟨26,[.cell 4 26]⟩
def kp34:List (Nat × List Nat):=[(0,[2,3,4]),(1,[2,3,4,5]),(2,[2,3,4,5,6]),(3,[4])]
def fi35:Fi:=⟨16,[.cell 4 26]⟩
def kp35:List (Nat × List Nat):=[(0,[2,3,4]),(1,[4])]
def fi74:Fi:=⟨16,[.tmp 4]⟩
def kp74:List (Nat × List Nat):=[(0,[2,3]),(1,[4])]
def fi84:Fi:=⟨7,[.cell 2 26]⟩
def kp84:List (Nat × List Nat):=[(0,[0,2]),(1,[2])]
def fi91:Fi:=⟨30,[.cell 2 26,.tmp 3]⟩
def kp91:List (Nat × List Nat):=[(0,[1,2]),(1,[1,2,4,5]),(2,[2,4,5,6,7]),(3,[2,4,6,25]),(4,[2,3]),(5,[2,3])]
def rRFrom_at (n:Int) (Q:AV->Heap->Prop):Prop:=Wp M1 (.run fi84 (atC (cd Tryz.f84) []) [(0,.int .i64 n)] []) Q
def rRAdd_at (fa ga fb gb:Bool) (r s:Rat) (Q:AV->Heap->Prop):Prop:=Wp M1 (.run fi34 (atC (cd Tryz.f34) []) [(0,ratA fa ga r),(1,ratA fb gb s)] []) Q
def rRMul_at (fa ga fb gb:Bool) (r s:Rat) (Q:AV->Heap->Prop):Prop:=Wp M1 (.run fi35 (atC (cd Tryz.f35) []) [(0,ratA fa ga r),(1,ratA fb gb s)] []) Q
def rRCmp_at (fa ga fb gb:Bool) (r s:Rat) (Q:AV->Heap->Prop):Prop:=Wp M1 (.run fi74 (atC (cd Tryz.f74) []) [(0,ratA fa ga r),(1,ratA fb gb s)] []) Q
def Zh0 (fa ga:Bool) (p q:Int) (Q:AV->Heap->Prop):Prop:=Wp M1 (.run fi27 (atC (cd Tryz.f27) []) [(0,.agg [.bool (J.Zaa p),.vec fa 1 ((J.Zab p).map (.int .u32)),.bool (J.Zaa q),.vec ga 1 ((J.Zab q).map (.int .u32))])] []) Q
def ZgE (s fa t ga:Bool) (a b:List Int) (Q:AV->Heap->Prop):Prop:=Wp M1 (.run fi27 (atC (cd Tryz.f27) []) [(0,.agg [.bool s,.vec fa 1 (a.map (.int .u32)),.bool t,.vec ga 1 (b.map (.int .u32))])] []) Q
def rRSqrt_at (fa ga:Bool) (r:Rat) (Q:AV->Heap->Prop):Prop:=Wp M1 (.run fi91 (atC (cd Tryz.f91) []) [(0,ratA fa ga r)] []) Q
theorem call27 {args:List AV} {d:AV} (h:wc M1 fi27 Tryz.f27 args d):Ev M1 (.pure 27 args) d []:=pcl _ _ (by kernel_rfl) h
theorem call34 {args:List AV} {d:AV} (h:wc M1 fi34 Tryz.f34 args d):Ev M1 (.pure 34 args) d []:=pcl _ _ (by kernel_rfl) h
theorem call35 {args:List AV} {d:AV} (h:wc M1 fi35 Tryz.f35 args d):Ev M1 (.pure 35 args) d []:=pcl _ _ (by kernel_rfl) h
theorem call74 {args:List AV} {d:AV} (h:wc M1 fi74 Tryz.f74 args d):Ev M1 (.pure 74 args) d []:=pcl _ _ (by kernel_rfl) h
theorem call84 {args:List AV} {d:AV} (h:wc M1 fi84 Tryz.f84 args d):Ev M1 (.pure 84 args) d []:=pcl _ _ (by kernel_rfl) h
theorem call91 {args:List AV} {d:AV} (h:wc M1 fi91 Tryz.f91 args d):Ev M1 (.pure 91 args) d []:=pcl _ _ (by kernel_rfl) h
theorem rRFrom (n:Int)  (dq:AV) (H :
  (J.inI n) /\
  Weak (ag [vb (J.Zaa n),vf (us (J.Zab n)),vb false,vf (us (J.Zab 1))]) dq) :
 rRFrom_at n (Zag dq):=by
 unfold rRFrom_at
 obtain ⟨k1,H⟩:=H
 exact Zah (G:=Zad kp84 [(1,1,.call (bigA false n) none),(1,2,.call (ag [vb false,vf (us (J.Zab 1))]) none)] []) 1000 [] (ag [vb (J.Zaa n),vf (us (J.Zab n)),vb false,vf (us (J.Zab 1))]) (by kernel_rfl) (bc rfl b0) q0 (ce (@ev121 n k1) (ce (@ev81 ) c0)) H
theorem rRAdd (fa ga fb gb:Bool) (r s:Rat)  (dq:AV) (H :
  (J.okB r.num/\J.okB (↑s.den:Int)) /\
  (J.okB s.num/\J.okB (↑r.den:Int)) /\
  (J.okB (r.num*(↑s.den:Int))/\J.okB (s.num*(↑r.den:Int))) /\
  (J.okB (↑r.den:Int)/\J.okB (↑s.den:Int)) /\
  (J.cnt (r.num*(↑s.den:Int)+s.num*(↑r.den:Int)).natAbs<=399000/\J.cnt ((↑r.den:Int)*(↑s.den:Int)).natAbs<=399000/\(↑r.den:Int)*(↑s.den:Int) ≠ 0) /\
  Weak (ratF (Rat.divInt (r.num*(↑s.den:Int)+s.num*(↑r.den:Int)) ((↑r.den:Int)*(↑s.den:Int)))) dq) :
 rRAdd_at fa ga fb gb r s (Zag dq):=by
 unfold rRAdd_at
 obtain ⟨k1,k2,k3,k4,k5,H⟩:=H
 exact Zah (G:=Zad kp34 [(1,4,.call (bigA false (r.num*(↑s.den:Int))) none),(2,4,.call (bigA false (s.num*(↑r.den:Int))) none),(3,2,.call (bigA false (r.num*(↑s.den:Int)+s.num*(↑r.den:Int))) none),(3,7,.call (bigA false ((↑r.den:Int)*(↑s.den:Int))) none),(3,8,.call (ratF (Rat.divInt (r.num*(↑s.den:Int)+s.num*(↑r.den:Int)) ((↑r.den:Int)*(↑s.den:Int)))) none)] []) 1000 [] (ratF (Rat.divInt (r.num*(↑s.den:Int)+s.num*(↑r.den:Int)) ((↑r.den:Int)*(↑s.den:Int)))) (by kernel_rfl) (bc rfl (bc rfl (bc rfl (bc rfl (bc rfl (bc rfl (bc rfl (bc rfl (bc rfl (bc rfl (bc rfl b0))))))))))) q0 (ce (@ev88 fa gb (r.num) ((↑s.den:Int)) k1) (ce (@ev88 fb ga (s.num) ((↑r.den:Int)) k2) (ce (@ev90 false false (r.num*(↑s.den:Int)) (s.num*(↑r.den:Int)) k3) (ce (@ev88 ga gb ((↑r.den:Int)) ((↑s.den:Int)) k4) (ce (@ev89 false false (r.num*(↑s.den:Int)+s.num*(↑r.den:Int)) ((↑r.den:Int)*(↑s.den:Int)) k5) c0))))) H
theorem rRMul (fa ga fb gb:Bool) (r s:Rat)  (dq:AV) (H :
  (J.okB r.num/\J.okB s.num) /\
  (J.okB (↑r.den:Int)/\J.okB (↑s.den:Int)) /\
  (J.cnt (r.num*s.num).natAbs<=399000/\J.cnt ((↑r.den:Int)*(↑s.den:Int)).natAbs<=399000/\(↑r.den:Int)*(↑s.den:Int) ≠ 0) /\
  Weak (ratF (Rat.divInt (r.num*s.num) ((↑r.den:Int)*(↑s.den:Int)))) dq) :
 rRMul_at fa ga fb gb r s (Zag dq):=by
 unfold rRMul_at
 obtain ⟨k1,k2,k3,H⟩:=H
 exact Zah (G:=Zad kp35 [(1,4,.call (bigA false (r.num*s.num)) none),(1,9,.call (bigA false ((↑r.den:Int)*(↑s.den:Int))) none),(1,10,.call (ratF (Rat.divInt (r.num*s.num) ((↑r.den:Int)*(↑s.den:Int)))) none)] []) 1000 [] (ratF (Rat.divInt (r.num*s.num) ((↑r.den:Int)*(↑s.den:Int)))) (by kernel_rfl) (bc rfl (bc rfl (bc rfl (bc rfl (bc rfl b0))))) q0 (ce (@ev88 fa fb (r.num) (s.num) k1) (ce (@ev88 ga gb ((↑r.den:Int)) ((↑s.den:Int)) k2) (ce (@ev89 false false (r.num*s.num) ((↑r.den:Int)*(↑s.den:Int)) k3) c0))) H
theorem rRCmp (fa ga fb gb:Bool) (r s:Rat)  (dq:AV) (H :
  (J.okB r.num/\J.okB (↑s.den:Int)) /\
  (J.okB s.num/\J.okB (↑r.den:Int)) /\
  (J.okB (r.num*(↑s.den:Int))/\J.okB (s.num*(↑r.den:Int))) /\
  vi (J.sgnI (r.num*(↑s.den:Int)-s.num*(↑r.den:Int)))=dq) :
 rRCmp_at fa ga fb gb r s (Zag dq):=by
 unfold rRCmp_at
 obtain ⟨k1,k2,k3,H⟩:=H
 exact Zao (G:=Zad kp74 [(1,4,.call (bigA false (r.num*(↑s.den:Int))) none),(1,9,.call (bigA false (s.num*(↑r.den:Int))) none),(1,10,.call (vi (J.sgnI (r.num*(↑s.den:Int)-s.num*(↑r.den:Int)))) none)] []) 1000 [] (vi (J.sgnI (r.num*(↑s.den:Int)-s.num*(↑r.den:Int)))) (by kernel_rfl) (bc rfl (bc rfl (bc rfl (bc rfl b0)))) q0 (ce (@ev88 fa gb (r.num) ((↑s.den:Int)) k1) (ce (@ev88 fb ga (s.num) ((↑r.den:Int)) k2) (ce (@ev111 false false (r.num*(↑s.den:Int)) (s.num*(↑r.den:Int)) k3) c0))) H
theorem rRValid (fa ga:Bool) (p q:Int)  (dq:AV) (H :
  (J.ok p) /\
  (J.ok q) /\
  ((¬J.sgnI q=1)->vb false=dq) /\
  (¬(¬J.sgnI q=1)->(J.cnt p.natAbs<=399000/\J.cnt q.natAbs<=399000) /\
   ∃ (b1:Bool),
   (Ev M1 (Conf.pure 79 [bigA false (↑(p.gcd q):Int),ag [vb false,vf (us (J.Zab 1))]]) (vb b1) []) /\
   vb b1=dq)) :
 Zh0 fa ga p q (Zag dq):=by
 unfold Zh0
 obtain ⟨k1,k2,H⟩:=H
 refine Zae (G:=Zad kp27 [(1,2,.call (vb true) none),(1,7,.call (vb true) none),(1,13,.call (vi (J.sgnI q)) none)] []) 5 [] ⟨(atC (cd Tryz.f27) [1,0,1]),[(1,AV.ptr 0 0 0 0),(18,vb (J.sgnI q != 1))],[⟨[ag [vb (J.Zaa p),AV.vec fa 1 (us (J.Zab p)),vb (J.Zaa q),AV.vec ga 1 (us (J.Zab q))]],4,0,false,false⟩],_,[],_⟩ (by kernel_rfl) (bc rfl (bc rfl (bc rfl b0))) q0 (ce (@ev78 fa p k1) (ce (@ev78 ga q k2) (ce (@ev71 ga q) c0))) ?_
 rcases xq H with ⟨d4,H⟩|⟨d4,H⟩
 ·exact Zao (G:=Zad kp27 [] []) 1000 [true] (vb false) (by kernel_rfl) (bc (Zaq (i_ne.2 d4)) b0) q0 c0 H
 ·obtain ⟨k5,b1,k6,H⟩:=H
  exact Zao (G:=Zad kp27 [(3,4,.call (bigA false (↑(p.gcd q):Int)) none),(3,5,.call (ag [vb false,vf (us (J.Zab 1))]) none),(3,6,.call (vb b1) none)] []) 1000 [false] (vb b1) (by kernel_rfl) (bc (Zam (fun h=>d4 (i_ne.1 h))) (bc rfl (bc rfl b0))) q0 (ce (@ev80 fa ga p q k5) (ce (@ev81 ) (ce k6 c0))) H
noncomputable abbrev zNwH1 (t:Bool) (ga:Bool) (b:List Int):=ag [vb t,AV.vec ga 1 (us b)]
theorem rRValidA (s fa t ga:Bool) (a b:List Int)  (dq:AV) (H :
  (J.ZaB a.length) /\
  ((¬(¬(J.val s a=true)))->(J.ZaB b.length)) /\
  ∃ (n1:Int),
  ((¬((¬(J.val s a=true))\/(¬(J.val t b=true))))->(Ev M1 (Conf.pure 71 [ag [vb t,AV.vec ga 1 (us b)]]) (vi n1) [])) /\
  ((((¬(J.val s a=true))\/(¬(J.val t b=true)))\/(¬n1=1))->vb false=dq) /\
  (¬(((¬(J.val s a=true))\/(¬(J.val t b=true)))\/(¬n1=1)) -> ∃ (b1:Bool) (l1:List Int),
   (Ev M1 (Conf.pure 80 [ag [vb s,AV.vec fa 1 (us a)],ag [vb t,AV.vec ga 1 (us b)]]) (ag [vb b1,vf (us l1)]) []) /\
   ∃ (b2:Bool),
   (Ev M1 (Conf.pure 79 [ag [vb b1,vf (us l1)],ag [vb false,vf (us (J.Zab 1))]]) (vb b2) []) /\
   vb b2=dq)) :
 ZgE s fa t ga a b (Zag dq):=by
 unfold ZgE
 obtain ⟨k1,k3,n1,k5,H⟩:=H
 refine Zae (G:=Zad kp27 [(1,2,.call (vb (J.val s a)) none),(1,7,.call (vb (J.val t b)) none),(1,13,.call (vi n1) none)] []) 5 [] ⟨(atC (cd Tryz.f27) [1,0,1]),[(1,AV.ptr 0 0 0 0),(18,vb (bif bif !J.val s a then true else !J.val t b then true else n1 != 1))],[⟨[ag [vb s,AV.vec fa 1 (us a),vb t,AV.vec ga 1 (us b)]],4,0,false,false⟩],[true,!((!J.val s a)==false&&true)||true,!((bif !J.val s a then true else !J.val t b)==false&&true)||true],[],[⟨true,false,78,[ag [vb s,AV.vec fa 1 (us a)]],[],vb (J.val s a),[]⟩,⟨(!J.val s a)==false&&true&&true,false,78,[(zNwH1 t ga b)],[],vb (J.val t b),[]⟩,⟨(bif !J.val s a then true else !J.val t b)==false&&true&&true,false,71,[(zNwH1 t ga b)],[],vi n1,[]⟩]⟩ (by kernel_rfl) (bc rfl (bc (Bool.or_true _) (bc (Bool.or_true _) b0))) q0 (cc (fun _=>(@ev78_a s fa a k1)) (cc (fun hc=>((@ev78_a t ga b (k3 ((i_at (i_at (i_bf (ZaH (Zas _))))).1 hc))):Ev M1 (Conf.pure 78 [(zNwH1 t ga b)]) (vb (J.val t b)) [])) (cc (fun hc=>((k5 ((i_at (i_at (i_bf (ZaM (ZaH (Zas _)) (ZaH (Zas _)))))).1 hc)):Ev M1 (Conf.pure 71 [(zNwH1 t ga b)]) (vi n1) [])) c0))) ?_
 rcases xq H with ⟨d7,H⟩|⟨d7,H⟩
 ·exact Zao (G:=Zad kp27 [] []) 1000 [true] (asm:=[(bif bif !J.val s a then true else !J.val t b then true else n1 != 1)==true]) (vb false) (by kernel_rfl) (bc (Zaq ((ZaM (ZaM (ZaH (Zas _)) (ZaH (Zas _))) i_ne).2 d7)) b0) q0 c0 H
 ·obtain ⟨b1,l1,k8,b2,k9,H⟩:=H
  exact Zao (G:=Zad kp27 [(3,4,.call (ag [vb b1,vf (us l1)]) none),(3,5,.call (ag [vb false,vf (us (J.Zab 1))]) none),(3,6,.call (vb b2) none)] []) 1000 [false] (asm:=[(bif bif !J.val s a then true else !J.val t b then true else n1 != 1)==false,true,true]) (vb b2) (by kernel_rfl) (bc (Zam (fun h=>d7 ((ZaM (ZaM (ZaH (Zas _)) (ZaH (Zas _))) i_ne).1 h))) (bc rfl (bc rfl b0))) q0 (ce k8 (ce (@ev81 ) (ce k9 c0))) H
noncomputable abbrev zNwH2 (r:Rat):=bif !J.Zfh r.num then true else !J.Zfh (↑r.den:Int)
theorem rRSqrt (fa ga:Bool) (r:Rat)  (dq:AV) (H :
  (J.okS r.num) /\
  (J.okS (↑r.den:Int)) /\
  (((¬(J.Zfh r.num=true))\/(¬(J.Zfh (↑r.den:Int)=true)))->Weak (tu [ag [vb false,AV.vnil,vb false,AV.vnil],vb false]) dq) /\
  (¬((¬(J.Zfh r.num=true))\/(¬(J.Zfh (↑r.den:Int)=true)))->Weak (tu [ag [vb (J.Zaa (J.sq r.num)),vf (us (J.Zab (J.sq r.num))),vb (J.Zaa (J.sq (↑r.den:Int))),vf (us (J.Zab (J.sq (↑r.den:Int))))],vb true]) dq)) :
 rRSqrt_at fa ga r (Zag dq):=by
 unfold rRSqrt_at
 obtain ⟨k1,k2,H⟩:=H
 refine Zae (G:=Zad kp91 [(1,2,.call (tu [bigA false (J.sq r.num),vb (J.Zfh r.num)]) none),(2,2,.call (tu [bigA false (J.sq (↑r.den:Int)),vb (J.Zfh (↑r.den:Int))]) none)] []) 9 [] ⟨(atC (cd Tryz.f91) [1,1,1,0,1]),[(2,AV.ptr 1 0 0 0),(4,AV.ptr 2 0 0 0),(6,AV.ptr 3 0 0 0),(25,vb (zNwH2 r))],[⟨[ratA fa ga r],4,0,false,false⟩,⟨[ag [vb false,AV.vnil,vb false,AV.vnil]],4,0,false,false⟩,⟨[bigA false (J.sq r.num)],2,0,false,false⟩,⟨[bigA false (J.sq (↑r.den:Int))],2,0,false,false⟩],_,[],_⟩ (by kernel_rfl) (bc rfl (bc rfl (bc rfl (bc rfl b0)))) q0 (ce (@ev131 fa (r.num) k1) (ce (@ev131 ga ((↑r.den:Int)) k2) c0)) ?_
 rcases xq H with ⟨d4,H⟩|⟨d4,H⟩
 ·exact Zah (G:=Zad kp91 [] []) 1000 [true] (asm:=[(zNwH2 r)==true,true]) (tu [ag [vb false,AV.vnil,vb false,AV.vnil],vb false]) (by kernel_rfl) (bc (Zaq ((ZaM (ZaH (Zas _)) (ZaH (Zas _))).2 d4)) (bc rfl b0)) q0 c0 H
 ·exact Zah (G:=Zad kp91 [] []) 1000 [false] (asm:=[(zNwH2 r)==false,true,true,true]) (tu [ag [vb (J.Zaa (J.sq r.num)),vf (us (J.Zab (J.sq r.num))),vb (J.Zaa (J.sq (↑r.den:Int))),vf (us (J.Zab (J.sq (↑r.den:Int))))],vb true]) (by kernel_rfl) (bc (Zam (fun h=>d4 ((ZaM (ZaH (Zas _)) (ZaH (Zas _))).1 h))) (bc rfl (bc rfl (bc rfl b0)))) q0 c0 H
end Go.Av

namespace Go.Av
open Go.Proofs
set_option maxRecDepth 100000
end Go.Av

namespace Go.Av
open Go.Proofs
def J.okA (a b:List Int):Prop:=(a.length<=90000 /\ ∀ x ∈ a,0<=x)/\(b.length<=90000 /\ ∀ x ∈ b,0<=x)
noncomputable def J.Zct (s:Bool) (a:List Int) (t:Bool) (b:List Int):Bool:=@decide (J.valR s a t b) (Classical.propDecidable _)
theorem ZeS {s t:Bool} {a b:List Int}:J.Zct s a t b=true ↔ J.valR s a t b:=@decide_eq_true_iff _ (Classical.propDecidable _)
theorem Zfr {s t:Bool} {a b:List Int} (h:¬J.valR s a t b):J.Zct s a t b=false:=@decide_eq_false _ (Classical.propDecidable _) h
theorem valB_eq {s t c:Bool} {a b:List Int} (h:c=true ↔ J.valR s a t b):J.Zct s a t b=c:=by
 cases c with
 | true=>exact ZeS.2 (h.1 rfl)
 | false=>exact Zfr fun k=>absurd (h.2 k) (by simp)
theorem okA_big {p q:Int} (h:J.okA (J.Zab p) (J.Zab q)):J.cnt p.natAbs<=90000/\J.cnt q.natAbs<=90000:=by
 obtain ⟨⟨h1,_⟩,⟨h2,_⟩⟩:=h
 rw [ZaX] at h1 h2
 exact ⟨h1,h2⟩
theorem cnt_gcd {p q:Int} (h:q ≠ 0):J.cnt ((p.gcd q:Nat):Int).natAbs<=J.cnt q.natAbs:=
 ZaJ (Nat.le_of_dvd (by omega) (Int.gcd_dvd_natAbs_right p q))
end Go.Av

namespace Go.Av
open Go.Proofs
theorem ev84 (n:Int) (h:J.inI n):Ev M1 (.pure 84 [.int .i64 n]) (ratF (J.qi n)) []:=by
 rw [Ze2]
 refine call84 (rRFrom _ _ ⟨h,?_⟩)
 show Weak _ (AV.agg [.bool (J.Zaa (n:Rat).num),.vec false 1 ((J.Zab (n:Rat).num).map (.int .u32)),.bool (J.Zaa ((n:Rat).den:Int)),.vec false 1 ((J.Zab ((n:Rat).den:Int)).map (.int .u32))])
 rw [Rat.num_intCast,Rat.den_intCast]
 exact .refl _
theorem ev34 (fa ga fb gb:Bool) (r s:Rat) (h:J.okR r/\J.okR s):Ev M1 (.pure 34 [ratA fa ga r,ratA fb gb s]) (ratF (r+s)) []:=by
 obtain ⟨hr,hs⟩:=h
 obtain ⟨r1,r2⟩:=ZeJ hr
 obtain ⟨s1,s2⟩:=ZeJ hs
 obtain ⟨cr1,cr2⟩:=hr
 obtain ⟨cs1,cs2⟩:=hs
 have m1:=ZaZ cr1 (Za7 cs2)
 have m2:=ZaZ cs1 (Za7 cr2)
 have m3:=ZaZ (Za7 cr2) (Za7 cs2)
 have a1:=Zgi m1 m2
 refine call34 (rRAdd _ _ _ _ _ _ _ ⟨⟨r1,s2⟩,⟨s1,r2⟩,⟨by unfold J.okB;omega,by unfold J.okB;omega⟩,⟨r2,s2⟩,⟨by omega,by omega,Int.mul_ne_zero (Zb0 r) (Zb0 s)⟩,?_⟩)
 rw [rat_add];exact .refl _
theorem ev35 (fa ga fb gb:Bool) (r s:Rat) (h:J.okR r/\J.okR s):Ev M1 (.pure 35 [ratA fa ga r,ratA fb gb s]) (ratF (r*s)) []:=by
 obtain ⟨hr,hs⟩:=h
 obtain ⟨r1,r2⟩:=ZeJ hr
 obtain ⟨s1,s2⟩:=ZeJ hs
 obtain ⟨cr1,cr2⟩:=hr
 obtain ⟨cs1,cs2⟩:=hs
 have m1:=ZaZ cr1 cs1
 have m3:=ZaZ (Za7 cr2) (Za7 cs2)
 refine call35 (rRMul _ _ _ _ _ _ _ ⟨⟨r1,s1⟩,⟨r2,s2⟩,⟨by omega,by omega,Int.mul_ne_zero (Zb0 r) (Zb0 s)⟩,?_⟩)
 rw [ZgC];exact .refl _
theorem ev74 (fa ga fb gb:Bool) (r s:Rat) (h:J.okR r/\J.okR s):Ev M1 (.pure 74 [ratA fa ga r,ratA fb gb s]) (.int .i64 (J.sgnI (r.num*(s.den:Int)-s.num*(r.den:Int)))) []:=by
 obtain ⟨hr,hs⟩:=h
 obtain ⟨r1,r2⟩:=ZeJ hr
 obtain ⟨s1,s2⟩:=ZeJ hs
 obtain ⟨cr1,cr2⟩:=hr
 obtain ⟨cs1,cs2⟩:=hs
 have m1:=ZaZ cr1 (Za7 cs2)
 have m2:=ZaZ cs1 (Za7 cr2)
 exact call74 (rRCmp _ _ _ _ _ _ _ ⟨⟨r1,s2⟩,⟨s1,r2⟩,⟨by unfold J.okB;omega,by unfold J.okB;omega⟩,rfl⟩)
theorem inI_cnt {n:Int} (h:J.inI n):J.cnt n.natAbs<=3:=by
 unfold J.inI at h
 exact cnt_u64 (by omega)
theorem ev27 (s fa t ga:Bool) (a b:List Int) (h:J.okA a b):Ev M1 (.pure 27 [.agg [.bool s,.vec fa 1 (a.map (.int .u32)),.bool t,.vec ga 1 (b.map (.int .u32))]]) (.bool (J.Zct s a t b)) []:=by
 have hs:J.ZaB a.length/\J.ZaB b.length:=by
  obtain ⟨⟨h1,_⟩,⟨h2,_⟩⟩:=h
  unfold J.ZaB;omega
 by_cases hv:J.val s a=true/\J.val t b=true
 ·obtain ⟨p,rfl,rfl⟩:=val_big h.1.2 hv.1
  obtain ⟨q,rfl,rfl⟩:=val_big h.2.2 hv.2
  obtain ⟨o1,o2⟩:=okA_big h
  refine call27 (rRValid _ _ _ _ _ ⟨by unfold J.ok;omega,by unfold J.ok;omega,fun k => ?_,fun k=>⟨by omega,decide (((p.gcd q:Nat):Int)=1),ev79 _ _ _ 1 ⟨?_,by unfold J.ok;have:=Zd9 (n:=(1:Int).natAbs) (by decide);omega⟩,?_⟩⟩)
  ·rw [Zfr]
   rw [valR_pq]
   unfold J.sgnI at k
   (repeat' split at k) <;> omega
  ·have hq:0<q:=by
    unfold J.sgnI at k
    (repeat' split at k) <;> omega
   have:=cnt_gcd (p:=p) (q:=q) (by omega)
   unfold J.ok;omega
  ·congr 1
   refine (valB_eq ?_).symm
   have hq:0<q:=by
    unfold J.sgnI at k
    (repeat' split at k) <;> omega
   rw [valR_pq,decide_eq_true_iff]
   omega
 ·have hn:¬(J.valR s a t b):=fun k=>hv (valR_val k)
  have hv':¬J.val s a=true\/¬J.val t b=true:=by
   by_cases k:J.val s a=true
   ·exact .inr fun k2=>hv ⟨k,k2⟩
   ·exact .inl k
  refine call27 (rRValidA _ _ _ _ _ _ _ ⟨hs.1,fun _=>hs.2,0,fun k=>absurd hv' k,fun _ => ?_,fun k=>absurd (.inl hv') k⟩)
  rw [Zfr hn]
theorem ev91_y (fa ga:Bool) (r:Rat) (h:J.okR r) (k:J.rsq r):Ev M1 (.pure 91 [ratA fa ga r]) (.tup [ratF (J.rt r),.bool true]) []:=by
 obtain ⟨h1,h2⟩:=okR_S h
 obtain ⟨e1,e2⟩:=rt_num k
 refine call91 (rRSqrt _ _ _ _ ⟨h1,h2,fun x => ?_,fun _ => ?_⟩)
 ·rcases x with x | x
  ·exact absurd k.1 x
  ·exact absurd k.2 x
 ·show Weak _ (AV.tup [AV.agg [.bool (J.Zaa (J.rt r).num),.vec false 1 ((J.Zab (J.rt r).num).map (.int .u32)),.bool (J.Zaa ((J.rt r).den:Int)),.vec false 1 ((J.Zab ((J.rt r).den:Int)).map (.int .u32))],.bool true])
  rw [e1,e2];exact .refl _
theorem ev91_n (fa ga:Bool) (r:Rat) (h:J.okR r) (k:¬(J.rsq r)):Ev M1 (.pure 91 [ratA fa ga r]) (.tup [noR,.bool false]) []:=by
 obtain ⟨h1,h2⟩:=okR_S h
 refine call91 (rRSqrt _ _ _ _ ⟨h1,h2,fun _=>ZbH weak_nr (.refl _),fun x => ?_⟩)
 have x1:J.Zfh r.num=true:=Classical.byContradiction fun y=>x (.inl y)
 have x2:J.Zfh (r.den:Int)=true:=Classical.byContradiction fun y=>x (.inr y)
 exact absurd ⟨x1,x2⟩ k
end Go.Av

namespace Go.Av
open Go.Proofs
set_option maxRecDepth 100000
def fi28:Fi:=⟨9,[.cell 4 26]⟩
def kp28:List (Nat × List Nat):=[(0,[2,3,4]),(1,[4])]
def rRSub_at (fa ga fb gb:Bool) (r s:Rat) (Q:AV->Heap->Prop):Prop:=Wp M1 (.run fi28 (atC (cd Tryz.f28) []) [(0,ratA fa ga r),(1,ratA fb gb s)] []) Q
theorem call28 {args:List AV} {d:AV} (h:wc M1 fi28 Tryz.f28 args d):Ev M1 (.pure 28 args) d []:=pcl _ _ (by kernel_rfl) h
theorem rRSub (fa ga fb gb:Bool) (r s:Rat)  (dq:AV) (H :
  (J.ok s.num) /\
  (J.okR r/\J.okR (-s)) /\
  Weak (ratF (r + -s)) dq) :
 rRSub_at fa ga fb gb r s (Zag dq):=by
 unfold rRSub_at
 obtain ⟨k1,k2,H⟩:=H
 exact Zah (G:=Zad kp28 [(1,2,.call (ratF (-s)) none),(1,3,.call (ratF (r + -s)) none)] []) 1000 [] (ratF (r + -s)) (by kernel_rfl) (bc rfl (bc rfl (bc rfl b0))) q0 (ce (@ev82 fb gb s k1) (ce (@ev34 fa ga false false r (-s) k2) c0)) H
end Go.Av

namespace Go.Av
open Go.Proofs
noncomputable def J.Zez (n:Int) (s:Bool) (a:List Int) (t:Bool) (b:List Int):Bool:=bif bif decide ((a.length:Int)<=n) then decide ((b.length:Int)<=n) else false then J.Zct s a t b else false
theorem ZhV {n:Int} {s t:Bool} {a b:List Int}:J.Zez n s a t b=true ↔ (a.length:Int)<=n/\(b.length:Int)<=n/\J.valR s a t b:=by
 unfold J.Zez
 by_cases h1:(a.length:Int)<=n
 ·rw [decide_eq_true h1,cond_true]
  by_cases h2:(b.length:Int)<=n
  ·rw [decide_eq_true h2,cond_true,ZeS]
   exact ⟨fun h=>⟨h1,h2,h⟩,fun h=>h.2.2⟩
  ·rw [decide_eq_false h2,cond_false]
   exact ⟨fun h=>absurd h (by simp),fun h=>absurd h.2.1 h2⟩
 ·rw [decide_eq_false h1,cond_false,cond_false]
  exact ⟨fun h=>absurd h (by simp),fun h=>absurd h.1 h1⟩
theorem ev28 (fa ga fb gb:Bool) (r s:Rat) (h:J.okR r/\J.okR s):Ev M1 (.pure 28 [ratA fa ga r,ratA fb gb s]) (ratF (r-s)) []:=by
 refine call28 (rRSub _ _ _ _ _ _ _ ⟨?_,⟨h.1,okR_neg h.2⟩,?_⟩)
 ·have:=h.2.1;unfold J.ok;omega
 ·rw [<- Rat.sub_eq_add_neg];exact .refl _
end Go.Av

namespace Go.Av
open Go.Proofs
set_option maxRecDepth 100000
def fi154:Fi:=⟨6,[.cell 2 26]⟩
def kp154:List (Nat × List Nat):=[(0,[1,2]),(1,[2])]
def fi166:Fi:=⟨2,[.cell 0 26]⟩
def kp166:List (Nat × List Nat):=[(0,[0]),(1,[0])]
def fi172:Fi:=⟨2,[.cell 0 26]⟩
def kp172:List (Nat × List Nat):=[(0,[0]),(1,[0])]
def fi173:Fi:=⟨26,[.cell 4 26,.tmp 5]⟩
def kp173:List (Nat × List Nat):=[(0,[2,3,4]),(1,[2,3,4,9]),(2,[4,5]),(3,[4,5])]
def oZero_at  (Q:AV->Heap->Prop):Prop:=Wp M1 (.run fi166 (atC (cd Tryz.f166) []) [] []) Q
def pZero_at  (Q:AV->Heap->Prop):Prop:=Wp M1 (.run fi172 (atC (cd Tryz.f172) []) [] []) Q
def Zh4 (f1 f2:Bool) (a:Rat) (Q:AV->Heap->Prop):Prop:=Wp M1 (.run fi154 (atC (cd Tryz.f154) []) [(0,ratA f1 f2 a)] []) Q
def Zh5 (f1 f2 f3 f4 f5 f6 g1 g2 g3 g4 g5 g6:Bool) (a b c x y z:Rat) (Q:AV->Heap->Prop):Prop:=Wp M1 (.run fi173 (atC (cd Tryz.f173) []) [(0,.agg [.bool (J.Zaa a.num),.vec f1 1 ((J.Zab a.num).map (.int .u32)),.bool (J.Zaa (a.den:Int)),.vec f2 1 ((J.Zab (a.den:Int)).map (.int .u32)),.bool (J.Zaa b.num),.vec f3 1 ((J.Zab b.num).map (.int .u32)),.bool (J.Zaa (b.den:Int)),.vec f4 1 ((J.Zab (b.den:Int)).map (.int .u32)),.bool (J.Zaa c.num),.vec f5 1 ((J.Zab c.num).map (.int .u32)),.bool (J.Zaa (c.den:Int)),.vec f6 1 ((J.Zab (c.den:Int)).map (.int .u32))]),(1,.agg [.bool (J.Zaa x.num),.vec g1 1 ((J.Zab x.num).map (.int .u32)),.bool (J.Zaa (x.den:Int)),.vec g2 1 ((J.Zab (x.den:Int)).map (.int .u32)),.bool (J.Zaa y.num),.vec g3 1 ((J.Zab y.num).map (.int .u32)),.bool (J.Zaa (y.den:Int)),.vec g4 1 ((J.Zab (y.den:Int)).map (.int .u32)),.bool (J.Zaa z.num),.vec g5 1 ((J.Zab z.num).map (.int .u32)),.bool (J.Zaa (z.den:Int)),.vec g6 1 ((J.Zab (z.den:Int)).map (.int .u32))])] []) Q
theorem call154 {args:List AV} {d:AV} (h:wc M1 fi154 Tryz.f154 args d):Ev M1 (.pure 154 args) d []:=pcl _ _ (by kernel_rfl) h
theorem call166 {args:List AV} {d:AV} (h:wc M1 fi166 Tryz.f166 args d):Ev M1 (.pure 166 args) d []:=pcl _ _ (by kernel_rfl) h
theorem call172 {args:List AV} {d:AV} (h:wc M1 fi172 Tryz.f172 args d):Ev M1 (.pure 172 args) d []:=pcl _ _ (by kernel_rfl) h
theorem call173 {args:List AV} {d:AV} (h:wc M1 fi173 Tryz.f173 args d):Ev M1 (.pure 173 args) d []:=pcl _ _ (by kernel_rfl) h
theorem oZero   (dq:AV) (H :
  (J.inI 0) /\
  Weak (ratF (J.qi 0)) dq) :
 oZero_at  (Zag dq):=by
 unfold oZero_at
 obtain ⟨k1,H⟩:=H
 exact Zah (G:=Zad kp166 [(1,0,.call (ratF (J.qi 0)) none)] []) 1000 [] (ratF (J.qi 0)) (by kernel_rfl) (bc rfl b0) q0 (ce (@ev75 0 k1) c0) H
theorem pZero   (dq:AV) (H :
  (J.inI 0) /\
  Weak (ratF (J.qi 0)) dq) :
 pZero_at  (Zag dq):=by
 unfold pZero_at
 obtain ⟨k1,H⟩:=H
 exact Zah (G:=Zad kp172 [(1,0,.call (ratF (J.qi 0)) none)] []) 1000 [] (ratF (J.qi 0)) (by kernel_rfl) (bc rfl b0) q0 (ce (@ev84 0 k1) c0) H
theorem pSquare (f1 f2:Bool) (a:Rat)  (dq:AV) (H :
  (J.okR a/\J.okR a) /\
  Weak (ratF (a*a)) dq) :
 Zh4 f1 f2 a (Zag dq):=by
 unfold Zh4
 obtain ⟨k1,H⟩:=H
 exact Zah (G:=Zad kp154 [(1,2,.call (ratF (a*a)) none)] []) 1000 [] (ratF (a*a)) (by kernel_rfl) (bc rfl (bc rfl (bc rfl b0))) q0 (ce (@ev35 f1 f2 f1 f2 a a k1) c0) H
theorem pCommon (f1 f2 f3 f4 f5 f6 g1 g2 g3 g4 g5 g6:Bool) (a b c x y z:Rat)  (dq:AV) (H :
  ((J.sgnI b.num=0)->Weak (tu [ratA g5 g6 z,vb true]) dq) /\
  (¬(J.sgnI b.num=0)->((¬(J.sgnI y.num=0))->(J.okR c/\J.okR z)) /\
   Weak (tu [ratA f5 f6 c,vb (bif J.sgnI y.num==0 then true else J.sgnI (c.num*(↑z.den:Int)-z.num*(↑c.den:Int))==0)]) dq)) :
 Zh5 f1 f2 f3 f4 f5 f6 g1 g2 g3 g4 g5 g6 a b c x y z (Zag dq):=by
 unfold Zh5
 refine Zae (G:=Zad kp173 [(1,2,.call (vi (J.sgnI b.num)) none)] []) 5 [] ⟨(atC (cd Tryz.f173) [1,0,1]),[(2,AV.ptr 0 0 0 0),(3,AV.ptr 1 0 0 0),(4,AV.ptr 2 0 0 0),(9,vb (J.sgnI b.num==0))],[⟨[ag [vb (J.Zaa a.num),AV.vec f1 1 (us (J.Zab a.num)),vb (J.Zaa (↑a.den:Int)),AV.vec f2 1 (us (J.Zab (↑a.den:Int))),vb (J.Zaa b.num),AV.vec f3 1 (us (J.Zab b.num)),vb (J.Zaa (↑b.den:Int)),AV.vec f4 1 (us (J.Zab (↑b.den:Int))),vb (J.Zaa c.num),AV.vec f5 1 (us (J.Zab c.num)),vb (J.Zaa (↑c.den:Int)),AV.vec f6 1 (us (J.Zab (↑c.den:Int)))]],12,0,false,false⟩,⟨[ag [vb (J.Zaa x.num),AV.vec g1 1 (us (J.Zab x.num)),vb (J.Zaa (↑x.den:Int)),AV.vec g2 1 (us (J.Zab (↑x.den:Int))),vb (J.Zaa y.num),AV.vec g3 1 (us (J.Zab y.num)),vb (J.Zaa (↑y.den:Int)),AV.vec g4 1 (us (J.Zab (↑y.den:Int))),vb (J.Zaa z.num),AV.vec g5 1 (us (J.Zab z.num)),vb (J.Zaa (↑z.den:Int)),AV.vec g6 1 (us (J.Zab (↑z.den:Int)))]],12,0,false,false⟩,⟨[ag [vb false,AV.vnil,vb false,AV.vnil]],4,0,false,false⟩],_,[],_⟩ (by kernel_rfl) (bc rfl b0) q0 (ce (@ev20 f3 f4 (b.num) ((↑b.den:Int))) c0) ?_
 rcases xq H with ⟨d2,H⟩|⟨d2,H⟩
 ·exact Zah (G:=Zad kp173 [] []) 1000 [true] (tu [ratA g5 g6 z,vb true]) (by kernel_rfl) (bc (Zaq (i_eq.2 d2)) (bc rfl (bc rfl b0))) q0 c0 H
 ·obtain ⟨k4,H⟩:=H
  exact Zah (G:=Zad kp173 [(3,4,.call (vi (J.sgnI y.num)) none),(3,11,.call (vi (J.sgnI (c.num*(↑z.den:Int)-z.num*(↑c.den:Int)))) none)] []) 1000 [false] (asm:=[(J.sgnI b.num==0)==false,true,true,!((J.sgnI y.num==0)==false&&true)||true,!((J.sgnI y.num==0)==false&&true)||true,true]) (calls:=[⟨true,false,20,[ratA g3 g4 y],[],vi (J.sgnI y.num),[]⟩,⟨(J.sgnI y.num==0)==false&&true&&true,false,74,[ratA f5 f6 c,ratA g5 g6 z],[],vi (J.sgnI (c.num*(↑z.den:Int)-z.num*(↑c.den:Int))),[]⟩]) (tu [ratA f5 f6 c,vb (bif J.sgnI y.num==0 then true else J.sgnI (c.num*(↑z.den:Int)-z.num*(↑c.den:Int))==0)]) (by kernel_rfl) (bc (Zam (fun h=>d2 (i_eq.1 h))) (bc rfl (bc rfl (bc (Bool.or_true _) (bc (Bool.or_true _) (bc rfl b0)))))) q0 (cc (fun _=>(@ev20 g3 g4 (y.num) ((↑y.den:Int)))) (cc (fun hc=>((@ev74 f5 f6 g5 g6 c z (k4 ((i_at (i_at (i_bf i_eq))).1 hc))):Ev M1 (Conf.pure 74 [ratA f5 f6 c,ratA g5 g6 z]) (vi (J.sgnI (c.num*(↑z.den:Int)-z.num*(↑c.den:Int)))) [])) c0)) H
end Go.Av

namespace Go.Av
open Go.Proofs
abbrev Zaw (f1 f2 f3 f4 f5 f6:Bool) (a b c:Rat):AV:=.agg [.bool (J.Zaa a.num),.vec f1 1 ((J.Zab a.num).map (.int .u32)),.bool (J.Zaa (a.den:Int)),.vec f2 1 ((J.Zab (a.den:Int)).map (.int .u32)),.bool (J.Zaa b.num),.vec f3 1 ((J.Zab b.num).map (.int .u32)),.bool (J.Zaa (b.den:Int)),.vec f4 1 ((J.Zab (b.den:Int)).map (.int .u32)),.bool (J.Zaa c.num),.vec f5 1 ((J.Zab c.num).map (.int .u32)),.bool (J.Zaa (c.den:Int)),.vec f6 1 ((J.Zab (c.den:Int)).map (.int .u32))]
abbrev Zau (a b c:Rat):AV:=Zaw false false false false false false a b c
theorem weak_rf {f1 f2:Bool} (a:Rat):Weak (ratA f1 f2 a) (ratF a):=Zds _ _ _ _ _ _
theorem ZcQ {f1 f2 f3 f4 f5 f6:Bool} (a b c:Rat):Weak (Zaw f1 f2 f3 f4 f5 f6 a b c) (Zau a b c):=by
 refine .agg _ _ rfl fun i x y hx hy => ?_
 match i with
 | 0=>simp at hx hy;subst hx;subst hy;exact .refl _
 | 1=>simp at hx hy;subst hx;subst hy;exact Zbv _ _ _
 | 2=>simp at hx hy;subst hx;subst hy;exact .refl _
 | 3=>simp at hx hy;subst hx;subst hy;exact Zbv _ _ _
 | 4=>simp at hx hy;subst hx;subst hy;exact .refl _
 | 5=>simp at hx hy;subst hx;subst hy;exact Zbv _ _ _
 | 6=>simp at hx hy;subst hx;subst hy;exact .refl _
 | 7=>simp at hx hy;subst hx;subst hy;exact Zbv _ _ _
 | 8=>simp at hx hy;subst hx;subst hy;exact .refl _
 | 9=>simp at hx hy;subst hx;subst hy;exact Zbv _ _ _
 | 10=>simp at hx hy;subst hx;subst hy;exact .refl _
 | 11=>simp at hx hy;subst hx;subst hy;exact Zbv _ _ _
 | i+12=>simp at hx
theorem Zc6 {r:Rat}:J.sgnI r.num=0 ↔ r=0:=by rw [ZbK,Rat.num_eq_zero]
def J.okT (k:Nat) (r:Rat):Prop:=J.cnt r.num.natAbs<=k/\J.cnt r.den<=k
theorem Zaj {k:Nat} {r:Rat} (h:J.okT k r) (hk:k<=90000):J.okR r:=⟨Nat.le_trans h.1 hk,Nat.le_trans h.2 hk⟩
theorem Zar {k m:Nat} {r:Rat} (h:J.okT k r) (hk:k<=m):J.okT m r:=⟨Nat.le_trans h.1 hk,Nat.le_trans h.2 hk⟩
theorem Zhg {p q:Int} (hq:q ≠ 0):(Rat.divInt p q).num.natAbs<=p.natAbs/\(Rat.divInt p q).den<=q.natAbs:=by
 by_cases h:0<q
 ·obtain ⟨e1,e2⟩:=Zfv (a:=p) h
  have e3:(Rat.divInt p q).den=((q / ((p.gcd q:Nat):Int))).natAbs:=by omega
  rw [e1,e3]
  refine ⟨?_,?_⟩
  ·rw [Int.natAbs_ediv_of_dvd (Int.gcd_dvd_left ..)];exact Nat.div_le_self _ _
  ·rw [Int.natAbs_ediv_of_dvd (Int.gcd_dvd_right ..)];exact Nat.div_le_self _ _
 ·obtain ⟨e1,e2⟩:=rat_neg (a:=p) (b:=q) (by omega)
  have e3:(Rat.divInt p q).den=((-q / (((-p).gcd (-q):Nat):Int))).natAbs:=by omega
  rw [e1,e3]
  refine ⟨?_,?_⟩
  ·rw [Int.natAbs_ediv_of_dvd (Int.gcd_dvd_left ..),Int.natAbs_neg];exact Nat.div_le_self _ _
  ·rw [Int.natAbs_ediv_of_dvd (Int.gcd_dvd_right ..),Int.natAbs_neg];exact Nat.div_le_self _ _
theorem Zaf {k m:Nat} {r s:Rat} (h:J.okT k r) (h2:J.okT m s):J.okT (k+m) (r*s):=by
 have e:=Zhg (p:=r.num*s.num) (q:=(r.den:Int)*(s.den:Int)) (Int.mul_ne_zero (Zb0 r) (Zb0 s))
 rw [ZgC] at e
 refine ⟨Nat.le_trans (ZaJ e.1) (ZaZ h.1 h2.1),Nat.le_trans (ZaJ e.2) (ZaZ (Za7 h.2) (Za7 h2.2))⟩
theorem ZaC {k m:Nat} {r s:Rat} (h:J.okT k r) (h2:J.okT m s):J.okT (k+m+1) (r+s):=by
 have e:=Zhg (p:=r.num*(s.den:Int)+s.num*(r.den:Int)) (q:=(r.den:Int)*(s.den:Int)) (Int.mul_ne_zero (Zb0 r) (Zb0 s))
 rw [rat_add] at e
 have m1:=ZaZ h.1 (Za7 h2.2)
 have m2:=ZaZ h2.1 (Za7 h.2)
 have m3:=ZaZ (Za7 h.2) (Za7 h2.2)
 have:=Zgi m1 (Nat.le_trans m2 (by omega))
 exact ⟨Nat.le_trans (ZaJ e.1) this,Nat.le_trans (ZaJ e.2) (Nat.le_trans m3 (by omega))⟩
theorem Zbe {k:Nat} {r:Rat} (h:J.okT k r):J.okT k (-r):=by
 unfold J.okT
 rw [Rat.neg_num,Rat.neg_den,Int.natAbs_neg];exact h
theorem Zax {k m:Nat} {r s:Rat} (h:J.okT k r) (h2:J.okT m s):J.okT (k+m+1) (r-s):=by
 rw [Rat.sub_eq_add_neg];exact ZaC h (Zbe h2)
theorem ZgL {k:Nat} {r:Rat} (h:J.rsq r) (hr:J.okT k r):J.okT k (J.rt r):=by
 obtain ⟨e1,e2⟩:=rt_num h
 obtain ⟨a1,a2⟩:=hr
 have h1:=(sq_le ((Zc2 _).1 h.1).1).2
 have h2:=(sq_le ((Zc2 _).1 h.2).1).2
 unfold J.okT
 rw [e1]
 have:(J.rt r).den=(J.sq (r.den:Int)).natAbs:=by omega
 rw [this]
 exact ⟨Nat.le_trans (ZaJ h1) a1,Nat.le_trans (ZaJ h2) a2⟩
theorem okT_int {n:Int} (h:J.inI n):J.okT 3 (J.qi n):=by
 rw [Ze2]
 unfold J.okT
 rw [Rat.num_intCast,Rat.den_intCast]
 exact ⟨inI_cnt h,by have:=Zd9 (n:=1) (by decide);omega⟩
theorem okT_zero:J.okT 1 (0:Rat):=by
 have h0:J.cnt ((0:Rat).num.natAbs)=0:=Zbq
 have h1:=Zd9 (n:=1) (by decide)
 have h2:(0:Rat).den=1:=rfl
 unfold J.okT
 rw [h0,h2]
 omega
theorem ev166:Ev M1 (.pure 166 []) (ratF (J.qi 0)) []:=
 call166 (oZero _ ⟨by unfold J.inI;omega,.refl _⟩)
theorem ev172:Ev M1 (.pure 172 []) (ratF (J.qi 0)) []:=
 call172 (pZero _ ⟨by unfold J.inI;omega,.refl _⟩)
def J.okO (a b c:Rat):Prop:=J.okT 9000 a/\J.okT 9000 b/\J.okT 9000 c
def J.okP (a b:Rat):Prop:=J.okT 9000 a/\J.okT 9000 b
def J.com (b c z:Rat):Rat:=if b=0 then z else c
def J.Zc7 (b c y z:Rat):Prop:=b=0\/y=0\/c=z
instance (b c y z:Rat):Decidable (J.Zc7 b c y z):=inferInstanceAs (Decidable (_\/_))
theorem cross {c z:Rat}:J.sgnI (c.num*(z.den:Int)-z.num*(c.den:Int))=0 ↔ c=z:=by
 rw [ZbK]
 constructor
 ·intro h
  have h1:c.num*(z.den:Int)=z.num*(c.den:Int):=by omega
  have e:=(Rat.divInt_eq_divInt_iff (Zb0 c) (Zb0 z)).2 h1
  rwa [Rat.num_divInt_den,Rat.num_divInt_den] at e
 ·intro h;subst h;omega
theorem com_bool (c y z:Rat):(bif J.sgnI y.num==0 then true else J.sgnI (c.num*(z.den:Int)-z.num*(c.den:Int))==0)=decide (y=0\/c=z):=by
 by_cases h:y=0
 ·rw [show (J.sgnI y.num==0)=true from beq_iff_eq.2 (Zc6.2 h),cond_true,decide_eq_true (.inl h)]
 ·rw [show (J.sgnI y.num==0)=false from beq_eq_false_iff_ne.2 fun k=>h (Zc6.1 k),cond_false]
  by_cases k:c=z
  ·rw [decide_eq_true (.inr k)];exact beq_iff_eq.2 (cross.2 k)
  ·rw [decide_eq_false (fun x=>x.elim h k)];exact beq_eq_false_iff_ne.2 fun x=>k (cross.1 x)
theorem ev173 (f1 f2 f3 f4 f5 f6 g1 g2 g3 g4 g5 g6:Bool) (a b c x y z:Rat) (h:J.okP c z):Ev M1 (.pure 173 [Zaw f1 f2 f3 f4 f5 f6 a b c,Zaw g1 g2 g3 g4 g5 g6 x y z]) (.tup [ratF (J.com b c z),.bool (decide (J.Zc7 b c y z))]) []:=by
 refine call173 (pCommon _ _ _ _ _ _ _ _ _ _ _ _ _ _ _ _ _ _ _ ⟨fun k => ?_,fun k=>⟨fun _=>⟨Zaj h.1 (by omega),Zaj h.2 (by omega)⟩,?_⟩⟩)
 ·have k:=Zc6.1 k
  rw [show J.com b c z=z from if_pos k,decide_eq_true (show J.Zc7 b c y z from .inl k)]
  exact ZbH (weak_rf z) (.refl _)
 ·have k:¬b=0:=fun e=>k (Zc6.2 e)
  rw [show J.com b c z=c from if_neg k,com_bool]
  have:decide (J.Zc7 b c y z)=decide (y=0\/c=z):=by
   unfold J.Zc7
   congr 1
   exact propext ⟨fun x=>x.resolve_left k,.inr⟩
  rw [this]
  exact ZbH (weak_rf c) (.refl _)
theorem ev154 (f1 f2:Bool) (a:Rat) (h:J.okR a):Ev M1 (.pure 154 [ratA f1 f2 a]) (ratF (a*a)) []:=
 call154 (pSquare _ _ _ _ ⟨⟨h,h⟩,.refl _⟩)
end Go.Av

namespace Go.Av
open Go.Proofs
set_option maxRecDepth 100000
def fi123:Fi:=⟨13,[.cell 2 26]⟩
def kp123:List (Nat × List Nat):=[(0,[1,2]),(1,[2])]
def fi132:Fi:=⟨14,[.cell 4 98]⟩
def kp132:List (Nat × List Nat):=[(0,[2,3,4]),(1,[4])]
def fi142:Fi:=⟨7,[.cell 2 98]⟩
def kp142:List (Nat × List Nat):=[(0,[1,2]),(1,[2])]
def fi143:Fi:=⟨15,[.cell 6 98]⟩
def kp143:List (Nat × List Nat):=[(0,[3,4,5,6]),(1,[3,4,5,6,9]),(2,[3,4,5,6]),(3,[6])]
def fi155:Fi:=⟨7,[.cell 2 98]⟩
def kp155:List (Nat × List Nat):=[(0,[1,2]),(1,[2])]
def oFrom_at (f1 f2:Bool) (a:Rat) (Q:AV->Heap->Prop):Prop:=Wp M1 (.run fi142 (atC (cd Tryz.f142) []) [(0,ratA f1 f2 a)] []) Q
def pFrom_at (f1 f2:Bool) (a:Rat) (Q:AV->Heap->Prop):Prop:=Wp M1 (.run fi155 (atC (cd Tryz.f155) []) [(0,ratA f1 f2 a)] []) Q
def oRed_at (f1 f2 f3 f4 f5 f6:Bool) (a b c:Rat) (Q:AV->Heap->Prop):Prop:=Wp M1 (.run fi143 (atC (cd Tryz.f143) []) [(0,ratA f1 f2 a),(1,ratA f3 f4 b),(2,ratA f5 f6 c)] []) Q
def pNorm_at (f1 f2 f3 f4 f5 f6:Bool) (a b c:Rat) (Q:AV->Heap->Prop):Prop:=Wp M1 (.run fi123 (atC (cd Tryz.f123) []) [(0,Zaw f1 f2 f3 f4 f5 f6 a b c)] []) Q
def Zh6 (f1 f2 f3 f4 f5 f6:Bool) (k l:Bool) (a b c r:Rat) (Q:AV->Heap->Prop):Prop:=Wp M1 (.run fi132 (atC (cd Tryz.f132) []) [(0,Zaw f1 f2 f3 f4 f5 f6 a b c),(1,ratA k l r)] []) Q
theorem call123 {args:List AV} {d:AV} (h:wc M1 fi123 Tryz.f123 args d):Ev M1 (.pure 123 args) d []:=pcl _ _ (by kernel_rfl) h
theorem call132 {args:List AV} {d:AV} (h:wc M1 fi132 Tryz.f132 args d):Ev M1 (.pure 132 args) d []:=pcl _ _ (by kernel_rfl) h
theorem call142 {args:List AV} {d:AV} (h:wc M1 fi142 Tryz.f142 args d):Ev M1 (.pure 142 args) d []:=pcl _ _ (by kernel_rfl) h
theorem call143 {args:List AV} {d:AV} (h:wc M1 fi143 Tryz.f143 args d):Ev M1 (.pure 143 args) d []:=pcl _ _ (by kernel_rfl) h
theorem call155 {args:List AV} {d:AV} (h:wc M1 fi155 Tryz.f155 args d):Ev M1 (.pure 155 args) d []:=pcl _ _ (by kernel_rfl) h
theorem oFrom (f1 f2:Bool) (a:Rat)  (dq:AV) (H :
  Weak (Zaw f1 f2 false false false false a (J.qi 0) (J.qi 0)) dq) :
 oFrom_at f1 f2 a (Zag dq):=by
 unfold oFrom_at
 exact Zah (G:=Zad kp142 [(1,1,.call (ratF (J.qi 0)) none),(1,2,.call (ratF (J.qi 0)) none)] []) 1000 [] (Zaw f1 f2 false false false false a (J.qi 0) (J.qi 0)) (by kernel_rfl) (bc rfl (bc rfl b0)) q0 (ce (@ev166 ) (ce (@ev166 ) c0)) H
theorem pFrom (f1 f2:Bool) (a:Rat)  (dq:AV) (H :
  Weak (Zaw f1 f2 false false false false a (J.qi 0) (J.qi 0)) dq) :
 pFrom_at f1 f2 a (Zag dq):=by
 unfold pFrom_at
 exact Zah (G:=Zad kp155 [(1,1,.call (ratF (J.qi 0)) none),(1,2,.call (ratF (J.qi 0)) none)] []) 1000 [] (Zaw f1 f2 false false false false a (J.qi 0) (J.qi 0)) (by kernel_rfl) (bc rfl (bc rfl b0)) q0 (ce (@ev172 ) (ce (@ev172 ) c0)) H
theorem oRed (f1 f2 f3 f4 f5 f6:Bool) (a b c:Rat)  (dq:AV) (H :
  ((J.sgnI b.num=0)->Weak (Zaw f1 f2 f3 f4 false false a b (J.qi 0)) dq) /\
  (¬(J.sgnI b.num=0)->Weak (Zaw f1 f2 f3 f4 f5 f6 a b c) dq)) :
 oRed_at f1 f2 f3 f4 f5 f6 a b c (Zag dq):=by
 unfold oRed_at
 refine Zae (G:=Zad kp143 [(1,1,.call (vi (J.sgnI b.num)) none)] []) 5 [] ⟨(atC (cd Tryz.f143) [1,0,1]),[(3,AV.ptr 0 0 0 0),(4,AV.ptr 1 0 0 0),(5,AV.ptr 2 0 0 0),(6,AV.ptr 3 0 0 0),(9,vb (J.sgnI b.num==0))],[⟨[ratA f1 f2 a],4,0,false,false⟩,⟨[ratA f3 f4 b],4,0,false,false⟩,⟨[ratA f5 f6 c],4,0,false,false⟩,⟨[ag [vb false,AV.vnil,vb false,AV.vnil,vb false,AV.vnil,vb false,AV.vnil,vb false,AV.vnil,vb false,AV.vnil]],12,0,false,false⟩],_,[],_⟩ (by kernel_rfl) (bc rfl b0) q0 (ce (@ev54 f3 f4 (b.num) ((↑b.den:Int))) c0) ?_
 rcases xq H with ⟨d2,H⟩|⟨d2,H⟩
 ·exact Zah (G:=Zad kp143 [(2,0,.call (ratF (J.qi 0)) none)] []) 1000 [true] (asm:=[(J.sgnI b.num==0)==true,0==0,true,true,true,true]) (Zaw f1 f2 f3 f4 false false a b (J.qi 0)) (by kernel_rfl) (bc (Zaq (i_eq.2 d2)) (bc (beq_self_eq_true _) (bc rfl (bc rfl (bc rfl (bc rfl b0)))))) q0 (ce (@ev166 ) c0) H
 ·exact Zah (G:=Zad kp143 [] []) 1000 [false] (Zaw f1 f2 f3 f4 f5 f6 a b c) (by kernel_rfl) (bc (Zam (fun h=>d2 (i_eq.1 h))) (bc rfl (bc rfl (bc rfl (bc rfl b0))))) q0 c0 H
theorem pNorm (f1 f2 f3 f4 f5 f6:Bool) (a b c:Rat)  (dq:AV) (H :
  (J.okR a) /\
  (J.okR b) /\
  (J.okR (b*b)/\J.okR c) /\
  (J.okR (a*a)/\J.okR (b*b*c)) /\
  Weak (ratF (a*a-b*b*c)) dq) :
 pNorm_at f1 f2 f3 f4 f5 f6 a b c (Zag dq):=by
 unfold pNorm_at
 obtain ⟨k1,k2,k3,k4,H⟩:=H
 exact Zah (G:=Zad kp123 [(1,2,.call (ratF (a*a)) none),(1,5,.call (ratF (b*b)) none),(1,8,.call (ratF (b*b*c)) none),(1,9,.call (ratF (a*a-b*b*c)) none)] []) 1000 [] (ratF (a*a-b*b*c)) (by kernel_rfl) (bc rfl (bc rfl (bc rfl (bc rfl b0)))) q0 (ce (@ev154 f1 f2 a k1) (ce (@ev154 f3 f4 b k2) (ce (@ev35 false false f5 f6 (b*b) c k3) (ce (@ev28 false false false false (a*a) (b*b*c) k4) c0)))) H
theorem pAddRat (f1 f2 f3 f4 f5 f6:Bool) (k l:Bool) (a b c r:Rat)  (dq:AV) (H :
  (J.okR a/\J.okR r) /\
  Weak (Zaw false false f3 f4 f5 f6 (a+r) b c) dq) :
 Zh6 f1 f2 f3 f4 f5 f6 k l a b c r (Zag dq):=by
 unfold Zh6
 obtain ⟨k1,H⟩:=H
 exact Zah (G:=Zad kp132 [(1,3,.call (ratF (a+r)) none)] []) 1000 [] (Zaw false false f3 f4 f5 f6 (a+r) b c) (by kernel_rfl) (bc rfl (bc rfl (bc rfl (bc rfl (bc rfl b0))))) q0 (ce (@ev34 f1 f2 k l a r k1) c0) H
end Go.Av

namespace Go.Av
open Go.Proofs
theorem ev142 (f1 f2:Bool) (a:Rat):Ev M1 (.pure 142 [ratA f1 f2 a]) (Zau a (J.qi 0) (J.qi 0)) []:=
 call142 (oFrom _ _ _ _ (ZcQ a (J.qi 0) (J.qi 0)))
theorem ev155 (f1 f2:Bool) (a:Rat):Ev M1 (.pure 155 [ratA f1 f2 a]) (Zau a (J.qi 0) (J.qi 0)) []:=
 call155 (pFrom _ _ _ _ (ZcQ a (J.qi 0) (J.qi 0)))
noncomputable def J.rad (b c:Rat):Rat:=if b=0 then J.qi 0 else c
theorem ev143 (f1 f2 f3 f4 f5 f6:Bool) (a b c:Rat):Ev M1 (.pure 143 [ratA f1 f2 a,ratA f3 f4 b,ratA f5 f6 c]) (Zau a b (J.rad b c)) []:=by
 refine call143 (oRed _ _ _ _ _ _ _ _ _ _ ⟨fun k => ?_,fun k => ?_⟩)
 ·rw [show J.rad b c=J.qi 0 from if_pos (Zc6.1 k)];exact ZcQ a b (J.qi 0)
 ·rw [show J.rad b c=c from if_neg fun e=>k (Zc6.2 e)];exact ZcQ a b c
def J.sgR (r:Rat):Int:=J.sgnI r.num
theorem ev123 (f1 f2 f3 f4 f5 f6:Bool) (a b c:Rat) (h:J.okO a b c):Ev M1 (.pure 123 [Zaw f1 f2 f3 f4 f5 f6 a b c]) (ratF (a*a-b*b*c)) []:=by
 obtain ⟨ha,hb,hc⟩:=h
 have aa:=Zaf ha ha
 have bb:=Zaf hb hb
 have bbc:=Zaf bb hc
 exact call123 (pNorm _ _ _ _ _ _ _ _ _ _ ⟨Zaj ha (by omega),Zaj hb (by omega),⟨Zaj bb (by omega),Zaj hc (by omega)⟩,⟨Zaj aa (by omega),Zaj bbc (by omega)⟩,.refl _⟩)
theorem ev132 (f1 f2 f3 f4 f5 f6 k l:Bool) (a b c r:Rat) (h:J.okR a/\J.okR r):Ev M1 (.pure 132 [Zaw f1 f2 f3 f4 f5 f6 a b c,ratA k l r]) (Zau (a+r) b c) []:=
 call132 (pAddRat _ _ _ _ _ _ _ _ _ _ _ _ _ ⟨h,ZcQ _ _ _⟩)
end Go.Av

namespace Go.Av
open Go.Proofs
set_option maxRecDepth 100000
def fi105:Fi:=⟨30,[.cell 6 98,.tmp 7]⟩
def kp105:List (Nat × List Nat):=[(0,[3,4,5,6]),(1,[3,4,5,6,12]),(2,[6,7]),(3,[3,4,5,6,8,9]),(4,[3,4,5,6,8,19]),(5,[6,7]),(6,[6,7])]
def fi156:Fi:=⟨21,[.cell 6 98]⟩
def kp156:List (Nat × List Nat):=[(0,[3,4,5,6]),(1,[3,4,5,6,14]),(2,[6]),(3,[6])]
def pRed_at (f1 f2 f3 f4 f5 f6:Bool) (a b c:Rat) (Q:AV->Heap->Prop):Prop:=Wp M1 (.run fi156 (atC (cd Tryz.f156) []) [(0,ratA f1 f2 a),(1,ratA f3 f4 b),(2,ratA f5 f6 c)] []) Q
def oMake_at (f1 f2 f3 f4 f5 f6:Bool) (a b c:Rat) (Q:AV->Heap->Prop):Prop:=Wp M1 (.run fi105 (atC (cd Tryz.f105) []) [(0,ratA f1 f2 a),(1,ratA f3 f4 b),(2,ratA f5 f6 c)] []) Q
theorem call105 {args:List AV} {d:AV} (h:wc M1 fi105 Tryz.f105 args d):Ev M1 (.pure 105 args) d []:=pcl _ _ (by kernel_rfl) h
theorem call156 {args:List AV} {d:AV} (h:wc M1 fi156 Tryz.f156 args d):Ev M1 (.pure 156 args) d []:=pcl _ _ (by kernel_rfl) h
theorem pRed (f1 f2 f3 f4 f5 f6:Bool) (a b c:Rat)  (dq:AV) (H :
  (((J.sgnI b.num=0)\/(J.sgnI c.num=0))->Weak (Zau a (J.qi 0) (J.qi 0)) dq) /\
  (¬((J.sgnI b.num=0)\/(J.sgnI c.num=0))->Weak (Zaw f1 f2 f3 f4 f5 f6 a b c) dq)) :
 pRed_at f1 f2 f3 f4 f5 f6 a b c (Zag dq):=by
 unfold pRed_at
 refine Zae (G:=Zad kp156 [(1,1,.call (vi (J.sgnI b.num)) none),(1,5,.call (vi (J.sgnI c.num)) none)] []) 5 [] ⟨(atC (cd Tryz.f156) [1,0,1]),[(3,AV.ptr 0 0 0 0),(4,AV.ptr 1 0 0 0),(5,AV.ptr 2 0 0 0),(6,AV.ptr 3 0 0 0),(14,vb (bif J.sgnI b.num==0 then true else J.sgnI c.num==0))],[⟨[ratA f1 f2 a],4,0,false,false⟩,⟨[ratA f3 f4 b],4,0,false,false⟩,⟨[ratA f5 f6 c],4,0,false,false⟩,⟨[ag [vb false,AV.vnil,vb false,AV.vnil,vb false,AV.vnil,vb false,AV.vnil,vb false,AV.vnil,vb false,AV.vnil]],12,0,false,false⟩],[true,!((J.sgnI b.num==0)==false&&true)||true],[],[⟨true,false,20,[ratA f3 f4 b],[],vi (J.sgnI b.num),[]⟩,⟨(J.sgnI b.num==0)==false&&true&&true,false,20,[ratA f5 f6 c],[],vi (J.sgnI c.num),[]⟩]⟩ (by kernel_rfl) (bc rfl (bc (Bool.or_true _) b0)) q0 (cc (fun _=>(@ev20 f3 f4 (b.num) ((↑b.den:Int)))) (cc (fun hc=>((@ev20 f5 f6 (c.num) ((↑c.den:Int))):Ev M1 (Conf.pure 20 [ratA f5 f6 c]) (vi (J.sgnI c.num)) [])) c0)) ?_
 rcases xq H with ⟨d3,H⟩|⟨d3,H⟩
 ·exact Zah (G:=Zad kp156 [(2,1,.call (Zau a (J.qi 0) (J.qi 0)) none)] []) 1000 [true] (Zau a (J.qi 0) (J.qi 0)) (by kernel_rfl) (bc (Zaq ((ZaM i_eq i_eq).2 d3)) (bc rfl (bc rfl b0))) q0 (ce (@ev155 f1 f2 a) c0) H
 ·exact Zah (G:=Zad kp156 [] []) 1000 [false] (Zaw f1 f2 f3 f4 f5 f6 a b c) (by kernel_rfl) (bc (Zam (fun h=>d3 ((ZaM i_eq i_eq).1 h))) (bc rfl (bc rfl (bc rfl (bc rfl b0))))) q0 c0 H
noncomputable abbrev zNxC1:=ag [vb false,AV.vnil,vb false,AV.vnil,vb false,AV.vnil,vb false,AV.vnil,vb false,AV.vnil,vb false,AV.vnil]
theorem oMake (f1 f2 f3 f4 f5 f6:Bool) (a b c:Rat)  (dq:AV) (H :
  ((J.sgnI c.num<0)->Weak (tu [ag [vb false,AV.vnil,vb false,AV.vnil,vb false,AV.vnil,vb false,AV.vnil,vb false,AV.vnil,vb false,AV.vnil],vi 7]) dq) /\
  (¬(J.sgnI c.num<0)->((J.rsq c)->(J.okR c) /\
    (J.okR b/\J.okR (J.rt c)) /\
    (J.okR a/\J.okR (b*J.rt c)) /\
    Weak (tu [Zau (a+b*J.rt c) (J.qi 0) (J.qi 0),vi 0]) dq) /\
   (¬(J.rsq c)->(J.okR c) /\
    Weak (tu [Zau a b (J.rad b c),vi 0]) dq))) :
 oMake_at f1 f2 f3 f4 f5 f6 a b c (Zag dq):=by
 unfold oMake_at
 refine Zae (G:=Zad kp105 [(1,1,.call (vi (J.sgnI c.num)) none)] []) 5 [] ⟨(atC (cd Tryz.f105) [1,0,1]),[(3,AV.ptr 0 0 0 0),(4,AV.ptr 1 0 0 0),(5,AV.ptr 2 0 0 0),(6,AV.ptr 3 0 0 0),(12,vb (decide (J.sgnI c.num<0)))],[⟨[ratA f1 f2 a],4,0,false,false⟩,⟨[ratA f3 f4 b],4,0,false,false⟩,⟨[ratA f5 f6 c],4,0,false,false⟩,⟨[zNxC1],12,0,false,false⟩],_,[],_⟩ (by kernel_rfl) (bc rfl b0) q0 (ce (@ev54 f5 f6 (c.num) ((↑c.den:Int))) c0) ?_
 rcases xq H with ⟨d2,H⟩|⟨d2,H⟩
 ·exact Zah (G:=Zad kp105 [] []) 1000 [true] (tu [zNxC1,vi 7]) (by kernel_rfl) (bc (Zaq (Zac.2 d2)) (bc rfl b0)) q0 c0 H
 ·rcases xq H with ⟨d3,H⟩|⟨d3,H⟩
  ·obtain ⟨k4,k5,k6,H⟩:=H
   exact Zah (G:=Zad kp105 [(3,1,.call (tu [ratF (J.rt c),vb true]) none),(5,3,.call (ratF (b*J.rt c)) none),(5,4,.call (ratF (a+b*J.rt c)) none),(5,5,.call (Zau (a+b*J.rt c) (J.qi 0) (J.qi 0)) none)] []) 1000 [false,true] (tu [Zau (a+b*J.rt c) (J.qi 0) (J.qi 0),vi 0]) (by kernel_rfl) (bc (Zam (fun h=>d2 (Zac.1 h))) (bc rfl (bc rfl (bc rfl (bc rfl (bc rfl (bc rfl (bc rfl b0)))))))) q0 (ce (@ev141_y f5 f6 c k4 d3) (ce (@ev95 f3 f4 false false b (J.rt c) k5) (ce (@ev114 f1 f2 false false a (b*J.rt c) k6) (ce (@ev142 false false (a+b*J.rt c)) c0)))) H
  ·obtain ⟨k7,H⟩:=H
   exact Zah (G:=Zad kp105 [(3,1,.call (tu [ag [vb false,vf [],vb false,vf []],vb false]) none),(6,3,.call (Zau a b (J.rad b c)) none)] []) 1000 [false,false] (tu [Zau a b (J.rad b c),vi 0]) (by kernel_rfl) (bc (Zam (fun h=>d2 (Zac.1 h))) (bc rfl (bc rfl (bc rfl (bc rfl (bc rfl (bc rfl (bc rfl b0)))))))) q0 (ce (@ev141_n f5 f6 c k7 d3) (ce (@ev143 f1 f2 f3 f4 f5 f6 a b c) c0)) H
end Go.Av

namespace Go.Av
open Go.Proofs
abbrev noO:AV:=.agg [.bool false,.vec false 1 [],.bool false,.vec false 1 [],.bool false,.vec false 1 [],.bool false,.vec false 1 [],.bool false,.vec false 1 [],.bool false,.vec false 1 []]
theorem ZcH:Weak .vnil (.vec false 1 []):=by
 have:=Zdb false
 cases this with
 | agg xs ys hl h=>exact h 1 _ _ rfl rfl
theorem weak_no:Weak (.agg [.bool false,.vnil,.bool false,.vnil,.bool false,.vnil,.bool false,.vnil,.bool false,.vnil,.bool false,.vnil]) noO:=by
 refine .agg _ _ rfl fun i x y hx hy => ?_
 match i with
 | 0=>simp at hx hy;subst hx;subst hy;exact .refl _
 | 1=>simp at hx hy;subst hx;subst hy;exact ZcH
 | 2=>simp at hx hy;subst hx;subst hy;exact .refl _
 | 3=>simp at hx hy;subst hx;subst hy;exact ZcH
 | 4=>simp at hx hy;subst hx;subst hy;exact .refl _
 | 5=>simp at hx hy;subst hx;subst hy;exact ZcH
 | 6=>simp at hx hy;subst hx;subst hy;exact .refl _
 | 7=>simp at hx hy;subst hx;subst hy;exact ZcH
 | 8=>simp at hx hy;subst hx;subst hy;exact .refl _
 | 9=>simp at hx hy;subst hx;subst hy;exact ZcH
 | 10=>simp at hx hy;subst hx;subst hy;exact .refl _
 | 11=>simp at hx hy;subst hx;subst hy;exact ZcH
 | i+12=>simp at hx
namespace J
def ZhC (c:Rat):Prop:=0<=c.num
open Classical in
noncomputable def mkA (a b c:Rat):Rat:=if rsq c then a+b*rt c else a
open Classical in
noncomputable def mkB (b c:Rat):Rat:=if rsq c then qi 0 else b
open Classical in
noncomputable def mkC (b c:Rat):Rat:=if rsq c then qi 0 else rad b c
end J
theorem nn_sgn {c:Rat}:J.sgnI c.num<0 ↔ ¬J.ZhC c:=by
 rw [Zbn];unfold J.ZhC;omega
theorem ev105_y (f1 f2 f3 f4 f5 f6:Bool) (a b c:Rat) (h:J.okO a b c) (k:J.ZhC c):Ev M1 (.pure 105 [ratA f1 f2 a,ratA f3 f4 b,ratA f5 f6 c]) (.tup [Zau (J.mkA a b c) (J.mkB b c) (J.mkC b c),.int .i64 0]) []:=by
 obtain ⟨ha,hb,hc⟩:=h
 refine call105 (oMake _ _ _ _ _ _ _ _ _ _ ⟨fun x=>absurd k (nn_sgn.1 x),fun _=>⟨fun s => ?_,fun s => ?_⟩⟩)
 ·have hr:=ZgL s hc
  have hm:=Zaf hb hr
  refine ⟨Zaj hc (by omega),⟨Zaj hb (by omega),Zaj hr (by omega)⟩,⟨Zaj ha (by omega),Zaj hm (by omega)⟩,?_⟩
  rw [show J.mkA a b c=a+b*J.rt c from if_pos s,show J.mkB b c=J.qi 0 from if_pos s,show J.mkC b c=J.qi 0 from if_pos s]
  exact .refl _
 ·refine ⟨Zaj hc (by omega),?_⟩
  rw [show J.mkA a b c=a from if_neg s,show J.mkB b c=b from if_neg s,show J.mkC b c=J.rad b c from if_neg s]
  exact .refl _
theorem ev105_n (f1 f2 f3 f4 f5 f6:Bool) (a b c:Rat) (_:J.okO a b c) (k:¬(J.ZhC c)):Ev M1 (.pure 105 [ratA f1 f2 a,ratA f3 f4 b,ratA f5 f6 c]) (.tup [noO,.int .i64 7]) []:=
 call105 (oMake _ _ _ _ _ _ _ _ _ _ ⟨fun _=>ZbH weak_no (.refl _),fun x=>absurd (nn_sgn.2 k) x⟩)
theorem ZeT (r:Rat):J.Zct (J.Zaa r.num) (J.Zab r.num) (J.Zaa (r.den:Int)) (J.Zab (r.den:Int))=true:=ZeS.2 (valR_rat r)
theorem ZgN {r:Rat} {k:Nat} (h:J.okT k r) (hk:k<=90000):J.okA (J.Zab r.num) (J.Zab (r.den:Int)):=by
 obtain ⟨h1,h2⟩:=h
 refine ⟨⟨?_,fun x hx=>(ZeB _ x hx).1⟩,⟨?_,fun x hx=>(ZeB _ x hx).1⟩⟩
 ·rw [ZaX];omega
 ·rw [ZaX,Int.natAbs_natCast];omega
theorem okT_com {k:Nat} {b c z:Rat} (h:J.okT k c) (h2:J.okT k z):J.okT k (J.com b c z):=by
 unfold J.com;split <;> assumption
noncomputable def J.flW (a b c:Rat):Int:=J.sq ((a.den:Int)*(a.den:Int)*((b*b*c).num*((b*b*c).den:Int)))
noncomputable def J.fl (a b c:Rat):Int:=if b=0 then J.flo a.num (a.den:Int) else J.flo (a.num*((b*b*c).den:Int)+(if b.num<0 then -(J.flW a b c+1) else J.flW a b c)) ((a.den:Int)*((b*b*c).den:Int))
end Go.Av

namespace Go.Av
open Go.Proofs
noncomputable def J.prB (b c:Rat):Rat:=if b=0\/c=0 then J.qi 0 else b
noncomputable def J.prC (b c:Rat):Rat:=if b=0\/c=0 then J.qi 0 else c
theorem qi_zero:J.qi 0=0:=by rw [Ze2];rfl
theorem ev156 (f1 f2 f3 f4 f5 f6:Bool) (a b c:Rat):Ev M1 (.pure 156 [ratA f1 f2 a,ratA f3 f4 b,ratA f5 f6 c]) (Zau a (J.prB b c) (J.prC b c)) []:=by
 refine call156 (pRed _ _ _ _ _ _ _ _ _ _ ⟨fun k => ?_,fun k => ?_⟩)
 ·have k:b=0\/c=0:=k.imp Zc6.1 Zc6.1
  rw [show J.prB b c=J.qi 0 from if_pos k,show J.prC b c=J.qi 0 from if_pos k];exact ZcQ a (J.qi 0) (J.qi 0)
 ·have k:¬(b=0\/c=0):=fun e=>k (e.imp Zc6.2 Zc6.2)
  rw [show J.prB b c=b from if_neg k,show J.prC b c=c from if_neg k];exact ZcQ a b c
end Go.Av

namespace Go.Av
open Go.Proofs
set_option maxRecDepth 100000
def fi126:Fi:=⟨30,[.cell 6 98,.tmp 7]⟩
def kp126:List (Nat × List Nat):=[(0,[3,4,5,6]),(1,[3,4,5,6,12]),(2,[6,7]),(3,[3,4,5,6,8,9]),(4,[3,4,5,6,8,19]),(5,[6,7]),(6,[6,7])]
def pMake_at (f1 f2 f3 f4 f5 f6:Bool) (a b c:Rat) (Q:AV->Heap->Prop):Prop:=Wp M1 (.run fi126 (atC (cd Tryz.f126) []) [(0,ratA f1 f2 a),(1,ratA f3 f4 b),(2,ratA f5 f6 c)] []) Q
theorem call126 {args:List AV} {d:AV} (h:wc M1 fi126 Tryz.f126 args d):Ev M1 (.pure 126 args) d []:=pcl _ _ (by kernel_rfl) h
noncomputable abbrev zNxD1:=ag [vb false,AV.vnil,vb false,AV.vnil,vb false,AV.vnil,vb false,AV.vnil,vb false,AV.vnil,vb false,AV.vnil]
theorem pMake (f1 f2 f3 f4 f5 f6:Bool) (a b c:Rat)  (dq:AV) (H :
  ((J.sgnI c.num<0)->Weak (tu [ag [vb false,AV.vnil,vb false,AV.vnil,vb false,AV.vnil,vb false,AV.vnil,vb false,AV.vnil,vb false,AV.vnil],vi 7]) dq) /\
  (¬(J.sgnI c.num<0)->((J.rsq c)->(J.okR c) /\
    (J.okR b/\J.okR (J.rt c)) /\
    (J.okR a/\J.okR (b*J.rt c)) /\
    Weak (tu [Zau (a+b*J.rt c) (J.qi 0) (J.qi 0),vi 0]) dq) /\
   (¬(J.rsq c)->(J.okR c) /\
    Weak (tu [Zau a (J.prB b c) (J.prC b c),vi 0]) dq))) :
 pMake_at f1 f2 f3 f4 f5 f6 a b c (Zag dq):=by
 unfold pMake_at
 refine Zae (G:=Zad kp126 [(1,1,.call (vi (J.sgnI c.num)) none)] []) 5 [] ⟨(atC (cd Tryz.f126) [1,0,1]),[(3,AV.ptr 0 0 0 0),(4,AV.ptr 1 0 0 0),(5,AV.ptr 2 0 0 0),(6,AV.ptr 3 0 0 0),(12,vb (decide (J.sgnI c.num<0)))],[⟨[ratA f1 f2 a],4,0,false,false⟩,⟨[ratA f3 f4 b],4,0,false,false⟩,⟨[ratA f5 f6 c],4,0,false,false⟩,⟨[zNxD1],12,0,false,false⟩],_,[],_⟩ (by kernel_rfl) (bc rfl b0) q0 (ce (@ev20 f5 f6 (c.num) ((↑c.den:Int))) c0) ?_
 rcases xq H with ⟨d2,H⟩|⟨d2,H⟩
 ·exact Zah (G:=Zad kp126 [] []) 1000 [true] (tu [zNxD1,vi 7]) (by kernel_rfl) (bc (Zaq (Zac.2 d2)) (bc rfl b0)) q0 c0 H
 ·rcases xq H with ⟨d3,H⟩|⟨d3,H⟩
  ·obtain ⟨k4,k5,k6,H⟩:=H
   exact Zah (G:=Zad kp126 [(3,1,.call (tu [ratF (J.rt c),vb true]) none),(5,3,.call (ratF (b*J.rt c)) none),(5,4,.call (ratF (a+b*J.rt c)) none),(5,5,.call (Zau (a+b*J.rt c) (J.qi 0) (J.qi 0)) none)] []) 1000 [false,true] (tu [Zau (a+b*J.rt c) (J.qi 0) (J.qi 0),vi 0]) (by kernel_rfl) (bc (Zam (fun h=>d2 (Zac.1 h))) (bc rfl (bc rfl (bc rfl (bc rfl (bc rfl (bc rfl (bc rfl b0)))))))) q0 (ce (@ev91_y f5 f6 c k4 d3) (ce (@ev35 f3 f4 false false b (J.rt c) k5) (ce (@ev34 f1 f2 false false a (b*J.rt c) k6) (ce (@ev155 false false (a+b*J.rt c)) c0)))) H
  ·obtain ⟨k7,H⟩:=H
   exact Zah (G:=Zad kp126 [(3,1,.call (tu [ag [vb false,vf [],vb false,vf []],vb false]) none),(6,3,.call (Zau a (J.prB b c) (J.prC b c)) none)] []) 1000 [false,false] (tu [Zau a (J.prB b c) (J.prC b c),vi 0]) (by kernel_rfl) (bc (Zam (fun h=>d2 (Zac.1 h))) (bc rfl (bc rfl (bc rfl (bc rfl (bc rfl (bc rfl (bc rfl b0)))))))) q0 (ce (@ev91_n f5 f6 c k7 d3) (ce (@ev156 f1 f2 f3 f4 f5 f6 a b c) c0)) H
end Go.Av

namespace Go.Av
open Go.Proofs
theorem Zca {k m:Nat} {r s:Rat} (h:J.okT k r) (h2:J.okT m s) (h0:s.num ≠ 0):J.okT (k+m) (r / s):=by
 have e:=Zhg (p:=r.num*(s.den:Int)) (q:=(r.den:Int)*s.num) (Int.mul_ne_zero (Zb0 r) h0)
 rw [rat_div] at e
 exact ⟨Nat.le_trans (ZaJ e.1) (ZaZ h.1 (Za7 h2.2)),Nat.le_trans (ZaJ e.2) (ZaZ (Za7 h.2) h2.1)⟩
theorem rsq_zero:J.rsq 0:=rsq_of (s:=0) (Rat.mul_zero 0)
theorem ev126_y (f1 f2 f3 f4 f5 f6:Bool) (a b c:Rat) (h:J.okO a b c) (k:J.ZhC c):Ev M1 (.pure 126 [ratA f1 f2 a,ratA f3 f4 b,ratA f5 f6 c]) (.tup [Zau (J.mkA a b c) (J.mkB b c) (J.mkC b c),.int .i64 0]) []:=by
 obtain ⟨ha,hb,hc⟩:=h
 refine call126 (pMake _ _ _ _ _ _ _ _ _ _ ⟨fun x=>absurd k (nn_sgn.1 x),fun _=>⟨fun s => ?_,fun s => ?_⟩⟩)
 ·have hr:=ZgL s hc
  have hm:=Zaf hb hr
  refine ⟨Zaj hc (by omega),⟨Zaj hb (by omega),Zaj hr (by omega)⟩,⟨Zaj ha (by omega),Zaj hm (by omega)⟩,?_⟩
  rw [show J.mkA a b c=a+b*J.rt c from if_pos s,show J.mkB b c=J.qi 0 from if_pos s,show J.mkC b c=J.qi 0 from if_pos s]
  exact .refl _
 ·refine ⟨Zaj hc (by omega),?_⟩
  have hc0:c ≠ 0:=fun e=>s (by rw [e];exact rsq_zero)
  have e1:J.prB b c=b:=by
   unfold J.prB
   by_cases hb0:b=0
   ·rw [if_pos (.inl hb0),hb0,qi_zero]
   ·rw [if_neg fun x=>x.elim hb0 hc0]
  have e2:J.prC b c=J.rad b c:=by
   unfold J.prC J.rad
   by_cases hb0:b=0
   ·rw [if_pos (.inl hb0),if_pos hb0]
   ·rw [if_neg fun x=>x.elim hb0 hc0,if_neg hb0]
  rw [e1,e2,show J.mkA a b c=a from if_neg s,show J.mkB b c=b from if_neg s,show J.mkC b c=J.rad b c from if_neg s]
  exact .refl _
theorem ev126_n (f1 f2 f3 f4 f5 f6:Bool) (a b c:Rat) (_:J.okO a b c) (k:¬(J.ZhC c)):Ev M1 (.pure 126 [ratA f1 f2 a,ratA f3 f4 b,ratA f5 f6 c]) (.tup [noO,.int .i64 7]) []:=
 call126 (pMake _ _ _ _ _ _ _ _ _ _ ⟨fun _=>ZbH weak_no (.refl _),fun x=>absurd (nn_sgn.2 k) x⟩)
end Go.Av

namespace Go.Av
open Go.Proofs
set_option maxRecDepth 100000
end Go.Av

namespace Go.Av
open Go.Proofs
theorem okT_O {a b c:Rat} {k:Nat} (h1:J.okT k a) (h2:J.okT k b) (h3:J.okT k c) (hk:k<=9000):J.okO a b c:=⟨Zar h1 hk,Zar h2 hk,Zar h3 hk⟩
end Go.Av

namespace Go.Av
open Go.Proofs
set_option maxRecDepth 100000
end Go.Av

namespace Go.Av
open Go.Proofs
end Go.Av

namespace Go.Av
open Go.Proofs
set_option maxRecDepth 100000
def fi52:Fi:=⟨8,[.cell 4 26]⟩
def kp52:List (Nat × List Nat):=[(0,[2,3,4]),(1,[4])]
def fi53:Fi:=⟨8,[.cell 4 26]⟩
def kp53:List (Nat × List Nat):=[(0,[2,3,4]),(1,[4])]
def fi56:Fi:=⟨14,[.cell 4 26]⟩
def kp56:List (Nat × List Nat):=[(0,[2,3,4]),(1,[4,5]),(2,[4])]
def fi77:Fi:=⟨8,[.cell 4 26]⟩
def kp77:List (Nat × List Nat):=[(0,[2,3,4]),(1,[4])]
def fi87:Fi:=⟨8,[.cell 4 26]⟩
def kp87:List (Nat × List Nat):=[(0,[2,3,4]),(1,[4])]
def fi97:Fi:=⟨9,[.tmp 4]⟩
def kp97:List (Nat × List Nat):=[(0,[2,3]),(1,[4])]
def fi98:Fi:=⟨8,[.cell 4 26]⟩
def kp98:List (Nat × List Nat):=[(0,[2,3,4]),(1,[4])]
def fi100:Fi:=⟨2,[.cell 0 26]⟩
def kp100:List (Nat × List Nat):=[(0,[0]),(1,[0])]
def fi101:Fi:=⟨2,[.cell 0 26]⟩
def kp101:List (Nat × List Nat):=[(0,[0]),(1,[0])]
def fi124:Fi:=⟨8,[.cell 4 26]⟩
def kp124:List (Nat × List Nat):=[(0,[2,3,4]),(1,[4])]
def fi125:Fi:=⟨8,[.cell 4 26]⟩
def kp125:List (Nat × List Nat):=[(0,[2,3,4]),(1,[4])]
def fi137:Fi:=⟨8,[.cell 4 26]⟩
def kp137:List (Nat × List Nat):=[(0,[2,3,4]),(1,[4])]
def fi138:Fi:=⟨8,[.cell 4 26]⟩
def kp138:List (Nat × List Nat):=[(0,[2,3,4]),(1,[4])]
def fi139:Fi:=⟨17,[.cell 4 26]⟩
def kp139:List (Nat × List Nat):=[(0,[2,3,4]),(1,[4,5,6]),(2,[4,5,14]),(3,[4]),(4,[4])]
def wadd_m_at (f1 f2 g1 g2:Bool) (r s:Rat) (Q:AV->Heap->Prop):Prop:=Wp M1 (.run fi77 (atC (cd Tryz.f77) []) [(0,ratA f1 f2 r),(1,ratA g1 g2 s)] []) Q
def wsub_m_at (f1 f2 g1 g2:Bool) (r s:Rat) (Q:AV->Heap->Prop):Prop:=Wp M1 (.run fi52 (atC (cd Tryz.f52) []) [(0,ratA f1 f2 r),(1,ratA g1 g2 s)] []) Q
def wmul_m_at (f1 f2 g1 g2:Bool) (r s:Rat) (Q:AV->Heap->Prop):Prop:=Wp M1 (.run fi53 (atC (cd Tryz.f53) []) [(0,ratA f1 f2 r),(1,ratA g1 g2 s)] []) Q
def wadd_s_at (f1 f2 g1 g2:Bool) (r s:Rat) (Q:AV->Heap->Prop):Prop:=Wp M1 (.run fi138 (atC (cd Tryz.f138) []) [(0,ratA f1 f2 r),(1,ratA g1 g2 s)] []) Q
def wsub_s_at (f1 f2 g1 g2:Bool) (r s:Rat) (Q:AV->Heap->Prop):Prop:=Wp M1 (.run fi137 (atC (cd Tryz.f137) []) [(0,ratA f1 f2 r),(1,ratA g1 g2 s)] []) Q
def wmul_s_at (f1 f2 g1 g2:Bool) (r s:Rat) (Q:AV->Heap->Prop):Prop:=Wp M1 (.run fi98 (atC (cd Tryz.f98) []) [(0,ratA f1 f2 r),(1,ratA g1 g2 s)] []) Q
def wadd_q_at (f1 f2 g1 g2:Bool) (r s:Rat) (Q:AV->Heap->Prop):Prop:=Wp M1 (.run fi125 (atC (cd Tryz.f125) []) [(0,ratA f1 f2 r),(1,ratA g1 g2 s)] []) Q
def wsub_q_at (f1 f2 g1 g2:Bool) (r s:Rat) (Q:AV->Heap->Prop):Prop:=Wp M1 (.run fi124 (atC (cd Tryz.f124) []) [(0,ratA f1 f2 r),(1,ratA g1 g2 s)] []) Q
def wmul_q_at (f1 f2 g1 g2:Bool) (r s:Rat) (Q:AV->Heap->Prop):Prop:=Wp M1 (.run fi87 (atC (cd Tryz.f87) []) [(0,ratA f1 f2 r),(1,ratA g1 g2 s)] []) Q
def wdiv_m_at (f1 f2 g1 g2:Bool) (r s:Rat) (Q:AV->Heap->Prop):Prop:=Wp M1 (.run fi56 (atC (cd Tryz.f56) []) [(0,ratA f1 f2 r),(1,ratA g1 g2 s)] []) Q
def wdiv_s_at (f1 f2 g1 g2:Bool) (r s:Rat) (Q:AV->Heap->Prop):Prop:=Wp M1 (.run fi139 (atC (cd Tryz.f139) []) [(0,ratA f1 f2 r),(1,ratA g1 g2 s)] []) Q
def weq_s_at (f1 f2 g1 g2:Bool) (r s:Rat) (Q:AV->Heap->Prop):Prop:=Wp M1 (.run fi97 (atC (cd Tryz.f97) []) [(0,ratA f1 f2 r),(1,ratA g1 g2 s)] []) Q
def wz_p_at  (Q:AV->Heap->Prop):Prop:=Wp M1 (.run fi100 (atC (cd Tryz.f100) []) [] []) Q
def wz_q_at  (Q:AV->Heap->Prop):Prop:=Wp M1 (.run fi101 (atC (cd Tryz.f101) []) [] []) Q
theorem call52 {args:List AV} {d:AV} (h:wc M1 fi52 Tryz.f52 args d):Ev M1 (.pure 52 args) d []:=pcl _ _ (by kernel_rfl) h
theorem call53 {args:List AV} {d:AV} (h:wc M1 fi53 Tryz.f53 args d):Ev M1 (.pure 53 args) d []:=pcl _ _ (by kernel_rfl) h
theorem call56 {args:List AV} {d:AV} (h:wc M1 fi56 Tryz.f56 args d):Ev M1 (.pure 56 args) d []:=pcl _ _ (by kernel_rfl) h
theorem call77 {args:List AV} {d:AV} (h:wc M1 fi77 Tryz.f77 args d):Ev M1 (.pure 77 args) d []:=pcl _ _ (by kernel_rfl) h
theorem call87 {args:List AV} {d:AV} (h:wc M1 fi87 Tryz.f87 args d):Ev M1 (.pure 87 args) d []:=pcl _ _ (by kernel_rfl) h
theorem call97 {args:List AV} {d:AV} (h:wc M1 fi97 Tryz.f97 args d):Ev M1 (.pure 97 args) d []:=pcl _ _ (by kernel_rfl) h
theorem call98 {args:List AV} {d:AV} (h:wc M1 fi98 Tryz.f98 args d):Ev M1 (.pure 98 args) d []:=pcl _ _ (by kernel_rfl) h
theorem call100 {args:List AV} {d:AV} (h:wc M1 fi100 Tryz.f100 args d):Ev M1 (.pure 100 args) d []:=pcl _ _ (by kernel_rfl) h
theorem call101 {args:List AV} {d:AV} (h:wc M1 fi101 Tryz.f101 args d):Ev M1 (.pure 101 args) d []:=pcl _ _ (by kernel_rfl) h
theorem call124 {args:List AV} {d:AV} (h:wc M1 fi124 Tryz.f124 args d):Ev M1 (.pure 124 args) d []:=pcl _ _ (by kernel_rfl) h
theorem call125 {args:List AV} {d:AV} (h:wc M1 fi125 Tryz.f125 args d):Ev M1 (.pure 125 args) d []:=pcl _ _ (by kernel_rfl) h
theorem call137 {args:List AV} {d:AV} (h:wc M1 fi137 Tryz.f137 args d):Ev M1 (.pure 137 args) d []:=pcl _ _ (by kernel_rfl) h
theorem call138 {args:List AV} {d:AV} (h:wc M1 fi138 Tryz.f138 args d):Ev M1 (.pure 138 args) d []:=pcl _ _ (by kernel_rfl) h
theorem call139 {args:List AV} {d:AV} (h:wc M1 fi139 Tryz.f139 args d):Ev M1 (.pure 139 args) d []:=pcl _ _ (by kernel_rfl) h
theorem wadd_m (f1 f2 g1 g2:Bool) (r s:Rat)  (dq:AV) (H :
  (J.okR r/\J.okR s) /\
  Weak (ratF (r+s)) dq) :
 wadd_m_at f1 f2 g1 g2 r s (Zag dq):=by
 unfold wadd_m_at
 obtain ⟨k1,H⟩:=H
 exact Zah (G:=Zad kp77 [(1,2,.call (ratF (r+s)) none)] []) 1000 [] (ratF (r+s)) (by kernel_rfl) (bc rfl (bc rfl (bc rfl b0))) q0 (ce (@ev114 f1 f2 g1 g2 r s k1) c0) H
theorem wsub_m (f1 f2 g1 g2:Bool) (r s:Rat)  (dq:AV) (H :
  (J.okR r/\J.okR s) /\
  Weak (ratF (r-s)) dq) :
 wsub_m_at f1 f2 g1 g2 r s (Zag dq):=by
 unfold wsub_m_at
 obtain ⟨k1,H⟩:=H
 exact Zah (G:=Zad kp52 [(1,2,.call (ratF (r-s)) none)] []) 1000 [] (ratF (r-s)) (by kernel_rfl) (bc rfl (bc rfl (bc rfl b0))) q0 (ce (@ev94 f1 f2 g1 g2 r s k1) c0) H
theorem wmul_m (f1 f2 g1 g2:Bool) (r s:Rat)  (dq:AV) (H :
  (J.okR r/\J.okR s) /\
  Weak (ratF (r*s)) dq) :
 wmul_m_at f1 f2 g1 g2 r s (Zag dq):=by
 unfold wmul_m_at
 obtain ⟨k1,H⟩:=H
 exact Zah (G:=Zad kp53 [(1,2,.call (ratF (r*s)) none)] []) 1000 [] (ratF (r*s)) (by kernel_rfl) (bc rfl (bc rfl (bc rfl b0))) q0 (ce (@ev95 f1 f2 g1 g2 r s k1) c0) H
theorem wadd_s (f1 f2 g1 g2:Bool) (r s:Rat)  (dq:AV) (H :
  (J.okR r/\J.okR s) /\
  Weak (ratF (r+s)) dq) :
 wadd_s_at f1 f2 g1 g2 r s (Zag dq):=by
 unfold wadd_s_at
 obtain ⟨k1,H⟩:=H
 exact Zah (G:=Zad kp138 [(1,2,.call (ratF (r+s)) none)] []) 1000 [] (ratF (r+s)) (by kernel_rfl) (bc rfl (bc rfl (bc rfl b0))) q0 (ce (@ev114 f1 f2 g1 g2 r s k1) c0) H
theorem wsub_s (f1 f2 g1 g2:Bool) (r s:Rat)  (dq:AV) (H :
  (J.okR r/\J.okR s) /\
  Weak (ratF (r-s)) dq) :
 wsub_s_at f1 f2 g1 g2 r s (Zag dq):=by
 unfold wsub_s_at
 obtain ⟨k1,H⟩:=H
 exact Zah (G:=Zad kp137 [(1,2,.call (ratF (r-s)) none)] []) 1000 [] (ratF (r-s)) (by kernel_rfl) (bc rfl (bc rfl (bc rfl b0))) q0 (ce (@ev94 f1 f2 g1 g2 r s k1) c0) H
theorem wmul_s (f1 f2 g1 g2:Bool) (r s:Rat)  (dq:AV) (H :
  (J.okR r/\J.okR s) /\
  Weak (ratF (r*s)) dq) :
 wmul_s_at f1 f2 g1 g2 r s (Zag dq):=by
 unfold wmul_s_at
 obtain ⟨k1,H⟩:=H
 exact Zah (G:=Zad kp98 [(1,2,.call (ratF (r*s)) none)] []) 1000 [] (ratF (r*s)) (by kernel_rfl) (bc rfl (bc rfl (bc rfl b0))) q0 (ce (@ev95 f1 f2 g1 g2 r s k1) c0) H
theorem wadd_q (f1 f2 g1 g2:Bool) (r s:Rat)  (dq:AV) (H :
  (J.okR r/\J.okR s) /\
  Weak (ratF (r+s)) dq) :
 wadd_q_at f1 f2 g1 g2 r s (Zag dq):=by
 unfold wadd_q_at
 obtain ⟨k1,H⟩:=H
 exact Zah (G:=Zad kp125 [(1,2,.call (ratF (r+s)) none)] []) 1000 [] (ratF (r+s)) (by kernel_rfl) (bc rfl (bc rfl (bc rfl b0))) q0 (ce (@ev34 f1 f2 g1 g2 r s k1) c0) H
theorem wsub_q (f1 f2 g1 g2:Bool) (r s:Rat)  (dq:AV) (H :
  (J.okR r/\J.okR s) /\
  Weak (ratF (r-s)) dq) :
 wsub_q_at f1 f2 g1 g2 r s (Zag dq):=by
 unfold wsub_q_at
 obtain ⟨k1,H⟩:=H
 exact Zah (G:=Zad kp124 [(1,2,.call (ratF (r-s)) none)] []) 1000 [] (ratF (r-s)) (by kernel_rfl) (bc rfl (bc rfl (bc rfl b0))) q0 (ce (@ev28 f1 f2 g1 g2 r s k1) c0) H
theorem wmul_q (f1 f2 g1 g2:Bool) (r s:Rat)  (dq:AV) (H :
  (J.okR r/\J.okR s) /\
  Weak (ratF (r*s)) dq) :
 wmul_q_at f1 f2 g1 g2 r s (Zag dq):=by
 unfold wmul_q_at
 obtain ⟨k1,H⟩:=H
 exact Zah (G:=Zad kp87 [(1,2,.call (ratF (r*s)) none)] []) 1000 [] (ratF (r*s)) (by kernel_rfl) (bc rfl (bc rfl (bc rfl b0))) q0 (ce (@ev35 f1 f2 g1 g2 r s k1) c0) H
theorem wdiv_m (f1 f2 g1 g2:Bool) (r s:Rat)  (dq:AV) (H :
  (J.okR r/\J.okR s/\s.num ≠ 0) /\
  Weak (ratF (r / s)) dq) :
 wdiv_m_at f1 f2 g1 g2 r s (Zag dq):=by
 unfold wdiv_m_at
 obtain ⟨k1,H⟩:=H
 exact Zah (G:=Zad kp56 [(1,2,.call (tu [ratF (r / s),vi 0]) none)] []) 1000 [] (ratF (r / s)) (by kernel_rfl) (bc rfl (bc rfl (bc rfl (bc rfl (bc rfl b0))))) q0 (ce (@ev99 f1 f2 g1 g2 r s k1) c0) H
theorem wdiv_s (f1 f2 g1 g2:Bool) (r s:Rat)  (dq:AV) (H :
  (J.okR r/\J.okR s/\s.num ≠ 0) /\
  Weak (ratF (r / s)) dq) :
 wdiv_s_at f1 f2 g1 g2 r s (Zag dq):=by
 unfold wdiv_s_at
 obtain ⟨k1,H⟩:=H
 exact Zah (G:=Zad kp139 [(1,2,.call (tu [ratF (r / s),vi 0]) none)] []) 1000 [false] (ratF (r / s)) (by kernel_rfl) (bc rfl (bc rfl (bc rfl (bc rfl (bc rfl (bc rfl b0)))))) q0 (ce (@ev99 f1 f2 g1 g2 r s k1) c0) H
theorem weq_s (f1 f2 g1 g2:Bool) (r s:Rat)  (dq:AV) (H :
  (J.okR r/\J.okR s) /\
  vb (J.sgnI (r.num*(↑s.den:Int)-s.num*(↑r.den:Int))==0)=dq) :
 weq_s_at f1 f2 g1 g2 r s (Zag dq):=by
 unfold weq_s_at
 obtain ⟨k1,H⟩:=H
 exact Zao (G:=Zad kp97 [(1,2,.call (vi (J.sgnI (r.num*(↑s.den:Int)-s.num*(↑r.den:Int)))) none)] []) 1000 [] (vb (J.sgnI (r.num*(↑s.den:Int)-s.num*(↑r.den:Int))==0)) (by kernel_rfl) (bc rfl (bc rfl b0)) q0 (ce (@ev110 f1 f2 g1 g2 r s k1) c0) H
theorem wz_p   (dq:AV) (H :
  (J.inI 0) /\
  Weak (ratF (J.qi 0)) dq) :
 wz_p_at  (Zag dq):=by
 unfold wz_p_at
 obtain ⟨k1,H⟩:=H
 exact Zah (G:=Zad kp100 [(1,0,.call (ratF (J.qi 0)) none)] []) 1000 [] (ratF (J.qi 0)) (by kernel_rfl) (bc rfl b0) q0 (ce (@ev75 0 k1) c0) H
theorem wz_q   (dq:AV) (H :
  (J.inI 0) /\
  Weak (ratF (J.qi 0)) dq) :
 wz_q_at  (Zag dq):=by
 unfold wz_q_at
 obtain ⟨k1,H⟩:=H
 exact Zah (G:=Zad kp101 [(1,0,.call (ratF (J.qi 0)) none)] []) 1000 [] (ratF (J.qi 0)) (by kernel_rfl) (bc rfl b0) q0 (ce (@ev84 0 k1) c0) H
end Go.Av

namespace Go.Av
open Go.Proofs
theorem ev77 (f1 f2 g1 g2:Bool) (r s:Rat) (h:J.okR r/\J.okR s):Ev M1 (.pure 77 [ratA f1 f2 r,ratA g1 g2 s]) (ratF (r+s)) []:=
 call77 (wadd_m _ _ _ _ _ _ _ ⟨h,.refl _⟩)
theorem ev52 (f1 f2 g1 g2:Bool) (r s:Rat) (h:J.okR r/\J.okR s):Ev M1 (.pure 52 [ratA f1 f2 r,ratA g1 g2 s]) (ratF (r-s)) []:=
 call52 (wsub_m _ _ _ _ _ _ _ ⟨h,.refl _⟩)
theorem ev53 (f1 f2 g1 g2:Bool) (r s:Rat) (h:J.okR r/\J.okR s):Ev M1 (.pure 53 [ratA f1 f2 r,ratA g1 g2 s]) (ratF (r*s)) []:=
 call53 (wmul_m _ _ _ _ _ _ _ ⟨h,.refl _⟩)
theorem ev138 (f1 f2 g1 g2:Bool) (r s:Rat) (h:J.okR r/\J.okR s):Ev M1 (.pure 138 [ratA f1 f2 r,ratA g1 g2 s]) (ratF (r+s)) []:=
 call138 (wadd_s _ _ _ _ _ _ _ ⟨h,.refl _⟩)
theorem ev137 (f1 f2 g1 g2:Bool) (r s:Rat) (h:J.okR r/\J.okR s):Ev M1 (.pure 137 [ratA f1 f2 r,ratA g1 g2 s]) (ratF (r-s)) []:=
 call137 (wsub_s _ _ _ _ _ _ _ ⟨h,.refl _⟩)
theorem ev98 (f1 f2 g1 g2:Bool) (r s:Rat) (h:J.okR r/\J.okR s):Ev M1 (.pure 98 [ratA f1 f2 r,ratA g1 g2 s]) (ratF (r*s)) []:=
 call98 (wmul_s _ _ _ _ _ _ _ ⟨h,.refl _⟩)
theorem ev125 (f1 f2 g1 g2:Bool) (r s:Rat) (h:J.okR r/\J.okR s):Ev M1 (.pure 125 [ratA f1 f2 r,ratA g1 g2 s]) (ratF (r+s)) []:=
 call125 (wadd_q _ _ _ _ _ _ _ ⟨h,.refl _⟩)
theorem ev124 (f1 f2 g1 g2:Bool) (r s:Rat) (h:J.okR r/\J.okR s):Ev M1 (.pure 124 [ratA f1 f2 r,ratA g1 g2 s]) (ratF (r-s)) []:=
 call124 (wsub_q _ _ _ _ _ _ _ ⟨h,.refl _⟩)
theorem ev87 (f1 f2 g1 g2:Bool) (r s:Rat) (h:J.okR r/\J.okR s):Ev M1 (.pure 87 [ratA f1 f2 r,ratA g1 g2 s]) (ratF (r*s)) []:=
 call87 (wmul_q _ _ _ _ _ _ _ ⟨h,.refl _⟩)
theorem ev56 (f1 f2 g1 g2:Bool) (r s:Rat) (h:J.okR r/\J.okR s/\s.num ≠ 0):Ev M1 (.pure 56 [ratA f1 f2 r,ratA g1 g2 s]) (ratF (r / s)) []:=
 call56 (wdiv_m _ _ _ _ _ _ _ ⟨h,.refl _⟩)
theorem ev139 (f1 f2 g1 g2:Bool) (r s:Rat) (h:J.okR r/\J.okR s/\s.num ≠ 0):Ev M1 (.pure 139 [ratA f1 f2 r,ratA g1 g2 s]) (ratF (r / s)) []:=
 call139 (wdiv_s _ _ _ _ _ _ _ ⟨h,.refl _⟩)
theorem cmp0 (r s:Rat):(J.sgnI (r.num*(s.den:Int)-s.num*(r.den:Int))==0)=decide (r=s):=by
 by_cases k:r=s
 ·rw [beq_iff_eq.2 (cross.2 k),decide_eq_true k]
 ·rw [decide_eq_false k]
  simpa using fun x=>k (cross.1 x)
theorem ev97 (f1 f2 g1 g2:Bool) (r s:Rat) (h:J.okR r/\J.okR s):Ev M1 (.pure 97 [ratA f1 f2 r,ratA g1 g2 s]) (.bool (decide (r=s))) []:=
 call97 (weq_s _ _ _ _ _ _ _ ⟨h,by rw [cmp0]⟩)
theorem ev100:Ev M1 (.pure 100 []) (ratF (J.qi 0)) []:=
 call100 (wz_p _ ⟨by unfold J.inI;omega,.refl _⟩)
theorem ev101:Ev M1 (.pure 101 []) (ratF (J.qi 0)) []:=
 call101 (wz_q _ ⟨by unfold J.inI;omega,.refl _⟩)
end Go.Av

namespace Go.Av
open Go.Proofs
set_option maxRecDepth 100000
def fi55:Fi:=⟨42,[.tmp 4]⟩
def kp55:List (Nat × List Nat):=[(0,[2,3]),(1,[4])]
def fi57:Fi:=⟨11,[.cell 2 56]⟩
def kp57:List (Nat × List Nat):=[(0,[1,2]),(1,[2])]
def fi61:Fi:=⟨11,[.cell 2 56]⟩
def kp61:List (Nat × List Nat):=[(0,[1,2]),(1,[2])]
def fi72:Fi:=⟨24,[.tmp 4]⟩
def kp72:List (Nat × List Nat):=[(0,[2,3]),(1,[4])]
def fi73:Fi:=⟨19,[.tmp 4]⟩
def kp73:List (Nat × List Nat):=[(0,[2,3]),(1,[4])]
def fi103:Fi:=⟨49,[.cell 4 47]⟩
def kp103:List (Nat × List Nat):=[(0,[2,3,4]),(1,[2,3,4,5]),(2,[2,3,4,6]),(3,[4])]
def fi144:Fi:=⟨16,[.cell 2 56]⟩
def kp144:List (Nat × List Nat):=[(0,[1,2]),(1,[1,2,12]),(2,[1,2]),(3,[2])]
def fi146:Fi:=⟨21,[.cell 4 144]⟩
def kp146:List (Nat × List Nat):=[(0,[2,3,4]),(1,[4])]
def fi147:Fi:=⟨16,[.cell 6 98]⟩
def kp147:List (Nat × List Nat):=[(0,[3,4,5,6]),(1,[3,4,5,6,9]),(2,[6]),(3,[6])]
def fi159:Fi:=⟨10,[.cell 2 47]⟩
def kp159:List (Nat × List Nat):=[(0,[1,2]),(1,[2])]
def fi167:Fi:=⟨42,[.tmp 6]⟩
def kp167:List (Nat × List Nat):=[(0,[3,4,5]),(1,[3,4,5,7,8]),(2,[3,4,5,7,8,26]),(3,[7,8,28]),(4,[6]),(5,[6]),(6,[6])]
def mFoot_at (f1 f2 f3 f4 f5 f6 g1 g2 g3 g4:Bool) (a b c x y:Rat) (Q:AV->Heap->Prop):Prop:=Wp M1 (.run fi103 (atC (cd Tryz.f103) []) [(0,Zaw f1 f2 f3 f4 f5 f6 a b c),(1,.agg [.bool (J.Zaa x.num),.vec g1 1 ((J.Zab x.num).map (.int .u32)),.bool (J.Zaa (x.den:Int)),.vec g2 1 ((J.Zab (x.den:Int)).map (.int .u32)),.bool (J.Zaa y.num),.vec g3 1 ((J.Zab y.num).map (.int .u32)),.bool (J.Zaa (y.den:Int)),.vec g4 1 ((J.Zab (y.den:Int)).map (.int .u32))])] []) Q
def mSameL_at (f1 f2 f3 f4 f5 f6 g1 g2 g3 g4 g5 g6:Bool) (a b c x y z:Rat) (Q:AV->Heap->Prop):Prop:=Wp M1 (.run fi55 (atC (cd Tryz.f55) []) [(0,Zaw f1 f2 f3 f4 f5 f6 a b c),(1,Zaw g1 g2 g3 g4 g5 g6 x y z)] []) Q
def mSameC_at (f1 f2 f3 f4 f5 f6 g1 g2 g3 g4 g5 g6:Bool) (a b c x y z:Rat) (Q:AV->Heap->Prop):Prop:=Wp M1 (.run fi72 (atC (cd Tryz.f72) []) [(0,Zaw f1 f2 f3 f4 f5 f6 a b c),(1,Zaw g1 g2 g3 g4 g5 g6 x y z)] []) Q
def mAt_at (f1 f2 f3 f4:Bool) (x y:Rat) (Q:AV->Heap->Prop):Prop:=Wp M1 (.run fi57 (atC (cd Tryz.f57) []) [(0,.agg [.bool (J.Zaa x.num),.vec f1 1 ((J.Zab x.num).map (.int .u32)),.bool (J.Zaa (x.den:Int)),.vec f2 1 ((J.Zab (x.den:Int)).map (.int .u32)),.bool (J.Zaa y.num),.vec f3 1 ((J.Zab y.num).map (.int .u32)),.bool (J.Zaa (y.den:Int)),.vec f4 1 ((J.Zab (y.den:Int)).map (.int .u32))])] []) Q
def mRed_at (f1 f2 f3 f4 f5 f6 f7 f8 f9 f10:Bool) (ax bx ay by_ c:Rat) (Q:AV->Heap->Prop):Prop:=Wp M1 (.run fi144 (atC (cd Tryz.f144) []) [(0,.agg [.bool (J.Zaa ax.num),.vec f1 1 ((J.Zab ax.num).map (.int .u32)),.bool (J.Zaa (ax.den:Int)),.vec f2 1 ((J.Zab (ax.den:Int)).map (.int .u32)),.bool (J.Zaa bx.num),.vec f3 1 ((J.Zab bx.num).map (.int .u32)),.bool (J.Zaa (bx.den:Int)),.vec f4 1 ((J.Zab (bx.den:Int)).map (.int .u32)),.bool (J.Zaa ay.num),.vec f5 1 ((J.Zab ay.num).map (.int .u32)),.bool (J.Zaa (ay.den:Int)),.vec f6 1 ((J.Zab (ay.den:Int)).map (.int .u32)),.bool (J.Zaa by_.num),.vec f7 1 ((J.Zab by_.num).map (.int .u32)),.bool (J.Zaa (by_.den:Int)),.vec f8 1 ((J.Zab (by_.den:Int)).map (.int .u32)),.bool (J.Zaa c.num),.vec f9 1 ((J.Zab c.num).map (.int .u32)),.bool (J.Zaa (c.den:Int)),.vec f10 1 ((J.Zab (c.den:Int)).map (.int .u32))])] []) Q
def mConc_at (f1 f2 f3 f4 f5 f6 g1 g2 g3 g4 g5 g6:Bool) (a b c x y z:Rat) (Q:AV->Heap->Prop):Prop:=Wp M1 (.run fi73 (atC (cd Tryz.f73) []) [(0,Zaw f1 f2 f3 f4 f5 f6 a b c),(1,Zaw g1 g2 g3 g4 g5 g6 x y z)] []) Q
def rAt_at (f1 f2 f3 f4:Bool) (x y:Rat) (Q:AV->Heap->Prop):Prop:=Wp M1 (.run fi61 (atC (cd Tryz.f61) []) [(0,.agg [.bool (J.Zaa x.num),.vec f1 1 ((J.Zab x.num).map (.int .u32)),.bool (J.Zaa (x.den:Int)),.vec f2 1 ((J.Zab (x.den:Int)).map (.int .u32)),.bool (J.Zaa y.num),.vec f3 1 ((J.Zab y.num).map (.int .u32)),.bool (J.Zaa (y.den:Int)),.vec f4 1 ((J.Zab (y.den:Int)).map (.int .u32))])] []) Q
def rCoord_at (f1 f2 f3 f4 f5 f6:Bool) (a b c:Rat) (Q:AV->Heap->Prop):Prop:=Wp M1 (.run fi147 (atC (cd Tryz.f147) []) [(0,ratA f1 f2 a),(1,ratA f3 f4 b),(2,ratA f5 f6 c)] []) Q
def rBack_at (f1 f2 f3 f4:Bool) (x y:Rat) (Q:AV->Heap->Prop):Prop:=Wp M1 (.run fi159 (atC (cd Tryz.f159) []) [(0,.agg [.bool (J.Zaa x.num),.vec f1 1 ((J.Zab x.num).map (.int .u32)),.bool (J.Zaa (x.den:Int)),.vec f2 1 ((J.Zab (x.den:Int)).map (.int .u32)),.bool (J.Zaa y.num),.vec f3 1 ((J.Zab y.num).map (.int .u32)),.bool (J.Zaa (y.den:Int)),.vec f4 1 ((J.Zab (y.den:Int)).map (.int .u32))])] []) Q
def rTwo_at (f1 f2 f3 f4 f5 f6:Bool) (a b c:Rat) (Q:AV->Heap->Prop):Prop:=Wp M1 (.run fi167 (atC (cd Tryz.f167) []) [(0,ratA f1 f2 a),(1,ratA f3 f4 b),(2,ratA f5 f6 c)] []) Q
def rSub5_at (f1 f2 f3 f4 f5 f6 g1 g2 g3 g4 g5 g6:Bool) (a b c x y z:Rat) (Q:AV->Heap->Prop):Prop:=Wp M1 (.run fi146 (atC (cd Tryz.f146) []) [(0,Zaw f1 f2 f3 f4 f5 f6 a b c),(1,Zaw g1 g2 g3 g4 g5 g6 x y z)] []) Q
theorem call55 {args:List AV} {d:AV} (h:wc M1 fi55 Tryz.f55 args d):Ev M1 (.pure 55 args) d []:=pcl _ _ (by kernel_rfl) h
theorem call57 {args:List AV} {d:AV} (h:wc M1 fi57 Tryz.f57 args d):Ev M1 (.pure 57 args) d []:=pcl _ _ (by kernel_rfl) h
theorem call61 {args:List AV} {d:AV} (h:wc M1 fi61 Tryz.f61 args d):Ev M1 (.pure 61 args) d []:=pcl _ _ (by kernel_rfl) h
theorem call72 {args:List AV} {d:AV} (h:wc M1 fi72 Tryz.f72 args d):Ev M1 (.pure 72 args) d []:=pcl _ _ (by kernel_rfl) h
theorem call73 {args:List AV} {d:AV} (h:wc M1 fi73 Tryz.f73 args d):Ev M1 (.pure 73 args) d []:=pcl _ _ (by kernel_rfl) h
theorem call103 {args:List AV} {d:AV} (h:wc M1 fi103 Tryz.f103 args d):Ev M1 (.pure 103 args) d []:=pcl _ _ (by kernel_rfl) h
theorem call144 {args:List AV} {d:AV} (h:wc M1 fi144 Tryz.f144 args d):Ev M1 (.pure 144 args) d []:=pcl _ _ (by kernel_rfl) h
theorem call146 {args:List AV} {d:AV} (h:wc M1 fi146 Tryz.f146 args d):Ev M1 (.pure 146 args) d []:=pcl _ _ (by kernel_rfl) h
theorem call147 {args:List AV} {d:AV} (h:wc M1 fi147 Tryz.f147 args d):Ev M1 (.pure 147 args) d []:=pcl _ _ (by kernel_rfl) h
theorem call159 {args:List AV} {d:AV} (h:wc M1 fi159 Tryz.f159 args d):Ev M1 (.pure 159 args) d []:=pcl _ _ (by kernel_rfl) h
theorem call167 {args:List AV} {d:AV} (h:wc M1 fi167 Tryz.f167 args d):Ev M1 (.pure 167 args) d []:=pcl _ _ (by kernel_rfl) h
theorem mFoot (f1 f2 f3 f4 f5 f6 g1 g2 g3 g4:Bool) (a b c x y:Rat)  (dq:AV) (H :
  (J.okR a/\J.okR x) /\
  (J.okR b/\J.okR y) /\
  (J.okR (a*x)/\J.okR (b*y)) /\
  (J.okR (a*x+b*y)/\J.okR c) /\
  (J.okR a/\J.okR a) /\
  (J.okR b/\J.okR b) /\
  (J.okR (a*a)/\J.okR (b*b)) /\
  (J.okR (a*x+b*y-c)/\J.okR (a*a+b*b)/\(a*a+b*b).num ≠ 0) /\
  (J.okR ((a*x+b*y-c) / (a*a+b*b))/\J.okR a) /\
  (J.okR x/\J.okR ((a*x+b*y-c) / (a*a+b*b)*a)) /\
  (J.okR ((a*x+b*y-c) / (a*a+b*b))/\J.okR b) /\
  (J.okR y/\J.okR ((a*x+b*y-c) / (a*a+b*b)*b)) /\
  Weak (ag [vb (J.Zaa (x-(a*x+b*y-c) / (a*a+b*b)*a).num),vf (us (J.Zab (x-(a*x+b*y-c) / (a*a+b*b)*a).num)),vb (J.Zaa (↑(x-(a*x+b*y-c) / (a*a+b*b)*a).den:Int)),vf (us (J.Zab (↑(x-(a*x+b*y-c) / (a*a+b*b)*a).den:Int))),vb (J.Zaa (y-(a*x+b*y-c) / (a*a+b*b)*b).num),vf (us (J.Zab (y-(a*x+b*y-c) / (a*a+b*b)*b).num)),vb (J.Zaa (↑(y-(a*x+b*y-c) / (a*a+b*b)*b).den:Int)),vf (us (J.Zab (↑(y-(a*x+b*y-c) / (a*a+b*b)*b).den:Int)))]) dq) :
 mFoot_at f1 f2 f3 f4 f5 f6 g1 g2 g3 g4 a b c x y (Zag dq):=by
 unfold mFoot_at
 obtain ⟨k1,k2,k3,k4,k5,k6,k7,k8,k9,k10,k11,k12,H⟩:=H
 exact Zah (G:=Zad kp103 [(1,4,.call (ratF (a*x)) none),(1,9,.call (ratF (b*y)) none),(1,10,.call (ratF (a*x+b*y)) none),(1,13,.call (ratF (a*x+b*y-c)) none),(2,5,.call (ratF (a*a)) none),(2,10,.call (ratF (b*b)) none),(2,11,.call (ratF (a*a+b*b)) none),(2,12,.call (ratF ((a*x+b*y-c) / (a*a+b*b))) none),(3,5,.call (ratF ((a*x+b*y-c) / (a*a+b*b)*a)) none),(3,6,.call (ratF (x-(a*x+b*y-c) / (a*a+b*b)*a)) none),(3,12,.call (ratF ((a*x+b*y-c) / (a*a+b*b)*b)) none),(3,13,.call (ratF (y-(a*x+b*y-c) / (a*a+b*b)*b)) none)] []) 1000 [] (ag [vb (J.Zaa (x-(a*x+b*y-c) / (a*a+b*b)*a).num),vf (us (J.Zab (x-(a*x+b*y-c) / (a*a+b*b)*a).num)),vb (J.Zaa (↑(x-(a*x+b*y-c) / (a*a+b*b)*a).den:Int)),vf (us (J.Zab (↑(x-(a*x+b*y-c) / (a*a+b*b)*a).den:Int))),vb (J.Zaa (y-(a*x+b*y-c) / (a*a+b*b)*b).num),vf (us (J.Zab (y-(a*x+b*y-c) / (a*a+b*b)*b).num)),vb (J.Zaa (↑(y-(a*x+b*y-c) / (a*a+b*b)*b).den:Int)),vf (us (J.Zab (↑(y-(a*x+b*y-c) / (a*a+b*b)*b).den:Int)))]) (by kernel_rfl) (bc rfl (bc rfl (bc rfl (bc rfl (bc rfl (bc rfl (bc rfl (bc rfl (bc rfl (bc rfl (bc rfl (bc rfl (bc rfl (bc rfl (bc rfl (bc rfl (bc rfl (bc rfl (bc rfl b0))))))))))))))))))) q0 (ce (@ev98 f1 f2 g1 g2 a x k1) (ce (@ev98 f3 f4 g3 g4 b y k2) (ce (@ev138 false false false false (a*x) (b*y) k3) (ce (@ev137 false false f5 f6 (a*x+b*y) c k4) (ce (@ev98 f1 f2 f1 f2 a a k5) (ce (@ev98 f3 f4 f3 f4 b b k6) (ce (@ev138 false false false false (a*a) (b*b) k7) (ce (@ev139 false false false false (a*x+b*y-c) (a*a+b*b) k8) (ce (@ev98 false false f1 f2 ((a*x+b*y-c) / (a*a+b*b)) a k9) (ce (@ev137 g1 g2 false false x ((a*x+b*y-c) / (a*a+b*b)*a) k10) (ce (@ev98 false false f3 f4 ((a*x+b*y-c) / (a*a+b*b)) b k11) (ce (@ev137 g3 g4 false false y ((a*x+b*y-c) / (a*a+b*b)*b) k12) c0)))))))))))) H
noncomputable abbrev zNmB1 (a:Rat) (y:Rat) (x:Rat) (b:Rat) (z:Rat) (c:Rat):=bif decide (a*y=x*b) then decide (a*z=x*c) else false
theorem mSameL (f1 f2 f3 f4 f5 f6 g1 g2 g3 g4 g5 g6:Bool) (a b c x y z:Rat)  (dq:AV) (H :
  (J.okR a/\J.okR y) /\
  (J.okR x/\J.okR b) /\
  (J.okR (a*y)/\J.okR (x*b)) /\
  ((a*y=x*b)->(J.okR a/\J.okR z)) /\
  ((a*y=x*b)->(J.okR x/\J.okR c)) /\
  ((a*y=x*b)->(J.okR (a*z)/\J.okR (x*c))) /\
  (((a*y=x*b)/\(a*z=x*c))->(J.okR b/\J.okR z)) /\
  (((a*y=x*b)/\(a*z=x*c))->(J.okR y/\J.okR c)) /\
  (((a*y=x*b)/\(a*z=x*c))->(J.okR (b*z)/\J.okR (y*c))) /\
  vb (bif bif decide (a*y=x*b) then decide (a*z=x*c) else false then decide (b*z=y*c) else false)=dq) :
 mSameL_at f1 f2 f3 f4 f5 f6 g1 g2 g3 g4 g5 g6 a b c x y z (Zag dq):=by
 unfold mSameL_at
 obtain ⟨k1,k2,k3,k5,k7,k9,k11,k13,k15,H⟩:=H
 exact Zao (G:=Zad kp55 [(1,4,.call (ratF (a*y)) none),(1,9,.call (ratF (x*b)) none),(1,10,.call (vb (decide (a*y=x*b))) none),(1,16,.call (ratF (a*z)) none),(1,21,.call (ratF (x*c)) none),(1,22,.call (vb (decide (a*z=x*c))) none),(1,29,.call (ratF (b*z)) none),(1,34,.call (ratF (y*c)) none),(1,35,.call (vb (decide (b*z=y*c))) none)] []) 1000 [] (asm:=[true,true,true,true,!(decide (a*y=x*b)==true&&true)||true,!(decide (a*y=x*b)==true&&true)||true,!(decide (a*y=x*b)==true&&true)||true,!(decide (a*y=x*b)==true&&true)||true,!((zNmB1 a y x b z c)==true&&true)||true,!((zNmB1 a y x b z c)==true&&true)||true,!((zNmB1 a y x b z c)==true&&true)||true,!((zNmB1 a y x b z c)==true&&true)||true]) (calls:=[⟨true,false,98,[ratA f1 f2 a,ratA g3 g4 y],[],ratF (a*y),[]⟩,⟨true,false,98,[ratA g1 g2 x,ratA f3 f4 b],[],ratF (x*b),[]⟩,⟨true,false,97,[ratF (a*y),ratF (x*b)],[],vb (decide (a*y=x*b)),[]⟩,⟨decide (a*y=x*b)==true&&true&&true,false,98,[ratA f1 f2 a,ratA g5 g6 z],[],ratF (a*z),[]⟩,⟨decide (a*y=x*b)==true&&true&&true,false,98,[ratA g1 g2 x,ratA f5 f6 c],[],ratF (x*c),[]⟩,⟨decide (a*y=x*b)==true&&true&&true,false,97,[ratF (a*z),ratF (x*c)],[],vb (decide (a*z=x*c)),[]⟩,⟨(zNmB1 a y x b z c)==true&&true&&true,false,98,[ratA f3 f4 b,ratA g5 g6 z],[],ratF (b*z),[]⟩,⟨(zNmB1 a y x b z c)==true&&true&&true,false,98,[ratA g3 g4 y,ratA f5 f6 c],[],ratF (y*c),[]⟩,⟨(zNmB1 a y x b z c)==true&&true&&true,false,97,[ratF (b*z),ratF (y*c)],[],vb (decide (b*z=y*c)),[]⟩]) (vb (bif bif decide (a*y=x*b) then decide (a*z=x*c) else false then decide (b*z=y*c) else false)) (by kernel_rfl) (bc rfl (bc rfl (bc rfl (bc rfl (bc (Bool.or_true _) (bc (Bool.or_true _) (bc (Bool.or_true _) (bc (Bool.or_true _) (bc (Bool.or_true _) (bc (Bool.or_true _) (bc (Bool.or_true _) (bc (Bool.or_true _) b0)))))))))))) q0 (cc (fun _=>(@ev98 f1 f2 g3 g4 a y k1)) (cc (fun _=>(@ev98 g1 g2 f3 f4 x b k2)) (cc (fun _=>(@ev97 false false false false (a*y) (x*b) k3)) (cc (fun hc=>((@ev98 f1 f2 g5 g6 a z (k5 ((i_at (i_at (i_bt Zac))).1 hc))):Ev M1 (Conf.pure 98 [ratA f1 f2 a,ratA g5 g6 z]) (ratF (a*z)) [])) (cc (fun hc=>((@ev98 g1 g2 f5 f6 x c (k7 ((i_at (i_at (i_bt Zac))).1 hc))):Ev M1 (Conf.pure 98 [ratA g1 g2 x,ratA f5 f6 c]) (ratF (x*c)) [])) (cc (fun hc=>((@ev97 false false false false (a*z) (x*c) (k9 ((i_at (i_at (i_bt Zac))).1 hc))):Ev M1 (Conf.pure 97 [ratF (a*z),ratF (x*c)]) (vb (decide (a*z=x*c))) [])) (cc (fun hc=>((@ev98 f3 f4 g5 g6 b z (k11 ((i_at (i_at (i_bt (ZaG Zac Zac)))).1 hc))):Ev M1 (Conf.pure 98 [ratA f3 f4 b,ratA g5 g6 z]) (ratF (b*z)) [])) (cc (fun hc=>((@ev98 g3 g4 f5 f6 y c (k13 ((i_at (i_at (i_bt (ZaG Zac Zac)))).1 hc))):Ev M1 (Conf.pure 98 [ratA g3 g4 y,ratA f5 f6 c]) (ratF (y*c)) [])) (cc (fun hc=>((@ev97 false false false false (b*z) (y*c) (k15 ((i_at (i_at (i_bt (ZaG Zac Zac)))).1 hc))):Ev M1 (Conf.pure 97 [ratF (b*z),ratF (y*c)]) (vb (decide (b*z=y*c))) [])) c0))))))))) H
theorem mSameC (f1 f2 f3 f4 f5 f6 g1 g2 g3 g4 g5 g6:Bool) (a b c x y z:Rat)  (dq:AV) (H :
  (J.okR a/\J.okR x) /\
  ((a=x)->(J.okR b/\J.okR y)) /\
  (((a=x)/\(b=y))->(J.okR c/\J.okR z)) /\
  vb (bif bif decide (a=x) then decide (b=y) else false then decide (c=z) else false)=dq) :
 mSameC_at f1 f2 f3 f4 f5 f6 g1 g2 g3 g4 g5 g6 a b c x y z (Zag dq):=by
 unfold mSameC_at
 obtain ⟨k1,k3,k5,H⟩:=H
 exact Zao (G:=Zad kp72 [(1,4,.call (vb (decide (a=x))) none),(1,10,.call (vb (decide (b=y))) none),(1,17,.call (vb (decide (c=z))) none)] []) 1000 [] (asm:=[true,true,!(decide (a=x)==true&&true)||true,!(decide (a=x)==true&&true)||true,!((bif decide (a=x) then decide (b=y) else false)==true&&true)||true,!((bif decide (a=x) then decide (b=y) else false)==true&&true)||true]) (calls:=[⟨true,false,97,[ratA f1 f2 a,ratA g1 g2 x],[],vb (decide (a=x)),[]⟩,⟨decide (a=x)==true&&true&&true,false,97,[ratA f3 f4 b,ratA g3 g4 y],[],vb (decide (b=y)),[]⟩,⟨(bif decide (a=x) then decide (b=y) else false)==true&&true&&true,false,97,[ratA f5 f6 c,ratA g5 g6 z],[],vb (decide (c=z)),[]⟩]) (vb (bif bif decide (a=x) then decide (b=y) else false then decide (c=z) else false)) (by kernel_rfl) (bc rfl (bc rfl (bc (Bool.or_true _) (bc (Bool.or_true _) (bc (Bool.or_true _) (bc (Bool.or_true _) b0)))))) q0 (cc (fun _=>(@ev97 f1 f2 g1 g2 a x k1)) (cc (fun hc=>((@ev97 f3 f4 g3 g4 b y (k3 ((i_at (i_at (i_bt Zac))).1 hc))):Ev M1 (Conf.pure 97 [ratA f3 f4 b,ratA g3 g4 y]) (vb (decide (b=y))) [])) (cc (fun hc=>((@ev97 f5 f6 g5 g6 c z (k5 ((i_at (i_at (i_bt (ZaG Zac Zac)))).1 hc))):Ev M1 (Conf.pure 97 [ratA f5 f6 c,ratA g5 g6 z]) (vb (decide (c=z))) [])) c0))) H
noncomputable abbrev zNmB2:=us (J.Zab (↑(J.qi 0).den:Int))
noncomputable abbrev zNmB3:=us (J.Zab (J.qi 0).num)
theorem mAt (f1 f2 f3 f4:Bool) (x y:Rat)  (dq:AV) (H :
  Weak (ag [vb (J.Zaa x.num),AV.vec f1 1 (us (J.Zab x.num)),vb (J.Zaa (↑x.den:Int)),AV.vec f2 1 (us (J.Zab (↑x.den:Int))),vb (J.Zaa (J.qi 0).num),vf (us (J.Zab (J.qi 0).num)),vb (J.Zaa (↑(J.qi 0).den:Int)),vf (us (J.Zab (↑(J.qi 0).den:Int))),vb (J.Zaa y.num),AV.vec f3 1 (us (J.Zab y.num)),vb (J.Zaa (↑y.den:Int)),AV.vec f4 1 (us (J.Zab (↑y.den:Int))),vb (J.Zaa (J.qi 0).num),vf (us (J.Zab (J.qi 0).num)),vb (J.Zaa (↑(J.qi 0).den:Int)),vf (us (J.Zab (↑(J.qi 0).den:Int))),vb (J.Zaa (J.qi 0).num),vf (us (J.Zab (J.qi 0).num)),vb (J.Zaa (↑(J.qi 0).den:Int)),vf (us (J.Zab (↑(J.qi 0).den:Int)))]) dq) :
 mAt_at f1 f2 f3 f4 x y (Zag dq):=by
 unfold mAt_at
 exact Zah (G:=Zad kp57 [(1,2,.call (ratF (J.qi 0)) none),(1,5,.call (ratF (J.qi 0)) none),(1,6,.call (ratF (J.qi 0)) none)] []) 1000 [] (ag [vb (J.Zaa x.num),AV.vec f1 1 (us (J.Zab x.num)),vb (J.Zaa (↑x.den:Int)),AV.vec f2 1 (us (J.Zab (↑x.den:Int))),vb (J.Zaa (J.qi 0).num),vf zNmB3,vb (J.Zaa (↑(J.qi 0).den:Int)),vf zNmB2,vb (J.Zaa y.num),AV.vec f3 1 (us (J.Zab y.num)),vb (J.Zaa (↑y.den:Int)),AV.vec f4 1 (us (J.Zab (↑y.den:Int))),vb (J.Zaa (J.qi 0).num),vf zNmB3,vb (J.Zaa (↑(J.qi 0).den:Int)),vf zNmB2,vb (J.Zaa (J.qi 0).num),vf zNmB3,vb (J.Zaa (↑(J.qi 0).den:Int)),vf zNmB2]) (by kernel_rfl) (bc rfl (bc rfl (bc rfl b0))) q0 (ce (@ev100 ) (ce (@ev100 ) (ce (@ev100 ) c0))) H
noncomputable abbrev zNmB4 (ax:Rat) (f1:Bool) (f2:Bool) (bx:Rat) (f3:Bool) (f4:Bool) (ay:Rat) (f5:Bool) (f6:Bool) (by_:Rat) (f7:Bool) (f8:Bool) (c:Rat) (f9:Bool) (f10:Bool):=ag [vb (J.Zaa ax.num),AV.vec f1 1 (us (J.Zab ax.num)),vb (J.Zaa (↑ax.den:Int)),AV.vec f2 1 (us (J.Zab (↑ax.den:Int))),vb (J.Zaa bx.num),AV.vec f3 1 (us (J.Zab bx.num)),vb (J.Zaa (↑bx.den:Int)),AV.vec f4 1 (us (J.Zab (↑bx.den:Int))),vb (J.Zaa ay.num),AV.vec f5 1 (us (J.Zab ay.num)),vb (J.Zaa (↑ay.den:Int)),AV.vec f6 1 (us (J.Zab (↑ay.den:Int))),vb (J.Zaa by_.num),AV.vec f7 1 (us (J.Zab by_.num)),vb (J.Zaa (↑by_.den:Int)),AV.vec f8 1 (us (J.Zab (↑by_.den:Int))),vb (J.Zaa c.num),AV.vec f9 1 (us (J.Zab c.num)),vb (J.Zaa (↑c.den:Int)),AV.vec f10 1 (us (J.Zab (↑c.den:Int)))]
theorem mRed (f1 f2 f3 f4 f5 f6 f7 f8 f9 f10:Bool) (ax bx ay by_ c:Rat)  (dq:AV) (H :
  (((J.sgnI bx.num=0)/\(J.sgnI by_.num=0))->Weak (ag [vb (J.Zaa ax.num),AV.vec f1 1 (us (J.Zab ax.num)),vb (J.Zaa (↑ax.den:Int)),AV.vec f2 1 (us (J.Zab (↑ax.den:Int))),vb (J.Zaa bx.num),AV.vec f3 1 (us (J.Zab bx.num)),vb (J.Zaa (↑bx.den:Int)),AV.vec f4 1 (us (J.Zab (↑bx.den:Int))),vb (J.Zaa ay.num),AV.vec f5 1 (us (J.Zab ay.num)),vb (J.Zaa (↑ay.den:Int)),AV.vec f6 1 (us (J.Zab (↑ay.den:Int))),vb (J.Zaa by_.num),AV.vec f7 1 (us (J.Zab by_.num)),vb (J.Zaa (↑by_.den:Int)),AV.vec f8 1 (us (J.Zab (↑by_.den:Int))),vb (J.Zaa (J.qi 0).num),vf (us (J.Zab (J.qi 0).num)),vb (J.Zaa (↑(J.qi 0).den:Int)),vf (us (J.Zab (↑(J.qi 0).den:Int)))]) dq) /\
  (¬((J.sgnI bx.num=0)/\(J.sgnI by_.num=0))->Weak (ag [vb (J.Zaa ax.num),AV.vec f1 1 (us (J.Zab ax.num)),vb (J.Zaa (↑ax.den:Int)),AV.vec f2 1 (us (J.Zab (↑ax.den:Int))),vb (J.Zaa bx.num),AV.vec f3 1 (us (J.Zab bx.num)),vb (J.Zaa (↑bx.den:Int)),AV.vec f4 1 (us (J.Zab (↑bx.den:Int))),vb (J.Zaa ay.num),AV.vec f5 1 (us (J.Zab ay.num)),vb (J.Zaa (↑ay.den:Int)),AV.vec f6 1 (us (J.Zab (↑ay.den:Int))),vb (J.Zaa by_.num),AV.vec f7 1 (us (J.Zab by_.num)),vb (J.Zaa (↑by_.den:Int)),AV.vec f8 1 (us (J.Zab (↑by_.den:Int))),vb (J.Zaa c.num),AV.vec f9 1 (us (J.Zab c.num)),vb (J.Zaa (↑c.den:Int)),AV.vec f10 1 (us (J.Zab (↑c.den:Int)))]) dq)) :
 mRed_at f1 f2 f3 f4 f5 f6 f7 f8 f9 f10 ax bx ay by_ c (Zag dq):=by
 unfold mRed_at
 refine Zae (G:=Zad kp144 [(1,2,.call (vi (J.sgnI bx.num)) none),(1,7,.call (vi (J.sgnI by_.num)) none)] []) 5 [] ⟨(atC (cd Tryz.f144) [1,0,1]),[(1,AV.ptr 0 0 0 0),(2,AV.ptr 1 0 0 0),(12,vb (bif J.sgnI bx.num==0 then J.sgnI by_.num==0 else false))],[⟨[(zNmB4 ax f1 f2 bx f3 f4 ay f5 f6 by_ f7 f8 c f9 f10)],20,0,false,false⟩,⟨[ag [vb false,AV.vnil,vb false,AV.vnil,vb false,AV.vnil,vb false,AV.vnil,vb false,AV.vnil,vb false,AV.vnil,vb false,AV.vnil,vb false,AV.vnil,vb false,AV.vnil,vb false,AV.vnil]],20,0,false,false⟩],[true,!((J.sgnI bx.num==0)==true&&true)||true],[],[⟨true,false,54,[ratA f3 f4 bx],[],vi (J.sgnI bx.num),[]⟩,⟨(J.sgnI bx.num==0)==true&&true&&true,false,54,[ratA f7 f8 by_],[],vi (J.sgnI by_.num),[]⟩]⟩ (by kernel_rfl) (bc rfl (bc (Bool.or_true _) b0)) q0 (cc (fun _=>(@ev54 f3 f4 (bx.num) ((↑bx.den:Int)))) (cc (fun hc=>((@ev54 f7 f8 (by_.num) ((↑by_.den:Int))):Ev M1 (Conf.pure 54 [ratA f7 f8 by_]) (vi (J.sgnI by_.num)) [])) c0)) ?_
 rcases xq H with ⟨d3,H⟩|⟨d3,H⟩
 ·exact Zah (G:=Zad kp144 [(2,0,.call (ratF (J.qi 0)) none)] []) 1000 [true] (asm:=[(bif J.sgnI bx.num==0 then J.sgnI by_.num==0 else false)==true,0==0,true,true]) (ag [vb (J.Zaa ax.num),AV.vec f1 1 (us (J.Zab ax.num)),vb (J.Zaa (↑ax.den:Int)),AV.vec f2 1 (us (J.Zab (↑ax.den:Int))),vb (J.Zaa bx.num),AV.vec f3 1 (us (J.Zab bx.num)),vb (J.Zaa (↑bx.den:Int)),AV.vec f4 1 (us (J.Zab (↑bx.den:Int))),vb (J.Zaa ay.num),AV.vec f5 1 (us (J.Zab ay.num)),vb (J.Zaa (↑ay.den:Int)),AV.vec f6 1 (us (J.Zab (↑ay.den:Int))),vb (J.Zaa by_.num),AV.vec f7 1 (us (J.Zab by_.num)),vb (J.Zaa (↑by_.den:Int)),AV.vec f8 1 (us (J.Zab (↑by_.den:Int))),vb (J.Zaa (J.qi 0).num),vf (us (J.Zab (J.qi 0).num)),vb (J.Zaa (↑(J.qi 0).den:Int)),vf (us (J.Zab (↑(J.qi 0).den:Int)))]) (by kernel_rfl) (bc (Zaq ((ZaG i_eq i_eq).2 d3)) (bc (beq_self_eq_true _) (bc rfl (bc rfl b0)))) q0 (ce (@ev100 ) c0) H
 ·exact Zah (G:=Zad kp144 [] []) 1000 [false] ((zNmB4 ax f1 f2 bx f3 f4 ay f5 f6 by_ f7 f8 c f9 f10)) (by kernel_rfl) (bc (Zam (fun h=>d3 ((ZaG i_eq i_eq).1 h))) (bc rfl (bc rfl b0))) q0 c0 H
noncomputable abbrev zNmB5 (a:Rat) (x:Rat):=J.sgnI (a.num*(↑x.den:Int)-x.num*(↑a.den:Int))==0
theorem mConc (f1 f2 f3 f4 f5 f6 g1 g2 g3 g4 g5 g6:Bool) (a b c x y z:Rat)  (dq:AV) (H :
  (J.okR a/\J.okR x) /\
  ((J.sgnI (a.num*(↑x.den:Int)-x.num*(↑a.den:Int))=0)->(J.okR b/\J.okR y)) /\
  vb (bif J.sgnI (a.num*(↑x.den:Int)-x.num*(↑a.den:Int))==0 then J.sgnI (b.num*(↑y.den:Int)-y.num*(↑b.den:Int))==0 else false)=dq) :
 mConc_at f1 f2 f3 f4 f5 f6 g1 g2 g3 g4 g5 g6 a b c x y z (Zag dq):=by
 unfold mConc_at
 obtain ⟨k1,k3,H⟩:=H
 exact Zao (G:=Zad kp73 [(1,4,.call (vi (J.sgnI (a.num*(↑x.den:Int)-x.num*(↑a.den:Int)))) none),(1,11,.call (vi (J.sgnI (b.num*(↑y.den:Int)-y.num*(↑b.den:Int)))) none)] []) 1000 [] (asm:=[true,true,!((zNmB5 a x)==true&&true)||true,!((zNmB5 a x)==true&&true)||true]) (calls:=[⟨true,false,110,[ratA f1 f2 a,ratA g1 g2 x],[],vi (J.sgnI (a.num*(↑x.den:Int)-x.num*(↑a.den:Int))),[]⟩,⟨(zNmB5 a x)==true&&true&&true,false,110,[ratA f3 f4 b,ratA g3 g4 y],[],vi (J.sgnI (b.num*(↑y.den:Int)-y.num*(↑b.den:Int))),[]⟩]) (vb (bif J.sgnI (a.num*(↑x.den:Int)-x.num*(↑a.den:Int))==0 then J.sgnI (b.num*(↑y.den:Int)-y.num*(↑b.den:Int))==0 else false)) (by kernel_rfl) (bc rfl (bc rfl (bc (Bool.or_true _) (bc (Bool.or_true _) b0)))) q0 (cc (fun _=>(@ev110 f1 f2 g1 g2 a x k1)) (cc (fun hc=>((@ev110 f3 f4 g3 g4 b y (k3 ((i_at (i_at (i_bt i_eq))).1 hc))):Ev M1 (Conf.pure 110 [ratA f3 f4 b,ratA g3 g4 y]) (vi (J.sgnI (b.num*(↑y.den:Int)-y.num*(↑b.den:Int)))) [])) c0)) H
noncomputable abbrev zNmB7:=us (J.Zab (↑(J.qi 0).den:Int))
noncomputable abbrev zNmB8:=us (J.Zab (J.qi 0).num)
theorem rAt (f1 f2 f3 f4:Bool) (x y:Rat)  (dq:AV) (H :
  Weak (ag [vb (J.Zaa x.num),AV.vec f1 1 (us (J.Zab x.num)),vb (J.Zaa (↑x.den:Int)),AV.vec f2 1 (us (J.Zab (↑x.den:Int))),vb (J.Zaa (J.qi 0).num),vf (us (J.Zab (J.qi 0).num)),vb (J.Zaa (↑(J.qi 0).den:Int)),vf (us (J.Zab (↑(J.qi 0).den:Int))),vb (J.Zaa y.num),AV.vec f3 1 (us (J.Zab y.num)),vb (J.Zaa (↑y.den:Int)),AV.vec f4 1 (us (J.Zab (↑y.den:Int))),vb (J.Zaa (J.qi 0).num),vf (us (J.Zab (J.qi 0).num)),vb (J.Zaa (↑(J.qi 0).den:Int)),vf (us (J.Zab (↑(J.qi 0).den:Int))),vb (J.Zaa (J.qi 0).num),vf (us (J.Zab (J.qi 0).num)),vb (J.Zaa (↑(J.qi 0).den:Int)),vf (us (J.Zab (↑(J.qi 0).den:Int)))]) dq) :
 rAt_at f1 f2 f3 f4 x y (Zag dq):=by
 unfold rAt_at
 exact Zah (G:=Zad kp61 [(1,2,.call (ratF (J.qi 0)) none),(1,5,.call (ratF (J.qi 0)) none),(1,6,.call (ratF (J.qi 0)) none)] []) 1000 [] (ag [vb (J.Zaa x.num),AV.vec f1 1 (us (J.Zab x.num)),vb (J.Zaa (↑x.den:Int)),AV.vec f2 1 (us (J.Zab (↑x.den:Int))),vb (J.Zaa (J.qi 0).num),vf zNmB8,vb (J.Zaa (↑(J.qi 0).den:Int)),vf zNmB7,vb (J.Zaa y.num),AV.vec f3 1 (us (J.Zab y.num)),vb (J.Zaa (↑y.den:Int)),AV.vec f4 1 (us (J.Zab (↑y.den:Int))),vb (J.Zaa (J.qi 0).num),vf zNmB8,vb (J.Zaa (↑(J.qi 0).den:Int)),vf zNmB7,vb (J.Zaa (J.qi 0).num),vf zNmB8,vb (J.Zaa (↑(J.qi 0).den:Int)),vf zNmB7]) (by kernel_rfl) (bc rfl (bc rfl (bc rfl b0))) q0 (ce (@ev101 ) (ce (@ev101 ) (ce (@ev101 ) c0))) H
theorem rCoord (f1 f2 f3 f4 f5 f6:Bool) (a b c:Rat)  (dq:AV) (H :
  ((J.sgnI b.num=0)->Weak (Zau a (J.qi 0) (J.qi 0)) dq) /\
  (¬(J.sgnI b.num=0)->Weak (Zaw f1 f2 f3 f4 f5 f6 a b c) dq)) :
 rCoord_at f1 f2 f3 f4 f5 f6 a b c (Zag dq):=by
 unfold rCoord_at
 refine Zae (G:=Zad kp147 [(1,1,.call (vi (J.sgnI b.num)) none)] []) 5 [] ⟨(atC (cd Tryz.f147) [1,0,1]),[(3,AV.ptr 0 0 0 0),(4,AV.ptr 1 0 0 0),(5,AV.ptr 2 0 0 0),(6,AV.ptr 3 0 0 0),(9,vb (J.sgnI b.num==0))],[⟨[ratA f1 f2 a],4,0,false,false⟩,⟨[ratA f3 f4 b],4,0,false,false⟩,⟨[ratA f5 f6 c],4,0,false,false⟩,⟨[ag [vb false,AV.vnil,vb false,AV.vnil,vb false,AV.vnil,vb false,AV.vnil,vb false,AV.vnil,vb false,AV.vnil]],12,0,false,false⟩],_,[],_⟩ (by kernel_rfl) (bc rfl b0) q0 (ce (@ev20 f3 f4 (b.num) ((↑b.den:Int))) c0) ?_
 rcases xq H with ⟨d2,H⟩|⟨d2,H⟩
 ·exact Zah (G:=Zad kp147 [(2,1,.call (Zau a (J.qi 0) (J.qi 0)) none)] []) 1000 [true] (Zau a (J.qi 0) (J.qi 0)) (by kernel_rfl) (bc (Zaq (i_eq.2 d2)) (bc rfl (bc rfl b0))) q0 (ce (@ev155 f1 f2 a) c0) H
 ·exact Zah (G:=Zad kp147 [] []) 1000 [false] (Zaw f1 f2 f3 f4 f5 f6 a b c) (by kernel_rfl) (bc (Zam (fun h=>d2 (i_eq.1 h))) (bc rfl (bc rfl (bc rfl (bc rfl b0))))) q0 c0 H
theorem rBack (f1 f2 f3 f4:Bool) (x y:Rat)  (dq:AV) (H :
  (J.ok x.num) /\
  (J.ok y.num) /\
  Weak (ag [vb (J.Zaa (-x).num),vf (us (J.Zab (-x).num)),vb (J.Zaa (↑(-x).den:Int)),vf (us (J.Zab (↑(-x).den:Int))),vb (J.Zaa (-y).num),vf (us (J.Zab (-y).num)),vb (J.Zaa (↑(-y).den:Int)),vf (us (J.Zab (↑(-y).den:Int)))]) dq) :
 rBack_at f1 f2 f3 f4 x y (Zag dq):=by
 unfold rBack_at
 obtain ⟨k1,k2,H⟩:=H
 exact Zah (G:=Zad kp159 [(1,2,.call (ratF (-x)) none),(1,5,.call (ratF (-y)) none)] []) 1000 [] (ag [vb (J.Zaa (-x).num),vf (us (J.Zab (-x).num)),vb (J.Zaa (↑(-x).den:Int)),vf (us (J.Zab (↑(-x).den:Int))),vb (J.Zaa (-y).num),vf (us (J.Zab (-y).num)),vb (J.Zaa (↑(-y).den:Int)),vf (us (J.Zab (↑(-y).den:Int)))]) (by kernel_rfl) (bc rfl (bc rfl (bc rfl b0))) q0 (ce (@ev82 f1 f2 x k1) (ce (@ev82 f3 f4 y k2) c0)) H
theorem rTwo (f1 f2 f3 f4 f5 f6:Bool) (a b c:Rat)  (dq:AV) (H :
  (-9223372036854775808<=J.sgnI b.num*J.sgnI c.num/\J.sgnI b.num*J.sgnI c.num<=9223372036854775807) /\
  ((((J.sgnI a.num=0)\/(J.sgnI b.num*J.sgnI c.num=0))\/(J.sgnI a.num=J.sgnI b.num*J.sgnI c.num))->((J.sgnI a.num=0)->vi (J.sgnI b.num*J.sgnI c.num)=dq) /\
   (¬(J.sgnI a.num=0)->vi (J.sgnI a.num)=dq)) /\
  (¬(((J.sgnI a.num=0)\/(J.sgnI b.num*J.sgnI c.num=0))\/(J.sgnI a.num=J.sgnI b.num*J.sgnI c.num))->(J.okR a/\J.okR a) /\
   (J.okR b/\J.okR b) /\
   (J.okR (b*b)/\J.okR c) /\
   (J.okR (a*a)/\J.okR (b*b*c)) /\
   (-9223372036854775808<=J.sgnI a.num*J.sgnI ((a*a).num*(↑(b*b*c).den:Int)-(b*b*c).num*(↑(a*a).den:Int))/\J.sgnI a.num*J.sgnI ((a*a).num*(↑(b*b*c).den:Int)-(b*b*c).num*(↑(a*a).den:Int))<=9223372036854775807) /\
   vi (J.sgnI a.num*J.sgnI ((a*a).num*(↑(b*b*c).den:Int)-(b*b*c).num*(↑(a*a).den:Int)))=dq)) :
 rTwo_at f1 f2 f3 f4 f5 f6 a b c (Zag dq):=by
 unfold rTwo_at
 obtain ⟨k1,H⟩:=H
 have w2:wi (J.sgnI b.num*J.sgnI c.num)=J.sgnI b.num*J.sgnI c.num:=wI64 k1
 have i3:(bif bif J.sgnI a.num==0 then true else wi (J.sgnI b.num*J.sgnI c.num)==0 then true else J.sgnI a.num==wi (J.sgnI b.num*J.sgnI c.num))=true ↔ (((J.sgnI a.num=0)\/(J.sgnI b.num*J.sgnI c.num=0))\/(J.sgnI a.num=J.sgnI b.num*J.sgnI c.num)):=(by (try rw [w2]);all_goals exact (ZaM (ZaM i_eq i_eq) i_eq))
 refine Zae (G:=Zad kp167 [(1,1,.call (vi (J.sgnI a.num)) none),(1,3,.call (vi (J.sgnI b.num)) none),(1,5,.call (vi (J.sgnI c.num)) none)] []) 7 [] ⟨(atC (cd Tryz.f167) [1,1,0,1]),[(3,AV.ptr 0 0 0 0),(4,AV.ptr 1 0 0 0),(5,AV.ptr 2 0 0 0),(7,vi (J.sgnI a.num)),(8,vi (wi (J.sgnI b.num*J.sgnI c.num))),(26,vb (bif bif J.sgnI a.num==0 then true else wi (J.sgnI b.num*J.sgnI c.num)==0 then true else J.sgnI a.num==wi (J.sgnI b.num*J.sgnI c.num)))],[⟨[ratA f1 f2 a],4,0,false,false⟩,⟨[ratA f3 f4 b],4,0,false,false⟩,⟨[ratA f5 f6 c],4,0,false,false⟩],_,[],_⟩ (by kernel_rfl) (bc rfl (bc rfl (bc rfl b0))) q0 (ce (@ev20 f1 f2 (a.num) ((↑a.den:Int))) (ce (@ev20 f3 f4 (b.num) ((↑b.den:Int))) (ce (@ev20 f5 f6 (c.num) ((↑c.den:Int))) c0))) ?_
 rcases xq H with ⟨d4,H⟩|⟨d4,H⟩
 ·rcases xq H with ⟨d6,H⟩|⟨d6,H⟩
  ·exact Zao (G:=Zad kp167 [] []) 1000 [true,true] (vi (wi (J.sgnI b.num*J.sgnI c.num))) (by kernel_rfl) (bc (Zaq (i3.2 d4)) (bc (Zaq (i_eq.2 d6)) b0)) q0 c0 (by (try rw [w2]);all_goals exact H)
  ·exact Zao (G:=Zad kp167 [] []) 1000 [true,false] (vi (J.sgnI a.num)) (by kernel_rfl) (bc (Zaq (i3.2 d4)) (bc (Zam (fun h=>d6 (i_eq.1 h))) b0)) q0 c0 H
 ·obtain ⟨k7,k8,k9,k10,k11,H⟩:=H
  have w12:wi (J.sgnI a.num*J.sgnI ((a*a).num*(↑(b*b*c).den:Int)-(b*b*c).num*(↑(a*a).den:Int)))=J.sgnI a.num*J.sgnI ((a*a).num*(↑(b*b*c).den:Int)-(b*b*c).num*(↑(a*a).den:Int)):=wI64 k11
  exact Zao (G:=Zad kp167 [(6,3,.call (ratF (a*a)) none),(6,6,.call (ratF (b*b)) none),(6,8,.call (ratF (b*b*c)) none),(6,9,.call (vi (J.sgnI ((a*a).num*(↑(b*b*c).den:Int)-(b*b*c).num*(↑(a*a).den:Int)))) none)] []) 1000 [false] (vi (wi (J.sgnI a.num*J.sgnI ((a*a).num*(↑(b*b*c).den:Int)-(b*b*c).num*(↑(a*a).den:Int))))) (by kernel_rfl) (bc (Zam (fun h=>d4 (i3.1 h))) (bc rfl (bc rfl (bc rfl (bc rfl (bc rfl b0)))))) q0 (ce (@ev35 f1 f2 f1 f2 a a k7) (ce (@ev35 f3 f4 f3 f4 b b k8) (ce (@ev35 false false f5 f6 (b*b) c k9) (ce (@ev74 false false false false (a*a) (b*b*c) k10) c0)))) (by (try rw [w12]);all_goals exact H)
theorem rSub5 (f1 f2 f3 f4 f5 f6 g1 g2 g3 g4 g5 g6:Bool) (a b c x y z:Rat)  (dq:AV) (H :
  (J.okR a/\J.okR x) /\
  (J.ok y.num) /\
  (J.inI 0) /\
  Weak (ag [vb (J.Zaa (a-x).num),vf (us (J.Zab (a-x).num)),vb (J.Zaa (↑(a-x).den:Int)),vf (us (J.Zab (↑(a-x).den:Int))),vb (J.Zaa b.num),AV.vec f3 1 (us (J.Zab b.num)),vb (J.Zaa (↑b.den:Int)),AV.vec f4 1 (us (J.Zab (↑b.den:Int))),vb (J.Zaa (-y).num),vf (us (J.Zab (-y).num)),vb (J.Zaa (↑(-y).den:Int)),vf (us (J.Zab (↑(-y).den:Int))),vb (J.Zaa (J.qi 0).num),vf (us (J.Zab (J.qi 0).num)),vb (J.Zaa (↑(J.qi 0).den:Int)),vf (us (J.Zab (↑(J.qi 0).den:Int))),vb (J.Zaa c.num),AV.vec f5 1 (us (J.Zab c.num)),vb (J.Zaa (↑c.den:Int)),AV.vec f6 1 (us (J.Zab (↑c.den:Int))),vb (J.Zaa z.num),AV.vec g5 1 (us (J.Zab z.num)),vb (J.Zaa (↑z.den:Int)),AV.vec g6 1 (us (J.Zab (↑z.den:Int)))]) dq) :
 rSub5_at f1 f2 f3 f4 f5 f6 g1 g2 g3 g4 g5 g6 a b c x y z (Zag dq):=by
 unfold rSub5_at
 obtain ⟨k1,k2,k3,H⟩:=H
 exact Zah (G:=Zad kp146 [(1,4,.call (ratF (a-x)) none),(1,9,.call (ratF (-y)) none),(1,10,.call (ratF (J.qi 0)) none)] []) 1000 [] (ag [vb (J.Zaa (a-x).num),vf (us (J.Zab (a-x).num)),vb (J.Zaa (↑(a-x).den:Int)),vf (us (J.Zab (↑(a-x).den:Int))),vb (J.Zaa b.num),AV.vec f3 1 (us (J.Zab b.num)),vb (J.Zaa (↑b.den:Int)),AV.vec f4 1 (us (J.Zab (↑b.den:Int))),vb (J.Zaa (-y).num),vf (us (J.Zab (-y).num)),vb (J.Zaa (↑(-y).den:Int)),vf (us (J.Zab (↑(-y).den:Int))),vb (J.Zaa (J.qi 0).num),vf (us (J.Zab (J.qi 0).num)),vb (J.Zaa (↑(J.qi 0).den:Int)),vf (us (J.Zab (↑(J.qi 0).den:Int))),vb (J.Zaa c.num),AV.vec f5 1 (us (J.Zab c.num)),vb (J.Zaa (↑c.den:Int)),AV.vec f6 1 (us (J.Zab (↑c.den:Int))),vb (J.Zaa z.num),AV.vec g5 1 (us (J.Zab z.num)),vb (J.Zaa (↑z.den:Int)),AV.vec g6 1 (us (J.Zab (↑z.den:Int)))]) (by kernel_rfl) (bc rfl (bc rfl (bc rfl (bc rfl (bc rfl (bc rfl (bc rfl b0))))))) q0 (ce (@ev28 f1 f2 g1 g2 a x k1) (ce (@ev82 g3 g4 y k2) (ce (@ev84 0 k3) c0))) H
end Go.Av

namespace Go.Av
open Go.Proofs
end Go.Av

namespace Go.Av
open Go.Proofs
theorem ZbO:J.okT 1 (J.qi 0):=by rw [qi_zero];exact okT_zero
theorem okT_mkB {k:Nat} {b c:Rat} (hb:J.okT k b):J.okT (k+1) (J.mkB b c):=by
 unfold J.mkB
 split
 ·exact Zar ZbO (by omega)
 ·exact Zar hb (by omega)
theorem okT_rad {k:Nat} {b c:Rat} (hc:J.okT k c):J.okT (k+1) (J.rad b c):=by
 unfold J.rad
 split
 ·exact Zar ZbO (by omega)
 ·exact Zar hc (by omega)
theorem okT_mkC {k:Nat} {b c:Rat} (hc:J.okT k c):J.okT (k+1) (J.mkC b c):=by
 unfold J.mkC
 split
 ·exact Zar ZbO (by omega)
 ·exact okT_rad hc
end Go.Av

namespace Go.Av
open Go.Proofs
theorem num_lt {r:Rat}:r.num<0 ↔ r<0:=by
 have h:=@Rat.num_nonneg r
 constructor
 ·intro k
  apply Classical.byContradiction
  intro n
  have:0<=r:=by grind
  have:=h.2 this
  omega
 ·intro k
  apply Classical.byContradiction
  intro n
  have:0<=r:=h.1 (by omega)
  grind
theorem num_gt {r:Rat}:0<r.num ↔ 0<r:=by
 have h:=@num_lt r
 have h0:=@Rat.num_eq_zero r
 constructor
 ·intro k
  have h1:¬r<0:=fun x=>by have:=h.2 x;omega
  have h2:r ≠ 0:=fun x=>by have:=h0.2 x;omega
  grind
 ·intro k
  have h1:¬r.num<0:=fun x=>by have:=h.1 x;grind
  have h2:r.num ≠ 0:=fun x=>by have:=h0.1 x;grind
  omega
theorem ZaW {r:Rat} (h:0<r):J.sgR r=1:=by
 have:=num_gt.2 h
 unfold J.sgR J.sgnI;rw [if_neg (by omega),if_pos this]
theorem Zbx {r:Rat} (h:r<0):J.sgR r = -1:=by
 have:=num_lt.2 h
 unfold J.sgR J.sgnI;rw [if_pos this]
theorem ZaU:J.sgR 0=0:=rfl
theorem tri (r:Rat):r<0\/r=0\/0<r:=by grind
theorem ZbP {r:Rat}:(J.sgR r=1 ↔ 0<r)/\(J.sgR r=0 ↔ r=0)/\(J.sgR r = -1 ↔ r<0):=by
 rcases tri r with h | h | h
 ·rw [Zbx h]
  exact ⟨⟨fun x=>absurd x (by decide),fun x=>by grind⟩,⟨fun x=>absurd x (by decide),fun x=>by grind⟩,⟨fun _=>h,fun _=>rfl⟩⟩
 ·subst h
  exact ⟨⟨fun x=>absurd x (by decide),fun x=>by grind⟩,⟨fun _=>rfl,fun _=>rfl⟩,⟨fun x=>absurd x (by decide),fun x=>by grind⟩⟩
 ·rw [ZaW h]
  exact ⟨⟨fun _=>h,fun _=>rfl⟩,⟨fun x=>absurd x (by decide),fun x=>by grind⟩,⟨fun x=>absurd x (by decide),fun x=>by grind⟩⟩
theorem ZdF {p q:Rat} (h1:0<p) (h2:0<q):0<p*q:=Rat.mul_pos h1 h2
theorem mul_nn {p q:Rat} (h1:p<0) (h2:q<0):0<p*q:=by
 have:=Rat.mul_pos (show 0 < -p by grind) (show 0 < -q by grind)
 grind
theorem mul_pn {p q:Rat} (h1:0<p) (h2:q<0):p*q<0:=by
 have:=Rat.mul_pos h1 (show 0 < -q by grind)
 grind
theorem mul_np {p q:Rat} (h1:p<0) (h2:0<q):p*q<0:=by
 have:=Rat.mul_pos (show 0 < -p by grind) h2
 grind
theorem Zdu (p q:Rat):J.sgR (p*q)=J.sgR p*J.sgR q:=by
 rcases tri p with h | h | h
 ·rcases tri q with k | k | k
  ·rw [Zbx h,Zbx k,ZaW (mul_nn h k)];rfl
  ·subst k;rw [Rat.mul_zero,ZaU,Int.mul_zero]
  ·rw [Zbx h,ZaW k,Zbx (mul_np h k)];rfl
 ·subst h;rw [Rat.zero_mul,ZaU,Int.zero_mul]
 ·rcases tri q with k | k | k
  ·rw [ZaW h,Zbx k,Zbx (mul_pn h k)];rfl
  ·subst k;rw [Rat.mul_zero,ZaU,Int.mul_zero]
  ·rw [ZaW h,ZaW k,ZaW (ZdF h k)];rfl
theorem sq_nn (a:Rat):0<=a*a:=by
 rcases tri a with h | h | h
 ·have:=mul_nn h h;grind
 ·subst h;grind
 ·have:=ZdF h h;grind
theorem sq_pos {a:Rat} (h:a ≠ 0):0<a*a:=by
 rcases tri a with k | k | k
 ·exact mul_nn k k
 ·exact absurd k h
 ·exact ZdF k k
theorem mul_ge {p q:Rat} (h1:0<=p) (h2:0<=q):0<=p*q:=Rat.mul_nonneg h1 h2
end Go.Av

namespace Go.Av
open Go.Proofs
structure Pnt where
 ax:Rat
 bx:Rat
 ay:Rat
 by_:Rat
 c:Rat
noncomputable instance:Inhabited Pnt:=⟨⟨0,0,0,0,0⟩⟩
namespace J
noncomputable def sg2 (a b m:Rat):Int:=if sgR a=0\/sgR b*sgR m=0\/sgR a=sgR b*sgR m then (if sgR a=0 then sgR b*sgR m else sgR a) else sgR a*sgR (a*a-b*b*m)
noncomputable def sgQ (a b c d m n:Rat):Int:=
 if sgR m<0\/sgR n<0 then 0
 else if sg2 a b m=0\/sg2 c d m*sgR n=0\/sg2 a b m=sg2 c d m*sgR n then (if sg2 a b m=0 then sg2 c d m*sgR n else sg2 a b m)
 else sg2 a b m*sg2 (a*a+b*b*m-n*(c*c+d*d*m)) (a*b-n*(c*d)+(a*b-n*(c*d))) m
noncomputable def Zij (a b c x y z:Rat):Int:=sgQ (a-x) b (-y) (qi 0) c z
noncomputable def Zhh (p q:Pnt):Int:=
 if Zij p.ax p.bx (rad p.bx p.c) q.ax q.bx (rad q.bx q.c)=0 then Zij p.ay p.by_ (rad p.by_ p.c) q.ay q.by_ (rad q.by_ q.c) else Zij p.ax p.bx (rad p.bx p.c) q.ax q.bx (rad q.bx q.c)
def sameP (p q:Pnt):Prop:=(p.ax=q.ax/\sgR p.bx=sgR q.bx/\p.bx*p.bx*p.c=q.bx*q.bx*q.c/\(p.bx ≠ 0->0<p.c/\0<q.c))/\p.ay=q.ay/\sgR p.by_=sgR q.by_/\p.by_*p.by_*p.c=q.by_*q.by_*q.c/\(p.by_ ≠ 0->0<p.c/\0<q.c)
def Zbu (p:Pnt):Prop:=if p.bx=0/\p.by_=0 then p.c=0 else 0<p.c/\¬rsq p.c
noncomputable def atP (x y:Rat):Pnt:=⟨x,qi 0,y,qi 0,qi 0⟩
open Classical in
noncomputable def Zdd (x u y v k:Rat):Pnt:=if rsq k then atP (x+u*rt k) (y+v*rt k) else ⟨x,u,y,v,if u=0/\v=0 then qi 0 else k⟩
open Classical in
noncomputable def red (x u y v k:Rat):Pnt:=if rsq k then atP (x+u*rt k) (y+v*rt k) else ⟨x,u,y,v,k⟩
end J
theorem qi_z:J.qi 0=0:=by rw [Ze2];rfl
theorem rad0 (c:Rat):J.rad 0 c=0:=by unfold J.rad;rw [if_pos rfl,qi_z]
theorem radn {b c:Rat} (h:b ≠ 0):J.rad b c=c:=if_neg h
theorem sg2_a0 (b m:Rat):J.sg2 0 b m=J.sgR b*J.sgR m:=by
 unfold J.sg2;rw [if_pos (.inl ZaU),if_pos ZaU]
theorem sg2_b0 (a m:Rat):J.sg2 a 0 m=J.sgR a:=by
 unfold J.sg2
 rw [ZaU,Int.zero_mul,if_pos (.inr (.inl rfl))]
 split
 ·next h=>exact h.symm
 ·rfl
theorem sgR_ne {b:Rat} (h:b ≠ 0):J.sgR b=1\/J.sgR b = -1:=by
 rcases tri b with k | k | k
 ·exact .inr (Zbx k)
 ·exact absurd k h
 ·exact .inl (ZaW k)
theorem sgR_op (b:Rat):J.sgR (-b) = -J.sgR b:=by
 rcases tri b with k | k | k
 ·rw [Zbx k,ZaW (show 0 < -b by grind)];rfl
 ·subst k;rw [show -(0:Rat)=0 by grind,ZaU];rfl
 ·rw [ZaW k,Zbx (show -b<0 by grind)]
theorem cmp_eq {a b c x y z:Rat} (h1:a=x) (h2:J.sgR b=J.sgR y) (h3:b*b*c=y*y*z) (hc:b ≠ 0->0<c/\0<z):J.Zij a b (J.rad b c) x y (J.rad y z)=0:=by
 have e0:a-x=0:=by grind
 unfold J.Zij
 rw [e0,qi_z]
 by_cases hb:b=0
 ·subst hb
  have hy:y=0:=ZbP.2.1.1 (by rw [<- h2,ZaU])
  subst hy
  rw [rad0,rad0,show -(0:Rat)=0 by grind]
  unfold J.sgQ
  rw [sg2_a0,ZaU]
  rfl
 ·have hy:y ≠ 0:=fun k=>by
   subst k
   rw [ZaU] at h2
   exact hb (ZbP.2.1.1 h2)
  obtain ⟨p1,p2⟩:=hc hb
  rw [radn hb,radn hy]
  unfold J.sgQ
  rw [sg2_a0,sg2_b0,ZaW p1,ZaW p2,sgR_op,h2]
  have e1:(0:Rat)*0+b*b*c-z*(-y * -y+0*0*c)=0:=by grind
  have e2:(0:Rat)*b-z*(-y*0)+(0*b-z*(-y*0))=0:=by grind
  rw [e1,e2,sg2_a0,ZaU,Int.zero_mul]
  rcases sgR_ne hy with k | k <;> rw [k] <;> rfl
theorem cmp_opp {a u r:Rat} (hr:u ≠ 0->0<r):J.Zij a (-u) (J.rad (-u) r) a u (J.rad u r) = -J.sgR u:=by
 have e0:a-a=0:=by grind
 unfold J.Zij
 rw [e0,qi_z]
 by_cases hu:u=0
 ·subst hu
  rw [show -(0:Rat)=0 by grind,rad0,ZaU]
  unfold J.sgQ
  rw [sg2_a0,ZaU]
  rfl
 ·have p:=hr hu
  rw [radn hu,radn (show -u ≠ 0 by grind)]
  unfold J.sgQ
  rw [sg2_a0,sg2_b0,ZaW p,sgR_op]
  rcases sgR_ne hu with k | k <;> rw [k] <;> rfl
theorem cmp_rat (a x:Rat):J.Zij a (J.qi 0) (J.rad (J.qi 0) (J.qi 0)) x (J.qi 0) (J.rad (J.qi 0) (J.qi 0))=J.sgR (a-x):=by
 unfold J.Zij
 rw [qi_z,rad0,show -(0:Rat)=0 by grind]
 unfold J.sgQ
 rw [sg2_b0,sg2_b0,ZaU,Int.zero_mul,if_neg (by decide),if_pos (.inr (.inl rfl))]
 split
 ·next h=>exact h.symm
 ·rfl
theorem cmpP_same {p q:Pnt} (h:J.sameP p q):J.Zhh p q=0:=by
 obtain ⟨⟨h1,h2,h3,h4⟩,k1,k2,k3,k4⟩:=h
 unfold J.Zhh
 rw [if_pos (cmp_eq h1 h2 h3 h4)]
 exact cmp_eq k1 k2 k3 k4
theorem rt_nn {r:Rat} (h:J.rsq r):0<=J.rt r:=by
 have e:=(rt_num h).1
 have n:=sq_nonneg r.num
 rcases tri (J.rt r) with k | k | k
 ·have:=num_lt.2 k;omega
 ·grind
 ·grind
theorem Zgt {s t:Rat} (hs:0<=s) (ht:0<=t) (h:s*s=t*t):s=t:=by
 rcases tri (s-t) with k | k | k
 ·have:=ZdF (show 0<t-s by grind) (show 0<t+s by grind);grind
 ·grind
 ·have:=ZdF (show 0<s-t by grind) (show 0<s+t by grind);grind
theorem ZeY {k n:Rat} (hn:0<n):J.rsq (k*(n*n)) ↔ J.rsq k:=by
 have i:n*n⁻¹=1:=Rat.mul_inv_cancel n (by grind)
 constructor
 ·intro h
  refine rsq_of (s:=J.rt (k*(n*n))*n⁻¹) ?_
  have:=Zgz h
  have e:J.rt (k*(n*n))*n⁻¹*(J.rt (k*(n*n))*n⁻¹)=(J.rt (k*(n*n))*J.rt (k*(n*n)))*(n⁻¹*n⁻¹):=by grind
  rw [e,this,show k*(n*n)*(n⁻¹*n⁻¹)=k*((n*n⁻¹)*(n*n⁻¹)) by grind,i];grind
 ·intro h
  refine rsq_of (s:=J.rt k*n) ?_
  have:=Zgz h
  rw [show J.rt k*n*(J.rt k*n)=(J.rt k*J.rt k)*(n*n) by grind,this]
theorem rt_scale {k n:Rat} (hn:0<n) (h:J.rsq k):J.rt (k*(n*n))=J.rt k*n:=by
 have h2:=(ZeY hn).2 h
 refine Zgt (rt_nn h2) (mul_ge (rt_nn h) (by grind)) ?_
 rw [Zgz h2,show J.rt k*n*(J.rt k*n)=(J.rt k*J.rt k)*(n*n) by grind,Zgz h]
theorem same_refl {p:Pnt} (h:J.Zbu p):J.sameP p p:=by
 unfold J.Zbu at h
 have c:p.bx ≠ 0\/p.by_ ≠ 0->0<p.c/\0<p.c:=fun k=>by
  rw [if_neg (by rintro ⟨x,y⟩;rcases k with k | k <;> contradiction)] at h
  exact ⟨h.1,h.1⟩
 exact ⟨⟨rfl,rfl,rfl,fun k=>c (.inl k)⟩,rfl,rfl,rfl,fun k=>c (.inr k)⟩
theorem ZeP (x y:Rat):J.sameP (J.atP x y) (J.atP x y):=⟨⟨rfl,rfl,rfl,fun k=>absurd qi_z k⟩,rfl,rfl,rfl,fun k=>absurd qi_z k⟩
theorem Zgj (x y:Rat):J.Zbu (J.atP x y):=by unfold J.Zbu;rw [if_pos ⟨qi_z,qi_z⟩];exact qi_z
theorem surd_valid {x u y v k:Rat} (hk:0<k):J.Zbu (J.Zdd x u y v k):=by
 unfold J.Zdd
 split
 ·exact Zgj _ _
 ·next h =>
  unfold J.Zbu
  by_cases z:u=0/\v=0
  ·rw [if_pos z,if_pos z,qi_z]
  ·rw [if_neg z,if_neg z];exact ⟨hk,h⟩
theorem surd_red {x y u v w t k n:Rat} (hn:0<n) (hk:0<k) (hu:u=w*n) (hv:v=t*n):J.sameP (J.Zdd x u y v k) (J.red x w y t (k*(n*n))):=by
 unfold J.Zdd J.red
 have kp:0<k*(n*n):=ZdF hk (ZdF hn hn)
 by_cases s:J.rsq k
 ·rw [if_pos s,if_pos ((ZeY hn).2 s),rt_scale hn s,hu,hv,show w*n*J.rt k=w*(J.rt k*n) by grind,show t*n*J.rt k=t*(J.rt k*n) by grind]
  exact ZeP _ _
 ·rw [if_neg s,if_neg fun h=>s ((ZeY hn).1 h)]
  have g1:J.sgR u=J.sgR w:=by rw [hu,Zdu,ZaW hn,Int.mul_one]
  have g2:J.sgR v=J.sgR t:=by rw [hv,Zdu,ZaW hn,Int.mul_one]
  by_cases z:u=0/\v=0
  ·rw [if_pos z,qi_z]
   have z1:w=0:=ZbP.2.1.1 (by rw [<- g1,z.1,ZaU])
   have z2:t=0:=ZbP.2.1.1 (by rw [<- g2,z.2,ZaU])
   refine ⟨⟨rfl,g1,?_,fun h=>absurd z.1 h⟩,rfl,g2,?_,fun h=>absurd z.2 h⟩
   ·show u*u*0=w*w*(k*(n*n));rw [z.1,z1];grind
   ·show v*v*0=t*t*(k*(n*n));rw [z.2,z2];grind
  ·rw [if_neg z]
   refine ⟨⟨rfl,g1,?_,fun _=>⟨hk,kp⟩⟩,rfl,g2,?_,fun _=>⟨hk,kp⟩⟩
   ·show u*u*k=w*w*(k*(n*n));rw [hu];grind
   ·show v*v*k=t*t*(k*(n*n));rw [hv];grind
theorem red_opp {x y w t r:Rat} (hr:0<r):J.Zhh (J.red x (-w) y (-t) r) (J.red x w y t r) = -(if w=0 then J.sgR t else J.sgR w):=by
 unfold J.red
 by_cases s:J.rsq r
 ·rw [if_pos s,if_pos s]
  have p:=rt_nn s
  have q:=Zgz s
  have pp:0<J.rt r:=by
   rcases tri (J.rt r) with k | k | k
   ·grind
   ·rw [k] at q;grind
   ·exact k
  have e (a u:Rat):J.sgR (a + -u*J.rt r-(a+u*J.rt r)) = -J.sgR u:=by
   have:a + -u*J.rt r-(a+u*J.rt r) = -(u*(J.rt r*2)):=by grind
   rw [this,sgR_op,Zdu,ZaW (show 0<J.rt r*2 by grind),Int.mul_one]
  unfold J.Zhh J.atP
  simp only [cmp_rat,e]
  by_cases z:w=0
  ·rw [if_pos z,z,ZaU,if_pos (by rfl)]
  ·rw [if_neg z,if_neg (by rcases sgR_ne z with k | k <;> rw [k] <;> decide)]
 ·rw [if_neg s,if_neg s]
  unfold J.Zhh
  simp only [cmp_opp (fun _=>hr)]
  by_cases z:w=0
  ·rw [if_pos z,z,ZaU,if_pos (by rfl)]
  ·rw [if_neg z,if_neg (by rcases sgR_ne z with k | k <;> rw [k] <;> decide)]
namespace J
noncomputable def Zcu (A B:Rat):Rat:=A*A+B*B
noncomputable def val2 (A B C x y:Rat):Rat:=A*x+B*y-C
noncomputable def fX (A B C X Y:Rat):Rat:=X-val2 A B C X Y / Zcu A B*A
noncomputable def fY (A B C X Y:Rat):Rat:=Y-val2 A B C X Y / Zcu A B*B
noncomputable def dep (A B C X Y Q:Rat):Rat:=(Q-((fX A B C X Y-X)*(fX A B C X Y-X)+(fY A B C X Y-Y)*(fY A B C X Y-Y))) / Zcu A B
noncomputable def room (A B C X Y Q:Rat):Rat:=Zcu A B*Q-val2 A B C X Y*val2 A B C X Y
noncomputable def dn (A B:Rat):Bool:=decide (B<0\/B=0 /\ -A<0)
noncomputable def dU (A B:Rat):Rat:=bif dn A B then -B else B
noncomputable def dV (A B:Rat):Rat:=bif dn A B then - -A else -A
noncomputable def Zbk (A B C X Y Q:Rat):List Pnt:=
 if sgR (dep A B C X Y Q)<0 then [] else if sgR (dep A B C X Y Q)=0 then [atP (fX A B C X Y) (fY A B C X Y)]
 else [Zdd (fX A B C X Y) (-dU A B) (fY A B C X Y) (-dV A B) (dep A B C X Y Q),Zdd (fX A B C X Y) (dU A B) (fY A B C X Y) (dV A B) (dep A B C X Y Q)]
noncomputable def rP (s:Bool) (A B C X Y Q:Rat):Pnt:=bif s then red (fX A B C X Y) (-(B / Zcu A B)) (fY A B C X Y) (-(-A / Zcu A B)) (room A B C X Y Q) else red (fX A B C X Y) (B / Zcu A B) (fY A B C X Y) (-A / Zcu A B) (room A B C X Y Q)
noncomputable def Zfb (A B C X Y Q:Rat):List Pnt:=
 if sgR (room A B C X Y Q)<0 then [] else if sgR (room A B C X Y Q)=0 then [atP (fX A B C X Y) (fY A B C X Y)]
 else if Zhh (rP true A B C X Y Q) (rP false A B C X Y Q)>0 then [rP false A B C X Y Q,rP true A B C X Y Q] else [rP true A B C X Y Q,rP false A B C X Y Q]
def Zgy:List Pnt->List Pnt->Prop
 | [],[]=>True
 | p::l,q::m=>sameP p q/\Zgy l m
 | _,_=>False
end J
theorem Zcb {A B:Rat} (h:A ≠ 0\/B ≠ 0):0<J.Zcu A B:=by
 unfold J.Zcu
 rcases h with h | h
 ·have:=sq_pos h;have:=sq_nn B;grind
 ·have:=sq_pos h;have:=sq_nn A;grind
theorem dep_room {A B C X Y Q:Rat} (h:A ≠ 0\/B ≠ 0):J.dep A B C X Y Q*(J.Zcu A B*J.Zcu A B)=J.room A B C X Y Q:=by
 have hn:=Zcb h
 have i:J.Zcu A B*(J.Zcu A B)⁻¹=1:=Rat.mul_inv_cancel _ (by grind)
 unfold J.dep J.room J.fX J.fY
 generalize J.val2 A B C X Y=v
 rw [Rat.div_def,Rat.div_def]
 have e:J.Zcu A B=A*A+B*B:=rfl
 generalize J.Zcu A B=n at *
 generalize n⁻¹=m at *
 have e1:X-v*m*A-X = -(v*m*A):=by grind
 have e2:Y-v*m*B-Y = -(v*m*B):=by grind
 rw [e1,e2]
 have e3:-(v*m*A) * -(v*m*A) + -(v*m*B) * -(v*m*B)=v*v*(m*m)*n:=by rw [e];grind
 rw [e3]
 have e4:(Q-v*v*(m*m)*n)*m*(n*n)=Q*n*(n*m)-v*v*((n*m)*(n*m)*(n*m)):=by grind
 rw [e4,i];grind
theorem sg_scale {k n:Rat} (hn:0<n):J.sgR (k*(n*n))=J.sgR k:=by rw [Zdu,ZaW (ZdF hn hn),Int.mul_one]
theorem Zd3 {A B C X Y Q:Rat} (h:A ≠ 0\/B ≠ 0):J.Zgy (J.Zbk A B C X Y Q) (J.Zfb A B C X Y Q) /\ ∀ p ∈ J.Zbk A B C X Y Q,J.Zbu p:=by
 have hn:=Zcb h
 have hr:=dep_room (C:=C) (X:=X) (Y:=Y) (Q:=Q) h
 have i:J.Zcu A B*(J.Zcu A B)⁻¹=1:=Rat.mul_inv_cancel _ (by grind)
 unfold J.Zbk J.Zfb
 rw [<- hr,sg_scale hn]
 rcases tri (J.dep A B C X Y Q) with k | k | k
 ·simp only [Zbx k,show (-1:Int)<0 by decide,if_true]
  exact ⟨trivial,fun p hp=>nomatch hp⟩
 ·simp only [k,ZaU,show ¬(0:Int)<0 by decide,if_true,if_false]
  refine ⟨⟨ZeP _ _,trivial⟩,fun p hp => ?_⟩
  rw [List.mem_singleton.1 hp];exact Zgj _ _
 ·simp only [ZaW k,show ¬(1:Int)<0 by decide,show ¬(1:Int)=0 by decide,if_false]
  have vd:∀ p ∈ [J.Zdd (J.fX A B C X Y) (-J.dU A B) (J.fY A B C X Y) (-J.dV A B) (J.dep A B C X Y Q),J.Zdd (J.fX A B C X Y) (J.dU A B) (J.fY A B C X Y) (J.dV A B) (J.dep A B C X Y Q)],J.Zbu p:=fun p hp=>by
   simp only [List.mem_cons,List.not_mem_nil,or_false] at hp
   rcases hp with rfl | rfl <;> exact surd_valid k
  have rp:0<J.room A B C X Y Q:=by rw [<- hr];exact ZdF k (ZdF hn hn)
  have u1:∀ z:Rat,z=z / J.Zcu A B*J.Zcu A B:=fun z=>by rw [Rat.div_def];grind
  have sw:∀ z:Rat,J.sgR (z / J.Zcu A B)=J.sgR z:=fun z=>by
   have:=u1 z
   have e:=congrArg J.sgR this
   rw [Zdu,ZaW hn,Int.mul_one] at e
   exact e.symm
  have z0:B / J.Zcu A B=0 ↔ B=0:=by rw [<- ZbP.2.1,sw,ZbP.2.1]
  have ro:J.Zhh (J.rP true A B C X Y Q) (J.rP false A B C X Y Q) = -(if B=0 then J.sgR (-A) else J.sgR B):=by
   have:=red_opp (x:=J.fX A B C X Y) (y:=J.fY A B C X Y) (w:=B / J.Zcu A B) (t:=-A / J.Zcu A B) rp
   rw [sw,sw] at this
   unfold J.rP
   rw [cond_true,cond_false,this]
   by_cases z:B=0
   ·rw [if_pos z,if_pos (z0.2 z)]
   ·rw [if_neg z,if_neg fun y=>z (z0.1 y)]
  have sg:J.Zhh (J.rP true A B C X Y Q) (J.rP false A B C X Y Q)>0 ↔ J.dn A B=true:=by
   rw [ro]
   unfold J.dn
   rw [decide_eq_true_iff]
   by_cases z:B=0
   ·rw [if_pos z]
    rcases tri (-A) with t | t | t
    ·rw [Zbx t];exact ⟨fun _ => .inr ⟨z,t⟩,fun _=>by decide⟩
    ·rw [t,ZaU];exact ⟨fun x=>absurd x (by decide),fun x=>by grind⟩
    ·rw [ZaW t];exact ⟨fun x=>absurd x (by decide),fun x=>by grind⟩
   ·rw [if_neg z]
    rcases tri B with t | t | t
    ·rw [Zbx t];exact ⟨fun _ => .inl t,fun _=>by decide⟩
    ·exact absurd t z
    ·rw [ZaW t];exact ⟨fun x=>absurd x (by decide),fun x=>by grind⟩
  have P:∀ s:Bool,J.sameP (J.Zdd (J.fX A B C X Y) (bif s then -B else B) (J.fY A B C X Y) (bif s then - -A else -A) (J.dep A B C X Y Q)) (J.rP s A B C X Y Q):=fun s=>by
   unfold J.rP
   rw [<- hr]
   cases s with
   | true=>exact surd_red hn k (by rw [cond_true];have:=u1 B;grind) (by rw [cond_true];have:=u1 (-A);grind)
   | false=>exact surd_red hn k (by rw [cond_false];exact u1 B) (by rw [cond_false];exact u1 (-A))
  refine ⟨?_,vd⟩
  cases d:J.dn A B with
  | true =>
   rw [if_pos (sg.2 d)]
   have a1:=P false
   have a2:=P true
   rw [cond_false,cond_false] at a1
   rw [cond_true,cond_true] at a2
   unfold J.dU J.dV
   rw [d,cond_true,cond_true,show - -B=B by grind,show - - -A = -A by grind]
   exact ⟨a1,a2,trivial⟩
  | false =>
   rw [if_neg fun x=>by rw [sg.1 x] at d;exact absurd d (by decide)]
   have a1:=P false
   have a2:=P true
   rw [cond_false,cond_false] at a1
   rw [cond_true,cond_true] at a2
   unfold J.dU J.dV
   rw [d,cond_false,cond_false]
   exact ⟨a2,a1,trivial⟩
end Go.Av

namespace Go.Av
open Go.Proofs
theorem inv_n {n:Rat} (h:0<n):n*n⁻¹=1:=Rat.mul_inv_cancel n (by grind)
theorem div_mul {z n:Rat} (h:0<n):z / n*n=z:=by rw [Rat.div_def];have:=inv_n h;grind
theorem Zhc {p q n:Rat} (h:0<n) (e:p*n=q*n):p=q:=by
 have i:=inv_n h
 have:p*n*n⁻¹=q*n*n⁻¹:=by rw [e]
 rw [show p*n*n⁻¹=p*(n*n⁻¹) by grind,show q*n*n⁻¹=q*(n*n⁻¹) by grind,i] at this
 grind
theorem ZhT {x y u v w t k n:Rat} (hn:0<n) (hk:0<k) (hu:u=w*n) (hv:v=t*n):J.sameP (J.Zdd x u y v k) (J.Zdd x w y t (k*(n*n))):=by
 have e:=surd_red (x:=x) (y:=y) hn hk hu hv
 unfold J.red at e
 unfold J.Zdd at e ⊢
 have kp:0<k*(n*n):=ZdF hk (ZdF hn hn)
 by_cases s:J.rsq (k*(n*n))
 ·rw [if_pos s] at e ⊢;exact e
 ·rw [if_neg s] at e ⊢
  by_cases z:w=0/\t=0
  ·rw [if_pos z,qi_z]
   have s2:¬J.rsq k:=fun h=>s ((ZeY hn).2 h)
   rw [if_neg s2] at e ⊢
   have z2:u=0/\v=0:=⟨by rw [hu,z.1];grind,by rw [hv,z.2];grind⟩
   rw [if_pos z2]
   rw [z.1,z.2,z2.1,z2.2]
   exact ⟨⟨rfl,rfl,rfl,fun h=>absurd rfl h⟩,rfl,rfl,rfl,fun h=>absurd rfl h⟩
  ·rw [if_neg z];exact e
theorem ZcK:∀ {l:List Pnt},(∀ p ∈ l,J.Zbu p)->J.Zgy l l
 | [],_=>trivial
 | p::l,h=>⟨same_refl (h p (List.mem_cons_self ..)),ZcK fun q hq=>h q (List.mem_cons_of_mem _ hq)⟩
theorem dn_neg {A B:Rat} (h:A ≠ 0\/B ≠ 0):J.dn (-A) (-B) = !J.dn A B:=by
 unfold J.dn
 by_cases z:B=0
 ·subst z
  have ha:A ≠ 0:=by grind
  by_cases k:A<0
  ·rw [decide_eq_true (by grind),decide_eq_false (by grind)];rfl
  ·rw [decide_eq_false (by grind),decide_eq_true (by grind)];rfl
 ·by_cases k:B<0
  ·rw [decide_eq_false (by grind),decide_eq_true (by grind)];rfl
  ·rw [decide_eq_true (by grind),decide_eq_false (by grind)];rfl
theorem dU_neg {A B:Rat} (h:A ≠ 0\/B ≠ 0):J.dU (-A) (-B)=J.dU A B/\J.dV (-A) (-B)=J.dV A B:=by
 unfold J.dU J.dV
 rw [dn_neg h]
 cases J.dn A B <;> simp only [Bool.not_true,Bool.not_false,cond_true,cond_false] <;> constructor <;> grind
theorem dU_sq (A B:Rat):J.dU A B*J.dU A B+J.dV A B*J.dV A B=J.Zcu A B/\A*J.dU A B+B*J.dV A B=0:=by
 unfold J.dU J.dV J.Zcu
 cases J.dn A B <;> simp only [cond_true,cond_false] <;> constructor <;> grind
theorem f_eq {A B C X Y:Rat} (h:A ≠ 0\/B ≠ 0):A*J.fX A B C X Y+B*J.fY A B C X Y-C=0:=by
 have e:=div_mul (z:=J.val2 A B C X Y) (Zcb h)
 unfold J.fX J.fY
 generalize J.val2 A B C X Y / J.Zcu A B=m at *
 unfold J.val2 J.Zcu at e
 grind
theorem f_uniq {A B C X Y x y m:Rat} (h:A ≠ 0\/B ≠ 0) (hx:x=X-m*A) (hy:y=Y-m*B) (hl:A*x+B*y-C=0):J.fX A B C X Y=x/\J.fY A B C X Y=y:=by
 have hn:=Zcb h
 have e:J.val2 A B C X Y / J.Zcu A B=m:=by
  refine Zhc hn ?_
  rw [div_mul hn]
  unfold J.val2 J.Zcu
  rw [hx,hy] at hl
  grind
 unfold J.fX J.fY
 rw [e]
 exact ⟨hx.symm,hy.symm⟩
theorem dep_eq {A B C X Y Q:Rat} (h:A ≠ 0\/B ≠ 0):J.dep A B C X Y Q*J.Zcu A B=Q-((J.fX A B C X Y-X)*(J.fX A B C X Y-X)+(J.fY A B C X Y-Y)*(J.fY A B C X Y-Y)):=by
 unfold J.dep;exact div_mul (Zcb h)
theorem lineC_congr {A B C X Y Q A' B' C' X' Y' Q':Rat} (h1:J.fX A B C X Y=J.fX A' B' C' X' Y') (h2:J.fY A B C X Y=J.fY A' B' C' X' Y') (h3:J.dep A B C X Y Q=J.dep A' B' C' X' Y' Q') (h4:J.dU A B=J.dU A' B') (h5:J.dV A B=J.dV A' B'):J.Zbk A B C X Y Q=J.Zbk A' B' C' X' Y' Q':=by
 unfold J.Zbk
 rw [h1,h2,h3,h4,h5]
theorem circ_comm {X Y Q Z W P:Rat} (h:X ≠ Z\/Y ≠ W):J.Zbk (J.qi 2*(Z-X)) (J.qi 2*(W-Y)) (Z*Z+W*W-P-(X*X+Y*Y-Q)) X Y Q=J.Zbk (J.qi 2*(X-Z)) (J.qi 2*(Y-W)) (X*X+Y*Y-Q-(Z*Z+W*W-P)) Z W P:=by
 have t:J.qi 2=2:=by rw [Ze2];rfl
 rw [t]
 obtain ⟨A,hA⟩:∃ A,A=2*(Z-X):=⟨_,rfl⟩
 obtain ⟨B,hB⟩:∃ B,B=2*(W-Y):=⟨_,rfl⟩
 obtain ⟨C,hC⟩:∃ C,C=Z*Z+W*W-P-(X*X+Y*Y-Q):=⟨_,rfl⟩
 have a:A ≠ 0\/B ≠ 0:=by
  rcases h with h | h
  ·left;grind
  ·right;grind
 have a2:-A ≠ 0 \/ -B ≠ 0:=by
  rcases a with a | a
  ·left;grind
  ·right;grind
 rw [<- hA,<- hB,<- hC,show 2*(X-Z) = -A by grind,show 2*(Y-W) = -B by grind,show X*X+Y*Y-Q-(Z*Z+W*W-P) = -C by grind]
 have hn:=Zcb a
 have en:J.Zcu (-A) (-B)=J.Zcu A B:=by unfold J.Zcu;grind
 obtain ⟨m,hm⟩:∃ m,m=J.val2 A B C X Y / J.Zcu A B:=⟨_,rfl⟩
 have fx:J.fX A B C X Y=X-m*A:=by unfold J.fX;rw [hm]
 have fy:J.fY A B C X Y=Y-m*B:=by unfold J.fY;rw [hm]
 have on:=f_eq (A:=A) (B:=B) (C:=C) (X:=X) (Y:=Y) a
 have f2:=f_uniq (A:=-A) (B:=-B) (C:=-C) (X:=Z) (Y:=W) (x:=J.fX A B C X Y) (y:=J.fY A B C X Y) (m:=-(m+1 / 2)) a2 (by grind) (by grind) (by grind)
 have d2:=dU_neg a
 have de:J.dep A B C X Y Q=J.dep (-A) (-B) (-C) Z W P:=by
  refine Zhc hn ?_
  rw [dep_eq a]
  have k:=dep_eq (A:=-A) (B:=-B) (C:=-C) (X:=Z) (Y:=W) (Q:=P) a2
  rw [en] at k
  rw [k,f2.1,f2.2]
  generalize J.fX A B C X Y=x at *
  generalize J.fY A B C X Y=y at *
  grind
 exact lineC_congr f2.1.symm f2.2.symm de d2.1.symm d2.2.symm
theorem line_scale {A B C X Y Q k:Rat} (h:A ≠ 0\/B ≠ 0) (hk:k ≠ 0):J.Zgy (J.Zbk (k*A) (k*B) (k*C) X Y Q) (J.Zbk A B C X Y Q):=by
 have h2:k*A ≠ 0\/k*B ≠ 0:=by
  have:=@Rat.mul_eq_zero k A
  have:=@Rat.mul_eq_zero k B
  rcases h with h | h
  ·left;grind
  ·right;grind
 have hn:=Zcb h
 have hn2:=Zcb h2
 have en:J.Zcu (k*A) (k*B)=k*k*J.Zcu A B:=by unfold J.Zcu;grind
 have kk:0<k*k:=sq_pos hk
 obtain ⟨m,hm⟩:∃ m,m=J.val2 A B C X Y / J.Zcu A B:=⟨_,rfl⟩
 have fx:J.fX A B C X Y=X-m*A:=by unfold J.fX;rw [hm]
 have fy:J.fY A B C X Y=Y-m*B:=by unfold J.fY;rw [hm]
 have on:=f_eq (A:=A) (B:=B) (C:=C) (X:=X) (Y:=Y) h
 have ik:k*k⁻¹=1:=Rat.mul_inv_cancel k hk
 have f2:=f_uniq (A:=k*A) (B:=k*B) (C:=k*C) (X:=X) (Y:=Y) (x:=J.fX A B C X Y) (y:=J.fY A B C X Y) (m:=m*k⁻¹) h2 (by rw [fx,show m*k⁻¹*(k*A)=m*(k*k⁻¹)*A by grind,ik];grind) (by rw [fy,show m*k⁻¹*(k*B)=m*(k*k⁻¹)*B by grind,ik];grind) (by grind)
 have de:J.dep (k*A) (k*B) (k*C) X Y Q*(k*k)=J.dep A B C X Y Q:=by
  refine Zhc hn ?_
  rw [show J.dep (k*A) (k*B) (k*C) X Y Q*(k*k)*J.Zcu A B=J.dep (k*A) (k*B) (k*C) X Y Q*J.Zcu (k*A) (k*B) by rw [en];grind,dep_eq h2,dep_eq h,f2.1,f2.2]
 obtain ⟨n,n0,nn,nU,nV⟩:∃ n:Rat,0<n/\n*n=k*k/\J.dU (k*A) (k*B)=J.dU A B*n/\J.dV (k*A) (k*B)=J.dV A B*n:=by
  have pos:∀ k:Rat,0<k->J.dU (k*A) (k*B)=J.dU A B*k/\J.dV (k*A) (k*B)=J.dV A B*k:=fun k k0=>by
   have e:J.dn (k*A) (k*B)=J.dn A B:=by
    unfold J.dn
    have b1:k*B<0 ↔ B<0:=by rw [<- ZbP.2.2,Zdu,ZaW k0,Int.one_mul,ZbP.2.2]
    have b2:k*B=0 ↔ B=0:=by rw [<- ZbP.2.1,Zdu,ZaW k0,Int.one_mul,ZbP.2.1]
    have b3:-(k*A)<0 ↔ -A<0:=by
     rw [show -(k*A)=k * -A by grind,<- ZbP.2.2,Zdu,ZaW k0,Int.one_mul,ZbP.2.2]
    simp only [b1,b2,b3]
   unfold J.dU J.dV
   rw [e]
   cases J.dn A B <;> simp only [cond_true,cond_false] <;> constructor <;> grind
  rcases tri k with t | t | t
  ·have a:=pos (-k) (by grind)
   have b:=dU_neg (A:=-k*A) (B:=-k*B) (by
    rcases h2 with h2 | h2
    ·left;grind
    ·right;grind)
   refine ⟨-k,by grind,by grind,?_,?_⟩
   ·rw [<- a.1,<- b.1];congr 1 <;> grind
   ·rw [<- a.2,<- b.2];congr 1 <;> grind
  ·exact absurd t hk
  ·exact ⟨k,t,rfl,pos k t⟩
 unfold J.Zbk
 rw [f2.1,f2.2,<- de,Zdu (J.dep (k*A) (k*B) (k*C) X Y Q),ZaW kk,Int.mul_one,nU,nV]
 rcases tri (J.dep (k*A) (k*B) (k*C) X Y Q) with t | t | t
 ·simp only [Zbx t,show (-1:Int)<0 by decide,if_true];trivial
 ·simp only [t,ZaU,show ¬(0:Int)<0 by decide,if_true,if_false];exact ⟨ZeP _ _,trivial⟩
 ·simp only [ZaW t,show ¬(1:Int)<0 by decide,show ¬(1:Int)=0 by decide,if_false]
  rw [<- nn]
  exact ⟨ZhT n0 t (by grind) (by grind),ZhT n0 t rfl rfl,trivial⟩
end Go.Av

namespace Go.Av
open Go.Proofs
abbrev ratC (f g:Bool) (r:Rat):List AV:=[.bool (J.Zaa r.num),.vec f 1 ((J.Zab r.num).map (.int .u32)),.bool (J.Zaa (r.den:Int)),.vec g 1 ((J.Zab (r.den:Int)).map (.int .u32))]
abbrev vecA (f1 f2 f3 f4:Bool) (x y:Rat):AV:=.agg [.bool (J.Zaa x.num),.vec f1 1 ((J.Zab x.num).map (.int .u32)),.bool (J.Zaa (x.den:Int)),.vec f2 1 ((J.Zab (x.den:Int)).map (.int .u32)),.bool (J.Zaa y.num),.vec f3 1 ((J.Zab y.num).map (.int .u32)),.bool (J.Zaa (y.den:Int)),.vec f4 1 ((J.Zab (y.den:Int)).map (.int .u32))]
abbrev vecF (x y:Rat):AV:=vecA false false false false x y
abbrev pntA (f1 f2 f3 f4 f5 f6 f7 f8 f9 f10:Bool) (ax bx ay by_ c:Rat):AV:=.agg [.bool (J.Zaa ax.num),.vec f1 1 ((J.Zab ax.num).map (.int .u32)),.bool (J.Zaa (ax.den:Int)),.vec f2 1 ((J.Zab (ax.den:Int)).map (.int .u32)),.bool (J.Zaa bx.num),.vec f3 1 ((J.Zab bx.num).map (.int .u32)),.bool (J.Zaa (bx.den:Int)),.vec f4 1 ((J.Zab (bx.den:Int)).map (.int .u32)),.bool (J.Zaa ay.num),.vec f5 1 ((J.Zab ay.num).map (.int .u32)),.bool (J.Zaa (ay.den:Int)),.vec f6 1 ((J.Zab (ay.den:Int)).map (.int .u32)),.bool (J.Zaa by_.num),.vec f7 1 ((J.Zab by_.num).map (.int .u32)),.bool (J.Zaa (by_.den:Int)),.vec f8 1 ((J.Zab (by_.den:Int)).map (.int .u32)),.bool (J.Zaa c.num),.vec f9 1 ((J.Zab c.num).map (.int .u32)),.bool (J.Zaa (c.den:Int)),.vec f10 1 ((J.Zab (c.den:Int)).map (.int .u32))]
abbrev pntF (ax bx ay by_ c:Rat):AV:=pntA false false false false false false false false false false ax bx ay by_ c
abbrev quadA (f1 f2 f3 f4 f5 f6 f7 f8 f9 f10 f11 f12:Bool) (a b c d m n:Rat):AV:=.agg [.bool (J.Zaa a.num),.vec f1 1 ((J.Zab a.num).map (.int .u32)),.bool (J.Zaa (a.den:Int)),.vec f2 1 ((J.Zab (a.den:Int)).map (.int .u32)),.bool (J.Zaa b.num),.vec f3 1 ((J.Zab b.num).map (.int .u32)),.bool (J.Zaa (b.den:Int)),.vec f4 1 ((J.Zab (b.den:Int)).map (.int .u32)),.bool (J.Zaa c.num),.vec f5 1 ((J.Zab c.num).map (.int .u32)),.bool (J.Zaa (c.den:Int)),.vec f6 1 ((J.Zab (c.den:Int)).map (.int .u32)),.bool (J.Zaa d.num),.vec f7 1 ((J.Zab d.num).map (.int .u32)),.bool (J.Zaa (d.den:Int)),.vec f8 1 ((J.Zab (d.den:Int)).map (.int .u32)),.bool (J.Zaa m.num),.vec f9 1 ((J.Zab m.num).map (.int .u32)),.bool (J.Zaa (m.den:Int)),.vec f10 1 ((J.Zab (m.den:Int)).map (.int .u32)),.bool (J.Zaa n.num),.vec f11 1 ((J.Zab n.num).map (.int .u32)),.bool (J.Zaa (n.den:Int)),.vec f12 1 ((J.Zab (n.den:Int)).map (.int .u32))]
abbrev quadF (a b c d m n:Rat):AV:=quadA false false false false false false false false false false false false a b c d m n
theorem agg_inv {xs us:List AV} (h:Weak (.agg xs) (.agg us)):xs.length=us.length /\ ∀ (i:Nat) x y,xs[i]? = some x->us[i]? = some y->Weak x y:=by
 cases h with
 | refl=>exact ⟨rfl,fun i x y hx hy=>by rw [hx] at hy;cases hy;exact .refl _⟩
 | agg _ _ h1 h2=>exact ⟨h1,h2⟩
theorem ZcY {xs us ys vs:List AV} (h:Weak (.agg xs) (.agg us)) (k:Weak (.agg ys) (.agg vs)):Weak (.agg (xs++ys)) (.agg (us++vs)):=by
 obtain ⟨h1,h2⟩:=agg_inv h
 obtain ⟨k1,k2⟩:=agg_inv k
 refine .agg _ _ (by simp [h1,k1]) fun i x y hx hy => ?_
 by_cases l:i<xs.length
 ·rw [List.getElem?_append_left l] at hx
  rw [List.getElem?_append_left (by omega)] at hy
  exact h2 i x y hx hy
 ·rw [List.getElem?_append_right (by omega)] at hx
  rw [List.getElem?_append_right (by omega),<- h1] at hy
  exact k2 _ x y hx hy
theorem Zb1 (f g:Bool) (r:Rat):Weak (.agg (ratC f g r)) (.agg (ratC false false r)):=Zds _ _ _ _ _ _
theorem ZeQ (f1 f2 f3 f4 f5 f6 f7 f8 f9 f10:Bool) (ax bx ay by_ c:Rat):Weak (pntA f1 f2 f3 f4 f5 f6 f7 f8 f9 f10 ax bx ay by_ c) (pntF ax bx ay by_ c):=
 ZcY (Zb1 f1 f2 ax) (ZcY (Zb1 f3 f4 bx) (ZcY (Zb1 f5 f6 ay) (ZcY (Zb1 f7 f8 by_) (Zb1 f9 f10 c))))
theorem weak_quad (f1 f2 f3 f4 f5 f6 f7 f8 f9 f10 f11 f12:Bool) (a b c d m n:Rat):Weak (quadA f1 f2 f3 f4 f5 f6 f7 f8 f9 f10 f11 f12 a b c d m n) (quadF a b c d m n):=
 ZcY (Zb1 f1 f2 a) (ZcY (Zb1 f3 f4 b) (ZcY (Zb1 f5 f6 c) (ZcY (Zb1 f7 f8 d) (ZcY (Zb1 f9 f10 m) (Zb1 f11 f12 n)))))
theorem sgz {r:Rat}:J.sgnI r.num=0 ↔ r=0:=ZbP.2.1
theorem ok_of {k:Nat} {r:Rat} (h:J.okT k r) (hk:k<=90000):J.ok r.num:=by
 have:=h.1
 unfold J.ok;omega
theorem num_ne {r:Rat} (h:0<r):r.num ≠ 0:=fun e=>by rw [Rat.num_eq_zero] at e;grind
theorem bifd {p q:Prop} [Decidable p] [Decidable q]:(bif decide p then decide q else false)=decide (p/\q):=by
 by_cases h:p
 ·by_cases k:q
  ·rw [decide_eq_true h,decide_eq_true k,decide_eq_true ⟨h,k⟩];rfl
  ·rw [decide_eq_true h,decide_eq_false k,decide_eq_false (show ¬(p/\q) from fun x=>k x.2)];rfl
 ·rw [decide_eq_false h,decide_eq_false (show ¬(p/\q) from fun x=>h x.1)];rfl
namespace J
def Zga (a b c:Rat):Prop:=(okT 30 a/\okT 30 b/\okT 30 c)/\(a ≠ 0\/b ≠ 0)
def ZgK (x y:Rat):Prop:=okT 30 x/\okT 30 y
def Zey (a b c:Rat):Prop:=okT 30 a/\okT 30 b/\okT 30 c
def okTw (a b m:Rat):Prop:=okT 25000 a/\okT 25000 b/\okT 2000 m
noncomputable def rd2 (bx by_ c:Rat):Rat:=if bx=0/\by_=0 then qi 0 else c
end J
theorem ev103 (f1 f2 f3 f4 f5 f6 g1 g2 g3 g4:Bool) (a b c x y:Rat) (h:J.Zga a b c/\J.ZgK x y):Ev M1 (.pure 103 [Zaw f1 f2 f3 f4 f5 f6 a b c,vecA g1 g2 g3 g4 x y]) (vecF (J.fX a b c x y) (J.fY a b c x y)) []:=by
 obtain ⟨⟨⟨ha,hb,hc⟩,h0⟩,hx,hy⟩:=h
 have hn:(a*a+b*b).num ≠ 0:=num_ne (Zcb h0)
 exact call103 (mFoot _ _ _ _ _ _ _ _ _ _ _ _ _ _ _ _ ⟨⟨Zaj ha (by omega),Zaj hx (by omega)⟩,⟨Zaj hb (by omega),Zaj hy (by omega)⟩,⟨Zaj (Zaf ha hx) (by omega),Zaj (Zaf hb hy) (by omega)⟩,⟨Zaj (ZaC (Zaf ha hx) (Zaf hb hy)) (by omega),Zaj hc (by omega)⟩,⟨Zaj ha (by omega),Zaj ha (by omega)⟩,⟨Zaj hb (by omega),Zaj hb (by omega)⟩,⟨Zaj (Zaf ha ha) (by omega),Zaj (Zaf hb hb) (by omega)⟩,⟨Zaj (Zax (ZaC (Zaf ha hx) (Zaf hb hy)) hc) (by omega),Zaj (ZaC (Zaf ha ha) (Zaf hb hb)) (by omega),hn⟩,⟨Zaj (Zca (Zax (ZaC (Zaf ha hx) (Zaf hb hy)) hc) (ZaC (Zaf ha ha) (Zaf hb hb)) hn) (by omega),Zaj ha (by omega)⟩,⟨Zaj hx (by omega),Zaj (Zaf (Zca (Zax (ZaC (Zaf ha hx) (Zaf hb hy)) hc) (ZaC (Zaf ha ha) (Zaf hb hb)) hn) ha) (by omega)⟩,⟨Zaj (Zca (Zax (ZaC (Zaf ha hx) (Zaf hb hy)) hc) (ZaC (Zaf ha ha) (Zaf hb hb)) hn) (by omega),Zaj hb (by omega)⟩,⟨Zaj hy (by omega),Zaj (Zaf (Zca (Zax (ZaC (Zaf ha hx) (Zaf hb hy)) hc) (ZaC (Zaf ha ha) (Zaf hb hb)) hn) hb) (by omega)⟩,.refl _⟩)
theorem ev55 (f1 f2 f3 f4 f5 f6 g1 g2 g3 g4 g5 g6:Bool) (a b c x y z:Rat) (h:J.Zey a b c/\J.Zey x y z):Ev M1 (.pure 55 [Zaw f1 f2 f3 f4 f5 f6 a b c,Zaw g1 g2 g3 g4 g5 g6 x y z]) (.bool (decide (a*y=x*b/\a*z=x*c/\b*z=y*c))) []:=by
 obtain ⟨⟨ha,hb,hc⟩,hx,hy,hz⟩:=h
 exact call55 (mSameL _ _ _ _ _ _ _ _ _ _ _ _ _ _ _ _ _ _ _ ⟨⟨Zaj ha (by omega),Zaj hy (by omega)⟩,⟨Zaj hx (by omega),Zaj hb (by omega)⟩,⟨Zaj (Zaf ha hy) (by omega),Zaj (Zaf hx hb) (by omega)⟩,fun _=>⟨Zaj ha (by omega),Zaj hz (by omega)⟩,fun _=>⟨Zaj hx (by omega),Zaj hc (by omega)⟩,fun _=>⟨Zaj (Zaf ha hz) (by omega),Zaj (Zaf hx hc) (by omega)⟩,fun _=>⟨Zaj hb (by omega),Zaj hz (by omega)⟩,fun _=>⟨Zaj hy (by omega),Zaj hc (by omega)⟩,fun _=>⟨Zaj (Zaf hb hz) (by omega),Zaj (Zaf hy hc) (by omega)⟩,by rw [bifd,bifd];exact congrArg AV.bool (decide_eq_decide.2 and_assoc)⟩)
theorem ev72 (f1 f2 f3 f4 f5 f6 g1 g2 g3 g4 g5 g6:Bool) (a b c x y z:Rat) (h:J.Zey a b c/\J.Zey x y z):Ev M1 (.pure 72 [Zaw f1 f2 f3 f4 f5 f6 a b c,Zaw g1 g2 g3 g4 g5 g6 x y z]) (.bool (decide (a=x/\b=y/\c=z))) []:=by
 obtain ⟨⟨ha,hb,hc⟩,hx,hy,hz⟩:=h
 exact call72 (mSameC _ _ _ _ _ _ _ _ _ _ _ _ _ _ _ _ _ _ _ ⟨⟨Zaj ha (by omega),Zaj hx (by omega)⟩,fun _=>⟨Zaj hb (by omega),Zaj hy (by omega)⟩,fun _=>⟨Zaj hc (by omega),Zaj hz (by omega)⟩,by rw [bifd,bifd];exact congrArg AV.bool (decide_eq_decide.2 and_assoc)⟩)
theorem ev73 (f1 f2 f3 f4 f5 f6 g1 g2 g3 g4 g5 g6:Bool) (a b c x y z:Rat) (h:J.Zey a b c/\J.Zey x y z):Ev M1 (.pure 73 [Zaw f1 f2 f3 f4 f5 f6 a b c,Zaw g1 g2 g3 g4 g5 g6 x y z]) (.bool (decide (a=x/\b=y))) []:=by
 obtain ⟨⟨ha,hb,hc⟩,hx,hy,hz⟩:=h
 exact call73 (mConc _ _ _ _ _ _ _ _ _ _ _ _ _ _ _ _ _ _ _ ⟨⟨Zaj ha (by omega),Zaj hx (by omega)⟩,fun _=>⟨Zaj hb (by omega),Zaj hy (by omega)⟩,by rw [cmp0,cmp0,bifd]⟩)
theorem ev57 (f1 f2 f3 f4:Bool) (x y:Rat):Ev M1 (.pure 57 [vecA f1 f2 f3 f4 x y]) (pntF x (J.qi 0) y (J.qi 0) (J.qi 0)) []:=
 call57 (mAt _ _ _ _ _ _ _ (ZeQ f1 f2 false false f3 f4 false false false false _ _ _ _ _))
theorem ev61 (f1 f2 f3 f4:Bool) (x y:Rat):Ev M1 (.pure 61 [vecA f1 f2 f3 f4 x y]) (pntF x (J.qi 0) y (J.qi 0) (J.qi 0)) []:=
 call61 (rAt _ _ _ _ _ _ _ (ZeQ f1 f2 false false f3 f4 false false false false _ _ _ _ _))
theorem ev144 (f1 f2 f3 f4 f5 f6 f7 f8 f9 f10:Bool) (ax bx ay by_ c:Rat):Ev M1 (.pure 144 [pntA f1 f2 f3 f4 f5 f6 f7 f8 f9 f10 ax bx ay by_ c]) (pntF ax bx ay by_ (J.rd2 bx by_ c)) []:=by
 refine call144 (mRed _ _ _ _ _ _ _ _ _ _ _ _ _ _ _ _ ⟨fun k => ?_,fun k => ?_⟩)
 ·rw [sgz,sgz] at k
  rw [show J.rd2 bx by_ c=J.qi 0 from if_pos k]
  exact ZeQ f1 f2 f3 f4 f5 f6 f7 f8 false false _ _ _ _ _
 ·rw [sgz,sgz] at k
  rw [show J.rd2 bx by_ c=c from if_neg k]
  exact ZeQ f1 f2 f3 f4 f5 f6 f7 f8 f9 f10 _ _ _ _ _
theorem ev147 (f1 f2 f3 f4 f5 f6:Bool) (a b c:Rat):Ev M1 (.pure 147 [ratA f1 f2 a,ratA f3 f4 b,ratA f5 f6 c]) (Zau a b (J.rad b c)) []:=by
 refine call147 (rCoord _ _ _ _ _ _ _ _ _ _ ⟨fun k => ?_,fun k => ?_⟩)
 ·rw [sgz] at k
  subst k
  rw [show J.rad 0 c=J.qi 0 from if_pos rfl]
  have:(0:Rat)=J.qi 0:=qi_z.symm
  rw [this]
  exact .refl _
 ·rw [sgz] at k
  rw [radn k]
  exact ZcY (Zb1 f1 f2 a) (ZcY (Zb1 f3 f4 b) (Zb1 f5 f6 c))
theorem ev159 (f1 f2 f3 f4:Bool) (x y:Rat) (h:J.okT 2000 x/\J.okT 2000 y):Ev M1 (.pure 159 [vecA f1 f2 f3 f4 x y]) (vecF (-x) (-y)) []:=
 call159 (rBack _ _ _ _ _ _ _ ⟨ok_of h.1 (by omega),ok_of h.2 (by omega),.refl _⟩)
theorem sg3 (n:Int):J.sgnI n = -1\/J.sgnI n=0\/J.sgnI n=1:=by
 unfold J.sgnI
 (repeat' split) <;> omega
theorem cmpS {r s:Rat}:J.sgnI (r.num*(s.den:Int)-s.num*(r.den:Int))=J.sgR (r-s):=by
 rcases tri (r-s) with k | k | k
 ·rw [Zbx k]
  have:=Rat.lt_iff (a:=r) (b:=s)
  have:=this.1 (by grind)
  unfold J.sgnI;rw [if_pos (by omega)]
 ·rw [k,ZaU,cross];grind
 ·rw [ZaW k]
  have:=Rat.lt_iff (a:=s) (b:=r)
  have:=this.1 (by grind)
  unfold J.sgnI;rw [if_neg (by omega),if_pos (by omega)]
theorem ev167 (f1 f2 f3 f4 f5 f6:Bool) (a b c:Rat) (h:J.okTw a b c):Ev M1 (.pure 167 [ratA f1 f2 a,ratA f3 f4 b,ratA f5 f6 c]) (.int .i64 (J.sg2 a b c)) []:=by
 obtain ⟨ha,hb,hc⟩:=h
 have r1:=sg3 a.num
 have r2:=sg3 b.num
 have r3:=sg3 c.num
 have r4:=sg3 ((a*a).num*((b*b*c).den:Int)-(b*b*c).num*((a*a).den:Int))
 refine call167 (rTwo _ _ _ _ _ _ _ _ _ _ ⟨?_,fun k=>⟨fun j => ?_,fun j => ?_⟩,fun k=>⟨⟨Zaj ha (by omega),Zaj ha (by omega)⟩,⟨Zaj hb (by omega),Zaj hb (by omega)⟩,⟨Zaj (Zaf hb hb) (by omega),Zaj hc (by omega)⟩,⟨Zaj (Zaf ha ha) (by omega),Zaj (Zaf (Zaf hb hb) hc) (by omega)⟩,?_,?_⟩⟩)
 ·rcases r2 with r2 | r2 | r2 <;> rcases r3 with r3 | r3 | r3 <;> rw [r2,r3] <;> decide
 ·unfold J.sg2 J.sgR
  rw [if_pos (by rw [<- or_assoc];exact k),if_pos j]
 ·unfold J.sg2 J.sgR
  rw [if_pos (by rw [<- or_assoc];exact k),if_neg j]
 ·rcases r1 with r1 | r1 | r1 <;> rcases r4 with r4 | r4 | r4 <;> rw [r1,r4] <;> decide
 ·unfold J.sg2
  rw [if_neg (by rw [<- or_assoc];exact k),cmpS];rfl
theorem ev146 (f1 f2 f3 f4 f5 f6 g1 g2 g3 g4 g5 g6:Bool) (a b c x y z:Rat) (h:J.okT 2200 a/\J.okT 2200 x/\J.okT 2200 y):Ev M1 (.pure 146 [Zaw f1 f2 f3 f4 f5 f6 a b c,Zaw g1 g2 g3 g4 g5 g6 x y z]) (quadF (a-x) b (-y) (J.qi 0) c z) []:=by
 exact call146 (rSub5 _ _ _ _ _ _ _ _ _ _ _ _ _ _ _ _ _ _ _ ⟨⟨Zaj h.1 (by omega),Zaj h.2.1 (by omega)⟩,ok_of h.2.2 (by omega),by unfold J.inI;omega,weak_quad false false f3 f4 false false false false f5 f6 g5 g6 _ _ _ _ _ _⟩)
end Go.Av

namespace Go.Av
open Go.Proofs
set_option maxRecDepth 100000
def fi36:Fi:=⟨61,[.tmp 2]⟩
def kp36:List (Nat × List Nat):=[(0,[1]),(1,[1,32]),(2,[2]),(3,[1,42]),(4,[2]),(5,[1,4]),(6,[2])]
def fi38:Fi:=⟨22,[.cell 4 56]⟩
def kp38:List (Nat × List Nat):=[(0,[2,3,4]),(1,[4])]
def fi64:Fi:=⟨51,[.cell 4 26,.cell 5 47]⟩
def kp64:List (Nat × List Nat):=[(0,[2,3,4,5]),(1,[2,3,4,5,6]),(2,[2,3,4,5,6,7,8]),(3,[2,4,5,6,9]),(4,[4,5])]
def fi76:Fi:=⟨17,[.cell 2 26]⟩
def kp76:List (Nat × List Nat):=[(0,[1,2]),(1,[2])]
def fi86:Fi:=⟨41,[.cell 4 98]⟩
def kp86:List (Nat × List Nat):=[(0,[2,3,4]),(1,[2,3,4,5]),(2,[4,6]),(3,[4])]
def fi106:Fi:=⟨39,[.cell 4 56,.tmp 5]⟩
def kp106:List (Nat × List Nat):=[(0,[2,3,4]),(1,[2,3,4,6]),(2,[2,3,4,6,12]),(3,[2,3,4,6]),(4,[2,3,4,6,26]),(5,[4,5]),(6,[4,5])]
def fi108:Fi:=⟨10,[.cell 2 98]⟩
def kp108:List (Nat × List Nat):=[(0,[1,2]),(1,[2])]
def fi109:Fi:=⟨10,[.cell 2 98]⟩
def kp109:List (Nat × List Nat):=[(0,[1,2]),(1,[2])]
def fi145:Fi:=⟨107,[.tmp 2]⟩
def kp145:List (Nat × List Nat):=[(0,[1]),(1,[1,17]),(2,[2]),(3,[1,3,4]),(4,[1,3,4,46]),(5,[3,4,48]),(6,[2]),(7,[2]),(8,[1,3,5]),(9,[1,3,6]),(10,[1,3,6,7]),(11,[2])]
def mMake_at (f1 f2 f3 f4 f5 f6 g1 g2 g3 g4 g5 g6:Bool) (a b c x y z:Rat) (Q:AV->Heap->Prop):Prop:=Wp M1 (.run fi106 (atC (cd Tryz.f106) []) [(0,Zaw f1 f2 f3 f4 f5 f6 a b c),(1,Zaw g1 g2 g3 g4 g5 g6 x y z)] []) Q
def mDepth_at (f1 f2 f3 f4 f5 f6 g1 g2 g3 g4 g5 g6:Bool) (a b c x y q:Rat) (Q:AV->Heap->Prop):Prop:=Wp M1 (.run fi64 (atC (cd Tryz.f64) []) [(0,Zaw f1 f2 f3 f4 f5 f6 a b c),(1,Zaw g1 g2 g3 g4 g5 g6 x y q)] []) Q
def mRad1_at (f1 f2 f3 f4 f5 f6:Bool) (a b c:Rat) (Q:AV->Heap->Prop):Prop:=Wp M1 (.run fi76 (atC (cd Tryz.f76) []) [(0,Zaw f1 f2 f3 f4 f5 f6 a b c)] []) Q
def rX7_at (f1 f2 f3 f4 f5 f6 f7 f8 f9 f10:Bool) (ax bx ay by_ c:Rat) (Q:AV->Heap->Prop):Prop:=Wp M1 (.run fi108 (atC (cd Tryz.f108) []) [(0,.agg [.bool (J.Zaa ax.num),.vec f1 1 ((J.Zab ax.num).map (.int .u32)),.bool (J.Zaa (ax.den:Int)),.vec f2 1 ((J.Zab (ax.den:Int)).map (.int .u32)),.bool (J.Zaa bx.num),.vec f3 1 ((J.Zab bx.num).map (.int .u32)),.bool (J.Zaa (bx.den:Int)),.vec f4 1 ((J.Zab (bx.den:Int)).map (.int .u32)),.bool (J.Zaa ay.num),.vec f5 1 ((J.Zab ay.num).map (.int .u32)),.bool (J.Zaa (ay.den:Int)),.vec f6 1 ((J.Zab (ay.den:Int)).map (.int .u32)),.bool (J.Zaa by_.num),.vec f7 1 ((J.Zab by_.num).map (.int .u32)),.bool (J.Zaa (by_.den:Int)),.vec f8 1 ((J.Zab (by_.den:Int)).map (.int .u32)),.bool (J.Zaa c.num),.vec f9 1 ((J.Zab c.num).map (.int .u32)),.bool (J.Zaa (c.den:Int)),.vec f10 1 ((J.Zab (c.den:Int)).map (.int .u32))])] []) Q
def rY7_at (f1 f2 f3 f4 f5 f6 f7 f8 f9 f10:Bool) (ax bx ay by_ c:Rat) (Q:AV->Heap->Prop):Prop:=Wp M1 (.run fi109 (atC (cd Tryz.f109) []) [(0,.agg [.bool (J.Zaa ax.num),.vec f1 1 ((J.Zab ax.num).map (.int .u32)),.bool (J.Zaa (ax.den:Int)),.vec f2 1 ((J.Zab (ax.den:Int)).map (.int .u32)),.bool (J.Zaa bx.num),.vec f3 1 ((J.Zab bx.num).map (.int .u32)),.bool (J.Zaa (bx.den:Int)),.vec f4 1 ((J.Zab (bx.den:Int)).map (.int .u32)),.bool (J.Zaa ay.num),.vec f5 1 ((J.Zab ay.num).map (.int .u32)),.bool (J.Zaa (ay.den:Int)),.vec f6 1 ((J.Zab (ay.den:Int)).map (.int .u32)),.bool (J.Zaa by_.num),.vec f7 1 ((J.Zab by_.num).map (.int .u32)),.bool (J.Zaa (by_.den:Int)),.vec f8 1 ((J.Zab (by_.den:Int)).map (.int .u32)),.bool (J.Zaa c.num),.vec f9 1 ((J.Zab c.num).map (.int .u32)),.bool (J.Zaa (c.den:Int)),.vec f10 1 ((J.Zab (c.den:Int)).map (.int .u32))])] []) Q
def rVal7_at (f1 f2 f3 f4 f5 f6 f7 f8 f9 f10:Bool) (ax bx ay by_ c:Rat) (Q:AV->Heap->Prop):Prop:=Wp M1 (.run fi36 (atC (cd Tryz.f36) []) [(0,.agg [.bool (J.Zaa ax.num),.vec f1 1 ((J.Zab ax.num).map (.int .u32)),.bool (J.Zaa (ax.den:Int)),.vec f2 1 ((J.Zab (ax.den:Int)).map (.int .u32)),.bool (J.Zaa bx.num),.vec f3 1 ((J.Zab bx.num).map (.int .u32)),.bool (J.Zaa (bx.den:Int)),.vec f4 1 ((J.Zab (bx.den:Int)).map (.int .u32)),.bool (J.Zaa ay.num),.vec f5 1 ((J.Zab ay.num).map (.int .u32)),.bool (J.Zaa (ay.den:Int)),.vec f6 1 ((J.Zab (ay.den:Int)).map (.int .u32)),.bool (J.Zaa by_.num),.vec f7 1 ((J.Zab by_.num).map (.int .u32)),.bool (J.Zaa (by_.den:Int)),.vec f8 1 ((J.Zab (by_.den:Int)).map (.int .u32)),.bool (J.Zaa c.num),.vec f9 1 ((J.Zab c.num).map (.int .u32)),.bool (J.Zaa (c.den:Int)),.vec f10 1 ((J.Zab (c.den:Int)).map (.int .u32))])] []) Q
def rTr7_at (f1 f2 f3 f4 f5 f6 f7 f8 f9 f10 g1 g2 g3 g4:Bool) (ax bx ay by_ c x y:Rat) (Q:AV->Heap->Prop):Prop:=Wp M1 (.run fi38 (atC (cd Tryz.f38) []) [(0,.agg [.bool (J.Zaa ax.num),.vec f1 1 ((J.Zab ax.num).map (.int .u32)),.bool (J.Zaa (ax.den:Int)),.vec f2 1 ((J.Zab (ax.den:Int)).map (.int .u32)),.bool (J.Zaa bx.num),.vec f3 1 ((J.Zab bx.num).map (.int .u32)),.bool (J.Zaa (bx.den:Int)),.vec f4 1 ((J.Zab (bx.den:Int)).map (.int .u32)),.bool (J.Zaa ay.num),.vec f5 1 ((J.Zab ay.num).map (.int .u32)),.bool (J.Zaa (ay.den:Int)),.vec f6 1 ((J.Zab (ay.den:Int)).map (.int .u32)),.bool (J.Zaa by_.num),.vec f7 1 ((J.Zab by_.num).map (.int .u32)),.bool (J.Zaa (by_.den:Int)),.vec f8 1 ((J.Zab (by_.den:Int)).map (.int .u32)),.bool (J.Zaa c.num),.vec f9 1 ((J.Zab c.num).map (.int .u32)),.bool (J.Zaa (c.den:Int)),.vec f10 1 ((J.Zab (c.den:Int)).map (.int .u32))]),(1,.agg [.bool (J.Zaa x.num),.vec g1 1 ((J.Zab x.num).map (.int .u32)),.bool (J.Zaa (x.den:Int)),.vec g2 1 ((J.Zab (x.den:Int)).map (.int .u32)),.bool (J.Zaa y.num),.vec g3 1 ((J.Zab y.num).map (.int .u32)),.bool (J.Zaa (y.den:Int)),.vec g4 1 ((J.Zab (y.den:Int)).map (.int .u32))])] []) Q
def rSign5_at (f1 f2 f3 f4 f5 f6 f7 f8 f9 f10 f11 f12:Bool) (a b c d m n:Rat) (Q:AV->Heap->Prop):Prop:=Wp M1 (.run fi145 (atC (cd Tryz.f145) []) [(0,.agg [.bool (J.Zaa a.num),.vec f1 1 ((J.Zab a.num).map (.int .u32)),.bool (J.Zaa (a.den:Int)),.vec f2 1 ((J.Zab (a.den:Int)).map (.int .u32)),.bool (J.Zaa b.num),.vec f3 1 ((J.Zab b.num).map (.int .u32)),.bool (J.Zaa (b.den:Int)),.vec f4 1 ((J.Zab (b.den:Int)).map (.int .u32)),.bool (J.Zaa c.num),.vec f5 1 ((J.Zab c.num).map (.int .u32)),.bool (J.Zaa (c.den:Int)),.vec f6 1 ((J.Zab (c.den:Int)).map (.int .u32)),.bool (J.Zaa d.num),.vec f7 1 ((J.Zab d.num).map (.int .u32)),.bool (J.Zaa (d.den:Int)),.vec f8 1 ((J.Zab (d.den:Int)).map (.int .u32)),.bool (J.Zaa m.num),.vec f9 1 ((J.Zab m.num).map (.int .u32)),.bool (J.Zaa (m.den:Int)),.vec f10 1 ((J.Zab (m.den:Int)).map (.int .u32)),.bool (J.Zaa n.num),.vec f11 1 ((J.Zab n.num).map (.int .u32)),.bool (J.Zaa (n.den:Int)),.vec f12 1 ((J.Zab (n.den:Int)).map (.int .u32))])] []) Q
def rVal8_at (f1 f2 f3 f4 f5 f6 g1 g2 g3 g4 g5 g6 g7 g8 g9 g10:Bool) (a b c ax bx ay by_ d:Rat) (Q:AV->Heap->Prop):Prop:=Wp M1 (.run fi86 (atC (cd Tryz.f86) []) [(0,Zaw f1 f2 f3 f4 f5 f6 a b c),(1,.agg [.bool (J.Zaa ax.num),.vec g1 1 ((J.Zab ax.num).map (.int .u32)),.bool (J.Zaa (ax.den:Int)),.vec g2 1 ((J.Zab (ax.den:Int)).map (.int .u32)),.bool (J.Zaa bx.num),.vec g3 1 ((J.Zab bx.num).map (.int .u32)),.bool (J.Zaa (bx.den:Int)),.vec g4 1 ((J.Zab (bx.den:Int)).map (.int .u32)),.bool (J.Zaa ay.num),.vec g5 1 ((J.Zab ay.num).map (.int .u32)),.bool (J.Zaa (ay.den:Int)),.vec g6 1 ((J.Zab (ay.den:Int)).map (.int .u32)),.bool (J.Zaa by_.num),.vec g7 1 ((J.Zab by_.num).map (.int .u32)),.bool (J.Zaa (by_.den:Int)),.vec g8 1 ((J.Zab (by_.den:Int)).map (.int .u32)),.bool (J.Zaa d.num),.vec g9 1 ((J.Zab d.num).map (.int .u32)),.bool (J.Zaa (d.den:Int)),.vec g10 1 ((J.Zab (d.den:Int)).map (.int .u32))])] []) Q
theorem call36 {args:List AV} {d:AV} (h:wc M1 fi36 Tryz.f36 args d):Ev M1 (.pure 36 args) d []:=pcl _ _ (by kernel_rfl) h
theorem call38 {args:List AV} {d:AV} (h:wc M1 fi38 Tryz.f38 args d):Ev M1 (.pure 38 args) d []:=pcl _ _ (by kernel_rfl) h
theorem call64 {args:List AV} {d:AV} (h:wc M1 fi64 Tryz.f64 args d):Ev M1 (.pure 64 args) d []:=pcl _ _ (by kernel_rfl) h
theorem call76 {args:List AV} {d:AV} (h:wc M1 fi76 Tryz.f76 args d):Ev M1 (.pure 76 args) d []:=pcl _ _ (by kernel_rfl) h
theorem call86 {args:List AV} {d:AV} (h:wc M1 fi86 Tryz.f86 args d):Ev M1 (.pure 86 args) d []:=pcl _ _ (by kernel_rfl) h
theorem call106 {args:List AV} {d:AV} (h:wc M1 fi106 Tryz.f106 args d):Ev M1 (.pure 106 args) d []:=pcl _ _ (by kernel_rfl) h
theorem call108 {args:List AV} {d:AV} (h:wc M1 fi108 Tryz.f108 args d):Ev M1 (.pure 108 args) d []:=pcl _ _ (by kernel_rfl) h
theorem call109 {args:List AV} {d:AV} (h:wc M1 fi109 Tryz.f109 args d):Ev M1 (.pure 109 args) d []:=pcl _ _ (by kernel_rfl) h
theorem call145 {args:List AV} {d:AV} (h:wc M1 fi145 Tryz.f145 args d):Ev M1 (.pure 145 args) d []:=pcl _ _ (by kernel_rfl) h
noncomputable abbrev zNmC1 (a:Rat) (b:Rat) (x:Rat) (y:Rat) (z:Rat):=(pntF a b x y (J.rd2 b y z))
noncomputable abbrev zNmC2 (a:Rat) (b:Rat) (x:Rat) (y:Rat) (c:Rat):=(pntF a b x y (J.rd2 b y c))
noncomputable abbrev zNmC3:=ag [vb false,AV.vnil,vb false,AV.vnil,vb false,AV.vnil,vb false,AV.vnil,vb false,AV.vnil,vb false,AV.vnil,vb false,AV.vnil,vb false,AV.vnil,vb false,AV.vnil,vb false,AV.vnil]
theorem mMake (f1 f2 f3 f4 f5 f6 g1 g2 g3 g4 g5 g6:Bool) (a b c x y z:Rat)  (dq:AV) (H :
  ((J.sgnI b.num=0)->Weak (tu [(pntF a b x y (J.rd2 b y z)),vi 0]) dq) /\
  (¬(J.sgnI b.num=0)->((¬J.sgnI y.num=0)->(J.okR c/\J.okR z)) /\
   (((¬J.sgnI y.num=0)/\(¬J.sgnI (c.num*(↑z.den:Int)-z.num*(↑c.den:Int))=0))->Weak (tu [ag [vb false,AV.vnil,vb false,AV.vnil,vb false,AV.vnil,vb false,AV.vnil,vb false,AV.vnil,vb false,AV.vnil,vb false,AV.vnil,vb false,AV.vnil,vb false,AV.vnil,vb false,AV.vnil],vi 1]) dq) /\
   (¬((¬J.sgnI y.num=0)/\(¬J.sgnI (c.num*(↑z.den:Int)-z.num*(↑c.den:Int))=0))->Weak (tu [(pntF a b x y (J.rd2 b y c)),vi 0]) dq))) :
 mMake_at f1 f2 f3 f4 f5 f6 g1 g2 g3 g4 g5 g6 a b c x y z (Zag dq):=by
 unfold mMake_at
 refine Zae (G:=Zad kp106 [(2,2,.call (vi (J.sgnI b.num)) none)] []) 7 [] ⟨(atC (cd Tryz.f106) [1,1,0,1]),[(2,AV.ptr 0 0 0 0),(3,AV.ptr 1 0 0 0),(4,AV.ptr 2 0 0 0),(6,AV.ptr 3 0 0 0),(12,vb (J.sgnI b.num==0))],[⟨[Zaw f1 f2 f3 f4 f5 f6 a b c],12,0,false,false⟩,⟨[Zaw g1 g2 g3 g4 g5 g6 x y z],12,0,false,false⟩,⟨[zNmC3],20,0,false,false⟩,⟨[ratA f5 f6 c],4,0,false,false⟩],_,[],_⟩ (by kernel_rfl) (bc rfl (bc rfl (bc rfl b0))) q0 (ce (@ev54 f3 f4 (b.num) ((↑b.den:Int))) c0) ?_
 rcases xq H with ⟨d2,H⟩|⟨d2,H⟩
 ·exact Zah (G:=Zad kp106 [(6,10,.call ((zNmC1 a b x y z)) none)] []) 1000 [true] (tu [(zNmC1 a b x y z),vi 0]) (by kernel_rfl) (bc (Zaq (i_eq.2 d2)) (bc rfl (bc rfl (bc rfl (bc rfl (bc rfl (bc rfl (bc rfl (bc rfl b0))))))))) q0 (ce (@ev144 f1 f2 f3 f4 g1 g2 g3 g4 g5 g6 a b x y z) c0) H
 ·obtain ⟨k4,H⟩:=H
  refine Zae (G:=Zad kp106 [(4,2,.call (vi (J.sgnI y.num)) none),(4,9,.call (vi (J.sgnI (c.num*(↑z.den:Int)-z.num*(↑c.den:Int)))) none)] []) 3 [false] ⟨(atC (cd Tryz.f106) [1,1,0,1,1,1]),[(2,AV.ptr 0 0 0 0),(3,AV.ptr 1 0 0 0),(4,AV.ptr 2 0 0 0),(6,AV.ptr 3 0 0 0),(26,vb (bif J.sgnI y.num != 0 then J.sgnI (c.num*(↑z.den:Int)-z.num*(↑c.den:Int)) != 0 else false))],[⟨[Zaw f1 f2 f3 f4 f5 f6 a b c],12,0,false,false⟩,⟨[Zaw g1 g2 g3 g4 g5 g6 x y z],12,0,false,false⟩,⟨[zNmC3],20,0,false,false⟩,⟨[ratA f5 f6 c],4,0,false,false⟩],[(J.sgnI b.num==0)==false,true,!((J.sgnI y.num != 0)==true&&true)||true,!((J.sgnI y.num != 0)==true&&true)||true],[],[⟨true,false,54,[ratA g3 g4 y],[],vi (J.sgnI y.num),[]⟩,⟨(J.sgnI y.num != 0)==true&&true&&true,false,110,[ratA f5 f6 c,ratA g5 g6 z],[],vi (J.sgnI (c.num*(↑z.den:Int)-z.num*(↑c.den:Int))),[]⟩]⟩ (by kernel_rfl) (bc (Zam (fun h=>d2 (i_eq.1 h))) (bc rfl (bc (Bool.or_true _) (bc (Bool.or_true _) b0)))) q0 (cc (fun _=>(@ev54 g3 g4 (y.num) ((↑y.den:Int)))) (cc (fun hc=>((@ev110 f5 f6 g5 g6 c z (k4 ((i_at (i_at (i_bt i_ne))).1 hc))):Ev M1 (Conf.pure 110 [ratA f5 f6 c,ratA g5 g6 z]) (vi (J.sgnI (c.num*(↑z.den:Int)-z.num*(↑c.den:Int)))) [])) c0)) ?_
  rcases xq H with ⟨d6,H⟩|⟨d6,H⟩
  ·exact Zah (G:=Zad kp106 [] []) 1000 [true] (tu [zNmC3,vi 1]) (by kernel_rfl) (bc (Zaq ((ZaG i_ne i_ne).2 d6)) (bc rfl b0)) q0 c0 H
  ·exact Zah (G:=Zad kp106 [(6,10,.call ((zNmC2 a b x y c)) none)] []) 1000 [false] (tu [(zNmC2 a b x y c),vi 0]) (by kernel_rfl) (bc (Zam (fun h=>d6 ((ZaG i_ne i_ne).1 h))) (bc rfl (bc rfl (bc rfl (bc rfl (bc rfl (bc rfl b0))))))) q0 (ce (@ev144 f1 f2 f3 f4 g1 g2 g3 g4 f5 f6 a b x y c) c0) H
noncomputable abbrev zNmC4 (a:Rat) (b:Rat) (c:Rat) (x:Rat) (y:Rat):=(vecF (J.fX a b c x y) (J.fY a b c x y))
noncomputable abbrev zNmC5:=ag [vb false,AV.vnil,vb false,AV.vnil,vb false,AV.vnil,vb false,AV.vnil]
theorem mDepth (f1 f2 f3 f4 f5 f6 g1 g2 g3 g4 g5 g6:Bool) (a b c x y q:Rat)  (dq:AV) (H :
  (J.Zga a b c/\J.ZgK x y) /\
  (J.okR (J.fX a b c x y)/\J.okR x) /\
  (J.okR (J.fY a b c x y)/\J.okR y) /\
  (J.okR (J.fX a b c x y-x)/\J.okR (J.fX a b c x y-x)) /\
  (J.okR (J.fY a b c x y-y)/\J.okR (J.fY a b c x y-y)) /\
  (J.okR ((J.fX a b c x y-x)*(J.fX a b c x y-x))/\J.okR ((J.fY a b c x y-y)*(J.fY a b c x y-y))) /\
  (J.okR q/\J.okR ((J.fX a b c x y-x)*(J.fX a b c x y-x)+(J.fY a b c x y-y)*(J.fY a b c x y-y))) /\
  (J.okR a/\J.okR a) /\
  (J.okR b/\J.okR b) /\
  (J.okR (a*a)/\J.okR (b*b)) /\
  (J.okR (q-((J.fX a b c x y-x)*(J.fX a b c x y-x)+(J.fY a b c x y-y)*(J.fY a b c x y-y)))/\J.okR (a*a+b*b)/\(a*a+b*b).num ≠ 0) /\
  Weak (tu [ratF ((q-((J.fX a b c x y-x)*(J.fX a b c x y-x)+(J.fY a b c x y-y)*(J.fY a b c x y-y))) / (a*a+b*b)),(vecF (J.fX a b c x y) (J.fY a b c x y))]) dq) :
 mDepth_at f1 f2 f3 f4 f5 f6 g1 g2 g3 g4 g5 g6 a b c x y q (Zag dq):=by
 unfold mDepth_at
 obtain ⟨k1,k2,k3,H⟩:=H
 refine Zae (G:=Zad kp64 [(1,6,.call ((zNmC4 a b c x y)) none),(2,4,.call (ratF (J.fX a b c x y-x)) none),(2,9,.call (ratF (J.fY a b c x y-y)) none)] []) 5 [] ⟨(atC (cd Tryz.f64) [1,1,0]),[(2,AV.ptr 0 0 0 0),(3,AV.ptr 1 0 0 0),(4,AV.ptr 2 0 0 0),(5,AV.ptr 3 0 0 0),(6,AV.ptr 4 0 0 0)],[⟨[Zaw f1 f2 f3 f4 f5 f6 a b c],12,0,false,false⟩,⟨[Zaw g1 g2 g3 g4 g5 g6 x y q],12,0,false,false⟩,⟨[ag [vb false,AV.vnil,vb false,AV.vnil]],4,0,false,false⟩,⟨[zNmC5],8,0,false,false⟩,⟨[(zNmC4 a b c x y)],8,0,false,false⟩],_,[],_⟩ (by kernel_rfl) (bc rfl (bc rfl (bc rfl (bc rfl b0)))) q0 (ce (@ev103 f1 f2 f3 f4 f5 f6 g1 g2 g3 g4 a b c x y k1) c0) (ZdN (G:=Zad kp64 [(1,6,.call ((zNmC4 a b c x y)) none),(2,4,.call (ratF (J.fX a b c x y-x)) none),(2,9,.call (ratF (J.fY a b c x y-y)) none)] []) [0,1,2,3,4,6,5] 10 (e1:=[(2,AV.ptr 0 0 0 0),(3,AV.ptr 1 0 0 0),(4,AV.ptr 2 0 0 0),(5,AV.ptr 3 0 0 0),(6,AV.ptr 4 0 0 0),(7,AV.ptr 5 0 0 0),(8,AV.ptr 6 0 0 0)]) (L1:=[⟨[Zaw f1 f2 f3 f4 f5 f6 a b c],12,0,false,false⟩,⟨[Zaw g1 g2 g3 g4 g5 g6 x y q],12,0,false,false⟩,⟨[ag [vb false,AV.vnil,vb false,AV.vnil]],4,0,false,false⟩,⟨[zNmC5],8,0,false,false⟩,⟨[(zNmC4 a b c x y)],8,0,false,false⟩,⟨[ratF (J.fX a b c x y-x)],4,0,false,false⟩,⟨[ratF (J.fY a b c x y-y)],4,0,false,false⟩]) (a:=[true,true,true,true,true,true]) (q:=[]) (cs:=[⟨true,false,52,[ratF (J.fX a b c x y),ratA g1 g2 x],[],ratF (J.fX a b c x y-x),[]⟩,⟨true,false,52,[ratF (J.fY a b c x y),ratA g3 g4 y],[],ratF (J.fY a b c x y-y),[]⟩]) (by kernel_rfl) (by kernel_rfl) (Zal rfl (Zal rfl (Zal rfl (Zal rfl (Zal rfl (Zal rfl ZaQ)))))) Zbf (Za8 (fun _=>(@ev52 false false g1 g2 (J.fX a b c x y) x k2)) (Za8 (fun _=>(@ev52 false false g3 g4 (J.fY a b c x y) y k3)) Zbg)) ?_)
 obtain ⟨k4,k5,k6,k7,k12,k13,k14,k15,H⟩:=H
 exact Zah (G:=Zad kp64 [(3,4,.call (ratF ((J.fX a b c x y-x)*(J.fX a b c x y-x))) none),(3,7,.call (ratF ((J.fY a b c x y-y)*(J.fY a b c x y-y))) none),(3,8,.call (ratF ((J.fX a b c x y-x)*(J.fX a b c x y-x)+(J.fY a b c x y-y)*(J.fY a b c x y-y))) none),(3,9,.call (ratF (q-((J.fX a b c x y-x)*(J.fX a b c x y-x)+(J.fY a b c x y-y)*(J.fY a b c x y-y)))) none),(4,5,.call (ratF (a*a)) none),(4,10,.call (ratF (b*b)) none),(4,11,.call (ratF (a*a+b*b)) none),(4,12,.call (ratF ((q-((J.fX a b c x y-x)*(J.fX a b c x y-x)+(J.fY a b c x y-y)*(J.fY a b c x y-y))) / (a*a+b*b))) none)] [(4,[5015,4014,6013,902012,902011,902010,2009,2007,902005,2004,2002,9000])]) 1000 [] (tu [ratF ((q-((J.fX a b c x y-x)*(J.fX a b c x y-x)+(J.fY a b c x y-y)*(J.fY a b c x y-y))) / (a*a+b*b)),(zNmC4 a b c x y)]) (by kernel_rfl) (bc rfl (bc rfl (bc rfl (bc rfl (bc rfl (bc rfl (bc rfl (bc rfl (bc rfl (bc rfl (bc rfl (bc rfl (bc rfl (bc rfl b0)))))))))))))) q0 (ce (@ev53 false false false false (J.fX a b c x y-x) (J.fX a b c x y-x) k4) (ce (@ev53 false false false false (J.fY a b c x y-y) (J.fY a b c x y-y) k5) (ce (@ev77 false false false false ((J.fX a b c x y-x)*(J.fX a b c x y-x)) ((J.fY a b c x y-y)*(J.fY a b c x y-y)) k6) (ce (@ev52 g5 g6 false false q ((J.fX a b c x y-x)*(J.fX a b c x y-x)+(J.fY a b c x y-y)*(J.fY a b c x y-y)) k7) (ce (@ev53 f1 f2 f1 f2 a a k12) (ce (@ev53 f3 f4 f3 f4 b b k13) (ce (@ev77 false false false false (a*a) (b*b) k14) (ce (@ev56 false false false false (q-((J.fX a b c x y-x)*(J.fX a b c x y-x)+(J.fY a b c x y-y)*(J.fY a b c x y-y))) (a*a+b*b) k15) c0)))))))) H
theorem mRad1 (f1 f2 f3 f4 f5 f6:Bool) (a b c:Rat)  (dq:AV) (H :
  (J.okR a/\J.okR a) /\
  (J.okR b/\J.okR b) /\
  (J.okR (a*a)/\J.okR (b*b)) /\
  (J.okR (a*a+b*b)/\J.okR c) /\
  Weak (ratF (a*a+b*b-c)) dq) :
 mRad1_at f1 f2 f3 f4 f5 f6 a b c (Zag dq):=by
 unfold mRad1_at
 obtain ⟨k1,k2,k3,k4,H⟩:=H
 exact Zah (G:=Zad kp76 [(1,4,.call (ratF (a*a)) none),(1,9,.call (ratF (b*b)) none),(1,10,.call (ratF (a*a+b*b)) none),(1,13,.call (ratF (a*a+b*b-c)) none)] []) 1000 [] (ratF (a*a+b*b-c)) (by kernel_rfl) (bc rfl (bc rfl (bc rfl (bc rfl (bc rfl (bc rfl b0)))))) q0 (ce (@ev53 f1 f2 f1 f2 a a k1) (ce (@ev53 f3 f4 f3 f4 b b k2) (ce (@ev77 false false false false (a*a) (b*b) k3) (ce (@ev52 false false f5 f6 (a*a+b*b) c k4) c0)))) H
theorem rX7 (f1 f2 f3 f4 f5 f6 f7 f8 f9 f10:Bool) (ax bx ay by_ c:Rat)  (dq:AV) (H :
  Weak (Zau ax bx (J.rad bx c)) dq) :
 rX7_at f1 f2 f3 f4 f5 f6 f7 f8 f9 f10 ax bx ay by_ c (Zag dq):=by
 unfold rX7_at
 exact Zah (G:=Zad kp108 [(1,6,.call (Zau ax bx (J.rad bx c)) none)] []) 1000 [] (Zau ax bx (J.rad bx c)) (by kernel_rfl) (bc rfl (bc rfl (bc rfl (bc rfl b0)))) q0 (ce (@ev147 f1 f2 f3 f4 f9 f10 ax bx c) c0) H
theorem rY7 (f1 f2 f3 f4 f5 f6 f7 f8 f9 f10:Bool) (ax bx ay by_ c:Rat)  (dq:AV) (H :
  Weak (Zau ay by_ (J.rad by_ c)) dq) :
 rY7_at f1 f2 f3 f4 f5 f6 f7 f8 f9 f10 ax bx ay by_ c (Zag dq):=by
 unfold rY7_at
 exact Zah (G:=Zad kp109 [(1,6,.call (Zau ay by_ (J.rad by_ c)) none)] []) 1000 [] (Zau ay by_ (J.rad by_ c)) (by kernel_rfl) (bc rfl (bc rfl (bc rfl (bc rfl b0)))) q0 (ce (@ev147 f5 f6 f7 f8 f9 f10 ay by_ c) c0) H
noncomputable abbrev zNmC7 (ax:Rat) (ay:Rat) (bx:Rat) (by_:Rat) (c:Rat):=bif bif bif bif !J.Zct (J.Zaa ax.num) (J.Zab ax.num) (J.Zaa (↑ax.den:Int)) (J.Zab (↑ax.den:Int)) then true else !J.Zct (J.Zaa ay.num) (J.Zab ay.num) (J.Zaa (↑ay.den:Int)) (J.Zab (↑ay.den:Int)) then true else !J.Zct (J.Zaa bx.num) (J.Zab bx.num) (J.Zaa (↑bx.den:Int)) (J.Zab (↑bx.den:Int)) then true else !J.Zct (J.Zaa by_.num) (J.Zab by_.num) (J.Zaa (↑by_.den:Int)) (J.Zab (↑by_.den:Int)) then true else !J.Zct (J.Zaa c.num) (J.Zab c.num) (J.Zaa (↑c.den:Int)) (J.Zab (↑c.den:Int))
noncomputable abbrev zNmC8 (ax:Rat) (f1:Bool) (f2:Bool) (bx:Rat) (f3:Bool) (f4:Bool) (ay:Rat) (f5:Bool) (f6:Bool) (by_:Rat) (f7:Bool) (f8:Bool) (c:Rat) (f9:Bool) (f10:Bool):=ag [vb (J.Zaa ax.num),AV.vec f1 1 (us (J.Zab ax.num)),vb (J.Zaa (↑ax.den:Int)),AV.vec f2 1 (us (J.Zab (↑ax.den:Int))),vb (J.Zaa bx.num),AV.vec f3 1 (us (J.Zab bx.num)),vb (J.Zaa (↑bx.den:Int)),AV.vec f4 1 (us (J.Zab (↑bx.den:Int))),vb (J.Zaa ay.num),AV.vec f5 1 (us (J.Zab ay.num)),vb (J.Zaa (↑ay.den:Int)),AV.vec f6 1 (us (J.Zab (↑ay.den:Int))),vb (J.Zaa by_.num),AV.vec f7 1 (us (J.Zab by_.num)),vb (J.Zaa (↑by_.den:Int)),AV.vec f8 1 (us (J.Zab (↑by_.den:Int))),vb (J.Zaa c.num),AV.vec f9 1 (us (J.Zab c.num)),vb (J.Zaa (↑c.den:Int)),AV.vec f10 1 (us (J.Zab (↑c.den:Int)))]
noncomputable abbrev zNmC9 (ax:Rat) (ay:Rat) (bx:Rat) (by_:Rat):=bif bif bif !J.Zct (J.Zaa ax.num) (J.Zab ax.num) (J.Zaa (↑ax.den:Int)) (J.Zab (↑ax.den:Int)) then true else !J.Zct (J.Zaa ay.num) (J.Zab ay.num) (J.Zaa (↑ay.den:Int)) (J.Zab (↑ay.den:Int)) then true else !J.Zct (J.Zaa bx.num) (J.Zab bx.num) (J.Zaa (↑bx.den:Int)) (J.Zab (↑bx.den:Int)) then true else !J.Zct (J.Zaa by_.num) (J.Zab by_.num) (J.Zaa (↑by_.den:Int)) (J.Zab (↑by_.den:Int))
noncomputable abbrev zNmC10 (ax:Rat) (ay:Rat) (bx:Rat):=bif bif !J.Zct (J.Zaa ax.num) (J.Zab ax.num) (J.Zaa (↑ax.den:Int)) (J.Zab (↑ax.den:Int)) then true else !J.Zct (J.Zaa ay.num) (J.Zab ay.num) (J.Zaa (↑ay.den:Int)) (J.Zab (↑ay.den:Int)) then true else !J.Zct (J.Zaa bx.num) (J.Zab bx.num) (J.Zaa (↑bx.den:Int)) (J.Zab (↑bx.den:Int))
noncomputable abbrev zNmC11 (ax:Rat) (ay:Rat):=bif !J.Zct (J.Zaa ax.num) (J.Zab ax.num) (J.Zaa (↑ax.den:Int)) (J.Zab (↑ax.den:Int)) then true else !J.Zct (J.Zaa ay.num) (J.Zab ay.num) (J.Zaa (↑ay.den:Int)) (J.Zab (↑ay.den:Int))
noncomputable abbrev zNmC12 (by_:Rat):=J.Zct (J.Zaa by_.num) (J.Zab by_.num) (J.Zaa (↑by_.den:Int)) (J.Zab (↑by_.den:Int))
noncomputable abbrev zNmC13 (ay:Rat):=J.Zct (J.Zaa ay.num) (J.Zab ay.num) (J.Zaa (↑ay.den:Int)) (J.Zab (↑ay.den:Int))
noncomputable abbrev zNmC14 (bx:Rat):=J.Zct (J.Zaa bx.num) (J.Zab bx.num) (J.Zaa (↑bx.den:Int)) (J.Zab (↑bx.den:Int))
noncomputable abbrev zNmC15 (c:Rat):=J.Zct (J.Zaa c.num) (J.Zab c.num) (J.Zaa (↑c.den:Int)) (J.Zab (↑c.den:Int))
theorem rVal7 (f1 f2 f3 f4 f5 f6 f7 f8 f9 f10:Bool) (ax bx ay by_ c:Rat)  (dq:AV) (H :
  (J.okA (J.Zab ax.num) (J.Zab (↑ax.den:Int))) /\
  ((¬(¬(J.Zct (J.Zaa ax.num) (J.Zab ax.num) (J.Zaa (↑ax.den:Int)) (J.Zab (↑ax.den:Int))=true)))->(J.okA (J.Zab ay.num) (J.Zab (↑ay.den:Int)))) /\
  ((¬((¬(J.Zct (J.Zaa ax.num) (J.Zab ax.num) (J.Zaa (↑ax.den:Int)) (J.Zab (↑ax.den:Int))=true))\/(¬(J.Zct (J.Zaa ay.num) (J.Zab ay.num) (J.Zaa (↑ay.den:Int)) (J.Zab (↑ay.den:Int))=true))))->(J.okA (J.Zab bx.num) (J.Zab (↑bx.den:Int)))) /\
  ((¬(((¬(J.Zct (J.Zaa ax.num) (J.Zab ax.num) (J.Zaa (↑ax.den:Int)) (J.Zab (↑ax.den:Int))=true))\/(¬(J.Zct (J.Zaa ay.num) (J.Zab ay.num) (J.Zaa (↑ay.den:Int)) (J.Zab (↑ay.den:Int))=true)))\/(¬(J.Zct (J.Zaa bx.num) (J.Zab bx.num) (J.Zaa (↑bx.den:Int)) (J.Zab (↑bx.den:Int))=true))))->(J.okA (J.Zab by_.num) (J.Zab (↑by_.den:Int)))) /\
  ((¬((((¬(J.Zct (J.Zaa ax.num) (J.Zab ax.num) (J.Zaa (↑ax.den:Int)) (J.Zab (↑ax.den:Int))=true))\/(¬(J.Zct (J.Zaa ay.num) (J.Zab ay.num) (J.Zaa (↑ay.den:Int)) (J.Zab (↑ay.den:Int))=true)))\/(¬(J.Zct (J.Zaa bx.num) (J.Zab bx.num) (J.Zaa (↑bx.den:Int)) (J.Zab (↑bx.den:Int))=true)))\/(¬(J.Zct (J.Zaa by_.num) (J.Zab by_.num) (J.Zaa (↑by_.den:Int)) (J.Zab (↑by_.den:Int))=true))))->(J.okA (J.Zab c.num) (J.Zab (↑c.den:Int)))) /\
  ((((((¬(J.Zct (J.Zaa ax.num) (J.Zab ax.num) (J.Zaa (↑ax.den:Int)) (J.Zab (↑ax.den:Int))=true))\/(¬(J.Zct (J.Zaa ay.num) (J.Zab ay.num) (J.Zaa (↑ay.den:Int)) (J.Zab (↑ay.den:Int))=true)))\/(¬(J.Zct (J.Zaa bx.num) (J.Zab bx.num) (J.Zaa (↑bx.den:Int)) (J.Zab (↑bx.den:Int))=true)))\/(¬(J.Zct (J.Zaa by_.num) (J.Zab by_.num) (J.Zaa (↑by_.den:Int)) (J.Zab (↑by_.den:Int))=true)))\/(¬(J.Zct (J.Zaa c.num) (J.Zab c.num) (J.Zaa (↑c.den:Int)) (J.Zab (↑c.den:Int))=true)))->vb false=dq) /\
  (¬(((((¬(J.Zct (J.Zaa ax.num) (J.Zab ax.num) (J.Zaa (↑ax.den:Int)) (J.Zab (↑ax.den:Int))=true))\/(¬(J.Zct (J.Zaa ay.num) (J.Zab ay.num) (J.Zaa (↑ay.den:Int)) (J.Zab (↑ay.den:Int))=true)))\/(¬(J.Zct (J.Zaa bx.num) (J.Zab bx.num) (J.Zaa (↑bx.den:Int)) (J.Zab (↑bx.den:Int))=true)))\/(¬(J.Zct (J.Zaa by_.num) (J.Zab by_.num) (J.Zaa (↑by_.den:Int)) (J.Zab (↑by_.den:Int))=true)))\/(¬(J.Zct (J.Zaa c.num) (J.Zab c.num) (J.Zaa (↑c.den:Int)) (J.Zab (↑c.den:Int))=true)))->(((J.sgnI bx.num=0)/\(J.sgnI by_.num=0))->vb (J.sgnI c.num==0)=dq) /\
   (¬((J.sgnI bx.num=0)/\(J.sgnI by_.num=0))->((J.rsq c)->(J.okR c) /\
     vb (bif decide (J.sgnI c.num>0) then false else false)=dq) /\
    (¬(J.rsq c)->(J.okR c) /\
     vb (bif decide (J.sgnI c.num>0) then true else false)=dq)))) :
 rVal7_at f1 f2 f3 f4 f5 f6 f7 f8 f9 f10 ax bx ay by_ c (Zag dq):=by
 unfold rVal7_at
 obtain ⟨k1,k3,k5,k7,k9,H⟩:=H
 refine Zae (G:=Zad kp36 [(1,2,.call (vb (J.Zct (J.Zaa ax.num) (J.Zab ax.num) (J.Zaa (↑ax.den:Int)) (J.Zab (↑ax.den:Int)))) none),(1,7,.call (vb (zNmC13 ay)) none),(1,13,.call (vb (zNmC14 bx)) none),(1,19,.call (vb (zNmC12 by_)) none),(1,25,.call (vb (zNmC15 c)) none)] []) 5 [] ⟨(atC (cd Tryz.f36) [1,0,1]),[(1,AV.ptr 0 0 0 0),(32,vb (zNmC7 ax ay bx by_ c))],[⟨[(zNmC8 ax f1 f2 bx f3 f4 ay f5 f6 by_ f7 f8 c f9 f10)],20,0,false,false⟩],[true,!((!J.Zct (J.Zaa ax.num) (J.Zab ax.num) (J.Zaa (↑ax.den:Int)) (J.Zab (↑ax.den:Int)))==false&&true)||true,!((zNmC11 ax ay)==false&&true)||true,!((zNmC10 ax ay bx)==false&&true)||true,!((zNmC9 ax ay bx by_)==false&&true)||true],[],[⟨true,false,27,[ratA f1 f2 ax],[],vb (J.Zct (J.Zaa ax.num) (J.Zab ax.num) (J.Zaa (↑ax.den:Int)) (J.Zab (↑ax.den:Int))),[]⟩,⟨(!J.Zct (J.Zaa ax.num) (J.Zab ax.num) (J.Zaa (↑ax.den:Int)) (J.Zab (↑ax.den:Int)))==false&&true&&true,false,27,[ratA f5 f6 ay],[],vb (zNmC13 ay),[]⟩,⟨(zNmC11 ax ay)==false&&true&&true,false,27,[ratA f3 f4 bx],[],vb (zNmC14 bx),[]⟩,⟨(zNmC10 ax ay bx)==false&&true&&true,false,27,[ratA f7 f8 by_],[],vb (zNmC12 by_),[]⟩,⟨(zNmC9 ax ay bx by_)==false&&true&&true,false,27,[ratA f9 f10 c],[],vb (zNmC15 c),[]⟩]⟩ (by kernel_rfl) (bc rfl (bc (Bool.or_true _) (bc (Bool.or_true _) (bc (Bool.or_true _) (bc (Bool.or_true _) b0))))) q0 (cc (fun _=>(@ev27 (J.Zaa ax.num) f1 (J.Zaa (↑ax.den:Int)) f2 (J.Zab ax.num) (J.Zab (↑ax.den:Int)) k1)) (cc (fun hc=>((@ev27 (J.Zaa ay.num) f5 (J.Zaa (↑ay.den:Int)) f6 (J.Zab ay.num) (J.Zab (↑ay.den:Int)) (k3 ((i_at (i_at (i_bf (ZaH (Zas _))))).1 hc))):Ev M1 (Conf.pure 27 [ratA f5 f6 ay]) (vb (zNmC13 ay)) [])) (cc (fun hc=>((@ev27 (J.Zaa bx.num) f3 (J.Zaa (↑bx.den:Int)) f4 (J.Zab bx.num) (J.Zab (↑bx.den:Int)) (k5 ((i_at (i_at (i_bf (ZaM (ZaH (Zas _)) (ZaH (Zas _)))))).1 hc))):Ev M1 (Conf.pure 27 [ratA f3 f4 bx]) (vb (zNmC14 bx)) [])) (cc (fun hc=>((@ev27 (J.Zaa by_.num) f7 (J.Zaa (↑by_.den:Int)) f8 (J.Zab by_.num) (J.Zab (↑by_.den:Int)) (k7 ((i_at (i_at (i_bf (ZaM (ZaM (ZaH (Zas _)) (ZaH (Zas _))) (ZaH (Zas _)))))).1 hc))):Ev M1 (Conf.pure 27 [ratA f7 f8 by_]) (vb (zNmC12 by_)) [])) (cc (fun hc=>((@ev27 (J.Zaa c.num) f9 (J.Zaa (↑c.den:Int)) f10 (J.Zab c.num) (J.Zab (↑c.den:Int)) (k9 ((i_at (i_at (i_bf (ZaM (ZaM (ZaM (ZaH (Zas _)) (ZaH (Zas _))) (ZaH (Zas _))) (ZaH (Zas _)))))).1 hc))):Ev M1 (Conf.pure 27 [ratA f9 f10 c]) (vb (zNmC15 c)) [])) c0))))) ?_
 rcases xq H with ⟨d11,H⟩|⟨d11,H⟩
 ·exact Zao (G:=Zad kp36 [] []) 1000 [true] (asm:=[(zNmC7 ax ay bx by_ c)==true]) (vb false) (by kernel_rfl) (bc (Zaq ((ZaM (ZaM (ZaM (ZaM (ZaH (Zas _)) (ZaH (Zas _))) (ZaH (Zas _))) (ZaH (Zas _))) (ZaH (Zas _))).2 d11)) b0) q0 c0 H
 ·refine Zae (G:=Zad kp36 [(3,2,.call (vi (J.sgnI bx.num)) none),(3,7,.call (vi (J.sgnI by_.num)) none)] []) 5 [false] ⟨(atC (cd Tryz.f36) [1,1,0,1]),[(1,AV.ptr 0 0 0 0),(42,vb (bif J.sgnI bx.num==0 then J.sgnI by_.num==0 else false))],[⟨[(zNmC8 ax f1 f2 bx f3 f4 ay f5 f6 by_ f7 f8 c f9 f10)],20,0,false,false⟩],[(zNmC7 ax ay bx by_ c)==false,true,!((J.sgnI bx.num==0)==true&&true)||true],[],[⟨true,false,20,[ratA f3 f4 bx],[],vi (J.sgnI bx.num),[]⟩,⟨(J.sgnI bx.num==0)==true&&true&&true,false,20,[ratA f7 f8 by_],[],vi (J.sgnI by_.num),[]⟩]⟩ (by kernel_rfl) (bc (Zam (fun h=>d11 ((ZaM (ZaM (ZaM (ZaM (ZaH (Zas _)) (ZaH (Zas _))) (ZaH (Zas _))) (ZaH (Zas _))) (ZaH (Zas _))).1 h))) (bc rfl (bc (Bool.or_true _) b0))) q0 (cc (fun _=>(@ev20 f3 f4 (bx.num) ((↑bx.den:Int)))) (cc (fun hc=>((@ev20 f7 f8 (by_.num) ((↑by_.den:Int))):Ev M1 (Conf.pure 20 [ratA f7 f8 by_]) (vi (J.sgnI by_.num)) [])) c0)) ?_
  rcases xq H with ⟨d14,H⟩|⟨d14,H⟩
  ·exact Zao (G:=Zad kp36 [(4,2,.call (vi (J.sgnI c.num)) none)] []) 1000 [true] (vb (J.sgnI c.num==0)) (by kernel_rfl) (bc (Zaq ((ZaG i_eq i_eq).2 d14)) (bc rfl b0)) q0 (ce (@ev20 f9 f10 (c.num) ((↑c.den:Int))) c0) H
  ·rcases xq H with ⟨d15,H⟩|⟨d15,H⟩
   ·obtain ⟨k16,H⟩:=H
    exact Zao (G:=Zad kp36 [(5,2,.call (tu [ratF (J.rt c),vb true]) none),(6,2,.call (vi (J.sgnI c.num)) none)] []) 1000 [false] (vb (bif decide (J.sgnI c.num>0) then false else false)) (by kernel_rfl) (bc (Zam (fun h=>d14 ((ZaG i_eq i_eq).1 h))) (bc rfl (bc rfl (bc rfl b0)))) q0 (ce (@ev91_y f9 f10 c k16 d15) (ce (@ev20 f9 f10 (c.num) ((↑c.den:Int))) c0)) H
   ·obtain ⟨k17,H⟩:=H
    exact Zao (G:=Zad kp36 [(5,2,.call (tu [ag [vb false,vf [],vb false,vf []],vb false]) none),(6,2,.call (vi (J.sgnI c.num)) none)] []) 1000 [false] (vb (bif decide (J.sgnI c.num>0) then true else false)) (by kernel_rfl) (bc (Zam (fun h=>d14 ((ZaG i_eq i_eq).1 h))) (bc rfl (bc rfl (bc rfl b0)))) q0 (ce (@ev91_n f9 f10 c k17 d15) (ce (@ev20 f9 f10 (c.num) ((↑c.den:Int))) c0)) H
theorem rTr7 (f1 f2 f3 f4 f5 f6 f7 f8 f9 f10 g1 g2 g3 g4:Bool) (ax bx ay by_ c x y:Rat)  (dq:AV) (H :
  (J.okR ax/\J.okR x) /\
  (J.okR ay/\J.okR y) /\
  Weak (ag [vb (J.Zaa (ax+x).num),vf (us (J.Zab (ax+x).num)),vb (J.Zaa (↑(ax+x).den:Int)),vf (us (J.Zab (↑(ax+x).den:Int))),vb (J.Zaa bx.num),AV.vec f3 1 (us (J.Zab bx.num)),vb (J.Zaa (↑bx.den:Int)),AV.vec f4 1 (us (J.Zab (↑bx.den:Int))),vb (J.Zaa (ay+y).num),vf (us (J.Zab (ay+y).num)),vb (J.Zaa (↑(ay+y).den:Int)),vf (us (J.Zab (↑(ay+y).den:Int))),vb (J.Zaa by_.num),AV.vec f7 1 (us (J.Zab by_.num)),vb (J.Zaa (↑by_.den:Int)),AV.vec f8 1 (us (J.Zab (↑by_.den:Int))),vb (J.Zaa c.num),AV.vec f9 1 (us (J.Zab c.num)),vb (J.Zaa (↑c.den:Int)),AV.vec f10 1 (us (J.Zab (↑c.den:Int)))]) dq) :
 rTr7_at f1 f2 f3 f4 f5 f6 f7 f8 f9 f10 g1 g2 g3 g4 ax bx ay by_ c x y (Zag dq):=by
 unfold rTr7_at
 obtain ⟨k1,k2,H⟩:=H
 exact Zah (G:=Zad kp38 [(1,4,.call (ratF (ax+x)) none),(1,11,.call (ratF (ay+y)) none)] []) 1000 [] (ag [vb (J.Zaa (ax+x).num),vf (us (J.Zab (ax+x).num)),vb (J.Zaa (↑(ax+x).den:Int)),vf (us (J.Zab (↑(ax+x).den:Int))),vb (J.Zaa bx.num),AV.vec f3 1 (us (J.Zab bx.num)),vb (J.Zaa (↑bx.den:Int)),AV.vec f4 1 (us (J.Zab (↑bx.den:Int))),vb (J.Zaa (ay+y).num),vf (us (J.Zab (ay+y).num)),vb (J.Zaa (↑(ay+y).den:Int)),vf (us (J.Zab (↑(ay+y).den:Int))),vb (J.Zaa by_.num),AV.vec f7 1 (us (J.Zab by_.num)),vb (J.Zaa (↑by_.den:Int)),AV.vec f8 1 (us (J.Zab (↑by_.den:Int))),vb (J.Zaa c.num),AV.vec f9 1 (us (J.Zab c.num)),vb (J.Zaa (↑c.den:Int)),AV.vec f10 1 (us (J.Zab (↑c.den:Int)))]) (by kernel_rfl) (bc rfl (bc rfl (bc rfl (bc rfl (bc rfl (bc rfl (bc rfl (bc rfl b0)))))))) q0 (ce (@ev34 f1 f2 g1 g2 ax x k1) (ce (@ev34 f5 f6 g3 g4 ay y k2) c0)) H
noncomputable abbrev zNmC16 (a:Rat) (f1:Bool) (f2:Bool) (b:Rat) (f3:Bool) (f4:Bool) (c:Rat) (f5:Bool) (f6:Bool) (d:Rat) (f7:Bool) (f8:Bool) (m:Rat) (f9:Bool) (f10:Bool) (n:Rat) (f11:Bool) (f12:Bool):=ag [vb (J.Zaa a.num),AV.vec f1 1 (us (J.Zab a.num)),vb (J.Zaa (↑a.den:Int)),AV.vec f2 1 (us (J.Zab (↑a.den:Int))),vb (J.Zaa b.num),AV.vec f3 1 (us (J.Zab b.num)),vb (J.Zaa (↑b.den:Int)),AV.vec f4 1 (us (J.Zab (↑b.den:Int))),vb (J.Zaa c.num),AV.vec f5 1 (us (J.Zab c.num)),vb (J.Zaa (↑c.den:Int)),AV.vec f6 1 (us (J.Zab (↑c.den:Int))),vb (J.Zaa d.num),AV.vec f7 1 (us (J.Zab d.num)),vb (J.Zaa (↑d.den:Int)),AV.vec f8 1 (us (J.Zab (↑d.den:Int))),vb (J.Zaa m.num),AV.vec f9 1 (us (J.Zab m.num)),vb (J.Zaa (↑m.den:Int)),AV.vec f10 1 (us (J.Zab (↑m.den:Int))),vb (J.Zaa n.num),AV.vec f11 1 (us (J.Zab n.num)),vb (J.Zaa (↑n.den:Int)),AV.vec f12 1 (us (J.Zab (↑n.den:Int)))]
theorem rSign5 (f1 f2 f3 f4 f5 f6 f7 f8 f9 f10 f11 f12:Bool) (a b c d m n:Rat)  (dq:AV) (H :
  (((J.sgnI m.num<0)\/(J.sgnI n.num<0))->vi 0=dq) /\
  (¬((J.sgnI m.num<0)\/(J.sgnI n.num<0))->(J.okTw a b m) /\
   (J.okTw c d m) /\
   (-9223372036854775808<=J.sg2 c d m*J.sgnI n.num/\J.sg2 c d m*J.sgnI n.num<=9223372036854775807) /\
   ((((J.sg2 a b m=0)\/(J.sg2 c d m*J.sgnI n.num=0))\/(J.sg2 a b m=J.sg2 c d m*J.sgnI n.num))->((J.sg2 a b m=0)->vi (J.sg2 c d m*J.sgnI n.num)=dq) /\
    (¬(J.sg2 a b m=0)->vi (J.sg2 a b m)=dq)) /\
   (¬(((J.sg2 a b m=0)\/(J.sg2 c d m*J.sgnI n.num=0))\/(J.sg2 a b m=J.sg2 c d m*J.sgnI n.num))->(J.okR c/\J.okR c) /\
    (J.okR d/\J.okR d) /\
    (J.okR (d*d)/\J.okR m) /\
    (J.okR (c*c)/\J.okR (d*d*m)) /\
    (J.okR n/\J.okR (c*c+d*d*m)) /\
    (J.okR a/\J.okR a) /\
    (J.okR b/\J.okR b) /\
    (J.okR (b*b)/\J.okR m) /\
    (J.okR (a*a)/\J.okR (b*b*m)) /\
    (J.okR (a*a+b*b*m)/\J.okR (n*(c*c+d*d*m))) /\
    (J.okR a/\J.okR b) /\
    (J.okR c/\J.okR d) /\
    (J.okR n/\J.okR (c*d)) /\
    (J.okR (a*b)/\J.okR (n*(c*d))) /\
    (J.okR (a*b-n*(c*d))/\J.okR (a*b-n*(c*d))) /\
    (J.okTw (a*a+b*b*m-n*(c*c+d*d*m)) (a*b-n*(c*d)+(a*b-n*(c*d))) m) /\
    (-9223372036854775808<=J.sg2 a b m*J.sg2 (a*a+b*b*m-n*(c*c+d*d*m)) (a*b-n*(c*d)+(a*b-n*(c*d))) m/\J.sg2 a b m*J.sg2 (a*a+b*b*m-n*(c*c+d*d*m)) (a*b-n*(c*d)+(a*b-n*(c*d))) m<=9223372036854775807) /\
    vi (J.sg2 a b m*J.sg2 (a*a+b*b*m-n*(c*c+d*d*m)) (a*b-n*(c*d)+(a*b-n*(c*d))) m)=dq))) :
 rSign5_at f1 f2 f3 f4 f5 f6 f7 f8 f9 f10 f11 f12 a b c d m n (Zag dq):=by
 unfold rSign5_at
 refine Zae (G:=Zad kp145 [(1,2,.call (vi (J.sgnI m.num)) none),(1,7,.call (vi (J.sgnI n.num)) none)] []) 5 [] ⟨(atC (cd Tryz.f145) [1,0,1]),[(1,AV.ptr 0 0 0 0),(17,vb (bif decide (J.sgnI m.num<0) then true else decide (J.sgnI n.num<0)))],[⟨[(zNmC16 a f1 f2 b f3 f4 c f5 f6 d f7 f8 m f9 f10 n f11 f12)],24,0,false,false⟩],[true,!(decide (J.sgnI m.num<0)==false&&true)||true],[],[⟨true,false,20,[ratA f9 f10 m],[],vi (J.sgnI m.num),[]⟩,⟨decide (J.sgnI m.num<0)==false&&true&&true,false,20,[ratA f11 f12 n],[],vi (J.sgnI n.num),[]⟩]⟩ (by kernel_rfl) (bc rfl (bc (Bool.or_true _) b0)) q0 (cc (fun _=>(@ev20 f9 f10 (m.num) ((↑m.den:Int)))) (cc (fun hc=>((@ev20 f11 f12 (n.num) ((↑n.den:Int))):Ev M1 (Conf.pure 20 [ratA f11 f12 n]) (vi (J.sgnI n.num)) [])) c0)) ?_
 rcases xq H with ⟨d3,H⟩|⟨d3,H⟩
 ·exact Zao (G:=Zad kp145 [] []) 1000 [true] (vi 0) (by kernel_rfl) (bc (Zaq ((ZaM Zac Zac).2 d3)) b0) q0 c0 H
 ·obtain ⟨k4,k5,k6,H⟩:=H
  have w7:wi (J.sg2 c d m*J.sgnI n.num)=J.sg2 c d m*J.sgnI n.num:=wI64 k6
  have i8:(bif bif J.sg2 a b m==0 then true else wi (J.sg2 c d m*J.sgnI n.num)==0 then true else J.sg2 a b m==wi (J.sg2 c d m*J.sgnI n.num))=true ↔ (((J.sg2 a b m=0)\/(J.sg2 c d m*J.sgnI n.num=0))\/(J.sg2 a b m=J.sg2 c d m*J.sgnI n.num)):=(by (try rw [w7]);all_goals exact (ZaM (ZaM i_eq i_eq) i_eq))
  refine Zae (G:=Zad kp145 [(3,6,.call (vi (J.sg2 a b m)) none),(3,13,.call (vi (J.sg2 c d m)) none),(3,16,.call (vi (J.sgnI n.num)) none)] []) 7 [false] ⟨(atC (cd Tryz.f145) [1,1,1,0,1]),[(1,AV.ptr 0 0 0 0),(3,vi (J.sg2 a b m)),(4,vi (wi (J.sg2 c d m*J.sgnI n.num))),(46,vb (bif bif J.sg2 a b m==0 then true else wi (J.sg2 c d m*J.sgnI n.num)==0 then true else J.sg2 a b m==wi (J.sg2 c d m*J.sgnI n.num)))],[⟨[(zNmC16 a f1 f2 b f3 f4 c f5 f6 d f7 f8 m f9 f10 n f11 f12)],24,0,false,false⟩],_,[],_⟩ (by kernel_rfl) (bc (Zam (fun h=>d3 ((ZaM Zac Zac).1 h))) (bc rfl (bc rfl (bc rfl (bc rfl (bc rfl (bc rfl (bc rfl b0)))))))) q0 (ce (@ev167 f1 f2 f3 f4 f9 f10 a b m k4) (ce (@ev167 f5 f6 f7 f8 f9 f10 c d m k5) (ce (@ev20 f11 f12 (n.num) ((↑n.den:Int))) c0))) ?_
  rcases xq H with ⟨d9,H⟩|⟨d9,H⟩
  ·rcases xq H with ⟨d11,H⟩|⟨d11,H⟩
   ·exact Zao (G:=Zad kp145 [] []) 1000 [true,true] (vi (wi (J.sg2 c d m*J.sgnI n.num))) (by kernel_rfl) (bc (Zaq (i8.2 d9)) (bc (Zaq (i_eq.2 d11)) b0)) q0 c0 (by (try rw [w7]);all_goals exact H)
   ·exact Zao (G:=Zad kp145 [] []) 1000 [true,false] (vi (J.sg2 a b m)) (by kernel_rfl) (bc (Zaq (i8.2 d9)) (bc (Zam (fun h=>d11 (i_eq.1 h))) b0)) q0 c0 H
  ·obtain ⟨k12,k13,k14,k15,k16,k17,k18,k19,k20,k21,k22,k23,k24,k25,k26,k27,k28,H⟩:=H
   have w29:wi (J.sg2 a b m*J.sg2 (a*a+b*b*m-n*(c*c+d*d*m)) (a*b-n*(c*d)+(a*b-n*(c*d))) m)=J.sg2 a b m*J.sg2 (a*a+b*b*m-n*(c*c+d*d*m)) (a*b-n*(c*d)+(a*b-n*(c*d))) m:=wI64 k28
   exact Zao (G:=Zad kp145 [(8,6,.call (ratF (c*c)) none),(8,11,.call (ratF (d*d)) none),(8,14,.call (ratF (d*d*m)) none),(8,15,.call (ratF (c*c+d*d*m)) none),(8,16,.call (ratF (n*(c*c+d*d*m))) none),(9,4,.call (ratF (a*a)) none),(9,9,.call (ratF (b*b)) none),(9,12,.call (ratF (b*b*m)) none),(9,13,.call (ratF (a*a+b*b*m)) none),(9,15,.call (ratF (a*a+b*b*m-n*(c*c+d*d*m))) none),(10,4,.call (ratF (a*b)) none),(10,11,.call (ratF (c*d)) none),(10,12,.call (ratF (n*(c*d))) none),(10,13,.call (ratF (a*b-n*(c*d))) none),(11,4,.call (ratF (a*b-n*(c*d)+(a*b-n*(c*d)))) none),(11,7,.call (vi (J.sg2 (a*a+b*b*m-n*(c*c+d*d*m)) (a*b-n*(c*d)+(a*b-n*(c*d))) m)) none)] []) 1000 [false] (vi (wi (J.sg2 a b m*J.sg2 (a*a+b*b*m-n*(c*c+d*d*m)) (a*b-n*(c*d)+(a*b-n*(c*d))) m))) (by kernel_rfl) (bc (Zam (fun h=>d9 (i8.1 h))) (bc rfl (bc rfl (bc rfl (bc rfl (bc rfl (bc rfl (bc rfl (bc rfl (bc rfl (bc rfl (bc rfl (bc rfl (bc rfl (bc rfl (bc rfl (bc rfl (bc rfl (bc rfl (bc rfl (bc rfl (bc rfl (bc rfl (bc rfl (bc rfl b0))))))))))))))))))))))))) q0 (ce (@ev35 f5 f6 f5 f6 c c k12) (ce (@ev35 f7 f8 f7 f8 d d k13) (ce (@ev35 false false f9 f10 (d*d) m k14) (ce (@ev34 false false false false (c*c) (d*d*m) k15) (ce (@ev35 f11 f12 false false n (c*c+d*d*m) k16) (ce (@ev35 f1 f2 f1 f2 a a k17) (ce (@ev35 f3 f4 f3 f4 b b k18) (ce (@ev35 false false f9 f10 (b*b) m k19) (ce (@ev34 false false false false (a*a) (b*b*m) k20) (ce (@ev28 false false false false (a*a+b*b*m) (n*(c*c+d*d*m)) k21) (ce (@ev35 f1 f2 f3 f4 a b k22) (ce (@ev35 f5 f6 f7 f8 c d k23) (ce (@ev35 f11 f12 false false n (c*d) k24) (ce (@ev28 false false false false (a*b) (n*(c*d)) k25) (ce (@ev34 false false false false (a*b-n*(c*d)) (a*b-n*(c*d)) k26) (ce (@ev167 false false false false f9 f10 (a*a+b*b*m-n*(c*c+d*d*m)) (a*b-n*(c*d)+(a*b-n*(c*d))) m k27) c0)))))))))))))))) (by (try rw [w29]);all_goals exact H)
noncomputable abbrev zNmC17:=ag [vb false,vf [],vb false,vf [],vb false,vf [],vb false,vf [],vb false,vf [],vb false,vf []]
theorem rVal8 (f1 f2 f3 f4 f5 f6 g1 g2 g3 g4 g5 g6 g7 g8 g9 g10:Bool) (a b c ax bx ay by_ d:Rat)  (dq:AV) (H :
  (J.okR a/\J.okR ax) /\
  (J.okR b/\J.okR ay) /\
  (J.okR (a*ax)/\J.okR (b*ay)) /\
  (J.okR (a*ax+b*ay)/\J.okR c) /\
  (J.okR a/\J.okR bx) /\
  (J.okR b/\J.okR by_) /\
  (J.okR (a*bx)/\J.okR (b*by_)) /\
  ((J.ZhC d)->(J.okO (a*ax+b*ay-c) (a*bx+b*by_) d) /\
   Weak (Zau (J.mkA (a*ax+b*ay-c) (a*bx+b*by_) d) (J.mkB (a*bx+b*by_) d) (J.mkC (a*bx+b*by_) d)) dq) /\
  (¬(J.ZhC d)->(J.okO (a*ax+b*ay-c) (a*bx+b*by_) d) /\
   Weak (ag [vb false,vf [],vb false,vf [],vb false,vf [],vb false,vf [],vb false,vf [],vb false,vf []]) dq)) :
 rVal8_at f1 f2 f3 f4 f5 f6 g1 g2 g3 g4 g5 g6 g7 g8 g9 g10 a b c ax bx ay by_ d (Zag dq):=by
 unfold rVal8_at
 obtain ⟨k1,k2,k3,k4,k5,k6,k7,H⟩:=H
 rcases xq H with ⟨d8,H⟩|⟨d8,H⟩
 ·obtain ⟨k9,H⟩:=H
  exact Zah (G:=Zad kp86 [(1,4,.call (ratF (a*ax)) none),(1,9,.call (ratF (b*ay)) none),(1,10,.call (ratF (a*ax+b*ay)) none),(1,13,.call (ratF (a*ax+b*ay-c)) none),(2,5,.call (ratF (a*bx)) none),(2,10,.call (ratF (b*by_)) none),(2,11,.call (ratF (a*bx+b*by_)) none),(2,14,.call (tu [Zau (J.mkA (a*ax+b*ay-c) (a*bx+b*by_) d) (J.mkB (a*bx+b*by_) d) (J.mkC (a*bx+b*by_) d),vi 0]) none)] []) 1000 [] (Zau (J.mkA (a*ax+b*ay-c) (a*bx+b*by_) d) (J.mkB (a*bx+b*by_) d) (J.mkC (a*bx+b*by_) d)) (by kernel_rfl) (bc rfl (bc rfl (bc rfl (bc rfl (bc rfl (bc rfl (bc rfl (bc rfl (bc rfl (bc rfl (bc rfl (bc rfl (bc rfl (bc rfl (bc rfl b0))))))))))))))) q0 (ce (@ev87 f1 f2 g1 g2 a ax k1) (ce (@ev87 f3 f4 g5 g6 b ay k2) (ce (@ev125 false false false false (a*ax) (b*ay) k3) (ce (@ev124 false false f5 f6 (a*ax+b*ay) c k4) (ce (@ev87 f1 f2 g3 g4 a bx k5) (ce (@ev87 f3 f4 g7 g8 b by_ k6) (ce (@ev125 false false false false (a*bx) (b*by_) k7) (ce (@ev126_y false false false false g9 g10 (a*ax+b*ay-c) (a*bx+b*by_) d k9 d8) c0)))))))) H
 ·obtain ⟨k10,H⟩:=H
  exact Zah (G:=Zad kp86 [(1,4,.call (ratF (a*ax)) none),(1,9,.call (ratF (b*ay)) none),(1,10,.call (ratF (a*ax+b*ay)) none),(1,13,.call (ratF (a*ax+b*ay-c)) none),(2,5,.call (ratF (a*bx)) none),(2,10,.call (ratF (b*by_)) none),(2,11,.call (ratF (a*bx+b*by_)) none),(2,14,.call (tu [zNmC17,vi 7]) none)] []) 1000 [] zNmC17 (by kernel_rfl) (bc rfl (bc rfl (bc rfl (bc rfl (bc rfl (bc rfl (bc rfl (bc rfl (bc rfl (bc rfl (bc rfl (bc rfl (bc rfl (bc rfl (bc rfl b0))))))))))))))) q0 (ce (@ev87 f1 f2 g1 g2 a ax k1) (ce (@ev87 f3 f4 g5 g6 b ay k2) (ce (@ev125 false false false false (a*ax) (b*ay) k3) (ce (@ev124 false false f5 f6 (a*ax+b*ay) c k4) (ce (@ev87 f1 f2 g3 g4 a bx k5) (ce (@ev87 f3 f4 g7 g8 b by_ k6) (ce (@ev125 false false false false (a*bx) (b*by_) k7) (ce (@ev126_n false false false false g9 g10 (a*ax+b*ay-c) (a*bx+b*by_) d k10 d8) c0)))))))) H
end Go.Av

namespace Go.Av
open Go.Proofs
noncomputable def Pnt.a (p:Pnt):AV:=pntF p.ax p.bx p.ay p.by_ p.c
namespace J
def ZdG (p:Pnt):Prop:=(okT 2200 p.ax/\okT 200 p.bx)/\(okT 2200 p.ay/\okT 200 p.by_)/\okT 1700 p.c
def okMk (b c y z:Rat):Prop:=(okT 9000 c/\okT 9000 z)/\(b=0\/y=0\/c=z)
def okQ5 (a b c d m n:Rat):Prop:=okT 4500 a/\okT 2000 b/\okT 2000 c/\okT 5 d/\okT 2000 m/\okT 2000 n
open Classical in
noncomputable def vP (ax bx ay by_ c:Rat):Bool:=decide (Zbu ⟨ax,bx,ay,by_,c⟩)
end J
theorem okT_f {a b c x y:Rat} (h:J.Zga a b c) (k:J.ZgK x y):J.okT 350 (J.fX a b c x y)/\J.okT 350 (J.fY a b c x y):=by
 obtain ⟨⟨ha,hb,hc⟩,h0⟩:=h
 obtain ⟨hx,hy⟩:=k
 have hn:(a*a+b*b).num ≠ 0:=num_ne (Zcb h0)
 exact ⟨Zar (k:=334) (Zax hx (Zaf (Zca (Zax (ZaC (Zaf ha hx) (Zaf hb hy)) hc) (ZaC (Zaf ha ha) (Zaf hb hb)) hn) ha)) (by omega),Zar (k:=334) (Zax hy (Zaf (Zca (Zax (ZaC (Zaf ha hx) (Zaf hb hy)) hc) (ZaC (Zaf ha ha) (Zaf hb hb)) hn) hb)) (by omega)⟩
theorem okT_dep {a b c x y q:Rat} (h:J.Zga a b c) (k:J.ZgK x y) (hq:J.okT 30 q):J.okT 1700 (J.dep a b c x y q):=by
 have hf:=okT_f h k
 obtain ⟨⟨ha,hb,hc⟩,h0⟩:=h
 obtain ⟨hx,hy⟩:=k
 have hn:(a*a+b*b).num ≠ 0:=num_ne (Zcb h0)
 exact Zar (k:=1677) (Zca (Zax hq (ZaC (Zaf (Zax hf.1 hx) (Zax hf.1 hx)) (Zaf (Zax hf.2 hy) (Zax hf.2 hy)))) (ZaC (Zaf ha ha) (Zaf hb hb)) hn) (by omega)
theorem okT_room {a b c x y q:Rat} (h:J.Zey a b c) (k:J.ZgK x y) (hq:J.okT 30 q):J.okT 500 (J.room a b c x y q):=by
 obtain ⟨ha,hb,hc⟩:=h
 obtain ⟨hx,hy⟩:=k
 exact Zar (k:=456) (Zax (Zaf (ZaC (Zaf ha ha) (Zaf hb hb)) hq) (Zaf (Zax (ZaC (Zaf ha hx) (Zaf hb hy)) hc) (Zax (ZaC (Zaf ha hx) (Zaf hb hy)) hc))) (by omega)
theorem ev106 (f1 f2 f3 f4 f5 f6 g1 g2 g3 g4 g5 g6:Bool) (a b c x y z:Rat) (h:J.okMk b c y z):Ev M1 (.pure 106 [Zaw f1 f2 f3 f4 f5 f6 a b c,Zaw g1 g2 g3 g4 g5 g6 x y z]) (.tup [pntF a b x y (J.rd2 b y (J.com b c z)),.int .i64 0]) []:=by
 obtain ⟨⟨h1,h2⟩,h3⟩:=h
 refine call106 (mMake _ _ _ _ _ _ _ _ _ _ _ _ _ _ _ _ _ _ _ ⟨fun k => ?_,fun k=>⟨fun _=>⟨Zaj h1 (by omega),Zaj h2 (by omega)⟩,fun j => ?_,fun _ => ?_⟩⟩)
 ·rw [sgz] at k
  rw [show J.com b c z=z from if_pos k]
  exact .refl _
 ·rw [sgz] at k
  rw [sgz,cross] at j
  rcases h3 with h3 | h3 | h3
  ·exact absurd h3 k
  ·exact absurd h3 j.1
  ·exact absurd h3 j.2
 ·rw [sgz] at k
  rw [show J.com b c z=c from if_neg k]
  exact .refl _
theorem ev64 (f1 f2 f3 f4 f5 f6 g1 g2 g3 g4 g5 g6:Bool) (a b c x y q:Rat) (h:J.Zga a b c/\J.ZgK x y/\J.okT 30 q):Ev M1 (.pure 64 [Zaw f1 f2 f3 f4 f5 f6 a b c,Zaw g1 g2 g3 g4 g5 g6 x y q]) (.tup [ratF (J.dep a b c x y q),vecF (J.fX a b c x y) (J.fY a b c x y)]) []:=by
 obtain ⟨hl,hv,hq⟩:=h
 have hf:=okT_f hl hv
 have hl':=hl
 have hv':=hv
 obtain ⟨⟨ha,hb,hc⟩,h0⟩:=hl
 obtain ⟨hx,hy⟩:=hv
 have hn:(a*a+b*b).num ≠ 0:=num_ne (Zcb h0)
 exact call64 (mDepth _ _ _ _ _ _ _ _ _ _ _ _ _ _ _ _ _ _ _ ⟨⟨hl',hv'⟩,⟨Zaj hf.1 (by omega),Zaj hx (by omega)⟩,⟨Zaj hf.2 (by omega),Zaj hy (by omega)⟩,⟨Zaj (Zax hf.1 hx) (by omega),Zaj (Zax hf.1 hx) (by omega)⟩,⟨Zaj (Zax hf.2 hy) (by omega),Zaj (Zax hf.2 hy) (by omega)⟩,⟨Zaj (Zaf (Zax hf.1 hx) (Zax hf.1 hx)) (by omega),Zaj (Zaf (Zax hf.2 hy) (Zax hf.2 hy)) (by omega)⟩,⟨Zaj hq (by omega),Zaj (ZaC (Zaf (Zax hf.1 hx) (Zax hf.1 hx)) (Zaf (Zax hf.2 hy) (Zax hf.2 hy))) (by omega)⟩,⟨Zaj ha (by omega),Zaj ha (by omega)⟩,⟨Zaj hb (by omega),Zaj hb (by omega)⟩,⟨Zaj (Zaf ha ha) (by omega),Zaj (Zaf hb hb) (by omega)⟩,⟨Zaj (Zax hq (ZaC (Zaf (Zax hf.1 hx) (Zax hf.1 hx)) (Zaf (Zax hf.2 hy) (Zax hf.2 hy)))) (by omega),Zaj (ZaC (Zaf ha ha) (Zaf hb hb)) (by omega),hn⟩,.refl _⟩)
theorem ev76 (f1 f2 f3 f4 f5 f6:Bool) (a b c:Rat) (h:J.Zey a b c):Ev M1 (.pure 76 [Zaw f1 f2 f3 f4 f5 f6 a b c]) (ratF (a*a+b*b-c)) []:=by
 obtain ⟨ha,hb,hc⟩:=h
 exact call76 (mRad1 _ _ _ _ _ _ _ _ _ _ ⟨⟨Zaj ha (by omega),Zaj ha (by omega)⟩,⟨Zaj hb (by omega),Zaj hb (by omega)⟩,⟨Zaj (Zaf ha ha) (by omega),Zaj (Zaf hb hb) (by omega)⟩,⟨Zaj (ZaC (Zaf ha ha) (Zaf hb hb)) (by omega),Zaj hc (by omega)⟩,.refl _⟩)
theorem okT_nv {a b c x y:Rat} (h:J.Zey a b c) (k:J.ZgK x y):J.okT 130 (J.Zcu a b)/\J.okT 160 (J.val2 a b c x y):=by
 obtain ⟨ha,hb,hc⟩:=h
 obtain ⟨hx,hy⟩:=k
 exact ⟨Zar (k:=121) (ZaC (Zaf ha ha) (Zaf hb hb)) (by omega),Zar (k:=152) (Zax (ZaC (Zaf ha hx) (Zaf hb hy)) hc) (by omega)⟩
theorem red_y {ax bx ay by_ c:Rat} (k:J.rsq c):J.red ax bx ay by_ c=J.atP (ax+bx*J.rt c) (ay+by_*J.rt c):=if_pos k
theorem red_n {ax bx ay by_ c:Rat} (k:¬J.rsq c):J.red ax bx ay by_ c=⟨ax,bx,ay,by_,c⟩:=if_neg k
theorem ev108 (f1 f2 f3 f4 f5 f6 f7 f8 f9 f10:Bool) (ax bx ay by_ c:Rat):Ev M1 (.pure 108 [pntA f1 f2 f3 f4 f5 f6 f7 f8 f9 f10 ax bx ay by_ c]) (Zau ax bx (J.rad bx c)) []:=
 call108 (rX7 _ _ _ _ _ _ _ _ _ _ _ _ _ _ _ _ (.refl _))
theorem ev109 (f1 f2 f3 f4 f5 f6 f7 f8 f9 f10:Bool) (ax bx ay by_ c:Rat):Ev M1 (.pure 109 [pntA f1 f2 f3 f4 f5 f6 f7 f8 f9 f10 ax bx ay by_ c]) (Zau ay by_ (J.rad by_ c)) []:=
 call109 (rY7 _ _ _ _ _ _ _ _ _ _ _ _ _ _ _ _ (.refl _))
theorem vP_true {ax bx ay by_ c:Rat}:J.vP ax bx ay by_ c=true ↔ J.Zbu ⟨ax,bx,ay,by_,c⟩:=by
 unfold J.vP;exact @decide_eq_true_iff _ (Classical.propDecidable _)
theorem vP_false {ax bx ay by_ c:Rat} (h:¬J.Zbu ⟨ax,bx,ay,by_,c⟩):J.vP ax bx ay by_ c=false:=Bool.eq_false_iff.2 fun x=>h (vP_true.1 x)
theorem vP_z {ax bx ay by_ c:Rat} (h:bx=0/\by_=0):J.vP ax bx ay by_ c=decide (c=0):=by
 have e:J.Zbu ⟨ax,bx,ay,by_,c⟩ ↔ c=0:=by unfold J.Zbu;rw [if_pos h]
 by_cases q:c=0
 ·rw [decide_eq_true q,vP_true,e];exact q
 ·rw [decide_eq_false q,vP_false fun x=>q (e.1 x)]
theorem vP_n {ax bx ay by_ c:Rat} (h:¬(bx=0/\by_=0)) (k:¬J.rsq c):J.vP ax bx ay by_ c=decide (0<c):=by
 have e:J.Zbu ⟨ax,bx,ay,by_,c⟩ ↔ 0<c/\¬J.rsq c:=by unfold J.Zbu;rw [if_neg h]
 by_cases q:0<c
 ·rw [decide_eq_true q,vP_true,e];exact ⟨q,k⟩
 ·rw [decide_eq_false q,vP_false fun x=>q (e.1 x).1]
theorem vP_s {ax bx ay by_ c:Rat} (h:¬(bx=0/\by_=0)) (k:J.rsq c):J.vP ax bx ay by_ c=false:=by
 have e:J.Zbu ⟨ax,bx,ay,by_,c⟩ ↔ 0<c/\¬J.rsq c:=by unfold J.Zbu;rw [if_neg h]
 exact vP_false fun x=>(e.1 x).2 k
theorem sgp {r:Rat}:J.sgnI r.num>0 ↔ 0<r:=by
 have:=sg3 r.num
 have:=(@ZbP r).1
 unfold J.sgR at this
 rw [<- this];omega
theorem ev36 (f1 f2 f3 f4 f5 f6 f7 f8 f9 f10:Bool) (ax bx ay by_ c:Rat) (h:J.ZdG ⟨ax,bx,ay,by_,c⟩):Ev M1 (.pure 36 [pntA f1 f2 f3 f4 f5 f6 f7 f8 f9 f10 ax bx ay by_ c]) (.bool (J.vP ax bx ay by_ c)) []:=by
 unfold J.ZdG at h
 have v1:=ZeT ax
 have v2:=ZeT bx
 have v3:=ZeT ay
 have v4:=ZeT by_
 have v5:=ZeT c
 refine call36 (rVal7 _ _ _ _ _ _ _ _ _ _ _ _ _ _ _ _ ⟨ZgN h.1.1 (by omega),fun _=>ZgN h.2.1.1 (by omega),fun _=>ZgN h.1.2 (by omega),fun _=>ZgN h.2.1.2 (by omega),fun _=>ZgN h.2.2 (by omega),fun x => ?_,fun _=>⟨fun z => ?_,fun z=>⟨fun k=>⟨Zaj h.2.2 (by omega),?_⟩,fun k=>⟨Zaj h.2.2 (by omega),?_⟩⟩⟩⟩)
 ·exact absurd x fun y=>y.elim (fun y=>y.elim (fun y=>y.elim (fun y=>y.elim (fun y=>y v1) fun y=>y v3) fun y=>y v2) fun y=>y v4) fun y=>y v5
 ·rw [sgz,sgz] at z
  rw [vP_z z]
  by_cases q:c=0
  ·rw [decide_eq_true q,beq_iff_eq.2 (sgz.2 q)]
  ·rw [decide_eq_false q];congr 1;simpa using fun x=>q (sgz.1 x)
 ·rw [sgz,sgz] at z
  rw [vP_s z k]
  cases decide (J.sgnI c.num>0) <;> rfl
 ·rw [sgz,sgz] at z
  rw [vP_n z k,decide_eq_decide.2 (@sgp c)]
  cases decide (0<c) <;> rfl
theorem ev38 (f1 f2 f3 f4 f5 f6 f7 f8 f9 f10 g1 g2 g3 g4:Bool) (ax bx ay by_ c x y:Rat) (h:J.ZdG ⟨ax,bx,ay,by_,c⟩/\J.okT 40 x/\J.okT 40 y):Ev M1 (.pure 38 [pntA f1 f2 f3 f4 f5 f6 f7 f8 f9 f10 ax bx ay by_ c,vecA g1 g2 g3 g4 x y]) (pntF (ax+x) bx (ay+y) by_ c) []:=by
 obtain ⟨h,hx,hy⟩:=h
 unfold J.ZdG at h
 exact call38 (rTr7 _ _ _ _ _ _ _ _ _ _ _ _ _ _ _ _ _ _ _ _ _ _ ⟨⟨Zaj h.1.1 (by omega),Zaj hx (by omega)⟩,⟨Zaj h.2.1.1 (by omega),Zaj hy (by omega)⟩,ZeQ false false f3 f4 false false f7 f8 f9 f10 _ _ _ _ _⟩)
theorem sg2_3 (a b m:Rat):J.sg2 a b m = -1\/J.sg2 a b m=0\/J.sg2 a b m=1:=by
 have r1:=sg3 a.num
 have r2:=sg3 b.num
 have r3:=sg3 m.num
 have r4:=sg3 (a*a-b*b*m).num
 have p:∀ u v:Int,(u = -1\/u=0\/u=1)->(v = -1\/v=0\/v=1)->u*v = -1\/u*v=0\/u*v=1:=by
  rintro u v (rfl | rfl | rfl) (rfl | rfl | rfl) <;> decide
 unfold J.sg2
 split
 ·split
  ·exact p _ _ r2 r3
  ·exact r1
 ·exact p _ _ r1 r4
theorem mul3 {u v:Int} (h:u = -1\/u=0\/u=1) (k:v = -1\/v=0\/v=1):-9223372036854775808<=u*v/\u*v<=9223372036854775807:=by
 rcases h with rfl | rfl | rfl <;> rcases k with rfl | rfl | rfl <;> decide
theorem ev145 (f1 f2 f3 f4 f5 f6 f7 f8 f9 f10 f11 f12:Bool) (a b c d m n:Rat) (h:J.okQ5 a b c d m n):Ev M1 (.pure 145 [quadA f1 f2 f3 f4 f5 f6 f7 f8 f9 f10 f11 f12 a b c d m n]) (.int .i64 (J.sgQ a b c d m n)) []:=by
 obtain ⟨ha,hb,hc,hd,hm,hn⟩:=h
 refine call145 (rSign5 _ _ _ _ _ _ _ _ _ _ _ _ _ _ _ _ _ _ _ ⟨fun k => ?_,fun k=>⟨⟨Zar ha (by omega),Zar hb (by omega),hm⟩,⟨Zar hc (by omega),Zar hd (by omega),hm⟩,mul3 (sg2_3 c d m) (sg3 n.num),fun j=>⟨fun i => ?_,fun i => ?_⟩,fun j=>⟨⟨Zaj hc (by omega),Zaj hc (by omega)⟩,⟨Zaj hd (by omega),Zaj hd (by omega)⟩,⟨Zaj (Zaf hd hd) (by omega),Zaj hm (by omega)⟩,⟨Zaj (Zaf hc hc) (by omega),Zaj (Zaf (Zaf hd hd) hm) (by omega)⟩,⟨Zaj hn (by omega),Zaj (ZaC (Zaf hc hc) (Zaf (Zaf hd hd) hm)) (by omega)⟩,⟨Zaj ha (by omega),Zaj ha (by omega)⟩,⟨Zaj hb (by omega),Zaj hb (by omega)⟩,⟨Zaj (Zaf hb hb) (by omega),Zaj hm (by omega)⟩,⟨Zaj (Zaf ha ha) (by omega),Zaj (Zaf (Zaf hb hb) hm) (by omega)⟩,⟨Zaj (ZaC (Zaf ha ha) (Zaf (Zaf hb hb) hm)) (by omega),Zaj (Zaf hn (ZaC (Zaf hc hc) (Zaf (Zaf hd hd) hm))) (by omega)⟩,⟨Zaj ha (by omega),Zaj hb (by omega)⟩,⟨Zaj hc (by omega),Zaj hd (by omega)⟩,⟨Zaj hn (by omega),Zaj (Zaf hc hd) (by omega)⟩,⟨Zaj (Zaf ha hb) (by omega),Zaj (Zaf hn (Zaf hc hd)) (by omega)⟩,⟨Zaj (Zax (Zaf ha hb) (Zaf hn (Zaf hc hd))) (by omega),Zaj (Zax (Zaf ha hb) (Zaf hn (Zaf hc hd))) (by omega)⟩,⟨Zar (k:=23013) (Zax (ZaC (Zaf ha ha) (Zaf (Zaf hb hb) hm)) (Zaf hn (ZaC (Zaf hc hc) (Zaf (Zaf hd hd) hm)))) (by omega),Zar (k:=21013) (ZaC (Zax (Zaf ha hb) (Zaf hn (Zaf hc hd))) (Zax (Zaf ha hb) (Zaf hn (Zaf hc hd)))) (by omega),hm⟩,mul3 (sg2_3 _ _ _) (sg2_3 _ _ _),?_⟩⟩⟩)
 ·unfold J.sgQ J.sgR
  rw [if_pos k]
 ·unfold J.sgQ J.sgR
  rw [if_neg k,if_pos (or_assoc.1 j),if_pos i]
 ·unfold J.sgQ J.sgR
  rw [if_neg k,if_pos (or_assoc.1 j),if_neg i]
 ·unfold J.sgQ J.sgR
  rw [if_neg k,if_neg fun z=>j (or_assoc.2 z)]
theorem ev86 (f1 f2 f3 f4 f5 f6 g1 g2 g3 g4 g5 g6 g7 g8 g9 g10:Bool) (a b c ax bx ay by_ d:Rat) (h:J.Zey a b c/\J.ZdG ⟨ax,bx,ay,by_,d⟩/\J.ZhC d):Ev M1 (.pure 86 [Zaw f1 f2 f3 f4 f5 f6 a b c,pntA g1 g2 g3 g4 g5 g6 g7 g8 g9 g10 ax bx ay by_ d]) (Zau (J.mkA (a*ax+b*ay-c) (a*bx+b*by_) d) (J.mkB (a*bx+b*by_) d) (J.mkC (a*bx+b*by_) d)) []:=by
 obtain ⟨⟨ha,hb,hc⟩,h,hd⟩:=h
 unfold J.ZdG at h
 exact call86 (rVal8 _ _ _ _ _ _ _ _ _ _ _ _ _ _ _ _ _ _ _ _ _ _ _ _ _ ⟨⟨Zaj ha (by omega),Zaj h.1.1 (by omega)⟩,⟨Zaj hb (by omega),Zaj h.2.1.1 (by omega)⟩,⟨Zaj (Zaf ha h.1.1) (by omega),Zaj (Zaf hb h.2.1.1) (by omega)⟩,⟨Zaj (ZaC (Zaf ha h.1.1) (Zaf hb h.2.1.1)) (by omega),Zaj hc (by omega)⟩,⟨Zaj ha (by omega),Zaj h.1.2 (by omega)⟩,⟨Zaj hb (by omega),Zaj h.2.1.2 (by omega)⟩,⟨Zaj (Zaf ha h.1.2) (by omega),Zaj (Zaf hb h.2.1.2) (by omega)⟩,fun _=>⟨⟨Zar (k:=4492) (Zax (ZaC (Zaf ha h.1.1) (Zaf hb h.2.1.1)) hc) (by omega),Zar (k:=461) (ZaC (Zaf ha h.1.2) (Zaf hb h.2.1.2)) (by omega),Zar (k:=1700) h.2.2 (by omega)⟩,.refl _⟩,fun k=>absurd hd k⟩)
end Go.Av

namespace Go.Av
open Go.Proofs
set_option maxRecDepth 100000
def fi85:Fi:=⟨28,[.tmp 2]⟩
def kp85:List (Nat × List Nat):=[(0,[1]),(1,[1,3,4]),(2,[1,3,4,17]),(3,[2]),(4,[1,3,4,20]),(5,[2]),(6,[3,4,25]),(7,[2]),(8,[2])]
def fi160:Fi:=⟨29,[.cell 4 98,.tmp 5]⟩
def kp160:List (Nat × List Nat):=[(0,[2,3,4]),(1,[2,3,4,6,7]),(2,[2,3,4,6,15]),(3,[4,5]),(4,[4,5])]
def fi174:Fi:=⟨47,[.cell 4 98,.tmp 5]⟩
def kp174:List (Nat × List Nat):=[(0,[2,3,4]),(1,[2,3,4,6,7]),(2,[2,3,4,6,17]),(3,[4,5]),(4,[2,3,4,6,8]),(5,[4,6,8,9]),(6,[4,5])]
def pSign_at (f1 f2 f3 f4 f5 f6:Bool) (a b c:Rat) (Q:AV->Heap->Prop):Prop:=Wp M1 (.run fi85 (atC (cd Tryz.f85) []) [(0,Zaw f1 f2 f3 f4 f5 f6 a b c)] []) Q
def pAdd_at (f1 f2 f3 f4 f5 f6 g1 g2 g3 g4 g5 g6:Bool) (a b c x y z:Rat) (Q:AV->Heap->Prop):Prop:=Wp M1 (.run fi160 (atC (cd Tryz.f160) []) [(0,Zaw f1 f2 f3 f4 f5 f6 a b c),(1,Zaw g1 g2 g3 g4 g5 g6 x y z)] []) Q
def pMul_at (f1 f2 f3 f4 f5 f6 g1 g2 g3 g4 g5 g6:Bool) (a b c x y z:Rat) (Q:AV->Heap->Prop):Prop:=Wp M1 (.run fi174 (atC (cd Tryz.f174) []) [(0,Zaw f1 f2 f3 f4 f5 f6 a b c),(1,Zaw g1 g2 g3 g4 g5 g6 x y z)] []) Q
theorem call85 {args:List AV} {d:AV} (h:wc M1 fi85 Tryz.f85 args d):Ev M1 (.pure 85 args) d []:=pcl _ _ (by kernel_rfl) h
theorem call160 {args:List AV} {d:AV} (h:wc M1 fi160 Tryz.f160 args d):Ev M1 (.pure 160 args) d []:=pcl _ _ (by kernel_rfl) h
theorem call174 {args:List AV} {d:AV} (h:wc M1 fi174 Tryz.f174 args d):Ev M1 (.pure 174 args) d []:=pcl _ _ (by kernel_rfl) h
theorem pSign (f1 f2 f3 f4 f5 f6:Bool) (a b c:Rat)  (dq:AV) (H :
  (((J.sgnI a.num=J.sgnI b.num)\/(J.sgnI b.num=0))->vi (J.sgnI a.num)=dq) /\
  (¬((J.sgnI a.num=J.sgnI b.num)\/(J.sgnI b.num=0))->((J.sgnI a.num=0)->vi (J.sgnI b.num)=dq) /\
   (¬(J.sgnI a.num=0)->(J.okO a b c) /\
    ((J.sgnI (a*a-b*b*c).num>0)->vi (J.sgnI a.num)=dq) /\
    (¬(J.sgnI (a*a-b*b*c).num>0)->vi (J.sgnI b.num)=dq)))) :
 pSign_at f1 f2 f3 f4 f5 f6 a b c (Zag dq):=by
 unfold pSign_at
 refine Zae (G:=Zad kp85 [(1,2,.call (vi (J.sgnI a.num)) none),(1,5,.call (vi (J.sgnI b.num)) none)] []) 7 [] ⟨(atC (cd Tryz.f85) [1,1,0,1]),[(1,AV.ptr 0 0 0 0),(3,vi (J.sgnI a.num)),(4,vi (J.sgnI b.num)),(17,vb (bif J.sgnI a.num==J.sgnI b.num then true else J.sgnI b.num==0))],[⟨[Zaw f1 f2 f3 f4 f5 f6 a b c],12,0,false,false⟩],_,[],_⟩ (by kernel_rfl) (bc rfl (bc rfl b0)) q0 (ce (@ev20 f1 f2 (a.num) ((↑a.den:Int))) (ce (@ev20 f3 f4 (b.num) ((↑b.den:Int))) c0)) ?_
 rcases xq H with ⟨d2,H⟩|⟨d2,H⟩
 ·exact Zao (G:=Zad kp85 [] []) 1000 [true] (vi (J.sgnI a.num)) (by kernel_rfl) (bc (Zaq ((ZaM i_eq i_eq).2 d2)) b0) q0 c0 H
 ·rcases xq H with ⟨d4,H⟩|⟨d4,H⟩
  ·exact Zao (G:=Zad kp85 [] []) 1000 [false,true] (vi (J.sgnI b.num)) (by kernel_rfl) (bc (Zam (fun h=>d2 ((ZaM i_eq i_eq).1 h))) (bc (Zaq (i_eq.2 d4)) b0)) q0 c0 H
  ·obtain ⟨k5,H⟩:=H
   refine Zae (G:=Zad kp85 [(6,1,.call (ratF (a*a-b*b*c)) none),(6,2,.call (vi (J.sgnI (a*a-b*b*c).num)) none)] []) 10 [false,false] ⟨(atC (cd Tryz.f85) [1,1,1,1,0,1]),[(3,vi (J.sgnI a.num)),(4,vi (J.sgnI b.num)),(25,vb (decide (J.sgnI (a*a-b*b*c).num>0)))],[⟨[Zaw f1 f2 f3 f4 f5 f6 a b c],12,0,false,false⟩],_,[],_⟩ (by kernel_rfl) (bc (Zam (fun h=>d2 ((ZaM i_eq i_eq).1 h))) (bc (Zam (fun h=>d4 (i_eq.1 h))) (bc rfl b0))) q0 (ce (@ev123 f1 f2 f3 f4 f5 f6 a b c k5) (ce (@ev20 false false ((a*a-b*b*c).num) ((↑(a*a-b*b*c).den:Int))) c0)) ?_
   rcases xq H with ⟨d7,H⟩|⟨d7,H⟩
   ·exact Zao (G:=Zad kp85 [] []) 1000 [true] (vi (J.sgnI a.num)) (by kernel_rfl) (bc (Zaq (Zac.2 d7)) b0) q0 c0 H
   ·exact Zao (G:=Zad kp85 [] []) 1000 [false] (vi (J.sgnI b.num)) (by kernel_rfl) (bc (Zam (fun h=>d7 (Zac.1 h))) b0) q0 c0 H
noncomputable abbrev zNyA1:=ag [vb false,AV.vnil,vb false,AV.vnil,vb false,AV.vnil,vb false,AV.vnil,vb false,AV.vnil,vb false,AV.vnil]
theorem pAdd (f1 f2 f3 f4 f5 f6 g1 g2 g3 g4 g5 g6:Bool) (a b c x y z:Rat)  (dq:AV) (H :
  (J.okP c z) /\
  ((¬(J.Zc7 b c y z))->Weak (tu [ag [vb false,AV.vnil,vb false,AV.vnil,vb false,AV.vnil,vb false,AV.vnil,vb false,AV.vnil,vb false,AV.vnil],vi 1]) dq) /\
  (¬(¬(J.Zc7 b c y z))->(J.okR a/\J.okR x) /\
   (J.okR b/\J.okR y) /\
   Weak (tu [Zau (a+x) (J.prB (b+y) (J.com b c z)) (J.prC (b+y) (J.com b c z)),vi 0]) dq)) :
 pAdd_at f1 f2 f3 f4 f5 f6 g1 g2 g3 g4 g5 g6 a b c x y z (Zag dq):=by
 unfold pAdd_at
 obtain ⟨k1,H⟩:=H
 refine Zae (G:=Zad kp160 [(1,2,.call (tu [ratF (J.com b c z),vb (decide (J.Zc7 b c y z))]) none)] []) 7 [] ⟨(atC (cd Tryz.f160) [1,1,0,1]),[(2,AV.ptr 0 0 0 0),(3,AV.ptr 1 0 0 0),(4,AV.ptr 2 0 0 0),(6,AV.ptr 3 0 0 0),(15,vb !decide (J.Zc7 b c y z))],[⟨[Zaw f1 f2 f3 f4 f5 f6 a b c],12,0,false,false⟩,⟨[Zaw g1 g2 g3 g4 g5 g6 x y z],12,0,false,false⟩,⟨[zNyA1],12,0,false,false⟩,⟨[ratF (J.com b c z)],4,0,false,false⟩],_,[],_⟩ (by kernel_rfl) (bc rfl (bc rfl (bc rfl b0))) q0 (ce (@ev173 f1 f2 f3 f4 f5 f6 g1 g2 g3 g4 g5 g6 a b c x y z k1) c0) ?_
 rcases xq H with ⟨d3,H⟩|⟨d3,H⟩
 ·exact Zah (G:=Zad kp160 [] []) 1000 [true] (tu [zNyA1,vi 1]) (by kernel_rfl) (bc (Zaq ((ZaH Zac).2 d3)) (bc rfl b0)) q0 c0 H
 ·obtain ⟨k4,k5,H⟩:=H
  exact Zah (G:=Zad kp160 [(4,4,.call (ratF (a+x)) none),(4,9,.call (ratF (b+y)) none),(4,11,.call (Zau (a+x) (J.prB (b+y) (J.com b c z)) (J.prC (b+y) (J.com b c z))) none)] []) 1000 [false] (tu [Zau (a+x) (J.prB (b+y) (J.com b c z)) (J.prC (b+y) (J.com b c z)),vi 0]) (by kernel_rfl) (bc (Zam (fun h=>d3 ((ZaH Zac).1 h))) (bc rfl (bc rfl (bc rfl (bc rfl (bc rfl (bc rfl b0))))))) q0 (ce (@ev34 f1 f2 g1 g2 a x k4) (ce (@ev34 f3 f4 g3 g4 b y k5) (ce (@ev156 false false false false false false (a+x) (b+y) (J.com b c z)) c0))) H
noncomputable abbrev zNyA2:=ag [vb false,AV.vnil,vb false,AV.vnil,vb false,AV.vnil,vb false,AV.vnil,vb false,AV.vnil,vb false,AV.vnil]
theorem pMul (f1 f2 f3 f4 f5 f6 g1 g2 g3 g4 g5 g6:Bool) (a b c x y z:Rat)  (dq:AV) (H :
  (J.okP c z) /\
  ((¬(J.Zc7 b c y z))->Weak (tu [ag [vb false,AV.vnil,vb false,AV.vnil,vb false,AV.vnil,vb false,AV.vnil,vb false,AV.vnil,vb false,AV.vnil],vi 1]) dq) /\
  (¬(¬(J.Zc7 b c y z))->(J.okR a/\J.okR x) /\
   (J.okR b/\J.okR y) /\
   (J.okR (b*y)/\J.okR (J.com b c z)) /\
   (J.okR (a*x)/\J.okR (b*y*J.com b c z)) /\
   (J.okR a/\J.okR y) /\
   (J.okR b/\J.okR x) /\
   (J.okR (a*y)/\J.okR (b*x)) /\
   Weak (tu [Zau (a*x+b*y*J.com b c z) (J.prB (a*y+b*x) (J.com b c z)) (J.prC (a*y+b*x) (J.com b c z)),vi 0]) dq)) :
 pMul_at f1 f2 f3 f4 f5 f6 g1 g2 g3 g4 g5 g6 a b c x y z (Zag dq):=by
 unfold pMul_at
 obtain ⟨k1,H⟩:=H
 refine Zae (G:=Zad kp174 [(1,2,.call (tu [ratF (J.com b c z),vb (decide (J.Zc7 b c y z))]) none)] []) 7 [] ⟨(atC (cd Tryz.f174) [1,1,0,1]),[(2,AV.ptr 0 0 0 0),(3,AV.ptr 1 0 0 0),(4,AV.ptr 2 0 0 0),(6,AV.ptr 3 0 0 0),(17,vb !decide (J.Zc7 b c y z))],[⟨[Zaw f1 f2 f3 f4 f5 f6 a b c],12,0,false,false⟩,⟨[Zaw g1 g2 g3 g4 g5 g6 x y z],12,0,false,false⟩,⟨[zNyA2],12,0,false,false⟩,⟨[ratF (J.com b c z)],4,0,false,false⟩],_,[],_⟩ (by kernel_rfl) (bc rfl (bc rfl (bc rfl b0))) q0 (ce (@ev173 f1 f2 f3 f4 f5 f6 g1 g2 g3 g4 g5 g6 a b c x y z k1) c0) ?_
 rcases xq H with ⟨d3,H⟩|⟨d3,H⟩
 ·exact Zah (G:=Zad kp174 [] []) 1000 [true] (tu [zNyA2,vi 1]) (by kernel_rfl) (bc (Zaq ((ZaH Zac).2 d3)) (bc rfl b0)) q0 c0 H
 ·obtain ⟨k4,k5,k6,k7,k8,k9,k10,H⟩:=H
  exact Zah (G:=Zad kp174 [(4,4,.call (ratF (a*x)) none),(4,9,.call (ratF (b*y)) none),(4,11,.call (ratF (b*y*J.com b c z)) none),(4,12,.call (ratF (a*x+b*y*J.com b c z)) none),(5,4,.call (ratF (a*y)) none),(5,9,.call (ratF (b*x)) none),(5,10,.call (ratF (a*y+b*x)) none),(6,3,.call (Zau (a*x+b*y*J.com b c z) (J.prB (a*y+b*x) (J.com b c z)) (J.prC (a*y+b*x) (J.com b c z))) none)] []) 1000 [false] (tu [Zau (a*x+b*y*J.com b c z) (J.prB (a*y+b*x) (J.com b c z)) (J.prC (a*y+b*x) (J.com b c z)),vi 0]) (by kernel_rfl) (bc (Zam (fun h=>d3 ((ZaH Zac).1 h))) (bc rfl (bc rfl (bc rfl (bc rfl (bc rfl (bc rfl (bc rfl (bc rfl (bc rfl (bc rfl (bc rfl (bc rfl (bc rfl (bc rfl (bc rfl b0)))))))))))))))) q0 (ce (@ev35 f1 f2 g1 g2 a x k4) (ce (@ev35 f3 f4 g3 g4 b y k5) (ce (@ev35 false false false false (b*y) (J.com b c z) k6) (ce (@ev34 false false false false (a*x) (b*y*J.com b c z) k7) (ce (@ev35 f1 f2 g3 g4 a y k8) (ce (@ev35 f3 f4 g1 g2 b x k9) (ce (@ev34 false false false false (a*y) (b*x) k10) (ce (@ev156 false false false false false false (a*x+b*y*J.com b c z) (a*y+b*x) (J.com b c z)) c0)))))))) H
end Go.Av

namespace Go.Av
open Go.Proofs
noncomputable def J.sgP (a b c:Rat):Int:=if J.sgR a=J.sgR b\/J.sgR b=0 then J.sgR a else if J.sgR a=0 then J.sgR b else if J.sgR (a*a-b*b*c)>0 then J.sgR a else J.sgR b
theorem ev85 (f1 f2 f3 f4 f5 f6:Bool) (a b c:Rat) (h:J.okO a b c):Ev M1 (.pure 85 [Zaw f1 f2 f3 f4 f5 f6 a b c]) (.int .i64 (J.sgP a b c)) []:=by
 refine call85 (pSign _ _ _ _ _ _ _ _ _ _ ⟨fun k => ?_,fun k=>⟨fun k2 => ?_,fun k2=>⟨h,fun k3 => ?_,fun k3 => ?_⟩⟩⟩)
 ·unfold J.sgP J.sgR;rw [if_pos k]
 ·unfold J.sgP J.sgR;rw [if_neg k,if_pos k2]
 ·unfold J.sgP J.sgR;rw [if_neg k,if_neg k2,if_pos k3]
 ·unfold J.sgP J.sgR;rw [if_neg k,if_neg k2,if_neg k3]
theorem ev160_y (f1 f2 f3 f4 f5 f6 g1 g2 g3 g4 g5 g6:Bool) (a b c x y z:Rat) (h:J.okO a b c/\J.okO x y z) (k:J.Zc7 b c y z):Ev M1 (.pure 160 [Zaw f1 f2 f3 f4 f5 f6 a b c,Zaw g1 g2 g3 g4 g5 g6 x y z]) (.tup [Zau (a+x) (J.prB (b+y) (J.com b c z)) (J.prC (b+y) (J.com b c z)),.int .i64 0]) []:=by
 obtain ⟨⟨h1,h2,h3⟩,h4,h5,h6⟩:=h
 exact call160 (pAdd _ _ _ _ _ _ _ _ _ _ _ _ _ _ _ _ _ _ _ ⟨⟨h3,h6⟩,fun n=>absurd k n,fun _=>⟨⟨Zaj h1 (by omega),Zaj h4 (by omega)⟩,⟨Zaj h2 (by omega),Zaj h5 (by omega)⟩,.refl _⟩⟩)
theorem ev174_y (f1 f2 f3 f4 f5 f6 g1 g2 g3 g4 g5 g6:Bool) (a b c x y z:Rat) (h:J.okO a b c/\J.okO x y z) (k:J.Zc7 b c y z):Ev M1 (.pure 174 [Zaw f1 f2 f3 f4 f5 f6 a b c,Zaw g1 g2 g3 g4 g5 g6 x y z]) (.tup [Zau (a*x+b*y*J.com b c z) (J.prB (a*y+b*x) (J.com b c z)) (J.prC (a*y+b*x) (J.com b c z)),.int .i64 0]) []:=by
 obtain ⟨⟨h1,h2,h3⟩,h4,h5,h6⟩:=h
 have m1:=Zaf h2 h5
 have hk:=okT_com (b:=b) h3 h6
 have m2:=Zaf m1 hk
 have m3:=Zaf h1 h4
 have m4:=Zaf h1 h5
 have m5:=Zaf h2 h4
 exact call174 (pMul _ _ _ _ _ _ _ _ _ _ _ _ _ _ _ _ _ _ _ ⟨⟨h3,h6⟩,fun n=>absurd k n,fun _=>⟨⟨Zaj h1 (by omega),Zaj h4 (by omega)⟩,⟨Zaj h2 (by omega),Zaj h5 (by omega)⟩,⟨Zaj m1 (by omega),Zaj hk (by omega)⟩,⟨Zaj m3 (by omega),Zaj m2 (by omega)⟩,⟨Zaj h1 (by omega),Zaj h5 (by omega)⟩,⟨Zaj h2 (by omega),Zaj h4 (by omega)⟩,⟨Zaj m4 (by omega),Zaj m5 (by omega)⟩,.refl _⟩⟩)
theorem ev174_n (f1 f2 f3 f4 f5 f6 g1 g2 g3 g4 g5 g6:Bool) (a b c x y z:Rat) (h:J.okO a b c/\J.okO x y z) (k:¬(J.Zc7 b c y z)):Ev M1 (.pure 174 [Zaw f1 f2 f3 f4 f5 f6 a b c,Zaw g1 g2 g3 g4 g5 g6 x y z]) (.tup [noO,.int .i64 1]) []:=by
 obtain ⟨⟨h1,h2,h3⟩,h4,h5,h6⟩:=h
 exact call174 (pMul _ _ _ _ _ _ _ _ _ _ _ _ _ _ _ _ _ _ _ ⟨⟨h3,h6⟩,fun _=>ZbH weak_no (.refl _),fun n=>absurd k n⟩)
theorem Zft {n:Int} {s t:Bool} {x y:List Int} (h:J.Zez n s x t y=true):∃ r:Rat,J.okT n.toNat r/\s=J.Zaa r.num/\x=J.Zab r.num/\t=J.Zaa (r.den:Int)/\y=J.Zab (r.den:Int):=by
 obtain ⟨h1,h2,r,rfl,rfl,rfl,rfl⟩:=ZhV.1 h
 rw [ZaX] at h1 h2
 rw [Int.natAbs_natCast] at h2
 exact ⟨r,⟨by omega,by omega⟩,rfl,rfl,rfl,rfl⟩
end Go.Av

namespace Go.Av
open Go.Proofs
set_option maxRecDepth 100000
def fi13:Fi:=⟨57,[.tmp 4,.tmp 5]⟩
def kp13:List (Nat × List Nat):=[(0,[2,3]),(1,[2,3,6]),(2,[2,3,6,22]),(3,[25]),(4,[4,5]),(5,[4,5]),(6,[2,3,6,7]),(7,[7,8]),(8,[4,5])]
def fi19:Fi:=⟨16,[.tmp 4]⟩
def kp19:List (Nat × List Nat):=[(0,[2,3]),(1,[5]),(2,[4])]
def fi25:Fi:=⟨35,[.cell 4 28,.tmp 5]⟩
def kp25:List (Nat × List Nat):=[(0,[2,3,4]),(1,[2,3,4,10]),(2,[4,5]),(3,[2,3,4,6]),(4,[2,3,4,6,7]),(5,[4,5])]
def fi32:Fi:=⟨9,[.tmp 4]⟩
def kp32:List (Nat × List Nat):=[(0,[2,3]),(1,[4])]
def fi66:Fi:=⟨38,[.cell 10 56]⟩
def kp66:List (Nat × List Nat):=[(0,[5,6,7,8,9,10]),(1,[7,8,9,10,11]),(2,[10,11,13]),(3,[10,15]),(4,[10])]
def fi107:Fi:=⟨9,[.tmp 4]⟩
def kp107:List (Nat × List Nat):=[(0,[2,3]),(1,[4])]
def fi161:Fi:=⟨12,[.cell 2 98]⟩
def kp161:List (Nat × List Nat):=[(0,[1,2]),(1,[2,3]),(2,[2])]
def mSurd_at (f1 f2 f3 f4 f5 f6 f7 f8 f9 f10:Bool) (x u y v k:Rat) (Q:AV->Heap->Prop):Prop:=Wp M1 (.run fi66 (atC (cd Tryz.f66) []) [(0,ratA f1 f2 x),(1,ratA f3 f4 u),(2,ratA f5 f6 y),(3,ratA f7 f8 v),(4,ratA f9 f10 k)] []) Q
def mTouch_at (f1 f2 f3 f4 f5 f6 g1 g2 g3 g4 g5 g6:Bool) (a b c x y q:Rat) (Q:AV->Heap->Prop):Prop:=Wp M1 (.run fi19 (atC (cd Tryz.f19) []) [(0,Zaw f1 f2 f3 f4 f5 f6 a b c),(1,Zaw g1 g2 g3 g4 g5 g6 x y q)] []) Q
def mLines_at (f1 f2 f3 f4 f5 f6 g1 g2 g3 g4 g5 g6:Bool) (a b c x y z:Rat) (Q:AV->Heap->Prop):Prop:=Wp M1 (.run fi13 (atC (cd Tryz.f13) []) [(0,Zaw f1 f2 f3 f4 f5 f6 a b c),(1,Zaw g1 g2 g3 g4 g5 g6 x y z)] []) Q
def ZgO (f1 f2 f3 f4 f5 f6 g1 g2 g3 g4 g5 g6:Bool) (a b c x y z:Rat) (Q:AV->Heap->Prop):Prop:=Wp M1 (.run fi25 (atC (cd Tryz.f25) []) [(0,Zaw f1 f2 f3 f4 f5 f6 a b c),(1,Zaw g1 g2 g3 g4 g5 g6 x y z)] []) Q
def rCmp5_at (f1 f2 f3 f4 f5 f6 g1 g2 g3 g4 g5 g6:Bool) (a b c x y z:Rat) (Q:AV->Heap->Prop):Prop:=Wp M1 (.run fi107 (atC (cd Tryz.f107) []) [(0,Zaw f1 f2 f3 f4 f5 f6 a b c),(1,Zaw g1 g2 g3 g4 g5 g6 x y z)] []) Q
def rSide8_at (f1 f2 f3 f4 f5 f6 g1 g2 g3 g4 g5 g6 g7 g8 g9 g10:Bool) (a b c ax bx ay by_ d:Rat) (Q:AV->Heap->Prop):Prop:=Wp M1 (.run fi32 (atC (cd Tryz.f32) []) [(0,Zaw f1 f2 f3 f4 f5 f6 a b c),(1,.agg [.bool (J.Zaa ax.num),.vec g1 1 ((J.Zab ax.num).map (.int .u32)),.bool (J.Zaa (ax.den:Int)),.vec g2 1 ((J.Zab (ax.den:Int)).map (.int .u32)),.bool (J.Zaa bx.num),.vec g3 1 ((J.Zab bx.num).map (.int .u32)),.bool (J.Zaa (bx.den:Int)),.vec g4 1 ((J.Zab (bx.den:Int)).map (.int .u32)),.bool (J.Zaa ay.num),.vec g5 1 ((J.Zab ay.num).map (.int .u32)),.bool (J.Zaa (ay.den:Int)),.vec g6 1 ((J.Zab (ay.den:Int)).map (.int .u32)),.bool (J.Zaa by_.num),.vec g7 1 ((J.Zab by_.num).map (.int .u32)),.bool (J.Zaa (by_.den:Int)),.vec g8 1 ((J.Zab (by_.den:Int)).map (.int .u32)),.bool (J.Zaa d.num),.vec g9 1 ((J.Zab d.num).map (.int .u32)),.bool (J.Zaa (d.den:Int)),.vec g10 1 ((J.Zab (d.den:Int)).map (.int .u32))])] []) Q
def rSq3_at (f1 f2 f3 f4 f5 f6:Bool) (a b c:Rat) (Q:AV->Heap->Prop):Prop:=Wp M1 (.run fi161 (atC (cd Tryz.f161) []) [(0,Zaw f1 f2 f3 f4 f5 f6 a b c)] []) Q
theorem call13 {args:List AV} {d:AV} (h:wc M1 fi13 Tryz.f13 args d):Ev M1 (.pure 13 args) d []:=pcl _ _ (by kernel_rfl) h
theorem call19 {args:List AV} {d:AV} (h:wc M1 fi19 Tryz.f19 args d):Ev M1 (.pure 19 args) d []:=pcl _ _ (by kernel_rfl) h
theorem call25 {args:List AV} {d:AV} (h:wc M1 fi25 Tryz.f25 args d):Ev M1 (.pure 25 args) d []:=pcl _ _ (by kernel_rfl) h
theorem call32 {args:List AV} {d:AV} (h:wc M1 fi32 Tryz.f32 args d):Ev M1 (.pure 32 args) d []:=pcl _ _ (by kernel_rfl) h
theorem call66 {args:List AV} {d:AV} (h:wc M1 fi66 Tryz.f66 args d):Ev M1 (.pure 66 args) d []:=pcl _ _ (by kernel_rfl) h
theorem call107 {args:List AV} {d:AV} (h:wc M1 fi107 Tryz.f107 args d):Ev M1 (.pure 107 args) d []:=pcl _ _ (by kernel_rfl) h
theorem call161 {args:List AV} {d:AV} (h:wc M1 fi161 Tryz.f161 args d):Ev M1 (.pure 161 args) d []:=pcl _ _ (by kernel_rfl) h
noncomputable abbrev zNmD1 (x:Rat) (u:Rat) (k:Rat) (y:Rat) (v:Rat):=(pntF (J.mkA x u k) (J.mkB u k) (J.mkA y v k) (J.mkB v k) (J.rd2 (J.mkB u k) (J.mkB v k) (J.com (J.mkB u k) (J.mkC u k) (J.mkC v k))))
noncomputable abbrev zNmD2:=tu [ag [vb false,vf [],vb false,vf [],vb false,vf [],vb false,vf [],vb false,vf [],vb false,vf []],vi 7]
noncomputable abbrev zNmD3 (b1:Bool) (l1:List Int) (b2:Bool) (l2:List Int) (b3:Bool) (l3:List Int) (b4:Bool) (l4:List Int) (b5:Bool) (l5:List Int) (b6:Bool) (l6:List Int) (b7:Bool) (l7:List Int) (b8:Bool) (l8:List Int) (b9:Bool) (l9:List Int) (b10:Bool) (l10:List Int):=ag [vb b1,vf (us l1),vb b2,vf (us l2),vb b3,vf (us l3),vb b4,vf (us l4),vb b5,vf (us l5),vb b6,vf (us l6),vb b7,vf (us l7),vb b8,vf (us l8),vb b9,vf (us l9),vb b10,vf (us l10)]
theorem mSurd (f1 f2 f3 f4 f5 f6 f7 f8 f9 f10:Bool) (x u y v k:Rat)  (dq:AV) (H :
  ((J.ZhC k)->(J.okO x u k) /\
   (J.okO y v k) /\
   (J.okMk (J.mkB u k) (J.mkC u k) (J.mkB v k) (J.mkC v k)) /\
   Weak ((pntF (J.mkA x u k) (J.mkB u k) (J.mkA y v k) (J.mkB v k) (J.rd2 (J.mkB u k) (J.mkB v k) (J.com (J.mkB u k) (J.mkC u k) (J.mkC v k))))) dq) /\
  (¬(J.ZhC k)->(J.okO x u k) /\
   (J.okO y v k) /\
   ∃ (b1:Bool) (l1:List Int) (b2:Bool) (l2:List Int) (b3:Bool) (l3:List Int) (b4:Bool) (l4:List Int) (b5:Bool) (l5:List Int) (b6:Bool) (l6:List Int) (b7:Bool) (l7:List Int) (b8:Bool) (l8:List Int) (b9:Bool) (l9:List Int) (b10:Bool) (l10:List Int) (n1:Int),
   (Ev M1 (Conf.pure 106 [ag [vb false,vf [],vb false,vf [],vb false,vf [],vb false,vf [],vb false,vf [],vb false,vf []],ag [vb false,vf [],vb false,vf [],vb false,vf [],vb false,vf [],vb false,vf [],vb false,vf []]]) (tu [ag [vb b1,vf (us l1),vb b2,vf (us l2),vb b3,vf (us l3),vb b4,vf (us l4),vb b5,vf (us l5),vb b6,vf (us l6),vb b7,vf (us l7),vb b8,vf (us l8),vb b9,vf (us l9),vb b10,vf (us l10)],vi n1]) []) /\
   Weak (ag [vb b1,vf (us l1),vb b2,vf (us l2),vb b3,vf (us l3),vb b4,vf (us l4),vb b5,vf (us l5),vb b6,vf (us l6),vb b7,vf (us l7),vb b8,vf (us l8),vb b9,vf (us l9),vb b10,vf (us l10)]) dq)) :
 mSurd_at f1 f2 f3 f4 f5 f6 f7 f8 f9 f10 x u y v k (Zag dq):=by
 unfold mSurd_at
 rcases xq H with ⟨d1,H⟩|⟨d1,H⟩
 ·obtain ⟨k2,k3,k4,H⟩:=H
  exact Zah (G:=Zad kp66 [(1,3,.call (tu [Zau (J.mkA x u k) (J.mkB u k) (J.mkC u k),vi 0]) none),(2,3,.call (tu [Zau (J.mkA y v k) (J.mkB v k) (J.mkC v k),vi 0]) none),(3,2,.call (tu [(zNmD1 x u k y v),vi 0]) none)] []) 1000 [] ((zNmD1 x u k y v)) (by kernel_rfl) (bc rfl (bc rfl (bc rfl (bc rfl (bc rfl (bc rfl (bc rfl (bc rfl (bc rfl (bc rfl (bc rfl (bc rfl (bc rfl b0))))))))))))) q0 (ce (@ev105_y f1 f2 f3 f4 f9 f10 x u k k2 d1) (ce (@ev105_y f5 f6 f7 f8 f9 f10 y v k k3 d1) (ce (@ev106 false false false false false false false false false false false false (J.mkA x u k) (J.mkB u k) (J.mkC u k) (J.mkA y v k) (J.mkB v k) (J.mkC v k) k4) c0))) H
 ·obtain ⟨k5,k6,b1,l1,b2,l2,b3,l3,b4,l4,b5,l5,b6,l6,b7,l7,b8,l8,b9,l9,b10,l10,n1,k7,H⟩:=H
  exact Zah (G:=Zad kp66 [(1,3,.call zNmD2 none),(2,3,.call zNmD2 none),(3,2,.call (tu [(zNmD3 b1 l1 b2 l2 b3 l3 b4 l4 b5 l5 b6 l6 b7 l7 b8 l8 b9 l9 b10 l10),vi n1]) none)] []) 1000 [] ((zNmD3 b1 l1 b2 l2 b3 l3 b4 l4 b5 l5 b6 l6 b7 l7 b8 l8 b9 l9 b10 l10)) (by kernel_rfl) (bc rfl (bc rfl (bc rfl (bc rfl (bc rfl (bc rfl (bc rfl (bc rfl (bc rfl (bc rfl (bc rfl (bc rfl (bc rfl b0))))))))))))) q0 (ce (@ev105_n f1 f2 f3 f4 f9 f10 x u k k5 d1) (ce (@ev105_n f5 f6 f7 f8 f9 f10 y v k k6 d1) (ce k7 c0))) H
theorem mTouch (f1 f2 f3 f4 f5 f6 g1 g2 g3 g4 g5 g6:Bool) (a b c x y q:Rat)  (dq:AV) (H :
  (J.Zga a b c/\J.ZgK x y/\J.okT 30 q) /\
  vb (J.sgnI (J.dep a b c x y q).num==0)=dq) :
 mTouch_at f1 f2 f3 f4 f5 f6 g1 g2 g3 g4 g5 g6 a b c x y q (Zag dq):=by
 unfold mTouch_at
 obtain ⟨k1,H⟩:=H
 exact Zao (G:=Zad kp19 [(1,2,.call (tu [ratF (J.dep a b c x y q),(vecF (J.fX a b c x y) (J.fY a b c x y))]) none),(2,1,.call (vi (J.sgnI (J.dep a b c x y q).num)) none)] []) 1000 [] (vb (J.sgnI (J.dep a b c x y q).num==0)) (by kernel_rfl) (bc rfl (bc rfl (bc rfl (bc rfl (bc rfl b0))))) q0 (ce (@ev64 f1 f2 f3 f4 f5 f6 g1 g2 g3 g4 g5 g6 a b c x y q k1) (ce (@ev54 false false ((J.dep a b c x y q).num) ((↑(J.dep a b c x y q).den:Int))) c0)) H
noncomputable abbrev zNmD4 (c:Rat) (y:Rat) (z:Rat) (b:Rat) (a:Rat) (x:Rat):=(pntF ((c*y-z*b) / (a*y-x*b)) (J.qi 0) ((a*z-x*c) / (a*y-x*b)) (J.qi 0) (J.qi 0))
theorem mLines (f1 f2 f3 f4 f5 f6 g1 g2 g3 g4 g5 g6:Bool) (a b c x y z:Rat)  (dq:AV) (H :
  (J.okR a/\J.okR y) /\
  (J.okR x/\J.okR b) /\
  (J.okR (a*y)/\J.okR (x*b)) /\
  ((J.sgnI (a*y-x*b).num=0)->(J.Zey a b c/\J.Zey x y z) /\
   ((a*y=x*b/\a*z=x*c/\b*z=y*c)->Weak (tu [AV.vnil,vi 10]) dq) /\
   (¬(a*y=x*b/\a*z=x*c/\b*z=y*c)->Weak (tu [AV.vnil,vi 0]) dq)) /\
  (¬(J.sgnI (a*y-x*b).num=0)->(J.okR c/\J.okR y) /\
   (J.okR z/\J.okR b) /\
   (J.okR (c*y)/\J.okR (z*b)) /\
   (J.okR (c*y-z*b)/\J.okR (a*y-x*b)/\(a*y-x*b).num ≠ 0) /\
   (J.okR a/\J.okR z) /\
   (J.okR x/\J.okR c) /\
   (J.okR (a*z)/\J.okR (x*c)) /\
   (J.okR (a*z-x*c)/\J.okR (a*y-x*b)/\(a*y-x*b).num ≠ 0) /\
   Weak (tu [AV.vec true 20 [(pntF ((c*y-z*b) / (a*y-x*b)) (J.qi 0) ((a*z-x*c) / (a*y-x*b)) (J.qi 0) (J.qi 0))],vi 0]) dq)) :
 mLines_at f1 f2 f3 f4 f5 f6 g1 g2 g3 g4 g5 g6 a b c x y z (Zag dq):=by
 unfold mLines_at
 obtain ⟨k1,k2,k3,H⟩:=H
 refine Zae (G:=Zad kp13 [(1,4,.call (ratF (a*y)) none),(1,9,.call (ratF (x*b)) none),(1,10,.call (ratF (a*y-x*b)) none),(2,1,.call (vi (J.sgnI (a*y-x*b).num)) none)] []) 7 [] ⟨(atC (cd Tryz.f13) [1,1,0,1]),[(2,AV.ptr 0 0 0 0),(3,AV.ptr 1 0 0 0),(6,AV.ptr 2 0 0 0),(22,vb (J.sgnI (a*y-x*b).num==0))],[⟨[Zaw f1 f2 f3 f4 f5 f6 a b c],12,0,false,false⟩,⟨[Zaw g1 g2 g3 g4 g5 g6 x y z],12,0,false,false⟩,⟨[ratF (a*y-x*b)],4,0,false,false⟩],_,[],_⟩ (by kernel_rfl) (bc rfl (bc rfl (bc rfl (bc rfl (bc rfl (bc rfl b0)))))) q0 (ce (@ev53 f1 f2 g3 g4 a y k1) (ce (@ev53 g1 g2 f3 f4 x b k2) (ce (@ev52 false false false false (a*y) (x*b) k3) (ce (@ev54 false false ((a*y-x*b).num) ((↑(a*y-x*b).den:Int))) c0)))) ?_
 rcases xq H with ⟨d5,H⟩|⟨d5,H⟩
 ·obtain ⟨k6,H⟩:=H
  refine Zae (G:=Zad kp13 [(3,2,.call (vb (decide (a*y=x*b/\a*z=x*c/\b*z=y*c))) none)] []) 4 [true] ⟨(atC (cd Tryz.f13) [1,1,0,1,0,0,1]),[(25,vb (decide (a*y=x*b/\a*z=x*c/\b*z=y*c)))],[⟨[Zaw f1 f2 f3 f4 f5 f6 a b c],12,0,false,false⟩,⟨[Zaw g1 g2 g3 g4 g5 g6 x y z],12,0,false,false⟩,⟨[ratF (a*y-x*b)],4,0,false,false⟩],_,[],_⟩ (by kernel_rfl) (bc (Zaq (i_eq.2 d5)) (bc rfl (bc rfl b0))) q0 (ce (@ev55 f1 f2 f3 f4 f5 f6 g1 g2 g3 g4 g5 g6 a b c x y z k6) c0) ?_
  rcases xq H with ⟨d8,H⟩|⟨d8,H⟩
  ·exact Zah (G:=Zad kp13 [] []) 1000 [true] (tu [AV.vnil,vi 10]) (by kernel_rfl) (bc (Zaq (Zac.2 d8)) b0) q0 c0 H
  ·exact Zah (G:=Zad kp13 [] []) 1000 [false] (tu [AV.vnil,vi 0]) (by kernel_rfl) (bc (Zam (fun h=>d8 (Zac.1 h))) b0) q0 c0 H
 ·obtain ⟨k9,k10,k11,k12,k13,k14,k15,k16,H⟩:=H
  exact Zah (G:=Zad kp13 [(6,4,.call (ratF (c*y)) none),(6,9,.call (ratF (z*b)) none),(6,10,.call (ratF (c*y-z*b)) none),(6,12,.call (ratF ((c*y-z*b) / (a*y-x*b))) none),(7,4,.call (ratF (a*z)) none),(7,9,.call (ratF (x*c)) none),(7,10,.call (ratF (a*z-x*c)) none),(7,12,.call (ratF ((a*z-x*c) / (a*y-x*b))) none),(8,3,.call ((zNmD4 c y z b a x)) none)] []) 1000 [false] (tu [AV.vec true 20 [(zNmD4 c y z b a x)],vi 0]) (by kernel_rfl) (bc (Zam (fun h=>d5 (i_eq.1 h))) (bc rfl (bc rfl (bc rfl (bc rfl (bc rfl (bc rfl (bc rfl (bc rfl (bc rfl (bc rfl (bc rfl (bc rfl (bc rfl (bc rfl b0))))))))))))))) q0 (ce (@ev53 f5 f6 g3 g4 c y k9) (ce (@ev53 g5 g6 f3 f4 z b k10) (ce (@ev52 false false false false (c*y) (z*b) k11) (ce (@ev56 false false false false (c*y-z*b) (a*y-x*b) k12) (ce (@ev53 f1 f2 g5 g6 a z k13) (ce (@ev53 g1 g2 f5 f6 x c k14) (ce (@ev52 false false false false (a*z) (x*c) k15) (ce (@ev56 false false false false (a*z-x*c) (a*y-x*b) k16) (ce (@ev57 false false false false ((c*y-z*b) / (a*y-x*b)) ((a*z-x*c) / (a*y-x*b))) c0))))))))) H
noncomputable abbrev zNmD5:=ag [vb false,AV.vnil,vb false,AV.vnil,vb false,AV.vnil,vb false,AV.vnil,vb false,AV.vnil,vb false,AV.vnil]
theorem mRadical (f1 f2 f3 f4 f5 f6 g1 g2 g3 g4 g5 g6:Bool) (a b c x y z:Rat)  (dq:AV) (H :
  (J.Zey a b c/\J.Zey x y z) /\
  ((a=x/\b=y)->Weak (tu [ag [vb false,AV.vnil,vb false,AV.vnil,vb false,AV.vnil,vb false,AV.vnil,vb false,AV.vnil,vb false,AV.vnil],vi 6]) dq) /\
  (¬(a=x/\b=y)->(J.inI 2) /\
   (J.okR x/\J.okR a) /\
   (J.okR (J.qi 2)/\J.okR (x-a)) /\
   (J.okR y/\J.okR b) /\
   (J.okR (J.qi 2)/\J.okR (y-b)) /\
   (J.Zey x y z) /\
   (J.Zey a b c) /\
   (J.okR (x*x+y*y-z)/\J.okR (a*a+b*b-c)) /\
   Weak (tu [Zau (J.qi 2*(x-a)) (J.qi 2*(y-b)) (x*x+y*y-z-(a*a+b*b-c)),vi 0]) dq)) :
 ZgO f1 f2 f3 f4 f5 f6 g1 g2 g3 g4 g5 g6 a b c x y z (Zag dq):=by
 unfold ZgO
 obtain ⟨k1,H⟩:=H
 refine Zae (G:=Zad kp25 [(1,2,.call (vb (decide (a=x/\b=y))) none)] []) 5 [] ⟨(atC (cd Tryz.f25) [1,0,1]),[(2,AV.ptr 0 0 0 0),(3,AV.ptr 1 0 0 0),(4,AV.ptr 2 0 0 0),(10,vb (decide (a=x/\b=y)))],[⟨[Zaw f1 f2 f3 f4 f5 f6 a b c],12,0,false,false⟩,⟨[Zaw g1 g2 g3 g4 g5 g6 x y z],12,0,false,false⟩,⟨[zNmD5],12,0,false,false⟩],_,[],_⟩ (by kernel_rfl) (bc rfl (bc rfl b0)) q0 (ce (@ev73 f1 f2 f3 f4 f5 f6 g1 g2 g3 g4 g5 g6 a b c x y z k1) c0) ?_
 rcases xq H with ⟨d3,H⟩|⟨d3,H⟩
 ·exact Zah (G:=Zad kp25 [] []) 1000 [true] (tu [zNmD5,vi 6]) (by kernel_rfl) (bc (Zaq (Zac.2 d3)) (bc rfl b0)) q0 c0 H
 ·obtain ⟨k4,k5,k6,k7,k8,k9,k10,k11,H⟩:=H
  exact Zah (G:=Zad kp25 [(3,0,.call (ratF (J.qi 2)) none),(5,5,.call (ratF (x-a)) none),(5,6,.call (ratF (J.qi 2*(x-a))) none),(5,12,.call (ratF (y-b)) none),(5,13,.call (ratF (J.qi 2*(y-b))) none),(5,16,.call (ratF (x*x+y*y-z)) none),(5,19,.call (ratF (a*a+b*b-c)) none),(5,20,.call (ratF (x*x+y*y-z-(a*a+b*b-c))) none)] []) 1000 [false] (tu [Zau (J.qi 2*(x-a)) (J.qi 2*(y-b)) (x*x+y*y-z-(a*a+b*b-c)),vi 0]) (by kernel_rfl) (bc (Zam (fun h=>d3 (Zac.1 h))) (bc rfl (bc rfl (bc rfl (bc rfl (bc rfl (bc rfl (bc rfl (bc rfl (bc rfl (bc rfl b0))))))))))) q0 (ce (@ev75 2 k4) (ce (@ev52 g1 g2 f1 f2 x a k5) (ce (@ev53 false false false false (J.qi 2) (x-a) k6) (ce (@ev52 g3 g4 f3 f4 y b k7) (ce (@ev53 false false false false (J.qi 2) (y-b) k8) (ce (@ev76 g1 g2 g3 g4 g5 g6 x y z k9) (ce (@ev76 f1 f2 f3 f4 f5 f6 a b c k10) (ce (@ev52 false false false false (x*x+y*y-z) (a*a+b*b-c) k11) c0)))))))) H
theorem rCmp5 (f1 f2 f3 f4 f5 f6 g1 g2 g3 g4 g5 g6:Bool) (a b c x y z:Rat)  (dq:AV) (H :
  (J.okT 2200 a/\J.okT 2200 x/\J.okT 2200 y) /\
  (J.okQ5 (a-x) b (-y) (J.qi 0) c z) /\
  vi (J.sgQ (a-x) b (-y) (J.qi 0) c z)=dq) :
 rCmp5_at f1 f2 f3 f4 f5 f6 g1 g2 g3 g4 g5 g6 a b c x y z (Zag dq):=by
 unfold rCmp5_at
 obtain ⟨k1,k2,H⟩:=H
 exact Zao (G:=Zad kp107 [(1,2,.call (ag [vb (J.Zaa (a-x).num),vf (us (J.Zab (a-x).num)),vb (J.Zaa (↑(a-x).den:Int)),vf (us (J.Zab (↑(a-x).den:Int))),vb (J.Zaa b.num),vf (us (J.Zab b.num)),vb (J.Zaa (↑b.den:Int)),vf (us (J.Zab (↑b.den:Int))),vb (J.Zaa (-y).num),vf (us (J.Zab (-y).num)),vb (J.Zaa (↑(-y).den:Int)),vf (us (J.Zab (↑(-y).den:Int))),vb (J.Zaa (J.qi 0).num),vf (us (J.Zab (J.qi 0).num)),vb (J.Zaa (↑(J.qi 0).den:Int)),vf (us (J.Zab (↑(J.qi 0).den:Int))),vb (J.Zaa c.num),vf (us (J.Zab c.num)),vb (J.Zaa (↑c.den:Int)),vf (us (J.Zab (↑c.den:Int))),vb (J.Zaa z.num),vf (us (J.Zab z.num)),vb (J.Zaa (↑z.den:Int)),vf (us (J.Zab (↑z.den:Int)))]) none),(1,3,.call (vi (J.sgQ (a-x) b (-y) (J.qi 0) c z)) none)] []) 1000 [] (vi (J.sgQ (a-x) b (-y) (J.qi 0) c z)) (by kernel_rfl) (bc rfl (bc rfl b0)) q0 (ce (@ev146 f1 f2 f3 f4 f5 f6 g1 g2 g3 g4 g5 g6 a b c x y z k1) (ce (@ev145 false false false false false false false false false false false false (a-x) b (-y) (J.qi 0) c z k2) c0)) H
theorem rSide8 (f1 f2 f3 f4 f5 f6 g1 g2 g3 g4 g5 g6 g7 g8 g9 g10:Bool) (a b c ax bx ay by_ d:Rat)  (dq:AV) (H :
  (J.Zey a b c/\J.ZdG { ax:=ax,bx:=bx,ay:=ay,by_:=by_,c:=d } /\ J.ZhC d) /\
  (J.okO (J.mkA (a*ax+b*ay-c) (a*bx+b*by_) d) (J.mkB (a*bx+b*by_) d) (J.mkC (a*bx+b*by_) d)) /\
  vi (J.sgP (J.mkA (a*ax+b*ay-c) (a*bx+b*by_) d) (J.mkB (a*bx+b*by_) d) (J.mkC (a*bx+b*by_) d))=dq) :
 rSide8_at f1 f2 f3 f4 f5 f6 g1 g2 g3 g4 g5 g6 g7 g8 g9 g10 a b c ax bx ay by_ d (Zag dq):=by
 unfold rSide8_at
 obtain ⟨k1,k2,H⟩:=H
 exact Zao (G:=Zad kp32 [(1,2,.call (Zau (J.mkA (a*ax+b*ay-c) (a*bx+b*by_) d) (J.mkB (a*bx+b*by_) d) (J.mkC (a*bx+b*by_) d)) none),(1,3,.call (vi (J.sgP (J.mkA (a*ax+b*ay-c) (a*bx+b*by_) d) (J.mkB (a*bx+b*by_) d) (J.mkC (a*bx+b*by_) d))) none)] []) 1000 [] (vi (J.sgP (J.mkA (a*ax+b*ay-c) (a*bx+b*by_) d) (J.mkB (a*bx+b*by_) d) (J.mkC (a*bx+b*by_) d))) (by kernel_rfl) (bc rfl (bc rfl b0)) q0 (ce (@ev86 f1 f2 f3 f4 f5 f6 g1 g2 g3 g4 g5 g6 g7 g8 g9 g10 a b c ax bx ay by_ d k1) (ce (@ev85 false false false false false false (J.mkA (a*ax+b*ay-c) (a*bx+b*by_) d) (J.mkB (a*bx+b*by_) d) (J.mkC (a*bx+b*by_) d) k2) c0)) H
noncomputable abbrev zNmD8:=ag [vb false,vf [],vb false,vf [],vb false,vf [],vb false,vf [],vb false,vf [],vb false,vf []]
theorem rSq3 (f1 f2 f3 f4 f5 f6:Bool) (a b c:Rat)  (dq:AV) (H :
  ((J.Zc7 b c b c)->(J.okO a b c/\J.okO a b c) /\
   Weak (Zau (a*a+b*b*J.com b c c) (J.prB (a*b+b*a) (J.com b c c)) (J.prC (a*b+b*a) (J.com b c c))) dq) /\
  (¬(J.Zc7 b c b c)->(J.okO a b c/\J.okO a b c) /\
   Weak (ag [vb false,vf [],vb false,vf [],vb false,vf [],vb false,vf [],vb false,vf [],vb false,vf []]) dq)) :
 rSq3_at f1 f2 f3 f4 f5 f6 a b c (Zag dq):=by
 unfold rSq3_at
 rcases xq H with ⟨d1,H⟩|⟨d1,H⟩
 ·obtain ⟨k2,H⟩:=H
  exact Zah (G:=Zad kp161 [(1,2,.call (tu [Zau (a*a+b*b*J.com b c c) (J.prB (a*b+b*a) (J.com b c c)) (J.prC (a*b+b*a) (J.com b c c)),vi 0]) none)] []) 1000 [] (Zau (a*a+b*b*J.com b c c) (J.prB (a*b+b*a) (J.com b c c)) (J.prC (a*b+b*a) (J.com b c c))) (by kernel_rfl) (bc rfl (bc rfl (bc rfl (bc rfl (bc rfl b0))))) q0 (ce (@ev174_y f1 f2 f3 f4 f5 f6 f1 f2 f3 f4 f5 f6 a b c a b c k2 d1) c0) H
 ·obtain ⟨k3,H⟩:=H
  exact Zah (G:=Zad kp161 [(1,2,.call (tu [zNmD8,vi 1]) none)] []) 1000 [] zNmD8 (by kernel_rfl) (bc rfl (bc rfl (bc rfl (bc rfl (bc rfl b0))))) q0 (ce (@ev174_n f1 f2 f3 f4 f5 f6 f1 f2 f3 f4 f5 f6 a b c a b c k3 d1) c0) H
end Go.Av

namespace Go.Av
open Go.Proofs
namespace J
def okSr (x u y v k:Rat):Prop:=(okT 350 x/\okT 30 u)/\(okT 350 y/\okT 30 v)/\okT 1700 k/\0<k
noncomputable def Zdo (a b c x y z:Rat):Int:=if a*y-x*b=0 then (if a*z=x*c/\b*z=y*c then 10 else 0) else 0
noncomputable def Zd4 (a b c x y z:Rat):List Pnt:=if a*y-x*b=0 then [] else [atP ((c*y-z*b) / (a*y-x*b)) ((a*z-x*c) / (a*y-x*b))]
def okC5 (a b c x y z:Rat):Prop:=(okT 2200 a/\okT 200 b/\okT 1700 c)/\okT 2200 x/\okT 200 y/\okT 1700 z
noncomputable def side (a b c ax bx ay by_ d:Rat):Int:=sgP (mkA (a*ax+b*ay-c) (a*bx+b*by_) d) (mkB (a*bx+b*by_) d) (mkC (a*bx+b*by_) d)
end J
theorem nn_pos2 {c:Rat} (h:0<c):J.ZhC c:=by
 unfold J.ZhC
 have:=num_gt.2 h
 omega
theorem okT_mkA2 {m n p:Nat} {a b c:Rat} (ha:J.okT m a) (hb:J.okT n b) (hc:J.okT p c):J.okT (m+(n+p)+1) (J.mkA a b c):=by
 by_cases h:J.rsq c
 ·rw [show J.mkA a b c=a+b*J.rt c from if_pos h];exact ZaC ha (Zaf hb (ZgL h hc))
 ·rw [show J.mkA a b c=a from if_neg h];exact Zar ha (by omega)
theorem surd_f (x u y v k:Rat):(J.Zdd x u y v k).ax=J.mkA x u k/\(J.Zdd x u y v k).bx=J.mkB u k/\(J.Zdd x u y v k).ay=J.mkA y v k/\(J.Zdd x u y v k).by_=J.mkB v k/\(J.Zdd x u y v k).c=J.rd2 (J.mkB u k) (J.mkB v k) (J.com (J.mkB u k) (J.mkC u k) (J.mkC v k)):=by
 by_cases h:J.rsq k
 ·rw [show J.Zdd x u y v k=J.atP (x+u*J.rt k) (y+v*J.rt k) from if_pos h,show J.mkA x u k=x+u*J.rt k from if_pos h,show J.mkA y v k=y+v*J.rt k from if_pos h,show J.mkB u k=J.qi 0 from if_pos h,show J.mkB v k=J.qi 0 from if_pos h]
  refine ⟨rfl,rfl,rfl,rfl,?_⟩
  rw [show ∀ t,J.rd2 (J.qi 0) (J.qi 0) t=J.qi 0 from fun t=>if_pos ⟨qi_z,qi_z⟩];rfl
 ·rw [show J.Zdd x u y v k=⟨x,u,y,v,if u=0/\v=0 then J.qi 0 else k⟩ from if_neg h,show J.mkA x u k=x from if_neg h,show J.mkA y v k=y from if_neg h,show J.mkB u k=u from if_neg h,show J.mkB v k=v from if_neg h,show J.mkC u k=J.rad u k from if_neg h,show J.mkC v k=J.rad v k from if_neg h]
  refine ⟨rfl,rfl,rfl,rfl,?_⟩
  unfold J.rd2 J.com
  by_cases z:u=0
  ·by_cases w:v=0
   ·simp only [z,w,and_self,if_true]
   ·simp only [z,w,and_false,if_false,if_true]
    exact (radn w).symm
  ·simp only [z,false_and,if_false]
   exact (radn z).symm
theorem ev66 (f1 f2 f3 f4 f5 f6 f7 f8 f9 f10:Bool) (x u y v k:Rat) (h:J.okSr x u y v k):Ev M1 (.pure 66 [ratA f1 f2 x,ratA f3 f4 u,ratA f5 f6 y,ratA f7 f8 v,ratA f9 f10 k]) (Pnt.a (J.Zdd x u y v k)) []:=by
 obtain ⟨⟨h1,h2⟩,⟨h3,h4⟩,h5,h6⟩:=h
 obtain ⟨e1,e2,e3,e4,e5⟩:=surd_f x u y v k
 refine call66 (mSurd _ _ _ _ _ _ _ _ _ _ _ _ _ _ _ _ ⟨fun _=>⟨okT_O (k:=9000) (Zar h1 (by omega)) (Zar h2 (by omega)) (Zar h5 (by omega)) (by omega),okT_O (k:=9000) (Zar h3 (by omega)) (Zar h4 (by omega)) (Zar h5 (by omega)) (by omega),⟨⟨Zar (okT_mkC h5) (by omega),Zar (okT_mkC h5) (by omega)⟩,?_⟩,?_⟩,fun n=>absurd (nn_pos2 h6) n⟩)
 ·by_cases s:J.rsq k
  ·exact .inl (by rw [show J.mkB u k=J.qi 0 from if_pos s];exact qi_z)
  ·rw [show J.mkB u k=u from if_neg s,show J.mkB v k=v from if_neg s,show J.mkC u k=J.rad u k from if_neg s,show J.mkC v k=J.rad v k from if_neg s]
   by_cases z:u=0
   ·exact .inl z
   ·by_cases w:v=0
    ·exact .inr (.inl w)
    ·exact .inr (.inr (by rw [radn z,radn w]))
 ·unfold Pnt.a
  rw [e1,e2,e3,e4,e5]
  exact .refl _
theorem ev19 (f1 f2 f3 f4 f5 f6 g1 g2 g3 g4 g5 g6:Bool) (a b c x y q:Rat) (h:J.Zga a b c/\J.ZgK x y/\J.okT 30 q):Ev M1 (.pure 19 [Zaw f1 f2 f3 f4 f5 f6 a b c,Zaw g1 g2 g3 g4 g5 g6 x y q]) (.bool (decide (J.dep a b c x y q=0))) []:=by
 refine call19 (mTouch _ _ _ _ _ _ _ _ _ _ _ _ _ _ _ _ _ _ _ ⟨h,?_⟩)
 by_cases k:J.dep a b c x y q=0
 ·rw [decide_eq_true k,beq_iff_eq.2 (sgz.2 k)]
 ·rw [decide_eq_false k];congr 1;simpa using fun x=>k (sgz.1 x)
theorem lin_0 {a b c x y z:Rat} (k:a*y-x*b=0) (j:a*z=x*c/\b*z=y*c):J.Zd4 a b c x y z=[]/\J.Zdo a b c x y z=10:=by
 unfold J.Zd4 J.Zdo;rw [if_pos k,if_pos k,if_pos j];exact ⟨rfl,rfl⟩
theorem lin_1 {a b c x y z:Rat} (k:a*y-x*b=0) (j:¬(a*z=x*c/\b*z=y*c)):J.Zd4 a b c x y z=[]/\J.Zdo a b c x y z=0:=by
 unfold J.Zd4 J.Zdo;rw [if_pos k,if_pos k,if_neg j];exact ⟨rfl,rfl⟩
theorem lin_2 {a b c x y z:Rat} (k:¬a*y-x*b=0):J.Zd4 a b c x y z=[J.atP ((c*y-z*b) / (a*y-x*b)) ((a*z-x*c) / (a*y-x*b))]/\J.Zdo a b c x y z=0:=by
 unfold J.Zd4 J.Zdo;rw [if_neg k,if_neg k];exact ⟨rfl,rfl⟩
theorem weak_list (l:List Pnt) (e:Int):Weak (.tup [.vec true 20 (l.map Pnt.a),.int .i64 e]) (.tup [.vec false 20 (l.map Pnt.a),.int .i64 e]):=ZbH (.full _ _) (.refl _)
theorem Zec (e:Int):Weak (.tup [.vnil,.int .i64 e]) (.tup [.vec false 20 (([]:List Pnt).map Pnt.a),.int .i64 e]):=ZbH (.vnil 20) (.refl _)
theorem ev13 (f1 f2 f3 f4 f5 f6 g1 g2 g3 g4 g5 g6:Bool) (a b c x y z:Rat) (h:J.Zey a b c/\J.Zey x y z):Ev M1 (.pure 13 [Zaw f1 f2 f3 f4 f5 f6 a b c,Zaw g1 g2 g3 g4 g5 g6 x y z]) (.tup [.vec false 20 ((J.Zd4 a b c x y z).map Pnt.a),.int .i64 (J.Zdo a b c x y z)]) []:=by
 have h':=h
 obtain ⟨⟨ha,hb,hc⟩,hx,hy,hz⟩:=h
 refine call13 (mLines _ _ _ _ _ _ _ _ _ _ _ _ _ _ _ _ _ _ _ ⟨⟨Zaj ha (by omega),Zaj hy (by omega)⟩,⟨Zaj hx (by omega),Zaj hb (by omega)⟩,⟨Zaj (Zaf ha hy) (by omega),Zaj (Zaf hx hb) (by omega)⟩,fun k=>⟨h',fun j => ?_,fun j => ?_⟩,fun k=>⟨⟨Zaj hc (by omega),Zaj hy (by omega)⟩,⟨Zaj hz (by omega),Zaj hb (by omega)⟩,⟨Zaj (Zaf hc hy) (by omega),Zaj (Zaf hz hb) (by omega)⟩,⟨Zaj (Zax (Zaf hc hy) (Zaf hz hb)) (by omega),Zaj (Zax (Zaf ha hy) (Zaf hx hb)) (by omega),fun n=>k (sgz.2 (by rwa [Rat.num_eq_zero] at n))⟩,⟨Zaj ha (by omega),Zaj hz (by omega)⟩,⟨Zaj hx (by omega),Zaj hc (by omega)⟩,⟨Zaj (Zaf ha hz) (by omega),Zaj (Zaf hx hc) (by omega)⟩,⟨Zaj (Zax (Zaf ha hz) (Zaf hx hc)) (by omega),Zaj (Zax (Zaf ha hy) (Zaf hx hb)) (by omega),fun n=>k (sgz.2 (by rwa [Rat.num_eq_zero] at n))⟩,?_⟩⟩)
 ·rw [sgz] at k
  rw [(lin_0 k j.2).1,(lin_0 k j.2).2]
  exact Zec _
 ·rw [sgz] at k
  have k2:a*y=x*b:=by grind
  have j2:¬(a*z=x*c/\b*z=y*c):=fun q=>j ⟨k2,q⟩
  rw [(lin_1 k j2).1,(lin_1 k j2).2]
  exact Zec _
 ·rw [sgz] at k
  rw [(lin_2 k).1,(lin_2 k).2]
  exact weak_list [J.atP ((c*y-z*b) / (a*y-x*b)) ((a*z-x*c) / (a*y-x*b))] 0
theorem ev25_n (f1 f2 f3 f4 f5 f6 g1 g2 g3 g4 g5 g6:Bool) (a b c x y z:Rat) (h:J.Zey a b c/\J.Zey x y z) (k:¬((a=x/\b=y))):Ev M1 (.pure 25 [Zaw f1 f2 f3 f4 f5 f6 a b c,Zaw g1 g2 g3 g4 g5 g6 x y z]) (.tup [Zau (J.qi 2*(x-a)) (J.qi 2*(y-b)) (x*x+y*y-z-(a*a+b*b-c)),.int .i64 0]) []:=by
 have h':=h
 obtain ⟨⟨ha,hb,hc⟩,hx,hy,hz⟩:=h
 exact call25 (mRadical _ _ _ _ _ _ _ _ _ _ _ _ _ _ _ _ _ _ _ ⟨h',fun n=>absurd n k,fun _=>⟨by unfold J.inI;omega,⟨Zaj hx (by omega),Zaj ha (by omega)⟩,⟨Zaj (okT_int (by unfold J.inI;omega):J.okT 3 (J.qi 2)) (by omega),Zaj (Zax hx ha) (by omega)⟩,⟨Zaj hy (by omega),Zaj hb (by omega)⟩,⟨Zaj (okT_int (by unfold J.inI;omega):J.okT 3 (J.qi 2)) (by omega),Zaj (Zax hy hb) (by omega)⟩,h'.2,h'.1,⟨Zaj (Zax (ZaC (Zaf hx hx) (Zaf hy hy)) hz) (by omega),Zaj (Zax (ZaC (Zaf ha ha) (Zaf hb hb)) hc) (by omega)⟩,.refl _⟩⟩)
theorem ev107 (f1 f2 f3 f4 f5 f6 g1 g2 g3 g4 g5 g6:Bool) (a b c x y z:Rat) (h:J.okC5 a b c x y z):Ev M1 (.pure 107 [Zaw f1 f2 f3 f4 f5 f6 a b c,Zaw g1 g2 g3 g4 g5 g6 x y z]) (.int .i64 (J.Zij a b c x y z)) []:=by
 obtain ⟨⟨h1,h2,h3⟩,h4,h5,h6⟩:=h
 exact call107 (rCmp5 _ _ _ _ _ _ _ _ _ _ _ _ _ _ _ _ _ _ _ ⟨⟨Zar h1 (by omega),Zar h4 (by omega),Zar h5 (by omega)⟩,⟨Zar (Zax h1 h4) (by omega),Zar h2 (by omega),Zar (Zbe h5) (by omega),Zar ZbO (by omega),Zar h3 (by omega),Zar h6 (by omega)⟩,rfl⟩)
theorem ev32 (f1 f2 f3 f4 f5 f6 g1 g2 g3 g4 g5 g6 g7 g8 g9 g10:Bool) (a b c ax bx ay by_ d:Rat) (h:J.Zey a b c/\J.ZdG ⟨ax,bx,ay,by_,d⟩/\J.ZhC d):Ev M1 (.pure 32 [Zaw f1 f2 f3 f4 f5 f6 a b c,pntA g1 g2 g3 g4 g5 g6 g7 g8 g9 g10 ax bx ay by_ d]) (.int .i64 (J.side a b c ax bx ay by_ d)) []:=by
 have h':=h
 obtain ⟨⟨ha,hb,hc⟩,h,hd⟩:=h
 unfold J.ZdG at h
 exact call32 (rSide8 _ _ _ _ _ _ _ _ _ _ _ _ _ _ _ _ _ _ _ _ _ _ _ _ _ ⟨h',⟨Zar (okT_mkA2 (m:=4492) (n:=461) (Zax (ZaC (Zaf ha h.1.1) (Zaf hb h.2.1.1)) hc) (ZaC (Zaf ha h.1.2) (Zaf hb h.2.1.2)) h.2.2) (by omega),Zar (okT_mkB (k:=461) (ZaC (Zaf ha h.1.2) (Zaf hb h.2.1.2))) (by omega),Zar (okT_mkC h.2.2) (by omega)⟩,rfl⟩)
end Go.Av

namespace Go.Av
open Go.Proofs
set_option maxRecDepth 100000
def fi17:Fi:=⟨66,[.tmp 4]⟩
def kp17:List (Nat × List Nat):=[(0,[2,3]),(1,[2,5,6]),(2,[2,5,6,17]),(3,[2,5,6,17,18]),(4,[4]),(5,[2,5,6,20]),(6,[4]),(7,[5,6,7,8]),(8,[5,6,7,8,9]),(9,[5,6,7,8,42]),(10,[5,6,7,8]),(11,[4])]
def fi70:Fi:=⟨19,[.tmp 4]⟩
def kp70:List (Nat × List Nat):=[(0,[2,3]),(1,[2,3,5]),(2,[2,3,5,12]),(3,[4]),(4,[4])]
def fi133:Fi:=⟨23,[.cell 4 98]⟩
def kp133:List (Nat × List Nat):=[(0,[2,3,4]),(1,[4,5]),(2,[4,6]),(3,[4])]
def mLC_at (f1 f2 f3 f4 f5 f6 g1 g2 g3 g4 g5 g6:Bool) (a b c x y q:Rat) (Q:AV->Heap->Prop):Prop:=Wp M1 (.run fi17 (atC (cd Tryz.f17) []) [(0,Zaw f1 f2 f3 f4 f5 f6 a b c),(1,Zaw g1 g2 g3 g4 g5 g6 x y q)] []) Q
def rComp7_at (f1 f2 f3 f4 f5 f6 f7 f8 f9 f10 g1 g2 g3 g4 g5 g6 g7 g8 g9 g10:Bool) (ax bx ay by_ c ux vx uy vy d:Rat) (Q:AV->Heap->Prop):Prop:=Wp M1 (.run fi70 (atC (cd Tryz.f70) []) [(0,.agg [.bool (J.Zaa ax.num),.vec f1 1 ((J.Zab ax.num).map (.int .u32)),.bool (J.Zaa (ax.den:Int)),.vec f2 1 ((J.Zab (ax.den:Int)).map (.int .u32)),.bool (J.Zaa bx.num),.vec f3 1 ((J.Zab bx.num).map (.int .u32)),.bool (J.Zaa (bx.den:Int)),.vec f4 1 ((J.Zab (bx.den:Int)).map (.int .u32)),.bool (J.Zaa ay.num),.vec f5 1 ((J.Zab ay.num).map (.int .u32)),.bool (J.Zaa (ay.den:Int)),.vec f6 1 ((J.Zab (ay.den:Int)).map (.int .u32)),.bool (J.Zaa by_.num),.vec f7 1 ((J.Zab by_.num).map (.int .u32)),.bool (J.Zaa (by_.den:Int)),.vec f8 1 ((J.Zab (by_.den:Int)).map (.int .u32)),.bool (J.Zaa c.num),.vec f9 1 ((J.Zab c.num).map (.int .u32)),.bool (J.Zaa (c.den:Int)),.vec f10 1 ((J.Zab (c.den:Int)).map (.int .u32))]),(1,.agg [.bool (J.Zaa ux.num),.vec g1 1 ((J.Zab ux.num).map (.int .u32)),.bool (J.Zaa (ux.den:Int)),.vec g2 1 ((J.Zab (ux.den:Int)).map (.int .u32)),.bool (J.Zaa vx.num),.vec g3 1 ((J.Zab vx.num).map (.int .u32)),.bool (J.Zaa (vx.den:Int)),.vec g4 1 ((J.Zab (vx.den:Int)).map (.int .u32)),.bool (J.Zaa uy.num),.vec g5 1 ((J.Zab uy.num).map (.int .u32)),.bool (J.Zaa (uy.den:Int)),.vec g6 1 ((J.Zab (uy.den:Int)).map (.int .u32)),.bool (J.Zaa vy.num),.vec g7 1 ((J.Zab vy.num).map (.int .u32)),.bool (J.Zaa (vy.den:Int)),.vec g8 1 ((J.Zab (vy.den:Int)).map (.int .u32)),.bool (J.Zaa d.num),.vec g9 1 ((J.Zab d.num).map (.int .u32)),.bool (J.Zaa (d.den:Int)),.vec g10 1 ((J.Zab (d.den:Int)).map (.int .u32))])] []) Q
def rSqu7_at (f1 f2 f3 f4 f5 f6 f7 f8 f9 f10 g1 g2 g3 g4:Bool) (ax bx ay by_ c x y:Rat) (Q:AV->Heap->Prop):Prop:=Wp M1 (.run fi133 (atC (cd Tryz.f133) []) [(0,.agg [.bool (J.Zaa ax.num),.vec f1 1 ((J.Zab ax.num).map (.int .u32)),.bool (J.Zaa (ax.den:Int)),.vec f2 1 ((J.Zab (ax.den:Int)).map (.int .u32)),.bool (J.Zaa bx.num),.vec f3 1 ((J.Zab bx.num).map (.int .u32)),.bool (J.Zaa (bx.den:Int)),.vec f4 1 ((J.Zab (bx.den:Int)).map (.int .u32)),.bool (J.Zaa ay.num),.vec f5 1 ((J.Zab ay.num).map (.int .u32)),.bool (J.Zaa (ay.den:Int)),.vec f6 1 ((J.Zab (ay.den:Int)).map (.int .u32)),.bool (J.Zaa by_.num),.vec f7 1 ((J.Zab by_.num).map (.int .u32)),.bool (J.Zaa (by_.den:Int)),.vec f8 1 ((J.Zab (by_.den:Int)).map (.int .u32)),.bool (J.Zaa c.num),.vec f9 1 ((J.Zab c.num).map (.int .u32)),.bool (J.Zaa (c.den:Int)),.vec f10 1 ((J.Zab (c.den:Int)).map (.int .u32))]),(1,.agg [.bool (J.Zaa x.num),.vec g1 1 ((J.Zab x.num).map (.int .u32)),.bool (J.Zaa (x.den:Int)),.vec g2 1 ((J.Zab (x.den:Int)).map (.int .u32)),.bool (J.Zaa y.num),.vec g3 1 ((J.Zab y.num).map (.int .u32)),.bool (J.Zaa (y.den:Int)),.vec g4 1 ((J.Zab (y.den:Int)).map (.int .u32))])] []) Q
theorem call17 {args:List AV} {d:AV} (h:wc M1 fi17 Tryz.f17 args d):Ev M1 (.pure 17 args) d []:=pcl _ _ (by kernel_rfl) h
theorem call70 {args:List AV} {d:AV} (h:wc M1 fi70 Tryz.f70 args d):Ev M1 (.pure 70 args) d []:=pcl _ _ (by kernel_rfl) h
theorem call133 {args:List AV} {d:AV} (h:wc M1 fi133 Tryz.f133 args d):Ev M1 (.pure 133 args) d []:=pcl _ _ (by kernel_rfl) h
noncomputable abbrev zNmE1 (a:Rat) (b:Rat) (c:Rat) (x:Rat) (y:Rat) (q:Rat):=(Pnt.a (J.Zdd (J.fX a b c x y) (-b) (J.fY a b c x y) (- -a) (J.dep a b c x y q)))
noncomputable abbrev zNmE2 (a:Rat) (b:Rat) (c:Rat) (x:Rat) (y:Rat) (q:Rat):=(Pnt.a (J.Zdd (J.fX a b c x y) (- -b) (J.fY a b c x y) (- - -a) (J.dep a b c x y q)))
noncomputable abbrev zNmE3 (a:Rat) (b:Rat) (c:Rat) (x:Rat) (y:Rat) (q:Rat):=(Pnt.a (J.Zdd (J.fX a b c x y) b (J.fY a b c x y) (-a) (J.dep a b c x y q)))
noncomputable abbrev zNmE4 (a:Rat) (b:Rat) (c:Rat) (x:Rat) (y:Rat):=(vecF (J.fX a b c x y) (J.fY a b c x y))
noncomputable abbrev zNmE5 (a:Rat) (b:Rat) (c:Rat) (x:Rat) (y:Rat):=(pntF (J.fX a b c x y) (J.qi 0) (J.fY a b c x y) (J.qi 0) (J.qi 0))
theorem mLC (f1 f2 f3 f4 f5 f6 g1 g2 g3 g4 g5 g6:Bool) (a b c x y q:Rat)  (dq:AV) (H :
  (J.Zga a b c/\J.ZgK x y/\J.okT 30 q) /\
  ((J.sgnI (J.dep a b c x y q).num = -1)->Weak (AV.vnil) dq) /\
  (¬(J.sgnI (J.dep a b c x y q).num = -1)->((J.sgnI (J.dep a b c x y q).num=0)->Weak (AV.vec true 20 [(pntF (J.fX a b c x y) (J.qi 0) (J.fY a b c x y) (J.qi 0) (J.qi 0))]) dq) /\
   (¬(J.sgnI (J.dep a b c x y q).num=0)->(J.okB a.num) /\
    (((J.sgnI b.num<0)\/((J.sgnI b.num=0)/\(J.sgnI (-a).num<0)))->(J.okB b.num) /\
     (J.okB (-a).num) /\
     (J.okB (-b).num) /\
     (J.okB (- -a).num) /\
     (J.okSr (J.fX a b c x y) (- -b) (J.fY a b c x y) (- - -a) (J.dep a b c x y q)) /\
     (J.okSr (J.fX a b c x y) (-b) (J.fY a b c x y) (- -a) (J.dep a b c x y q)) /\
     Weak (AV.vec true 20 [(Pnt.a (J.Zdd (J.fX a b c x y) (- -b) (J.fY a b c x y) (- - -a) (J.dep a b c x y q))),(Pnt.a (J.Zdd (J.fX a b c x y) (-b) (J.fY a b c x y) (- -a) (J.dep a b c x y q)))]) dq) /\
    (¬((J.sgnI b.num<0)\/((J.sgnI b.num=0)/\(J.sgnI (-a).num<0)))->(J.okB b.num) /\
     (J.okB (-a).num) /\
     (J.okSr (J.fX a b c x y) (-b) (J.fY a b c x y) (- -a) (J.dep a b c x y q)) /\
     (J.okSr (J.fX a b c x y) b (J.fY a b c x y) (-a) (J.dep a b c x y q)) /\
     Weak (AV.vec true 20 [(Pnt.a (J.Zdd (J.fX a b c x y) (-b) (J.fY a b c x y) (- -a) (J.dep a b c x y q))),(Pnt.a (J.Zdd (J.fX a b c x y) b (J.fY a b c x y) (-a) (J.dep a b c x y q)))]) dq)))) :
 mLC_at f1 f2 f3 f4 f5 f6 g1 g2 g3 g4 g5 g6 a b c x y q (Zag dq):=by
 unfold mLC_at
 obtain ⟨k1,H⟩:=H
 refine Zae (G:=Zad kp17 [(1,2,.call (tu [ratF (J.dep a b c x y q),(zNmE4 a b c x y)]) none),(2,1,.call (vi (J.sgnI (J.dep a b c x y q).num)) none)] []) 10 [] ⟨(atC (cd Tryz.f17) [1,1,0,1,0,1]),[(2,AV.ptr 0 0 0 0),(5,AV.ptr 2 0 0 0),(6,AV.ptr 3 0 0 0),(17,vi (J.sgnI (J.dep a b c x y q).num)),(18,vb (J.sgnI (J.dep a b c x y q).num == -1))],[⟨[Zaw f1 f2 f3 f4 f5 f6 a b c],12,0,false,false⟩,⟨[Zaw g1 g2 g3 g4 g5 g6 x y q],12,0,false,false⟩,⟨[ratF (J.dep a b c x y q)],4,0,false,false⟩,⟨[(zNmE4 a b c x y)],8,0,false,false⟩],_,[],_⟩ (by kernel_rfl) (bc rfl (bc rfl (bc rfl (bc rfl (bc rfl b0))))) q0 (ce (@ev64 f1 f2 f3 f4 f5 f6 g1 g2 g3 g4 g5 g6 a b c x y q k1) (ce (@ev54 false false ((J.dep a b c x y q).num) ((↑(J.dep a b c x y q).den:Int))) c0)) ?_
 rcases xq H with ⟨d3,H⟩|⟨d3,H⟩
 ·exact Zah (G:=Zad kp17 [] []) 1000 [true] (AV.vnil) (by kernel_rfl) (bc (Zaq (i_eq.2 d3)) b0) q0 c0 H
 ·rcases xq H with ⟨d5,H⟩|⟨d5,H⟩
  ·exact Zah (G:=Zad kp17 [(6,1,.call ((zNmE5 a b c x y)) none)] []) 1000 [false,true] (AV.vec true 20 [(zNmE5 a b c x y)]) (by kernel_rfl) (bc (Zam (fun h=>d3 (i_eq.1 h))) (bc (Zaq (i_eq.2 d5)) (bc rfl b0))) q0 (ce (@ev57 false false false false (J.fX a b c x y) (J.fY a b c x y)) c0) H
  ·obtain ⟨k6,H⟩:=H
   refine Zae (G:=Zad kp17 [(7,4,.call (ratF (-a)) none)] []) 7 [false,false] ⟨(atC (cd Tryz.f17) [1,1,1,0]),[(2,AV.ptr 0 0 0 0),(5,AV.ptr 2 0 0 0),(6,AV.ptr 3 0 0 0),(20,vb (J.sgnI (J.dep a b c x y q).num==0))],[⟨[Zaw f1 f2 f3 f4 f5 f6 a b c],12,0,false,false⟩,⟨[Zaw g1 g2 g3 g4 g5 g6 x y q],12,0,false,false⟩,⟨[ratF (J.dep a b c x y q)],4,0,false,false⟩,⟨[(zNmE4 a b c x y)],8,0,false,false⟩],_,[],_⟩ (by kernel_rfl) (bc (Zam (fun h=>d3 (i_eq.1 h))) (bc (Zam (fun h=>d5 (i_eq.1 h))) b0)) q0 c0 (ZdN (G:=Zad kp17 [(7,4,.call (ratF (-a)) none)] []) [0,1,2,3,5,4] 5 (e1:=[(5,AV.ptr 2 0 0 0),(6,AV.ptr 3 0 0 0),(7,AV.ptr 4 0 0 0),(8,AV.ptr 5 0 0 0)]) (L1:=[⟨[Zaw f1 f2 f3 f4 f5 f6 a b c],12,0,false,false⟩,⟨[Zaw g1 g2 g3 g4 g5 g6 x y q],12,0,false,false⟩,⟨[ratF (J.dep a b c x y q)],4,0,false,false⟩,⟨[(zNmE4 a b c x y)],8,0,false,false⟩,⟨[ratA f3 f4 b],4,0,false,false⟩,⟨[ratF (-a)],4,0,false,false⟩]) (a:=[true,true,true,true]) (q:=[]) (cs:=[⟨true,false,65,[ratA f1 f2 a],[],ratF (-a),[]⟩]) (by kernel_rfl) (by kernel_rfl) (Zal rfl (Zal rfl (Zal rfl (Zal rfl ZaQ)))) Zbf (Za8 (fun _=>(@ev65 f1 f2 a k6)) Zbg) ?_)
   refine Zae (G:=Zad kp17 [(8,1,.call (vi (J.sgnI b.num)) none),(9,7,.call (vi (J.sgnI (-a).num)) none)] []) 5 [] ⟨(atC (cd Tryz.f17) [1,1,1,1,0,1,1]),[(5,AV.ptr 2 0 0 0),(6,AV.ptr 3 0 0 0),(7,AV.ptr 4 0 0 0),(8,AV.ptr 5 0 0 0),(42,vb (bif decide (J.sgnI b.num<0) then true else bif J.sgnI b.num==0 then decide (J.sgnI (-a).num<0) else false))],[⟨[Zaw f1 f2 f3 f4 f5 f6 a b c],12,0,false,false⟩,⟨[Zaw g1 g2 g3 g4 g5 g6 x y q],12,0,false,false⟩,⟨[ratF (J.dep a b c x y q)],4,0,false,false⟩,⟨[(zNmE4 a b c x y)],8,0,false,false⟩,⟨[ratA f3 f4 b],4,0,false,false⟩,⟨[ratF (-a)],4,0,false,false⟩],[true,!((J.sgnI b.num==0)==true&&(decide (J.sgnI b.num<0)==false&&true))||true],[],[⟨true,false,54,[ratA f3 f4 b],[],vi (J.sgnI b.num),[]⟩,⟨(J.sgnI b.num==0)==true&&(decide (J.sgnI b.num<0)==false&&true)&&true,false,54,[ratF (-a)],[],vi (J.sgnI (-a).num),[]⟩]⟩ (by kernel_rfl) (bc rfl (bc (Bool.or_true _) b0)) q0 (cc (fun _=>(@ev54 f3 f4 (b.num) ((↑b.den:Int)))) (cc (fun hc=>((@ev54 false false ((-a).num) ((↑(-a).den:Int))):Ev M1 (Conf.pure 54 [ratF (-a)]) (vi (J.sgnI (-a).num)) [])) c0)) ?_
   rcases xq H with ⟨d9,H⟩|⟨d9,H⟩
   ·obtain ⟨k10,k11,k12,k13,k14,k15,H⟩:=H
    exact Zah (G:=Zad kp17 [(10,1,.call (ratF (-b)) none),(10,3,.call (ratF (- -a)) none),(11,3,.call (ratF (- -b)) none),(11,7,.call (ratF (- - -a)) none),(11,9,.call ((zNmE2 a b c x y q)) none),(11,17,.call ((zNmE1 a b c x y q)) none)] []) 1000 [true] (AV.vec true 20 [(zNmE2 a b c x y q),(zNmE1 a b c x y q)]) (by kernel_rfl) (bc (Zaq ((ZaM Zac (ZaG i_eq Zac)).2 d9)) (bc rfl (bc rfl (bc rfl (bc rfl (bc rfl (bc rfl (bc rfl (bc rfl (bc rfl (bc rfl (bc rfl (bc rfl (bc rfl (bc rfl b0))))))))))))))) q0 (ce (@ev65 f3 f4 b k10) (ce (@ev65 false false (-a) k11) (ce (@ev65 false false (-b) k12) (ce (@ev65 false false (- -a) k13) (ce (@ev66 false false false false false false false false false false (J.fX a b c x y) (- -b) (J.fY a b c x y) (- - -a) (J.dep a b c x y q) k14) (ce (@ev66 false false false false false false false false false false (J.fX a b c x y) (-b) (J.fY a b c x y) (- -a) (J.dep a b c x y q) k15) c0)))))) H
   ·obtain ⟨k16,k17,k18,k19,H⟩:=H
    exact Zah (G:=Zad kp17 [(11,3,.call (ratF (-b)) none),(11,7,.call (ratF (- -a)) none),(11,9,.call ((zNmE1 a b c x y q)) none),(11,17,.call ((zNmE3 a b c x y q)) none)] []) 1000 [false] (AV.vec true 20 [(zNmE1 a b c x y q),(zNmE3 a b c x y q)]) (by kernel_rfl) (bc (Zam (fun h=>d9 ((ZaM Zac (ZaG i_eq Zac)).1 h))) (bc rfl (bc rfl (bc rfl (bc rfl (bc rfl (bc rfl (bc rfl (bc rfl (bc rfl (bc rfl b0))))))))))) q0 (ce (@ev65 f3 f4 b k16) (ce (@ev65 false false (-a) k17) (ce (@ev66 false false false false false false false false false false (J.fX a b c x y) (-b) (J.fY a b c x y) (- -a) (J.dep a b c x y q) k18) (ce (@ev66 false false f3 f4 false false false false false false (J.fX a b c x y) b (J.fY a b c x y) (-a) (J.dep a b c x y q) k19) c0)))) H
theorem rComp7 (f1 f2 f3 f4 f5 f6 f7 f8 f9 f10 g1 g2 g3 g4 g5 g6 g7 g8 g9 g10:Bool) (ax bx ay by_ c ux vx uy vy d:Rat)  (dq:AV) (H :
  (J.okC5 ax bx (J.rad bx c) ux vx (J.rad vx d)) /\
  ((¬J.Zij ax bx (J.rad bx c) ux vx (J.rad vx d)=0)->vi (J.Zij ax bx (J.rad bx c) ux vx (J.rad vx d))=dq) /\
  (¬(¬J.Zij ax bx (J.rad bx c) ux vx (J.rad vx d)=0)->(J.okC5 ay by_ (J.rad by_ c) uy vy (J.rad vy d)) /\
   vi (J.Zij ay by_ (J.rad by_ c) uy vy (J.rad vy d))=dq)) :
 rComp7_at f1 f2 f3 f4 f5 f6 f7 f8 f9 f10 g1 g2 g3 g4 g5 g6 g7 g8 g9 g10 ax bx ay by_ c ux vx uy vy d (Zag dq):=by
 unfold rComp7_at
 obtain ⟨k1,H⟩:=H
 refine Zae (G:=Zad kp70 [(1,1,.call (Zau ax bx (J.rad bx c)) none),(1,3,.call (Zau ux vx (J.rad vx d)) none),(1,4,.call (vi (J.Zij ax bx (J.rad bx c) ux vx (J.rad vx d))) none)] []) 7 [] ⟨(atC (cd Tryz.f70) [1,0,1,1]),[(2,AV.ptr 0 0 0 0),(3,AV.ptr 1 0 0 0),(5,vi (J.Zij ax bx (J.rad bx c) ux vx (J.rad vx d))),(12,vb (J.Zij ax bx (J.rad bx c) ux vx (J.rad vx d) != 0))],[⟨[ag [vb (J.Zaa ax.num),AV.vec f1 1 (us (J.Zab ax.num)),vb (J.Zaa (↑ax.den:Int)),AV.vec f2 1 (us (J.Zab (↑ax.den:Int))),vb (J.Zaa bx.num),AV.vec f3 1 (us (J.Zab bx.num)),vb (J.Zaa (↑bx.den:Int)),AV.vec f4 1 (us (J.Zab (↑bx.den:Int))),vb (J.Zaa ay.num),AV.vec f5 1 (us (J.Zab ay.num)),vb (J.Zaa (↑ay.den:Int)),AV.vec f6 1 (us (J.Zab (↑ay.den:Int))),vb (J.Zaa by_.num),AV.vec f7 1 (us (J.Zab by_.num)),vb (J.Zaa (↑by_.den:Int)),AV.vec f8 1 (us (J.Zab (↑by_.den:Int))),vb (J.Zaa c.num),AV.vec f9 1 (us (J.Zab c.num)),vb (J.Zaa (↑c.den:Int)),AV.vec f10 1 (us (J.Zab (↑c.den:Int)))]],20,0,false,false⟩,⟨[ag [vb (J.Zaa ux.num),AV.vec g1 1 (us (J.Zab ux.num)),vb (J.Zaa (↑ux.den:Int)),AV.vec g2 1 (us (J.Zab (↑ux.den:Int))),vb (J.Zaa vx.num),AV.vec g3 1 (us (J.Zab vx.num)),vb (J.Zaa (↑vx.den:Int)),AV.vec g4 1 (us (J.Zab (↑vx.den:Int))),vb (J.Zaa uy.num),AV.vec g5 1 (us (J.Zab uy.num)),vb (J.Zaa (↑uy.den:Int)),AV.vec g6 1 (us (J.Zab (↑uy.den:Int))),vb (J.Zaa vy.num),AV.vec g7 1 (us (J.Zab vy.num)),vb (J.Zaa (↑vy.den:Int)),AV.vec g8 1 (us (J.Zab (↑vy.den:Int))),vb (J.Zaa d.num),AV.vec g9 1 (us (J.Zab d.num)),vb (J.Zaa (↑d.den:Int)),AV.vec g10 1 (us (J.Zab (↑d.den:Int)))]],20,0,false,false⟩],_,[],_⟩ (by kernel_rfl) (bc rfl (bc rfl b0)) q0 (ce (@ev108 f1 f2 f3 f4 f5 f6 f7 f8 f9 f10 ax bx ay by_ c) (ce (@ev108 g1 g2 g3 g4 g5 g6 g7 g8 g9 g10 ux vx uy vy d) (ce (@ev107 false false false false false false false false false false false false ax bx (J.rad bx c) ux vx (J.rad vx d) k1) c0))) ?_
 rcases xq H with ⟨d3,H⟩|⟨d3,H⟩
 ·exact Zao (G:=Zad kp70 [] []) 1000 [true] (vi (J.Zij ax bx (J.rad bx c) ux vx (J.rad vx d))) (by kernel_rfl) (bc (Zaq (i_ne.2 d3)) b0) q0 c0 H
 ·obtain ⟨k4,H⟩:=H
  exact Zao (G:=Zad kp70 [(4,1,.call (Zau ay by_ (J.rad by_ c)) none),(4,3,.call (Zau uy vy (J.rad vy d)) none),(4,4,.call (vi (J.Zij ay by_ (J.rad by_ c) uy vy (J.rad vy d))) none)] []) 1000 [false] (vi (J.Zij ay by_ (J.rad by_ c) uy vy (J.rad vy d))) (by kernel_rfl) (bc (Zam (fun h=>d3 (i_ne.1 h))) (bc rfl (bc rfl b0))) q0 (ce (@ev109 f1 f2 f3 f4 f5 f6 f7 f8 f9 f10 ax bx ay by_ c) (ce (@ev109 g1 g2 g3 g4 g5 g6 g7 g8 g9 g10 ux vx uy vy d) (ce (@ev107 false false false false false false false false false false false false ay by_ (J.rad by_ c) uy vy (J.rad vy d) k4) c0))) H
noncomputable abbrev zNmE10 (b13:Bool) (l13:List Int) (b14:Bool) (l14:List Int) (b15:Bool) (l15:List Int) (b16:Bool) (l16:List Int) (b17:Bool) (l17:List Int) (b18:Bool) (l18:List Int):=ag [vb b13,vf (us l13),vb b14,vf (us l14),vb b15,vf (us l15),vb b16,vf (us l16),vb b17,vf (us l17),vb b18,vf (us l18)]
theorem rSqu7 (f1 f2 f3 f4 f5 f6 f7 f8 f9 f10 g1 g2 g3 g4:Bool) (ax bx ay by_ c x y:Rat)  (dq:AV) (H :
  (J.okT 2000 x/\J.okT 2000 y) /\
  (J.ZdG { ax:=ax,bx:=bx,ay:=ay,by_:=by_,c:=c } /\ J.okT 40 (-x)/\J.okT 40 (-y)) /\
  ∃ (b1:Bool) (l1:List Int) (b2:Bool) (l2:List Int) (b3:Bool) (l3:List Int) (b4:Bool) (l4:List Int) (b5:Bool) (l5:List Int) (b6:Bool) (l6:List Int),
  (Ev M1 (Conf.pure 161 [Zau (ax + -x) bx (J.rad bx c)]) (ag [vb b1,vf (us l1),vb b2,vf (us l2),vb b3,vf (us l3),vb b4,vf (us l4),vb b5,vf (us l5),vb b6,vf (us l6)]) []) /\
  ∃ (b7:Bool) (l7:List Int) (b8:Bool) (l8:List Int) (b9:Bool) (l9:List Int) (b10:Bool) (l10:List Int) (b11:Bool) (l11:List Int) (b12:Bool) (l12:List Int),
  (Ev M1 (Conf.pure 161 [Zau (ay + -y) by_ (J.rad by_ c)]) (ag [vb b7,vf (us l7),vb b8,vf (us l8),vb b9,vf (us l9),vb b10,vf (us l10),vb b11,vf (us l11),vb b12,vf (us l12)]) []) /\
  ∃ (b13:Bool) (l13:List Int) (b14:Bool) (l14:List Int) (b15:Bool) (l15:List Int) (b16:Bool) (l16:List Int) (b17:Bool) (l17:List Int) (b18:Bool) (l18:List Int) (n1:Int),
  (Ev M1 (Conf.pure 160 [ag [vb b1,vf (us l1),vb b2,vf (us l2),vb b3,vf (us l3),vb b4,vf (us l4),vb b5,vf (us l5),vb b6,vf (us l6)],ag [vb b7,vf (us l7),vb b8,vf (us l8),vb b9,vf (us l9),vb b10,vf (us l10),vb b11,vf (us l11),vb b12,vf (us l12)]]) (tu [ag [vb b13,vf (us l13),vb b14,vf (us l14),vb b15,vf (us l15),vb b16,vf (us l16),vb b17,vf (us l17),vb b18,vf (us l18)],vi n1]) []) /\
  Weak (ag [vb b13,vf (us l13),vb b14,vf (us l14),vb b15,vf (us l15),vb b16,vf (us l16),vb b17,vf (us l17),vb b18,vf (us l18)]) dq) :
 rSqu7_at f1 f2 f3 f4 f5 f6 f7 f8 f9 f10 g1 g2 g3 g4 ax bx ay by_ c x y (Zag dq):=by
 unfold rSqu7_at
 obtain ⟨k1,k2,b1,l1,b2,l2,b3,l3,b4,l4,b5,l5,b6,l6,k3,b7,l7,b8,l8,b9,l9,b10,l10,b11,l11,b12,l12,k4,b13,l13,b14,l14,b15,l15,b16,l16,b17,l17,b18,l18,n1,k5,H⟩:=H
 exact Zah (G:=Zad kp133 [(1,2,.call ((vecF (-x) (-y))) none),(1,3,.call ((pntF (ax + -x) bx (ay + -y) by_ c)) none),(2,1,.call (Zau (ax + -x) bx (J.rad bx c)) none),(2,2,.call (ag [vb b1,vf (us l1),vb b2,vf (us l2),vb b3,vf (us l3),vb b4,vf (us l4),vb b5,vf (us l5),vb b6,vf (us l6)]) none),(2,4,.call (Zau (ay + -y) by_ (J.rad by_ c)) none),(2,5,.call (ag [vb b7,vf (us l7),vb b8,vf (us l8),vb b9,vf (us l9),vb b10,vf (us l10),vb b11,vf (us l11),vb b12,vf (us l12)]) none),(2,6,.call (tu [(zNmE10 b13 l13 b14 l14 b15 l15 b16 l16 b17 l17 b18 l18),vi n1]) none)] []) 1000 [] ((zNmE10 b13 l13 b14 l14 b15 l15 b16 l16 b17 l17 b18 l18)) (by kernel_rfl) (bc rfl (bc rfl (bc rfl (bc rfl (bc rfl (bc rfl (bc rfl (bc rfl b0)))))))) q0 (ce (@ev159 g1 g2 g3 g4 x y k1) (ce (@ev38 f1 f2 f3 f4 f5 f6 f7 f8 f9 f10 false false false false ax bx ay by_ c (-x) (-y) k2) (ce (@ev108 false false false false false false false false false false (ax + -x) bx (ay + -y) by_ c) (ce k3 (ce (@ev109 false false false false false false false false false false (ax + -x) bx (ay + -y) by_ c) (ce k4 (ce k5 c0))))))) H
end Go.Av

namespace Go.Av
open Go.Proofs
theorem sgl {r:Rat}:J.sgnI r.num<0 ↔ r<0:=by
 have:=sg3 r.num
 have:=(@ZbP r).2.2
 unfold J.sgR at this
 rw [<- this];omega
theorem ZgM {k:Nat} {r:Rat} (h:J.okT k r) (hk:k<=90000):J.okB r.num:=by
 have:=h.1
 unfold J.okB;omega
theorem Zf9 {k:Nat} {b c:Rat} (h:J.okT k c) (hk:1<=k):J.okT k (J.rad b c):=by
 unfold J.rad
 split
 ·exact Zar ZbO hk
 ·exact h
theorem Zfq (l:List Pnt):Weak (.vec true 20 (l.map Pnt.a)) (.vec false 20 (l.map Pnt.a)):=.full _ _
theorem lineC_0 {a b c x y q:Rat} (k:J.dep a b c x y q<0):J.Zbk a b c x y q=[]:=by
 unfold J.Zbk;rw [Zbx k,if_pos (by decide)]
theorem ZgZ {a b c x y q:Rat} (k:J.dep a b c x y q=0):J.Zbk a b c x y q=[J.atP (J.fX a b c x y) (J.fY a b c x y)]:=by
 unfold J.Zbk;rw [k,ZaU,if_neg (by decide),if_pos rfl]
theorem ZeM {a b c x y q:Rat} (k:0<J.dep a b c x y q):J.Zbk a b c x y q=[J.Zdd (J.fX a b c x y) (-J.dU a b) (J.fY a b c x y) (-J.dV a b) (J.dep a b c x y q),J.Zdd (J.fX a b c x y) (J.dU a b) (J.fY a b c x y) (J.dV a b) (J.dep a b c x y q)]:=by
 unfold J.Zbk;rw [ZaW k,if_neg (by decide),if_neg (by decide)]
theorem ev17 (f1 f2 f3 f4 f5 f6 g1 g2 g3 g4 g5 g6:Bool) (a b c x y q:Rat) (h:J.Zga a b c/\J.ZgK x y/\J.okT 30 q):Ev M1 (.pure 17 [Zaw f1 f2 f3 f4 f5 f6 a b c,Zaw g1 g2 g3 g4 g5 g6 x y q]) (.vec false 20 ((J.Zbk a b c x y q).map Pnt.a)) []:=by
 obtain ⟨hl,hv,hq⟩:=h
 have hf:=okT_f hl hv
 have hd:=okT_dep hl hv hq
 obtain ⟨⟨ha,hb,hc⟩,h0⟩:=hl
 have na:=Zbe ha
 have nb:=Zbe hb
 have nna:=Zbe na
 refine call17 (mLC _ _ _ _ _ _ _ _ _ _ _ _ _ _ _ _ _ _ _ ⟨⟨⟨⟨ha,hb,hc⟩,h0⟩,hv,hq⟩,fun k => ?_,fun k=>⟨fun j => ?_,fun j=>⟨ZgM ha (by omega),fun i => ?_,fun i => ?_⟩⟩⟩)
 ·rw [lineC_0 (ZbP.2.2.1 k)]
  exact .vnil 20
 ·rw [ZgZ (sgz.1 j)]
  exact Zfq [J.atP (J.fX a b c x y) (J.fY a b c x y)]
 ·have p:0<J.dep a b c x y q:=by
   rcases tri (J.dep a b c x y q) with t | t | t
   ·exact absurd (Zbx t) k
   ·exact absurd (sgz.2 t) j
   ·exact t
  rw [sgl,sgz,sgl] at i
  have e:J.dn a b=true:=decide_eq_true i
  rw [ZeM p]
  unfold J.dU J.dV
  rw [e,cond_true,cond_true]
  exact ⟨ZgM hb (by omega),ZgM na (by omega),ZgM nb (by omega),ZgM nna (by omega),⟨⟨hf.1,Zbe nb⟩,⟨hf.2,Zbe nna⟩,hd,p⟩,⟨⟨hf.1,nb⟩,⟨hf.2,nna⟩,hd,p⟩,Zfq [J.Zdd (J.fX a b c x y) (- -b) (J.fY a b c x y) (- - -a) (J.dep a b c x y q),J.Zdd (J.fX a b c x y) (-b) (J.fY a b c x y) (- -a) (J.dep a b c x y q)]⟩
 ·have p:0<J.dep a b c x y q:=by
   rcases tri (J.dep a b c x y q) with t | t | t
   ·exact absurd (Zbx t) k
   ·exact absurd (sgz.2 t) j
   ·exact t
  rw [sgl,sgz,sgl] at i
  have e:J.dn a b=false:=decide_eq_false i
  rw [ZeM p]
  unfold J.dU J.dV
  rw [e,cond_false,cond_false]
  exact ⟨ZgM hb (by omega),ZgM na (by omega),⟨⟨hf.1,nb⟩,⟨hf.2,nna⟩,hd,p⟩,⟨⟨hf.1,hb⟩,⟨hf.2,na⟩,hd,p⟩,Zfq [J.Zdd (J.fX a b c x y) (-b) (J.fY a b c x y) (- -a) (J.dep a b c x y q),J.Zdd (J.fX a b c x y) b (J.fY a b c x y) (-a) (J.dep a b c x y q)]⟩
theorem ev70 (f1 f2 f3 f4 f5 f6 f7 f8 f9 f10 g1 g2 g3 g4 g5 g6 g7 g8 g9 g10:Bool) (ax bx ay by_ c ux vx uy vy d:Rat) (h:J.ZdG ⟨ax,bx,ay,by_,c⟩/\J.ZdG ⟨ux,vx,uy,vy,d⟩):Ev M1 (.pure 70 [pntA f1 f2 f3 f4 f5 f6 f7 f8 f9 f10 ax bx ay by_ c,pntA g1 g2 g3 g4 g5 g6 g7 g8 g9 g10 ux vx uy vy d]) (.int .i64 (J.Zhh ⟨ax,bx,ay,by_,c⟩ ⟨ux,vx,uy,vy,d⟩)) []:=by
 obtain ⟨h,k⟩:=h
 unfold J.ZdG at h k
 refine call70 (rComp7 _ _ _ _ _ _ _ _ _ _ _ _ _ _ _ _ _ _ _ _ _ _ _ _ _ _ _ _ _ _ _ ⟨⟨⟨h.1.1,h.1.2,Zf9 h.2.2 (by omega)⟩,k.1.1,k.1.2,Zf9 k.2.2 (by omega)⟩,fun j => ?_,fun j=>⟨⟨⟨h.2.1.1,h.2.1.2,Zf9 h.2.2 (by omega)⟩,k.2.1.1,k.2.1.2,Zf9 k.2.2 (by omega)⟩,?_⟩⟩)
 ·unfold J.Zhh
  simp only [if_neg j]
 ·unfold J.Zhh
  simp only [if_pos (Classical.not_not.1 j)]
end Go.Av

namespace Go.Av
open Go.Proofs
set_option maxRecDepth 100000
def fi22:Fi:=⟨23,[.tmp 4,.tmp 5]⟩
def kp22:List (Nat × List Nat):=[(0,[2,3]),(1,[2,3,10]),(2,[4,5]),(3,[2,3,13]),(4,[4,5]),(5,[2,6]),(6,[4,5])]
def fi37:Fi:=⟨9,[.tmp 4]⟩
def kp37:List (Nat × List Nat):=[(0,[2,3]),(1,[4])]
def fi63:Fi:=⟨16,[.tmp 2]⟩
def kp63:List (Nat × List Nat):=[(0,[0]),(1,[0,3]),(2,[0,3,7]),(3,[0,3]),(4,[0,3,15]),(5,[2]),(6,[2])]
def ZgP (f1 f2 f3 f4 f5 f6 g1 g2 g3 g4 g5 g6:Bool) (a b c x y z:Rat) (Q:AV->Heap->Prop):Prop:=Wp M1 (.run fi22 (atC (cd Tryz.f22) []) [(0,Zaw f1 f2 f3 f4 f5 f6 a b c),(1,Zaw g1 g2 g3 g4 g5 g6 x y z)] []) Q
def rEq7_at (f1 f2 f3 f4 f5 f6 f7 f8 f9 f10 g1 g2 g3 g4 g5 g6 g7 g8 g9 g10:Bool) (ax bx ay by_ c ux vx uy vy d:Rat) (Q:AV->Heap->Prop):Prop:=Wp M1 (.run fi37 (atC (cd Tryz.f37) []) [(0,.agg [.bool (J.Zaa ax.num),.vec f1 1 ((J.Zab ax.num).map (.int .u32)),.bool (J.Zaa (ax.den:Int)),.vec f2 1 ((J.Zab (ax.den:Int)).map (.int .u32)),.bool (J.Zaa bx.num),.vec f3 1 ((J.Zab bx.num).map (.int .u32)),.bool (J.Zaa (bx.den:Int)),.vec f4 1 ((J.Zab (bx.den:Int)).map (.int .u32)),.bool (J.Zaa ay.num),.vec f5 1 ((J.Zab ay.num).map (.int .u32)),.bool (J.Zaa (ay.den:Int)),.vec f6 1 ((J.Zab (ay.den:Int)).map (.int .u32)),.bool (J.Zaa by_.num),.vec f7 1 ((J.Zab by_.num).map (.int .u32)),.bool (J.Zaa (by_.den:Int)),.vec f8 1 ((J.Zab (by_.den:Int)).map (.int .u32)),.bool (J.Zaa c.num),.vec f9 1 ((J.Zab c.num).map (.int .u32)),.bool (J.Zaa (c.den:Int)),.vec f10 1 ((J.Zab (c.den:Int)).map (.int .u32))]),(1,.agg [.bool (J.Zaa ux.num),.vec g1 1 ((J.Zab ux.num).map (.int .u32)),.bool (J.Zaa (ux.den:Int)),.vec g2 1 ((J.Zab (ux.den:Int)).map (.int .u32)),.bool (J.Zaa vx.num),.vec g3 1 ((J.Zab vx.num).map (.int .u32)),.bool (J.Zaa (vx.den:Int)),.vec g4 1 ((J.Zab (vx.den:Int)).map (.int .u32)),.bool (J.Zaa uy.num),.vec g5 1 ((J.Zab uy.num).map (.int .u32)),.bool (J.Zaa (uy.den:Int)),.vec g6 1 ((J.Zab (uy.den:Int)).map (.int .u32)),.bool (J.Zaa vy.num),.vec g7 1 ((J.Zab vy.num).map (.int .u32)),.bool (J.Zaa (vy.den:Int)),.vec g8 1 ((J.Zab (vy.den:Int)).map (.int .u32)),.bool (J.Zaa d.num),.vec g9 1 ((J.Zab d.num).map (.int .u32)),.bool (J.Zaa (d.den:Int)),.vec g10 1 ((J.Zab (d.den:Int)).map (.int .u32))])] []) Q
def rGood_at (u:Bool) (l:List Pnt) (Q:AV->Heap->Prop):Prop:=Wp M1 (.run fi63 (atC (cd Tryz.f63) []) [(0,.vec u 20 (l.map Pnt.a))] []) Q
def ZdY (u:Bool) (l:List Pnt) (i:Int) (Q:AV->Heap->Prop):Prop:=Wp M1 (.run fi63 (atC (cd Tryz.f63) [1,0,1,0,0]) [(0,.vec u 20 (l.map Pnt.a)),(3,.int .i64 i)] []) Q
theorem call22 {args:List AV} {d:AV} (h:wc M1 fi22 Tryz.f22 args d):Ev M1 (.pure 22 args) d []:=pcl _ _ (by kernel_rfl) h
theorem call37 {args:List AV} {d:AV} (h:wc M1 fi37 Tryz.f37 args d):Ev M1 (.pure 37 args) d []:=pcl _ _ (by kernel_rfl) h
theorem call63 {args:List AV} {d:AV} (h:wc M1 fi63 Tryz.f63 args d):Ev M1 (.pure 63 args) d []:=pcl _ _ (by kernel_rfl) h
theorem mCircles (f1 f2 f3 f4 f5 f6 g1 g2 g3 g4 g5 g6:Bool) (a b c x y z:Rat)  (dq:AV) (H :
  (J.Zey a b c/\J.Zey x y z) /\
  ((a=x/\b=y/\c=z)->Weak (tu [AV.vnil,vi 10]) dq) /\
  (¬(a=x/\b=y/\c=z)->((a=x/\b=y)->Weak (tu [AV.vnil,vi 0]) dq) /\
   (¬(a=x/\b=y)->(J.Zga (J.qi 2*(x-a)) (J.qi 2*(y-b)) (x*x+y*y-z-(a*a+b*b-c))/\J.ZgK a b/\J.okT 30 c) /\
    Weak (tu [AV.vec false 20 (List.map Pnt.a (J.Zbk (J.qi 2*(x-a)) (J.qi 2*(y-b)) (x*x+y*y-z-(a*a+b*b-c)) a b c)),vi 0]) dq))) :
 ZgP f1 f2 f3 f4 f5 f6 g1 g2 g3 g4 g5 g6 a b c x y z (Zag dq):=by
 unfold ZgP
 obtain ⟨k1,H⟩:=H
 refine Zae (G:=Zad kp22 [(1,2,.call (vb (decide (a=x/\b=y/\c=z))) none)] []) 5 [] ⟨(atC (cd Tryz.f22) [1,0,1]),[(2,AV.ptr 0 0 0 0),(3,AV.ptr 1 0 0 0),(10,vb (decide (a=x/\b=y/\c=z)))],[⟨[Zaw f1 f2 f3 f4 f5 f6 a b c],12,0,false,false⟩,⟨[Zaw g1 g2 g3 g4 g5 g6 x y z],12,0,false,false⟩],_,[],_⟩ (by kernel_rfl) (bc rfl (bc rfl b0)) q0 (ce (@ev72 f1 f2 f3 f4 f5 f6 g1 g2 g3 g4 g5 g6 a b c x y z k1) c0) ?_
 rcases xq H with ⟨d3,H⟩|⟨d3,H⟩
 ·exact Zah (G:=Zad kp22 [] []) 1000 [true] (tu [AV.vnil,vi 10]) (by kernel_rfl) (bc (Zaq (Zac.2 d3)) b0) q0 c0 H
 ·refine Zae (G:=Zad kp22 [(3,2,.call (vb (decide (a=x/\b=y))) none)] []) 5 [false] ⟨(atC (cd Tryz.f22) [1,1,0,1]),[(2,AV.ptr 0 0 0 0),(3,AV.ptr 1 0 0 0),(13,vb (decide (a=x/\b=y)))],[⟨[Zaw f1 f2 f3 f4 f5 f6 a b c],12,0,false,false⟩,⟨[Zaw g1 g2 g3 g4 g5 g6 x y z],12,0,false,false⟩],_,[],_⟩ (by kernel_rfl) (bc (Zam (fun h=>d3 (Zac.1 h))) (bc rfl (bc rfl b0))) q0 (ce (@ev73 f1 f2 f3 f4 f5 f6 g1 g2 g3 g4 g5 g6 a b c x y z k1) c0) ?_
  rcases xq H with ⟨d5,H⟩|⟨d5,H⟩
  ·exact Zah (G:=Zad kp22 [] []) 1000 [true] (tu [AV.vnil,vi 0]) (by kernel_rfl) (bc (Zaq (Zac.2 d5)) b0) q0 c0 H
  ·obtain ⟨k6,H⟩:=H
   exact Zah (G:=Zad kp22 [(5,2,.call (tu [Zau (J.qi 2*(x-a)) (J.qi 2*(y-b)) (x*x+y*y-z-(a*a+b*b-c)),vi 0]) none),(6,2,.call (AV.vec false 20 (List.map Pnt.a (J.Zbk (J.qi 2*(x-a)) (J.qi 2*(y-b)) (x*x+y*y-z-(a*a+b*b-c)) a b c))) none)] []) 1000 [false] (tu [AV.vec false 20 (List.map Pnt.a (J.Zbk (J.qi 2*(x-a)) (J.qi 2*(y-b)) (x*x+y*y-z-(a*a+b*b-c)) a b c)),vi 0]) (by kernel_rfl) (bc (Zam (fun h=>d5 (Zac.1 h))) (bc rfl (bc rfl (bc rfl (bc rfl (bc rfl b0)))))) q0 (ce (@ev25_n f1 f2 f3 f4 f5 f6 g1 g2 g3 g4 g5 g6 a b c x y z k1 d5) (ce (@ev17 false false false false false false f1 f2 f3 f4 f5 f6 (J.qi 2*(x-a)) (J.qi 2*(y-b)) (x*x+y*y-z-(a*a+b*b-c)) a b c k6) c0)) H
theorem rEq7 (f1 f2 f3 f4 f5 f6 f7 f8 f9 f10 g1 g2 g3 g4 g5 g6 g7 g8 g9 g10:Bool) (ax bx ay by_ c ux vx uy vy d:Rat)  (dq:AV) (H :
  (J.ZdG { ax:=ax,bx:=bx,ay:=ay,by_:=by_,c:=c } /\ J.ZdG { ax:=ux,bx:=vx,ay:=uy,by_:=vy,c:=d }) /\
  vb (J.Zhh { ax:=ax,bx:=bx,ay:=ay,by_:=by_,c:=c } { ax:=ux,bx:=vx,ay:=uy,by_:=vy,c:=d } == 0)=dq) :
 rEq7_at f1 f2 f3 f4 f5 f6 f7 f8 f9 f10 g1 g2 g3 g4 g5 g6 g7 g8 g9 g10 ax bx ay by_ c ux vx uy vy d (Zag dq):=by
 unfold rEq7_at
 obtain ⟨k1,H⟩:=H
 exact Zao (G:=Zad kp37 [(1,2,.call (vi (J.Zhh { ax:=ax,bx:=bx,ay:=ay,by_:=by_,c:=c } { ax:=ux,bx:=vx,ay:=uy,by_:=vy,c:=d })) none)] []) 1000 [] (vb (J.Zhh { ax:=ax,bx:=bx,ay:=ay,by_:=by_,c:=c } { ax:=ux,bx:=vx,ay:=uy,by_:=vy,c:=d } == 0)) (by kernel_rfl) (bc rfl (bc rfl b0)) q0 (ce (@ev70 f1 f2 f3 f4 f5 f6 f7 f8 f9 f10 g1 g2 g3 g4 g5 g6 g7 g8 g9 g10 ax bx ay by_ c ux vx uy vy d k1) c0) H
theorem rGood (u:Bool) (l:List Pnt)  (dq:AV) (H :
  ZdY u l 0 (Zag dq)) :
 rGood_at u l (Zag dq):=by
 unfold rGood_at
 exact Zae (G:=Zad kp63 [] []) 1000 [] ⟨(atC (cd Tryz.f63) [1,0,1,0,0]),[(0,AV.vec u 20 (List.map Pnt.a l)),(3,vi 0)],[],_,[],_⟩ (by kernel_rfl) b0 q0 c0 H
noncomputable abbrev zNmF6 (l:List Pnt) (i:Int):=(Pnt.a (l.getD i.toNat default))
theorem rGoodH (u:Bool) (l:List Pnt) (i:Int)  (dq:AV) (H :
  ((i<(↑l.length:Int))->(J.ZdG (l.getD i.toNat default)) /\
   (0<=i) /\
   (i.toNat<l.length) /\
   ((¬(J.vP (l.getD i.toNat default).ax (l.getD i.toNat default).bx (l.getD i.toNat default).ay (l.getD i.toNat default).by_ (l.getD i.toNat default).c=true))->vb false=dq) /\
   (¬(¬(J.vP (l.getD i.toNat default).ax (l.getD i.toNat default).bx (l.getD i.toNat default).ay (l.getD i.toNat default).by_ (l.getD i.toNat default).c=true))->(-9223372036854775808<=i+1/\i+1<=9223372036854775807) /\
    ZdY u l (i+1) (Zag dq))) /\
  (¬(i<(↑l.length:Int))->vb true=dq)) :
 ZdY u l i (Zag dq):=by
 unfold ZdY
 have w1:(List.map Pnt.a l).length=l.length:=List.length_map ..
 have i2:(decide (i<(↑(List.map Pnt.a l).length:Int)))=true ↔ (i<(↑l.length:Int)):=(by (try rw [w1]);all_goals exact Zac)
 rcases xq H with ⟨d3,H⟩|⟨d3,H⟩
 ·obtain ⟨k4,k6,H⟩:=H
  have i7:(decide (i.toNat<(List.map Pnt.a l).length))=true ↔ (i.toNat<l.length):=(by (try rw [w1]);all_goals exact Zac)
  obtain ⟨k8,H⟩:=H
  refine Zae (G:=Zad kp63 [(4,3,.elem (zNmF6 l i)),(4,4,.call (vb (J.vP (l.getD i.toNat default).ax (l.getD i.toNat default).bx (l.getD i.toNat default).ay (l.getD i.toNat default).by_ (l.getD i.toNat default).c)) none)] []) 9 [true] ⟨(atC (cd Tryz.f63) [1,0,1,0,0,1,0,0,1]),[(0,AV.vec u 20 (List.map Pnt.a l)),(3,vi i),(15,vb !J.vP (l.getD i.toNat default).ax (l.getD i.toNat default).bx (l.getD i.toNat default).ay (l.getD i.toNat default).by_ (l.getD i.toNat default).c)],[],_,[((List.map Pnt.a l).get?Internal i.toNat=some (zNmF6 l i))],_⟩ (by kernel_rfl) (bc (Zaq (i2.2 d3)) (bc (Zac.2 k6) (bc (i7.2 k8) b0))) (qc (Zat k8) q0) (ce (@ev36 false false false false false false false false false false ((l.getD i.toNat default).ax) ((l.getD i.toNat default).bx) ((l.getD i.toNat default).ay) ((l.getD i.toNat default).by_) ((l.getD i.toNat default).c) k4) c0) ?_
  rcases xq H with ⟨d10,H⟩|⟨d10,H⟩
  ·exact Zao (G:=Zad kp63 [] []) 1000 [true] (asm:=[(!J.vP (l.getD i.toNat default).ax (l.getD i.toNat default).bx (l.getD i.toNat default).ay (l.getD i.toNat default).by_ (l.getD i.toNat default).c)==true]) (vb false) (by kernel_rfl) (bc (Zaq ((ZaH (Zas _)).2 d10)) b0) q0 c0 H
  ·obtain ⟨k11,H⟩:=H
   have w12:wi (i+1)=i+1:=wI64 k11
   exact Zae (G:=Zad kp63 [] []) 1000 [false] ⟨(atC (cd Tryz.f63) [1,0,1,0,0]),[(0,AV.vec u 20 (List.map Pnt.a l)),(3,vi (wi (i+1)))],[],[(!J.vP (l.getD i.toNat default).ax (l.getD i.toNat default).bx (l.getD i.toNat default).ay (l.getD i.toNat default).by_ (l.getD i.toNat default).c)==false],[],_⟩ (by kernel_rfl) (bc (Zam (fun h=>d10 ((ZaH (Zas _)).1 h))) b0) q0 c0 (by (try rw [w12]);all_goals exact H)
 ·exact Zao (G:=Zad kp63 [] []) 1000 [false] (vb true) (by kernel_rfl) (bc (Zam (fun h=>d3 (i2.1 h))) b0) q0 c0 H
end Go.Av
