/- PART 5 of the texts of a claim, joined by a program: what each part shows stands at its head. -/
import Derived.Test.YtabdlpimphgfiaaPartfadb3faab9

namespace Go.Av
open Go.Proofs
set_option maxRecDepth 100000
def fi106:Fi:=⟨6,[.tmp 2]⟩
def kp106:List (Nat × List Nat):=[(0,[0]),(1,[2])]
def vIsNaN_at (x:Int) (Q:AV->Heap->Prop):Prop:=Wp M1 (.run fi106 (atC (cd Try.f106) []) [(0,.int .i64 x)] []) Q
theorem call106 {args:List AV} {d:AV} (h:wc M1 fi106 Try.f106 args d):Ev M1 (.pure 106 args) d []:=pcl _ _ (by kernel_rfl) h
theorem vIsNaN (x:Int)  (dq:AV) (H :
  (vb (x != x)) = dq) :
 vIsNaN_at x (Zae dq):=by
 unfold vIsNaN_at
 exact Zag (G:=Zab kp106 [] []) 1000 [] (vb (x != x)) (by kernel_rfl) b0 q0 c0 H
end Go.Av

namespace Go.Av
open Go.Proofs
theorem ev106 (x:Int):Ev M1 (.pure 106 [.int .i64 x]) (.bool false) []:=
 call106 (vIsNaN _ _ (by simp))
end Go.Av

namespace Go.Av
open Go.Proofs
set_option maxRecDepth 100000
def fi38:Fi:=⟨9,[.cell 4 30]⟩
def kp38:List (Nat × List Nat):=[(0,[2,3,4]),(1,[4])]
def fi79:Fi:=⟨20,[.tmp 4]⟩
def kp79:List (Nat × List Nat):=[(0,[0,1]),(1,[0,1,5]),(2,[0,1,5,6]),(3,[0,1,6,11]),(4,[12]),(5,[4]),(6,[4]),(7,[0,1,13]),(8,[4]),(9,[0,1,16]),(10,[4]),(11,[19]),(12,[4]),(13,[4])]
def Zgr (x y:Int) (Q:AV->Heap->Prop):Prop:=Wp M1 (.run fi79 (atC (cd Try.f79) []) [(0,.int .i64 x),(1,.int .i64 y)] []) Q
def vRSub_at (fa ga fb gb:Bool) (r s:Rat) (Q:AV->Heap->Prop):Prop:=Wp M1 (.run fi38 (atC (cd Try.f38) []) [(0,ratA fa ga r),(1,ratA fb gb s)] []) Q
theorem call38 {args:List AV} {d:AV} (h:wc M1 fi38 Try.f38 args d):Ev M1 (.pure 38 args) d []:=pcl _ _ (by kernel_rfl) h
theorem call79 {args:List AV} {d:AV} (h:wc M1 fi79 Try.f79 args d):Ev M1 (.pure 79 args) d []:=pcl _ _ (by kernel_rfl) h
theorem vCmpInt (x y:Int)  (dq:AV) (H :
  ((x < y) -> vi (-1) = dq) /\
  (¬(x < y) -> ((x > y) -> vi 1 = dq) /\
   (¬(x > y) -> vi 0 = dq))) :
 Zgr x y (Zae dq):=by
 unfold Zgr
 refine Zac (G:=Zab kp79 [(1,1,.call (vb false) none),(2,1,.call (vb false) none)] []) 19 [false,false] ⟨(atC (cd Try.f79) [1,1,1,1,1,0,1]),[(0,vi x),(1,vi y),(16,vb (decide (x < y)))],[],_,[],_⟩ (by kernel_rfl) (bc rfl (bc rfl b0)) q0 (ce (@ev106 (x)) (ce (@ev106 (y)) c0)) ?_
 rcases xq H with ⟨d2,H⟩|⟨d2,H⟩
 ·exact Zag (G:=Zab kp79 [] []) 1000 [true] (vi (-1)) (by kernel_rfl) (bc (Zam (Zaa.2 d2)) b0) q0 c0 H
 ·rcases xq H with ⟨d4,H⟩|⟨d4,H⟩
  ·exact Zag (G:=Zab kp79 [] []) 1000 [false,true] (vi 1) (by kernel_rfl) (bc (Zal (fun h => d2 (Zaa.1 h))) (bc (Zam (Zaa.2 d4)) b0)) q0 c0 H
  ·exact Zag (G:=Zab kp79 [] []) 1000 [false,false] (vi 0) (by kernel_rfl) (bc (Zal (fun h => d2 (Zaa.1 h))) (bc (Zal (fun h => d4 (Zaa.1 h))) b0)) q0 c0 H
theorem vRSub (fa ga fb gb:Bool) (r s:Rat)  (dq:AV) (H :
  (Sp.okB s.num) /\
  (Sp.okR r /\ Sp.okR (-s)) /\
  Weak (ratF (r + -s)) dq) :
 vRSub_at fa ga fb gb r s (Zae dq):=by
 unfold vRSub_at
 obtain ⟨k1,k2,H⟩:=H
 exact Zao (G:=Zab kp38 [(1,2,.call (ratF (-s)) none),(1,3,.call (ratF (r + -s)) none)] []) 1000 [] (ratF (r + -s)) (by kernel_rfl) (bc rfl (bc rfl (bc rfl b0))) q0 (ce (@ev44 (fb) (gb) (s) k1) (ce (@ev76 (fa) (ga) (false) (false) (r) (-s) k2) c0)) H
end Go.Av

namespace Go.Av
open Go.Proofs
theorem ev79 (x y:Int):Ev M1 (.pure 79 [.int .i64 x,.int .i64 y]) (.int .i64 (Sp.sgnI (x - y))) []:=by
 refine call79 (vCmpInt _ _ _ ⟨fun h => ?_,fun h => ⟨fun k => ?_,fun k => ?_⟩⟩)
 ·unfold Sp.sgnI;rw [if_pos (by omega)]
 ·unfold Sp.sgnI;rw [if_neg (by omega),if_pos (by omega)]
 ·unfold Sp.sgnI;rw [if_neg (by omega),if_neg (by omega)]
theorem okR_neg {s:Rat} (h:Sp.okR s):Sp.okR (-s):=by
 unfold Sp.okR at *
 rw [Rat.neg_num,Rat.neg_den,Int.natAbs_neg];exact h
theorem ev38 (fa ga fb gb:Bool) (r s:Rat) (h:Sp.okR r /\ Sp.okR s):Ev M1 (.pure 38 [ratA fa ga r,ratA fb gb s]) (ratF (r - s)) []:=by
 refine call38 (vRSub _ _ _ _ _ _ _ ⟨(ZcR h.2).1,⟨h.1,okR_neg h.2⟩,?_⟩)
 rw [<- Rat.sub_eq_add_neg];exact .refl _
theorem sgn_mul (a:Int) {d:Int} (h:0 < d):(a < 0 -> a * d < 0) /\ (a = 0 -> a * d = 0) /\ (0 < a -> 0 < a * d):=
 ⟨fun k => Int.mul_neg_of_neg_of_pos k h,fun k => by rw [k,Int.zero_mul],fun k => Int.mul_pos k h⟩
theorem ev41 (fa ga fb gb:Bool) (r s:Rat) (h:Sp.okR r /\ Sp.okR s):Ev M1 (.pure 41 [ratA fa ga r,ratA fb gb s]) (.int .i64 (Sp.sgnI (r.num * (s.den:Int) - s.num * (r.den:Int)))) []:=by
 obtain ⟨hr,hs⟩:=h
 obtain ⟨r1,r2⟩:=ZcR hr
 obtain ⟨s1,s2⟩:=ZcR hs
 obtain ⟨cr1,cr2⟩:=hr
 obtain ⟨cs1,cs2⟩:=hs
 have m1:=Za6 cr1 (Zbf cs2)
 have m2:=Za6 cs1 (Zbf cr2)
 refine call41 (vRCmp _ _ _ _ _ _ _ ⟨_,ev79 _ _,fun k => ?_,fun _ => ⟨⟨r1,s2⟩,⟨s1,r2⟩,⟨by unfold Sp.okB;omega,by unfold Sp.okB;omega⟩,rfl⟩⟩)
 obtain ⟨a1,a2,a3⟩:=sgn_mul r.num (d:=(s.den:Int)) (by have:=s.den_pos;omega)
 obtain ⟨b1,b2,b3⟩:=sgn_mul s.num (d:=(r.den:Int)) (by have:=r.den_pos;omega)
 congr 1
 generalize r.num * (s.den:Int) = A at a1 a2 a3 ⊢
 generalize s.num * (r.den:Int) = B at b1 b2 b3 ⊢
 unfold Sp.sgnI at k ⊢
 (repeat' split at k) <;> (repeat' split) <;> omega
end Go.Av

namespace Go.Av
open Go.Proofs
abbrev fracA (f g:Bool) (p q:Int):AV:=.agg [.bool (Sp.Zad p),.vec f 1 ((Sp.Zak p).map (.int .u32)),.bool (Sp.Zad q),.vec g 1 ((Sp.Zak q).map (.int .u32))]
theorem val_big {s:Bool} {a:List Int} (hx:∀ x ∈ a,0 <= x) (h:Sp.val s a = true):∃ v:Int,Sp.Zad v = s /\ Sp.Zak v = a:=by
 unfold Sp.val at h
 rw [Bool.and_eq_true,List.all_eq_true] at h
 obtain ⟨h1,h2⟩:=h
 have ha:∀ x ∈ a,0 <= x /\ x < 1000000000:=fun x hm => ⟨hx x hm,by simpa using h1 x hm⟩
 obtain ⟨e,f⟩:=Zeb a ha
 by_cases hl:0 < a.length
 ·rw [show decide (0 < a.length) = true from decide_eq_true hl,cond_true] at h2
  have hn:¬Sp.fits (a.length - 1) (valL a):=by
   intro hf
   have hz:=Zca.1 hf
   have hg:=Zas (n:=a.length) (valL a) (show a.length - 1 < a.length by omega)
   rw [<- e,hz] at hg
   rw [hg] at h2
   simp at h2
  have el:=lim_of f (.inr hn)
  rw [<- e] at el
  refine ⟨Sp.sg s (valL a),?_,by rw [sg_limI];exact el.symm⟩
  rw [sg_neg]
  have:valL a ≠ 0:=by
   intro hz
   apply hn
   rw [hz]
   exact Zca.2 (Nat.zero_div _)
  cases s <;> simp [this]
 ·have:a = []:=List.eq_nil_of_length_eq_zero (by omega)
  subst this
  have hs:s = false:=by simpa using h2
  subst hs
  exact ⟨0,rfl,Zb0⟩
theorem big_inj {v w:Int} (h:Sp.Zak v = Sp.Zak w) (hs:Sp.Zad v = Sp.Zad w):v = w:=by
 have e:v.natAbs = w.natAbs:=by
  have a:=ZdY _ _ (Zaf v.natAbs)
  have b:=ZdY _ _ (Zaf w.natAbs)
  rw [<- a,<- b]
  exact congrArg valL h
 have a:=@Zai v
 have b:=@Zai w
 rw [hs] at a
 have c:=a.symm.trans b
 omega
def Sp.valR (s:Bool) (a:List Int) (t:Bool) (b:List Int):Prop:=∃ r:Rat,Sp.Zad r.num=s/\Sp.Zak r.num=a/\Sp.Zad (r.den:Int)=t/\Sp.Zak (r.den:Int)=b
theorem valR_pq (p q:Int):Sp.valR (Sp.Zad p) (Sp.Zak p) (Sp.Zad q) (Sp.Zak q) ↔ 0 < q /\ Int.gcd p q = 1:=by
 constructor
 ·rintro ⟨r,h1,h2,h3,h4⟩
  have e1:=big_inj h2 h1
  have e2:=big_inj h4 h3
  subst e1;subst e2
  have:=r.den_pos
  exact ⟨by omega,r.reduced⟩
 ·rintro ⟨h1,h2⟩
  obtain ⟨e1,e2⟩:=rat_pos (a:=p) h1
  rw [h2] at e1 e2
  refine ⟨Rat.divInt p q,?_⟩
  rw [e1,e2];simp
theorem valR_val {s t:Bool} {a b:List Int} (h:Sp.valR s a t b):Sp.val s a = true /\ Sp.val t b = true:=by
 obtain ⟨r,rfl,rfl,rfl,rfl⟩:=h
 exact ⟨val_true _,val_true _⟩
end Go.Av

namespace Go.Av
open Go.Proofs
theorem gcd_cnt {a b:Int} (hb:b ≠ 0) (h:Sp.cnt b.natAbs <= 399000):Sp.cnt ((a.gcd b:Nat):Int).natAbs <= 399000 /\ ((a.gcd b:Nat):Int) ≠ 0:=by
 have h1:0 < a.gcd b:=Int.gcd_pos_of_ne_zero_right _ hb
 have h2:a.gcd b <= b.natAbs:=Nat.le_of_dvd (by omega) (Int.gcd_dvd_natAbs_right a b)
 have:=ZaK h2
 rw [Int.natAbs_natCast]
 omega
theorem ev61:Ev M1 (.pure 61 []) (.agg [.bool false,.vec false 1 ((Sp.Zak 1).map (.int .u32))]) []:=
 call61 (rUnit _ ⟨by unfold Sp.inI;omega,.refl _⟩)
theorem ev72 (fa fb:Bool) (a b:Int) (h:Sp.cnt a.natAbs <= 399000 /\ Sp.cnt b.natAbs <= 399000 /\ b ≠ 0):Ev M1 (.pure 72 [bigA fa a,bigA fb b]) (ratF (Rat.divInt a b)) []:=by
 obtain ⟨ha,hb,h0⟩:=h
 have hna:Sp.cnt (-a).natAbs <= 399000:=by rwa [Int.natAbs_neg]
 have hnb:Sp.cnt (-b).natAbs <= 399000:=by rwa [Int.natAbs_neg]
 refine call72 (rOf _ _ _ _ _ ⟨fun k => ?_,fun k => ?_⟩)
 ·rw [ZbD] at k
  obtain ⟨g1,g2⟩:=gcd_cnt (a:=-a) (b:=-b) (by omega) hnb
  obtain ⟨r1,r2⟩:=rat_neg (a:=a) k
  refine ⟨by unfold Sp.ok;omega,by unfold Sp.ok;omega,⟨hna,hnb⟩,⟨hna,g1,g2⟩,⟨hnb,g1,g2⟩,?_⟩
  show Weak _ (AV.agg [.bool (Sp.Zad (Rat.divInt a b).num),.vec false 1 ((Sp.Zak (Rat.divInt a b).num).map (.int .u32)),.bool (Sp.Zad ((Rat.divInt a b).den:Int)),.vec false 1 ((Sp.Zak ((Rat.divInt a b).den:Int)).map (.int .u32))])
  rw [r1,r2,Zc3 g2,Zc3 g2];exact .refl _
 ·rw [ZbD] at k
  obtain ⟨g1,g2⟩:=gcd_cnt (a:=a) (b:=b) h0 hb
  obtain ⟨r1,r2⟩:=rat_pos (a:=a) (show 0 < b by omega)
  refine ⟨⟨ha,hb⟩,⟨ha,g1,g2⟩,⟨hb,g1,g2⟩,?_⟩
  show Weak _ (AV.agg [.bool (Sp.Zad (Rat.divInt a b).num),.vec false 1 ((Sp.Zak (Rat.divInt a b).num).map (.int .u32)),.bool (Sp.Zad ((Rat.divInt a b).den:Int)),.vec false 1 ((Sp.Zak ((Rat.divInt a b).den:Int)).map (.int .u32))])
  rw [r1,r2,Zc3 g2,Zc3 g2];exact .refl _
theorem ev18 (fa ga:Bool) (p q:Int):Ev M1 (.pure 18 [fracA fa ga p q]) (.int .i64 (Sp.sgnI p)) []:=
 call18 (rRSign _ _ _ _ _ rfl)
theorem ev16 (fa ga:Bool) (r:Rat) (h:Sp.ok r.num):Ev M1 (.pure 16 [ratA fa ga r]) (ratF (-r)) []:=by
 refine call16 (rRNeg _ _ _ _ _ ⟨h,?_⟩)
 show Weak _ (AV.agg [.bool (Sp.Zad (-r).num),.vec false 1 ((Sp.Zak (-r).num).map (.int .u32)),.bool (Sp.Zad ((-r).den:Int)),.vec false 1 ((Sp.Zak ((-r).den:Int)).map (.int .u32))])
 rw [Rat.neg_num,Rat.neg_den]
 exact ZdX _ _ _ _ _ _
theorem ev17 (fa ga fb gb:Bool) (r s:Rat) (h:Sp.okR r /\ Sp.okR s):Ev M1 (.pure 17 [ratA fa ga r,ratA fb gb s]) (.bool (decide (r = s))) []:=by
 obtain ⟨⟨h1,h2⟩,⟨h3,h4⟩⟩:=h
 refine call17 (rRSame _ _ _ _ _ _ _ _ _ ⟨by unfold Sp.ok;omega,fun _ => by unfold Sp.ok;rw [Int.natAbs_natCast,Int.natAbs_natCast];omega,?_⟩)
 congr 1
 by_cases e:r = s
 ·subst e;simp
 ·rw [decide_eq_false e]
  by_cases e1:r.num = s.num
  ·have:¬(r.den:Int) = (s.den:Int):=fun e2 => e (Rat.ext e1 (by omega))
   rw [decide_eq_false this];simp
  ·rw [decide_eq_false e1];rfl
end Go.Av

namespace Go.Av
open Go.Proofs
set_option maxRecDepth 100000
def fi14:Fi:=⟨7,[.cell 2 30]⟩
def kp14:List (Nat × List Nat):=[(0,[0,2]),(1,[2])]
def fi15:Fi:=⟨16,[.tmp 4]⟩
def kp15:List (Nat × List Nat):=[(0,[2,3]),(1,[4])]
def fi32:Fi:=⟨12,[.cell 4 30]⟩
def kp32:List (Nat × List Nat):=[(0,[0,1,4]),(1,[0,1,4,6]),(2,[0,1,4]),(3,[4])]
def fi33:Fi:=⟨26,[.tmp 2]⟩
def kp33:List (Nat × List Nat):=[(0,[1]),(1,[1,18]),(2,[2]),(3,[2])]
def fi59:Fi:=⟨26,[.cell 4 30]⟩
def kp59:List (Nat × List Nat):=[(0,[2,3,4]),(1,[2,3,4,5]),(2,[2,3,4,5,6]),(3,[4])]
def rRFrom_at (n:Int) (Q:AV->Heap->Prop):Prop:=Wp M1 (.run fi14 (atC (cd Try.f14) []) [(0,.int .i64 n)] []) Q
def rRAdd_at (fa ga fb gb:Bool) (r s:Rat) (Q:AV->Heap->Prop):Prop:=Wp M1 (.run fi59 (atC (cd Try.f59) []) [(0,ratA fa ga r),(1,ratA fb gb s)] []) Q
def rRCmp_at (fa ga fb gb:Bool) (r s:Rat) (Q:AV->Heap->Prop):Prop:=Wp M1 (.run fi15 (atC (cd Try.f15) []) [(0,ratA fa ga r),(1,ratA fb gb s)] []) Q
def rRFrac_at (n d:Int) (Q:AV->Heap->Prop):Prop:=Wp M1 (.run fi32 (atC (cd Try.f32) []) [(0,.int .i64 n),(1,.int .i64 d)] []) Q
def ZgA (fa ga:Bool) (p q:Int) (Q:AV->Heap->Prop):Prop:=Wp M1 (.run fi33 (atC (cd Try.f33) []) [(0,.agg [.bool (Sp.Zad p),.vec fa 1 ((Sp.Zak p).map (.int .u32)),.bool (Sp.Zad q),.vec ga 1 ((Sp.Zak q).map (.int .u32))])] []) Q
def Zfx (s fa t ga:Bool) (a b:List Int) (Q:AV->Heap->Prop):Prop:=Wp M1 (.run fi33 (atC (cd Try.f33) []) [(0,.agg [.bool s,.vec fa 1 (a.map (.int .u32)),.bool t,.vec ga 1 (b.map (.int .u32))])] []) Q
theorem call14 {args:List AV} {d:AV} (h:wc M1 fi14 Try.f14 args d):Ev M1 (.pure 14 args) d []:=pcl _ _ (by kernel_rfl) h
theorem call15 {args:List AV} {d:AV} (h:wc M1 fi15 Try.f15 args d):Ev M1 (.pure 15 args) d []:=pcl _ _ (by kernel_rfl) h
theorem call32 {args:List AV} {d:AV} (h:wc M1 fi32 Try.f32 args d):Ev M1 (.pure 32 args) d []:=pcl _ _ (by kernel_rfl) h
theorem call33 {args:List AV} {d:AV} (h:wc M1 fi33 Try.f33 args d):Ev M1 (.pure 33 args) d []:=pcl _ _ (by kernel_rfl) h
theorem call59 {args:List AV} {d:AV} (h:wc M1 fi59 Try.f59 args d):Ev M1 (.pure 59 args) d []:=pcl _ _ (by kernel_rfl) h
theorem rRFrom (n:Int)  (dq:AV) (H :
  (Sp.inI n) /\
  Weak (ag [vb (Sp.Zad n),vf (us (Sp.Zak n)),vb false,vf (us (Sp.Zak 1))]) dq) :
 rRFrom_at n (Zae dq):=by
 unfold rRFrom_at
 obtain ⟨k1,H⟩:=H
 exact Zao (G:=Zab kp14 [(1,1,.call (bigA false n) none),(1,2,.call (ag [vb false,vf (us (Sp.Zak 1))]) none)] []) 1000 [] (ag [vb (Sp.Zad n),vf (us (Sp.Zak n)),vb false,vf (us (Sp.Zak 1))]) (by kernel_rfl) (bc rfl b0) q0 (ce (@ev60 (n) k1) (ce (@ev61 ) c0)) H
theorem rRAdd (fa ga fb gb:Bool) (r s:Rat)  (dq:AV) (H :
  (Sp.okB r.num /\ Sp.okB (↑s.den:Int)) /\
  (Sp.okB s.num /\ Sp.okB (↑r.den:Int)) /\
  (Sp.okB (r.num * (↑s.den:Int)) /\ Sp.okB (s.num * (↑r.den:Int))) /\
  (Sp.okB (↑r.den:Int) /\ Sp.okB (↑s.den:Int)) /\
  (Sp.cnt (r.num * (↑s.den:Int) + s.num * (↑r.den:Int)).natAbs <= 399000 /\ Sp.cnt ((↑r.den:Int) * (↑s.den:Int)).natAbs <= 399000 /\ (↑r.den:Int) * (↑s.den:Int) ≠ 0) /\
  Weak (ratF (Rat.divInt (r.num * (↑s.den:Int) + s.num * (↑r.den:Int)) ((↑r.den:Int) * (↑s.den:Int)))) dq) :
 rRAdd_at fa ga fb gb r s (Zae dq):=by
 unfold rRAdd_at
 obtain ⟨k1,k2,k3,k4,k5,H⟩:=H
 exact Zao (G:=Zab kp59 [(1,4,.call (bigA false (r.num * (↑s.den:Int))) none),(2,4,.call (bigA false (s.num * (↑r.den:Int))) none),(3,2,.call (bigA false (r.num * (↑s.den:Int) + s.num * (↑r.den:Int))) none),(3,7,.call (bigA false ((↑r.den:Int) * (↑s.den:Int))) none),(3,8,.call (ratF (Rat.divInt (r.num * (↑s.den:Int) + s.num * (↑r.den:Int)) ((↑r.den:Int) * (↑s.den:Int)))) none)] []) 1000 [] (ratF (Rat.divInt (r.num * (↑s.den:Int) + s.num * (↑r.den:Int)) ((↑r.den:Int) * (↑s.den:Int)))) (by kernel_rfl) (bc rfl (bc rfl (bc rfl (bc rfl (bc rfl (bc rfl (bc rfl (bc rfl (bc rfl (bc rfl (bc rfl b0))))))))))) q0 (ce (@ev63 (fa) (gb) (r.num) ((↑s.den:Int)) k1) (ce (@ev63 (fb) (ga) (s.num) ((↑r.den:Int)) k2) (ce (@ev89 (false) (false) (r.num * (↑s.den:Int)) (s.num * (↑r.den:Int)) k3) (ce (@ev63 (ga) (gb) ((↑r.den:Int)) ((↑s.den:Int)) k4) (ce (@ev72 (false) (false) (r.num * (↑s.den:Int) + s.num * (↑r.den:Int)) ((↑r.den:Int) * (↑s.den:Int)) k5) c0))))) H
theorem rRCmp (fa ga fb gb:Bool) (r s:Rat)  (dq:AV) (H :
  (Sp.okB r.num /\ Sp.okB (↑s.den:Int)) /\
  (Sp.okB s.num /\ Sp.okB (↑r.den:Int)) /\
  (Sp.okB (r.num * (↑s.den:Int)) /\ Sp.okB (s.num * (↑r.den:Int))) /\
  vi (Sp.sgnI (r.num * (↑s.den:Int) - s.num * (↑r.den:Int))) = dq) :
 rRCmp_at fa ga fb gb r s (Zae dq):=by
 unfold rRCmp_at
 obtain ⟨k1,k2,k3,H⟩:=H
 exact Zag (G:=Zab kp15 [(1,4,.call (bigA false (r.num * (↑s.den:Int))) none),(1,9,.call (bigA false (s.num * (↑r.den:Int))) none),(1,10,.call (vi (Sp.sgnI (r.num * (↑s.den:Int) - s.num * (↑r.den:Int)))) none)] []) 1000 [] (vi (Sp.sgnI (r.num * (↑s.den:Int) - s.num * (↑r.den:Int)))) (by kernel_rfl) (bc rfl (bc rfl (bc rfl (bc rfl b0)))) q0 (ce (@ev63 (fa) (gb) (r.num) ((↑s.den:Int)) k1) (ce (@ev63 (fb) (ga) (s.num) ((↑r.den:Int)) k2) (ce (@ev62 (false) (false) (r.num * (↑s.den:Int)) (s.num * (↑r.den:Int)) k3) c0))) H
theorem rRFrac (n d:Int)  (dq:AV) (H :
  ((d = 0) -> (Sp.inI 0) /\
   (Sp.inI 1) /\
   ∃ (b1:Bool) (l1:List (Int)) (b2:Bool) (l2:List (Int)),
   (Ev M1 (Conf.pure 72 [ag [vb false,vf (us (Sp.Zak 0))],ag [vb false,vf (us (Sp.Zak 1))]]) (ag [vb b1,vf (us l1),vb b2,vf (us l2)]) []) /\
   Weak (ag [vb b1,vf (us l1),vb b2,vf (us l2)]) dq) /\
  (¬(d = 0) -> (Sp.inI n) /\
   (Sp.inI d) /\
   (Sp.cnt n.natAbs <= 399000 /\ Sp.cnt d.natAbs <= 399000 /\ d ≠ 0) /\
   Weak (ratF (Rat.divInt n d)) dq)) :
 rRFrac_at n d (Zae dq):=by
 unfold rRFrac_at
 rcases xq H with ⟨d2,H⟩|⟨d2,H⟩
 ·obtain ⟨k3,k4,b1,l1,b2,l2,k5,H⟩:=H
  exact Zao (G:=Zab kp32 [(3,1,.call (ag [vb false,vf (us (Sp.Zak 0))]) none),(3,3,.call (ag [vb false,vf (us (Sp.Zak 1))]) none),(3,4,.call (ag [vb b1,vf (us l1),vb b2,vf (us l2)]) none)] []) 1000 [true] (ag [vb b1,vf (us l1),vb b2,vf (us l2)]) (by kernel_rfl) (bc (Zam (i_eq.2 d2)) (bc rfl b0)) q0 (ce (@ev60 (0) k3) (ce (@ev60 (1) k4) (ce k5 c0))) H
 ·obtain ⟨k6,k7,k8,H⟩:=H
  exact Zao (G:=Zab kp32 [(3,1,.call (bigA false n) none),(3,3,.call (bigA false d) none),(3,4,.call (ratF (Rat.divInt n d)) none)] []) 1000 [false] (ratF (Rat.divInt n d)) (by kernel_rfl) (bc (Zal (fun h => d2 (i_eq.1 h))) (bc rfl b0)) q0 (ce (@ev60 (n) k6) (ce (@ev60 (d) k7) (ce (@ev72 (false) (false) (n) (d) k8) c0))) H
theorem rRValid (fa ga:Bool) (p q:Int)  (dq:AV) (H :
  (Sp.ok p) /\
  (Sp.ok q) /\
  ((¬Sp.sgnI q = 1) -> vb false = dq) /\
  (¬(¬Sp.sgnI q = 1) -> (Sp.cnt p.natAbs <= 399000 /\ Sp.cnt q.natAbs <= 399000) /\
   ∃ (b1:Bool),
   (Ev M1 (Conf.pure 64 [bigA false (↑(p.gcd q):Int),ag [vb false,vf (us (Sp.Zak 1))]]) (vb b1) []) /\
   vb b1 = dq)) :
 ZgA fa ga p q (Zae dq):=by
 unfold ZgA
 obtain ⟨k1,k2,H⟩:=H
 refine Zac (G:=Zab kp33 [(1,2,.call (vb true) none),(1,7,.call (vb true) none),(1,13,.call (vi (Sp.sgnI q)) none)] []) 5 [] ⟨(atC (cd Try.f33) [1,0,1]),[(1,AV.ptr 0 0 0 0),(18,vb (Sp.sgnI q != 1))],[⟨[ag [vb (Sp.Zad p),AV.vec fa 1 (us (Sp.Zak p)),vb (Sp.Zad q),AV.vec ga 1 (us (Sp.Zak q))]],4,0,false,false⟩],_,[],_⟩ (by kernel_rfl) (bc rfl (bc rfl (bc rfl b0))) q0 (ce (@ev73 (fa) (p) k1) (ce (@ev73 (ga) (q) k2) (ce (@ev65 (ga) (q)) c0))) ?_
 rcases xq H with ⟨d4,H⟩|⟨d4,H⟩
 ·exact Zag (G:=Zab kp33 [] []) 1000 [true] (vb false) (by kernel_rfl) (bc (Zam (i_ne.2 d4)) b0) q0 c0 H
 ·obtain ⟨k5,b1,k6,H⟩:=H
  exact Zag (G:=Zab kp33 [(3,4,.call (bigA false (↑(p.gcd q):Int)) none),(3,5,.call (ag [vb false,vf (us (Sp.Zak 1))]) none),(3,6,.call (vb b1) none)] []) 1000 [false] (vb b1) (by kernel_rfl) (bc (Zal (fun h => d4 (i_ne.1 h))) (bc rfl (bc rfl b0))) q0 (ce (@ev74 (fa) (ga) (p) (q) k5) (ce (@ev61 ) (ce k6 c0))) H
noncomputable abbrev zNwH1 (t:Bool) (ga:Bool) (b:List Int):=ag [vb t,AV.vec ga 1 (us b)]
theorem rRValidA (s fa t ga:Bool) (a b:List Int)  (dq:AV) (H :
  (Sp.Zau a.length) /\
  ((¬(¬(Sp.val s a = true))) -> (Sp.Zau b.length)) /\
  ∃ (n1:Int),
  ((¬((¬(Sp.val s a = true)) \/ (¬(Sp.val t b = true)))) -> (Ev M1 (Conf.pure 65 [ag [vb t,AV.vec ga 1 (us b)]]) (vi n1) [])) /\
  ((((¬(Sp.val s a = true)) \/ (¬(Sp.val t b = true))) \/ (¬n1 = 1)) -> vb false = dq) /\
  (¬(((¬(Sp.val s a = true)) \/ (¬(Sp.val t b = true))) \/ (¬n1 = 1)) -> ∃ (b1:Bool) (l1:List (Int)),
   (Ev M1 (Conf.pure 74 [ag [vb s,AV.vec fa 1 (us a)],ag [vb t,AV.vec ga 1 (us b)]]) (ag [vb b1,vf (us l1)]) []) /\
   ∃ (b2:Bool),
   (Ev M1 (Conf.pure 64 [ag [vb b1,vf (us l1)],ag [vb false,vf (us (Sp.Zak 1))]]) (vb b2) []) /\
   vb b2 = dq)) :
 Zfx s fa t ga a b (Zae dq):=by
 unfold Zfx
 obtain ⟨k1,k3,n1,k5,H⟩:=H
 refine Zac (G:=Zab kp33 [(1,2,.call (vb (Sp.val s a)) none),(1,7,.call (vb (Sp.val t b)) none),(1,13,.call (vi n1) none)] []) 5 [] ⟨(atC (cd Try.f33) [1,0,1]),[(1,AV.ptr 0 0 0 0),(18,vb (bif bif !Sp.val s a then true else !Sp.val t b then true else n1 != 1))],[⟨[ag [vb s,AV.vec fa 1 (us a),vb t,AV.vec ga 1 (us b)]],4,0,false,false⟩],[true,!((!Sp.val s a) == false && true) || true,!((bif !Sp.val s a then true else !Sp.val t b) == false && true) || true],[],[⟨true,false,73,[ag [vb s,AV.vec fa 1 (us a)]],[],vb (Sp.val s a),[]⟩,⟨(!Sp.val s a) == false && true && true,false,73,[(zNwH1 t ga b)],[],vb (Sp.val t b),[]⟩,⟨(bif !Sp.val s a then true else !Sp.val t b) == false && true && true,false,65,[(zNwH1 t ga b)],[],vi n1,[]⟩]⟩ (by kernel_rfl) (bc rfl (bc (Bool.or_true _) (bc (Bool.or_true _) b0))) q0 (cc (fun _ => (@ev73_a (s) (fa) (a) k1)) (cc (fun hc => ((@ev73_a (t) (ga) (b) (k3 ((i_at (i_at (i_bf (Za0 (ZbF _))))).1 hc))):Ev M1 (Conf.pure 73 [(zNwH1 t ga b)]) (vb (Sp.val t b)) [])) (cc (fun hc => ((k5 ((i_at (i_at (i_bf (Zbu (Za0 (ZbF _)) (Za0 (ZbF _)))))).1 hc)):Ev M1 (Conf.pure 65 [(zNwH1 t ga b)]) (vi n1) [])) c0))) ?_
 rcases xq H with ⟨d7,H⟩|⟨d7,H⟩
 ·exact Zag (G:=Zab kp33 [] []) 1000 [true] (asm:=[(bif bif !Sp.val s a then true else !Sp.val t b then true else n1 != 1) == true]) (vb false) (by kernel_rfl) (bc (Zam ((Zbu (Zbu (Za0 (ZbF _)) (Za0 (ZbF _))) i_ne).2 d7)) b0) q0 c0 H
 ·obtain ⟨b1,l1,k8,b2,k9,H⟩:=H
  exact Zag (G:=Zab kp33 [(3,4,.call (ag [vb b1,vf (us l1)]) none),(3,5,.call (ag [vb false,vf (us (Sp.Zak 1))]) none),(3,6,.call (vb b2) none)] []) 1000 [false] (asm:=[(bif bif !Sp.val s a then true else !Sp.val t b then true else n1 != 1) == false,true,true]) (vb b2) (by kernel_rfl) (bc (Zal (fun h => d7 ((Zbu (Zbu (Za0 (ZbF _)) (Za0 (ZbF _))) i_ne).1 h))) (bc rfl (bc rfl b0))) q0 (ce k8 (ce (@ev61 ) (ce k9 c0))) H
end Go.Av

namespace Go.Av
open Go.Proofs
set_option maxRecDepth 100000
end Go.Av

namespace Go.Av
open Go.Proofs
def Sp.okA (a b:List Int):Prop:=(a.length<=90000 /\ ∀ x ∈ a,0<=x)/\(b.length<=90000 /\ ∀ x ∈ b,0<=x)
noncomputable def Sp.valB (s:Bool) (a:List Int) (t:Bool) (b:List Int):Bool:=@decide (Sp.valR s a t b) (Classical.propDecidable _)
theorem valB_true {s t:Bool} {a b:List Int}:Sp.valB s a t b=true ↔ Sp.valR s a t b:=@decide_eq_true_iff _ (Classical.propDecidable _)
theorem Zem {s t:Bool} {a b:List Int} (h:¬Sp.valR s a t b):Sp.valB s a t b=false:=@decide_eq_false _ (Classical.propDecidable _) h
theorem valB_eq {s t c:Bool} {a b:List Int} (h:c = true ↔ Sp.valR s a t b):Sp.valB s a t b = c:=by
 cases c with
 | true => exact valB_true.2 (h.1 rfl)
 | false => exact Zem fun k => absurd (h.2 k) (by simp)
theorem okA_big {p q:Int} (h:Sp.okA (Sp.Zak p) (Sp.Zak q)):Sp.cnt p.natAbs <= 90000 /\ Sp.cnt q.natAbs <= 90000:=by
 obtain ⟨⟨h1,_⟩,⟨h2,_⟩⟩:=h
 rw [Za4] at h1 h2
 exact ⟨h1,h2⟩
theorem cnt_gcd {p q:Int} (h:q ≠ 0):Sp.cnt ((p.gcd q:Nat):Int).natAbs <= Sp.cnt q.natAbs:=
 ZaK (Nat.le_of_dvd (by omega) (Int.gcd_dvd_natAbs_right p q))
end Go.Av

namespace Go.Av
open Go.Proofs
theorem ev14 (n:Int) (h:Sp.inI n):Ev M1 (.pure 14 [.int .i64 n]) (ratF (Sp.qi n)) []:=by
 rw [Zby]
 refine call14 (rRFrom _ _ ⟨h,?_⟩)
 show Weak _ (AV.agg [.bool (Sp.Zad (n:Rat).num),.vec false 1 ((Sp.Zak (n:Rat).num).map (.int .u32)),.bool (Sp.Zad ((n:Rat).den:Int)),.vec false 1 ((Sp.Zak ((n:Rat).den:Int)).map (.int .u32))])
 rw [Rat.num_intCast,Rat.den_intCast]
 exact .refl _
theorem ev59 (fa ga fb gb:Bool) (r s:Rat) (h:Sp.okR r /\ Sp.okR s):Ev M1 (.pure 59 [ratA fa ga r,ratA fb gb s]) (ratF (r + s)) []:=by
 obtain ⟨hr,hs⟩:=h
 obtain ⟨r1,r2⟩:=ZcR hr
 obtain ⟨s1,s2⟩:=ZcR hs
 obtain ⟨cr1,cr2⟩:=hr
 obtain ⟨cs1,cs2⟩:=hs
 have m1:=Za6 cr1 (Zbf cs2)
 have m2:=Za6 cs1 (Zbf cr2)
 have m3:=Za6 (Zbf cr2) (Zbf cs2)
 have a1:=Zfi m1 m2
 refine call59 (rRAdd _ _ _ _ _ _ _ ⟨⟨r1,s2⟩,⟨s1,r2⟩,⟨by unfold Sp.okB;omega,by unfold Sp.okB;omega⟩,⟨r2,s2⟩,⟨by omega,by omega,Int.mul_ne_zero (ZcE r) (ZcE s)⟩,?_⟩)
 rw [rat_add];exact .refl _
theorem ev15 (fa ga fb gb:Bool) (r s:Rat) (h:Sp.okR r /\ Sp.okR s):Ev M1 (.pure 15 [ratA fa ga r,ratA fb gb s]) (.int .i64 (Sp.sgnI (r.num * (s.den:Int) - s.num * (r.den:Int)))) []:=by
 obtain ⟨hr,hs⟩:=h
 obtain ⟨r1,r2⟩:=ZcR hr
 obtain ⟨s1,s2⟩:=ZcR hs
 obtain ⟨cr1,cr2⟩:=hr
 obtain ⟨cs1,cs2⟩:=hs
 have m1:=Za6 cr1 (Zbf cs2)
 have m2:=Za6 cs1 (Zbf cr2)
 exact call15 (rRCmp _ _ _ _ _ _ _ ⟨⟨r1,s2⟩,⟨s1,r2⟩,⟨by unfold Sp.okB;omega,by unfold Sp.okB;omega⟩,rfl⟩)
def Sp.okF (n d:Int):Prop:=Sp.inI n/\Sp.inI d/\d ≠ 0
noncomputable def Sp.qf (n d:Int):Rat:=Sp.hid (Rat.divInt n d)
theorem qf_eq (n d:Int):Sp.qf n d=Rat.divInt n d:=hid_eq _
theorem inI_cnt {n:Int} (h:Sp.inI n):Sp.cnt n.natAbs <= 3:=by
 unfold Sp.inI at h
 exact cnt_u64 (by omega)
theorem ev32 (n d:Int) (h:Sp.okF n d):Ev M1 (.pure 32 [.int .i64 n,.int .i64 d]) (ratF (Sp.qf n d)) []:=by
 obtain ⟨h1,h2,h3⟩:=h
 have c1:=inI_cnt h1
 have c2:=inI_cnt h2
 rw [qf_eq]
 exact call32 (rRFrac _ _ _ ⟨fun k => absurd k h3,fun _ => ⟨h1,h2,⟨by omega,by omega,h3⟩,.refl _⟩⟩)
theorem ev33 (s fa t ga:Bool) (a b:List Int) (h:Sp.okA a b):Ev M1 (.pure 33 [.agg [.bool s,.vec fa 1 (a.map (.int .u32)),.bool t,.vec ga 1 (b.map (.int .u32))]]) (.bool (Sp.valB s a t b)) []:=by
 have hs:Sp.Zau a.length /\ Sp.Zau b.length:=by
  obtain ⟨⟨h1,_⟩,⟨h2,_⟩⟩:=h
  unfold Sp.Zau;omega
 by_cases hv:Sp.val s a = true /\ Sp.val t b = true
 ·obtain ⟨p,rfl,rfl⟩:=val_big h.1.2 hv.1
  obtain ⟨q,rfl,rfl⟩:=val_big h.2.2 hv.2
  obtain ⟨o1,o2⟩:=okA_big h
  refine call33 (rRValid _ _ _ _ _ ⟨by unfold Sp.ok;omega,by unfold Sp.ok;omega,fun k => ?_,fun k => ⟨by omega,decide (((p.gcd q:Nat):Int) = 1),ev64 _ _ _ 1 ⟨?_,by unfold Sp.ok;have:=Zf1 (n:=(1:Int).natAbs) (by decide);omega⟩,?_⟩⟩)
  ·rw [Zem]
   rw [valR_pq]
   unfold Sp.sgnI at k
   (repeat' split at k) <;> omega
  ·have hq:0 < q:=by
    unfold Sp.sgnI at k
    (repeat' split at k) <;> omega
   have:=cnt_gcd (p:=p) (q:=q) (by omega)
   unfold Sp.ok;omega
  ·congr 1
   refine (valB_eq ?_).symm
   have hq:0 < q:=by
    unfold Sp.sgnI at k
    (repeat' split at k) <;> omega
   rw [valR_pq,decide_eq_true_iff]
   omega
 ·have hn:¬(Sp.valR s a t b):=fun k => hv (valR_val k)
  have hv':¬Sp.val s a = true \/ ¬Sp.val t b = true:=by
   by_cases k:Sp.val s a = true
   ·exact .inr fun k2 => hv ⟨k,k2⟩
   ·exact .inl k
  refine call33 (rRValidA _ _ _ _ _ _ _ ⟨hs.1,fun _ => hs.2,0,fun k => absurd hv' k,fun _ => ?_,fun k => absurd (.inl hv') k⟩)
  rw [Zem hn]
end Go.Av

namespace Go.Av
open Go.Proofs
end Go.Av

namespace Go.Av
open Go.Proofs
set_option maxRecDepth 100000
def fi9:Fi:=⟨23,[.tmp 4]⟩
def kp9:List (Nat × List Nat):=[(0,[1,2]),(1,[4])]
def fi13:Fi:=⟨9,[.cell 4 30]⟩
def kp13:List (Nat × List Nat):=[(0,[2,3,4]),(1,[4])]
def ZgB (s fa t ga:Bool) (a b:List Int) (n:Int) (Q:AV->Heap->Prop):Prop:=Wp M1 (.run fi9 (atC (cd Try.f9) []) [(0,.agg [.bool s,.vec fa 1 (a.map (.int .u32)),.bool t,.vec ga 1 (b.map (.int .u32))]),(1,.int .i64 n)] []) Q
def rRSub_at (fa ga fb gb:Bool) (r s:Rat) (Q:AV->Heap->Prop):Prop:=Wp M1 (.run fi13 (atC (cd Try.f13) []) [(0,ratA fa ga r),(1,ratA fb gb s)] []) Q
theorem call9 {args:List AV} {d:AV} (h:wc M1 fi9 Try.f9 args d):Ev M1 (.pure 9 args) d []:=pcl _ _ (by kernel_rfl) h
theorem call13 {args:List AV} {d:AV} (h:wc M1 fi13 Try.f13 args d):Ev M1 (.pure 13 args) d []:=pcl _ _ (by kernel_rfl) h
theorem rRSmall (s fa t ga:Bool) (a b:List Int) (n:Int)  (dq:AV) (H :
  ((((↑a.length:Int) <= n) /\ ((↑b.length:Int) <= n)) -> (Sp.okA a b)) /\
  vb (bif bif decide ((↑a.length:Int) <= n) then decide ((↑b.length:Int) <= n) else false then Sp.valB s a t b else false) = dq) :
 ZgB s fa t ga a b n (Zae dq):=by
 unfold ZgB
 have w1:(us a).length = a.length:=List.length_map ..
 have w2:(us b).length = b.length:=List.length_map ..
 have i3:((bif decide ((↑(us a).length:Int) <= n) then decide ((↑(us b).length:Int) <= n) else false) == true && true && true) = true ↔ (((↑a.length:Int) <= n) /\ ((↑b.length:Int) <= n)):=(by (try rw [w1]);(try rw [w2]);all_goals exact (i_at (i_at (i_bt (ZcT Zaa Zaa)))))
 obtain ⟨k4,H⟩:=H
 exact Zag (G:=Zab kp9 [(1,16,.call (vb (Sp.valB s a t b)) none)] []) 1000 [] (asm:=[true,!(decide ((↑(us a).length:Int) <= n) == true && true) || true,!((bif decide ((↑(us a).length:Int) <= n) then decide ((↑(us b).length:Int) <= n) else false) == true && true) || true]) (calls:=[⟨(bif decide ((↑(us a).length:Int) <= n) then decide ((↑(us b).length:Int) <= n) else false) == true && true && true,false,33,[ag [vb s,AV.vec fa 1 (us a),vb t,AV.vec ga 1 (us b)]],[],vb (Sp.valB s a t b),[]⟩]) (vb (bif bif decide ((↑(us a).length:Int) <= n) then decide ((↑(us b).length:Int) <= n) else false then Sp.valB s a t b else false)) (by kernel_rfl) (bc rfl (bc (Bool.or_true _) (bc (Bool.or_true _) b0))) q0 (cc (fun hc => ((@ev33 (s) (fa) (t) (ga) (a) (b) (k4 (i3.1 hc))):Ev M1 (Conf.pure 33 [ag [vb s,AV.vec fa 1 (us a),vb t,AV.vec ga 1 (us b)]]) (vb (Sp.valB s a t b)) [])) c0) (by (try rw [w1]);(try rw [w2]);all_goals exact H)
theorem rRSub (fa ga fb gb:Bool) (r s:Rat)  (dq:AV) (H :
  (Sp.ok s.num) /\
  (Sp.okR r /\ Sp.okR (-s)) /\
  Weak (ratF (r + -s)) dq) :
 rRSub_at fa ga fb gb r s (Zae dq):=by
 unfold rRSub_at
 obtain ⟨k1,k2,H⟩:=H
 exact Zao (G:=Zab kp13 [(1,2,.call (ratF (-s)) none),(1,3,.call (ratF (r + -s)) none)] []) 1000 [] (ratF (r + -s)) (by kernel_rfl) (bc rfl (bc rfl (bc rfl b0))) q0 (ce (@ev16 (fb) (gb) (s) k1) (ce (@ev59 (fa) (ga) (false) (false) (r) (-s) k2) c0)) H
end Go.Av

namespace Go.Av
open Go.Proofs
def Sp.okU (n:Int) (a b:List Int):Prop:=n<=90000/\(∀ x ∈ a,0<=x)/\(∀ x ∈ b,0<=x)
noncomputable def Sp.Zde (n:Int) (s:Bool) (a:List Int) (t:Bool) (b:List Int):Bool:=bif bif decide ((a.length:Int)<=n) then decide ((b.length:Int)<=n) else false then Sp.valB s a t b else false
theorem ev9 (s fa t ga:Bool) (a b:List Int) (n:Int) (h:Sp.okU n a b):Ev M1 (.pure 9 [.agg [.bool s,.vec fa 1 (a.map (.int .u32)),.bool t,.vec ga 1 (b.map (.int .u32))],.int .i64 n]) (.bool (Sp.Zde n s a t b)) []:=by
 obtain ⟨h1,h2,h3⟩:=h
 exact call9 (rRSmall _ _ _ _ _ _ _ _ ⟨fun k => ⟨⟨by omega,h2⟩,⟨by omega,h3⟩⟩,rfl⟩)
theorem smallB_iff {n:Int} {s t:Bool} {a b:List Int}:Sp.Zde n s a t b = true ↔ (a.length:Int) <= n /\ (b.length:Int) <= n /\ Sp.valR s a t b:=by
 unfold Sp.Zde
 by_cases h1:(a.length:Int) <= n
 ·rw [decide_eq_true h1,cond_true]
  by_cases h2:(b.length:Int) <= n
  ·rw [decide_eq_true h2,cond_true,valB_true]
   exact ⟨fun h => ⟨h1,h2,h⟩,fun h => h.2.2⟩
  ·rw [decide_eq_false h2,cond_false]
   exact ⟨fun h => absurd h (by simp),fun h => absurd h.2.1 h2⟩
 ·rw [decide_eq_false h1,cond_false,cond_false]
  exact ⟨fun h => absurd h (by simp),fun h => absurd h.1 h1⟩
theorem ev13 (fa ga fb gb:Bool) (r s:Rat) (h:Sp.okR r /\ Sp.okR s):Ev M1 (.pure 13 [ratA fa ga r,ratA fb gb s]) (ratF (r - s)) []:=by
 refine call13 (rRSub _ _ _ _ _ _ _ ⟨?_,⟨h.1,okR_neg h.2⟩,?_⟩)
 ·have:=h.2.1;unfold Sp.ok;omega
 ·rw [<- Rat.sub_eq_add_neg];exact .refl _
end Go.Av

namespace Go.Av
open Go.Proofs
set_option maxRecDepth 100000
end Go.Av

namespace Go.Av
open Go.Proofs
def Sp.okT (k:Nat) (r:Rat):Prop:=Sp.cnt r.num.natAbs<=k/\Sp.cnt r.den<=k
theorem Zbz {k:Nat} {r:Rat} (h:Sp.okT k r) (hk:k<=90000):Sp.okR r:=⟨Nat.le_trans h.1 hk,Nat.le_trans h.2 hk⟩
theorem okT_le {k m:Nat} {r:Rat} (h:Sp.okT k r) (hk:k<=m):Sp.okT m r:=⟨Nat.le_trans h.1 hk,Nat.le_trans h.2 hk⟩
theorem divInt_le {p q:Int} (hq:q ≠ 0):(Rat.divInt p q).num.natAbs <= p.natAbs /\ (Rat.divInt p q).den <= q.natAbs:=by
 by_cases h:0 < q
 ·obtain ⟨e1,e2⟩:=rat_pos (a:=p) h
  have e3:(Rat.divInt p q).den = ((q / ((p.gcd q:Nat):Int))).natAbs:=by omega
  rw [e1,e3]
  refine ⟨?_,?_⟩
  ·rw [Int.natAbs_ediv_of_dvd (Int.gcd_dvd_left ..)];exact Nat.div_le_self _ _
  ·rw [Int.natAbs_ediv_of_dvd (Int.gcd_dvd_right ..)];exact Nat.div_le_self _ _
 ·obtain ⟨e1,e2⟩:=rat_neg (a:=p) (b:=q) (by omega)
  have e3:(Rat.divInt p q).den = ((-q / (((-p).gcd (-q):Nat):Int))).natAbs:=by omega
  rw [e1,e3]
  refine ⟨?_,?_⟩
  ·rw [Int.natAbs_ediv_of_dvd (Int.gcd_dvd_left ..),Int.natAbs_neg];exact Nat.div_le_self _ _
  ·rw [Int.natAbs_ediv_of_dvd (Int.gcd_dvd_right ..),Int.natAbs_neg];exact Nat.div_le_self _ _
theorem Zex {k m:Nat} {r s:Rat} (h:Sp.okT k r) (h2:Sp.okT m s):Sp.okT (k + m) (r * s):=by
 have e:=divInt_le (p:=r.num * s.num) (q:=(r.den:Int) * (s.den:Int)) (Int.mul_ne_zero (ZcE r) (ZcE s))
 rw [rat_mul] at e
 refine ⟨Nat.le_trans (ZaK e.1) (Za6 h.1 h2.1),Nat.le_trans (ZaK e.2) (Za6 (Zbf h.2) (Zbf h2.2))⟩
theorem okT_add {k m:Nat} {r s:Rat} (h:Sp.okT k r) (h2:Sp.okT m s):Sp.okT (k + m + 1) (r + s):=by
 have e:=divInt_le (p:=r.num * (s.den:Int) + s.num * (r.den:Int)) (q:=(r.den:Int) * (s.den:Int)) (Int.mul_ne_zero (ZcE r) (ZcE s))
 rw [rat_add] at e
 have m1:=Za6 h.1 (Zbf h2.2)
 have m2:=Za6 h2.1 (Zbf h.2)
 have m3:=Za6 (Zbf h.2) (Zbf h2.2)
 have:=Zfi m1 (Nat.le_trans m2 (by omega))
 exact ⟨Nat.le_trans (ZaK e.1) this,Nat.le_trans (ZaK e.2) (Nat.le_trans m3 (by omega))⟩
theorem Zew {k:Nat} {r:Rat} (h:Sp.okT k r):Sp.okT k (-r):=by
 unfold Sp.okT
 rw [Rat.neg_num,Rat.neg_den,Int.natAbs_neg];exact h
theorem Zev {k m:Nat} {r s:Rat} (h:Sp.okT k r) (h2:Sp.okT m s):Sp.okT (k + m + 1) (r - s):=by
 rw [Rat.sub_eq_add_neg];exact okT_add h (Zew h2)
theorem ZaW {n:Int} (h:Sp.inI n):Sp.okT 3 (Sp.qi n):=by
 rw [Zby]
 unfold Sp.okT
 rw [Rat.num_intCast,Rat.den_intCast]
 exact ⟨inI_cnt h,by have:=Zf1 (n:=1) (by decide);omega⟩
def Sp.isCom (b c y z:Rat):Prop:=b=0\/y=0\/c=z
instance (b c y z:Rat):Decidable (Sp.isCom b c y z):=inferInstanceAs (Decidable (_\/_))
end Go.Av

namespace Go.Av
open Go.Proofs
end Go.Av

namespace Go.Av
open Go.Proofs
set_option maxRecDepth 100000
def fi48:Fi:=⟨39,[.tmp 2,.tmp 3]⟩
def kp48:List (Nat × List Nat):=[(0,[1]),(1,[1,15]),(2,[2,3]),(3,[1,4]),(4,[1,4,5]),(5,[1,4,5,21]),(6,[1,4,5]),(7,[1,4,5]),(8,[4,34]),(9,[4]),(10,[2,3])]
def pI64_at (fa:Bool) (a:Int) (Q:AV->Heap->Prop):Prop:=Wp M1 (.run fi48 (atC (cd Try.f48) []) [(0,bigA fa a)] []) Q
def ZdA (fa:Bool) (a u i:Int) (Q:AV->Heap->Prop):Prop:=Wp M1 (.run fi48 (atC (cd Try.f48) [1,1,1,0,1,0,0]) [(1,.ptr 0 0 0 0),(4,.int .u64 u),(5,.int .i64 i)] [⟨[bigA fa a],2,0,false,false⟩]) Q
def pI64N_at (fa:Bool) (a u i:Int) (Q:AV->Heap->Prop):Prop:=Wp M1 (.run fi48 (atC (cd Try.f48) [1,1,1,0,1,0,0]) [(1,.ptr 0 0 0 0),(4,.int .u64 u),(5,.int .i64 i)] [⟨[bigA fa a],2,0,false,false⟩]) Q
theorem call48 {args:List AV} {d:AV} (h:wc M1 fi48 Try.f48 args d):Ev M1 (.pure 48 args) d []:=pcl _ _ (by kernel_rfl) h
noncomputable abbrev zNpE1:=ag [vb false,vf (us (Sp.Zak 9223372036854775807))]
noncomputable abbrev zNpE2:=ag [vb true,vf (us (Sp.Zak (-9223372036854775808)))]
theorem pI64 (fa:Bool) (a:Int)  (dq:AV) (H :
  (Sp.inI (-9223372036854775808)) /\
  ∃ (n1:Int),
  (Ev M1 (Conf.pure 47 [bigA fa a,ag [vb true,vf (us (Sp.Zak (-9223372036854775808)))]]) (vi n1) []) /\
  ((¬(n1 < 0)) -> (Sp.inI 9223372036854775807)) /\
  ∃ (n2:Int),
  ((¬(n1 < 0)) -> (Ev M1 (Conf.pure 47 [bigA fa a,ag [vb false,vf (us (Sp.Zak 9223372036854775807))]]) (vi n2) [])) /\
  (((n1 < 0) \/ (n2 > 0)) -> tu [vi 0,vb false] = dq) /\
  (¬((n1 < 0) \/ (n2 > 0)) -> (-9223372036854775808 <= (↑(Sp.Zak a).length:Int) - 1 /\ (↑(Sp.Zak a).length:Int) - 1 <= 9223372036854775807) /\
   ZdA (fa) (a) (0) ((↑(Sp.Zak a).length:Int) - 1) (Zae dq))) :
 pI64_at fa a (Zae dq):=by
 unfold pI64_at
 obtain ⟨k1,n1,k2,k4,n2,k6,H⟩:=H
 refine Zac (G:=Zab kp48 [(1,1,.call (zNpE2) none),(1,2,.call (vi n1) none),(1,6,.call (zNpE1) none),(1,7,.call (vi n2) none)] []) 5 [] ⟨(atC (cd Try.f48) [1,0,1]),[(1,AV.ptr 0 0 0 0),(15,vb (bif decide (n1 < 0) then true else decide (n2 > 0)))],[⟨[bigA fa a],2,0,false,false⟩],[true,!(decide (n1 < 0) == false && true) || true],[],[⟨true,false,46,[vi (-9223372036854775808)],[],zNpE2,[]⟩,⟨true,false,47,[bigA fa a,zNpE2],[],vi n1,[]⟩,⟨decide (n1 < 0) == false && true && true,false,46,[vi 9223372036854775807],[],zNpE1,[]⟩,⟨decide (n1 < 0) == false && true && true,false,47,[bigA fa a,zNpE1],[],vi n2,[]⟩]⟩ (by kernel_rfl) (bc rfl (bc (Bool.or_true _) b0)) q0 (cc (fun _ => (@ev46 (-9223372036854775808) k1)) (cc (fun _ => k2) (cc (fun hc => ((@ev46 (9223372036854775807) (k4 ((i_at (i_at (i_bf Zaa))).1 hc))):Ev M1 (Conf.pure 46 [vi 9223372036854775807]) (zNpE1) [])) (cc (fun hc => ((k6 ((i_at (i_at (i_bf Zaa))).1 hc)):Ev M1 (Conf.pure 47 [bigA fa a,zNpE1]) (vi n2) [])) c0)))) ?_
 rcases xq H with ⟨d8,H⟩|⟨d8,H⟩
 ·exact Zag (G:=Zab kp48 [] []) 1000 [true] (tu [vi 0,vb false]) (by kernel_rfl) (bc (Zam ((Zbu Zaa Zaa).2 d8)) b0) q0 c0 H
 ·have w9:(us (Sp.Zak a)).length = (Sp.Zak a).length:=List.length_map ..
  obtain ⟨k10,H⟩:=H
  have w11:wi ((↑(Sp.Zak a).length:Int) - 1) = (↑(Sp.Zak a).length:Int) - 1:=wI64 k10
  exact Zac (G:=Zab kp48 [] []) 1000 [false] ⟨(atC (cd Try.f48) [1,1,1,0,1,0,0]),[(1,AV.ptr 0 0 0 0),(4,vw 0),(5,vi (wi ((↑(us (Sp.Zak a)).length:Int) - 1)))],[⟨[bigA fa a],2,0,false,false⟩],_,[],_⟩ (by kernel_rfl) (bc (Zal (fun h => d8 ((Zbu Zaa Zaa).1 h))) (bc rfl b0)) q0 c0 (by (try rw [w9]);(try rw [w11]);all_goals exact H)
theorem pI64H (fa:Bool) (a u i:Int)  (dq:AV) (H :
  ((i >= 0) -> (0 <= i) /\
   (i.toNat < (Sp.Zak a).length) /\
   (0 <= u * 1000000000 /\ u * 1000000000 <= 18446744073709551615) /\
   (0 <= (Sp.Zak a).getD i.toNat default /\ (Sp.Zak a).getD i.toNat default <= 18446744073709551615) /\
   (0 <= u * 1000000000 + (Sp.Zak a).getD i.toNat default /\ u * 1000000000 + (Sp.Zak a).getD i.toNat default <= 18446744073709551615) /\
   (-9223372036854775808 <= i - 1 /\ i - 1 <= 9223372036854775807) /\
   ZdA (fa) (a) (u * 1000000000 + (Sp.Zak a).getD i.toNat default) (i - 1) (Zae dq)) /\
  (¬(i >= 0) -> ((Sp.Zad a = true) -> (0 <= 0 - u /\ 0 - u <= 18446744073709551615) /\
    (-9223372036854775808 <= 0 - u /\ 0 - u <= 9223372036854775807) /\
    tu [vi (0 - u),vb true] = dq) /\
   (¬(Sp.Zad a = true) -> (-9223372036854775808 <= u /\ u <= 9223372036854775807) /\
    tu [vi u,vb true] = dq))) :
 ZdA fa a u i (Zae dq):=by
 unfold ZdA
 rcases xq H with ⟨d2,H⟩|⟨d2,H⟩
 ·obtain ⟨k4,H⟩:=H
  have w5:(us (Sp.Zak a)).length = (Sp.Zak a).length:=List.length_map ..
  have i6:(decide (i.toNat < (us (Sp.Zak a)).length)) = true ↔ (i.toNat < (Sp.Zak a).length):=(by (try rw [w5]);all_goals exact Zaa)
  obtain ⟨k7,k8,H⟩:=H
  have w9:wu (u * 1000000000) = u * 1000000000:=wU64 k8
  obtain ⟨k10,H⟩:=H
  have w11:wu ((Sp.Zak a).getD i.toNat default) = (Sp.Zak a).getD i.toNat default:=wU64 k10
  obtain ⟨k12,H⟩:=H
  have w13:wu (u * 1000000000 + (Sp.Zak a).getD i.toNat default) = u * 1000000000 + (Sp.Zak a).getD i.toNat default:=wU64 k12
  obtain ⟨k14,H⟩:=H
  have w15:wi (i - 1) = i - 1:=wI64 k14
  exact Zac (G:=Zab kp48 [(7,6,.elem (vu ((Sp.Zak a).getD i.toNat default)))] []) 1000 [true] ⟨(atC (cd Try.f48) [1,1,1,0,1,0,0]),[(1,AV.ptr 0 0 0 0),(4,vw (wu (wu (u * 1000000000) + wu ((Sp.Zak a).getD i.toNat default)))),(5,vi (wi (i - 1)))],[⟨[bigA fa a],2,0,false,false⟩],_,[((us (Sp.Zak a)).get?Internal i.toNat = some (vu ((Sp.Zak a).getD i.toNat default)))],_⟩ (by kernel_rfl) (bc (Zam (Zaa.2 d2)) (bc rfl (bc (Zaa.2 k4) (bc (i6.2 k7) b0)))) (qc (Zaq k7) q0) c0 (by (try rw [w9]);(try rw [w11]);(try rw [w13]);(try rw [w15]);all_goals exact H)
 ·rcases xq H with ⟨d17,H⟩|⟨d17,H⟩
  ·obtain ⟨k18,H⟩:=H
   have w19:wu (0 - u) = 0 - u:=wU64 k18
   obtain ⟨k20,H⟩:=H
   have w21:wi (0 - u) = 0 - u:=wI64 k20
   exact Zag (G:=Zab kp48 [] []) 1000 [false,true] (asm:=[(decide (i >= 0)) == false,0 == 0,(Sp.Zad a) == true]) (tu [vi (wi (wu (0 - u))),vb true]) (by kernel_rfl) (bc (Zal (fun h => d2 (Zaa.1 h))) (bc (beq_self_eq_true _) (bc (Zam ((ZbF _).2 d17)) b0))) q0 c0 (by (try rw [w19]);(try rw [w21]);all_goals exact H)
  ·obtain ⟨k22,H⟩:=H
   have w23:wi u = u:=wI64 k22
   exact Zag (G:=Zab kp48 [] []) 1000 [false,false] (asm:=[(decide (i >= 0)) == false,0 == 0,(Sp.Zad a) == false]) (tu [vi (wi u),vb true]) (by kernel_rfl) (bc (Zal (fun h => d2 (Zaa.1 h))) (bc (beq_self_eq_true _) (bc (Zal (fun h => d17 ((ZbF _).1 h))) b0))) q0 c0 (by (try rw [w23]);all_goals exact H)
theorem pI64N (fa:Bool) (a u i:Int)  (dq:AV) (H :
  ((i >= 0) -> (0 <= i) /\
   (i.toNat < (us (Sp.Zak a)).length) /\
   (i.toNat < (Sp.Zak a).length) /\
   ZdA (fa) (a) (IntKind.u64.wrap (IntKind.u64.wrap (u * 1000000000) + IntKind.u64.wrap ((Sp.Zak a).getD i.toNat default))) (IntKind.i64.wrap (i - 1)) (Zae dq)) /\
  (¬(i >= 0) -> ((Sp.Zad a = true) -> tu [vi (IntKind.i64.wrap (IntKind.u64.wrap (0 - u))),vb true] = dq) /\
   (¬(Sp.Zad a = true) -> tu [vi (IntKind.i64.wrap u),vb true] = dq))) :
 pI64N_at fa a u i (Zae dq):=by
 unfold pI64N_at
 rcases xq H with ⟨d2,H⟩|⟨d2,H⟩
 ·obtain ⟨k4,k6,k7,H⟩:=H
  exact Zac (G:=Zab kp48 [(7,6,.elem (vu ((Sp.Zak a).getD i.toNat default)))] []) 1000 [true] ⟨(atC (cd Try.f48) [1,1,1,0,1,0,0]),[(1,AV.ptr 0 0 0 0),(4,vw (wu (wu (u * 1000000000) + wu ((Sp.Zak a).getD i.toNat default)))),(5,vi (wi (i - 1)))],[⟨[bigA fa a],2,0,false,false⟩],_,[((us (Sp.Zak a)).get?Internal i.toNat = some (vu ((Sp.Zak a).getD i.toNat default)))],_⟩ (by kernel_rfl) (bc (Zam (Zaa.2 d2)) (bc rfl (bc (Zaa.2 k4) (bc (Zaa.2 k6) b0)))) (qc (Zaq k7) q0) c0 (H)
 ·rcases xq H with ⟨d9,H⟩|⟨d9,H⟩
  ·exact Zag (G:=Zab kp48 [] []) 1000 [false,true] (asm:=[(decide (i >= 0)) == false,0 == 0,(Sp.Zad a) == true]) (tu [vi (wi (wu (0 - u))),vb true]) (by kernel_rfl) (bc (Zal (fun h => d2 (Zaa.1 h))) (bc (beq_self_eq_true _) (bc (Zam ((ZbF _).2 d9)) b0))) q0 c0 H
  ·exact Zag (G:=Zab kp48 [] []) 1000 [false,false] (asm:=[(decide (i >= 0)) == false,0 == 0,(Sp.Zad a) == false]) (tu [vi (wi u),vb true]) (by kernel_rfl) (bc (Zal (fun h => d2 (Zaa.1 h))) (bc (beq_self_eq_true _) (bc (Zal (fun h => d9 ((ZbF _).1 h))) b0))) q0 c0 H
end Go.Av

namespace Go.Av
open Go.Proofs
theorem cnt3 {a:Int} (h:a.natAbs<1000000000000000000000000000):Sp.cnt a.natAbs<=3:=Zat.1 (by unfold Sp.fits;omega)
theorem okB3 {a:Int} (h:a.natAbs<1000000000000000000000000000):Sp.okB a:=by have:=cnt3 h;unfold Sp.okB;omega
theorem wneg {v:Int} (h:0 < v) (k:v <= 9000000000000000000):IntKind.i64.wrap (IntKind.u64.wrap (0 - v)) = -v:=by
 have e0:(2:Int) ^ IntKind.u64.bits = 18446744073709551616:=rfl
 have e1:(2:Int) ^ IntKind.i64.bits = 18446744073709551616:=rfl
 have e2:(2:Int) ^ (IntKind.i64.bits - 1) = 9223372036854775808:=rfl
 have e3:IntKind.i64.signed = true:=rfl
 have e4:IntKind.u64.signed = false:=rfl
 simp only [IntKind.wrap,e0,e1,e2,e3,e4,Bool.true_and,Bool.false_and,decide_eq_true_eq,Bool.false_eq_true,if_false]
 split <;> omega
theorem no_end {a n1 n2:Int} (h:-2000000000000000000 <= a /\ a <= 2000000000000000000) (e1:n1 = Sp.sgnI (a - -9223372036854775808)) (e2:n2 = Sp.sgnI (a - 9223372036854775807)):¬(n1 < 0 \/ n2 > 0):=by
 subst e1 e2
 rintro (b | b)
 ·rw [ZbD] at b;omega
 ·unfold Sp.sgnI at b
  rw [if_pos (by omega)] at b;omega
theorem bigL {K:Nat} {x v:AV} {c:Int} {b:Bool} (h:Ev M1 (.pure K [x,bigA false c]) v []) (e:Sp.Zad c = b):Ev M1 (.pure K [x,.agg [.bool b,.vec false 1 ((Sp.Zak c).map (.int .u32))]]) v []:=by
 subst e;exact h
theorem ev48 (fa:Bool) (a:Int) (h:-2000000000000000000 <= a /\ a <= 2000000000000000000):Ev M1 (.pure 48 [bigA fa a]) (.tup [.int .i64 a,.bool true]) []:=by
 have hc:=cnt3 (a:=a) (by omega)
 have len:(Sp.Zak a).length = Sp.cnt a.natAbs:=Zaz _
 refine call48 (pI64 fa a _ ⟨by unfold Sp.inI;omega,_,bigL (ev47 fa false a (-9223372036854775808) ⟨okB3 (by omega),okB3 (by decide)⟩) rfl,fun _ => by unfold Sp.inI;omega,_,fun _ => ev47 fa false a 9223372036854775807 ⟨okB3 (by omega),okB3 (by decide)⟩,fun bad => absurd bad (no_end h rfl rfl),fun _ => ⟨by rw [len];omega,?_⟩⟩)
 have loop:∀ k,k <= Sp.cnt a.natAbs -> ZdA fa a ((a.natAbs / 1000000000 ^ k:Nat):Int) ((k:Int) - 1) (Zae (.tup [.int .i64 a,.bool true])):=by
  intro k
  induction k with
  | zero =>
   intro _
   rw [Nat.pow_zero,Nat.div_one]
   by_cases hn:Sp.Zad a = true
   ·have hneg:a < 0:=by simpa [Sp.Zad] using hn
    show pI64N_at fa a ((a.natAbs:Nat):Int) (((0:Nat):Int) - 1) _
    refine pI64N _ _ _ _ _ ⟨fun x => absurd x (by omega),fun _ => ⟨fun _ => ?_,fun x => absurd hn x⟩⟩
    rw [wneg (v:=((a.natAbs:Nat):Int)) (by omega) (by omega),show -((a.natAbs:Nat):Int) = a by omega]
   ·have hp:¬a < 0:=by simpa [Sp.Zad] using hn
    refine pI64H _ _ _ _ _ ⟨fun x => absurd x (by omega),fun _ => ⟨fun x => absurd x hn,fun _ => ⟨by omega,?_⟩⟩⟩
    rw [show ((a.natAbs:Nat):Int) = a by omega]
  | succ k ih =>
   intro hk
   have e1:(((k + 1:Nat):Int) - 1) = (k:Nat):=by omega
   have g:(Sp.Zak a).getD k default = ((a.natAbs / 1000000000 ^ k % 1000000000:Nat):Int):=Zas _ (show k < Sp.cnt a.natAbs by omega)
   have hs:=ZaJ a.natAbs k
   have hb:a.natAbs / 1000000000 ^ k <= a.natAbs:=Nat.div_le_self _ _
   refine pI64H _ _ _ _ _ ⟨fun _ => ?_,fun x => absurd x (by omega)⟩
   rw [e1,Int.toNat_natCast,g,len]
   have e2:((a.natAbs / 1000000000 ^ (k + 1):Nat):Int) * 1000000000 + ((a.natAbs / 1000000000 ^ k % 1000000000:Nat):Int) = ((a.natAbs / 1000000000 ^ k:Nat):Int):=by omega
   rw [e2]
   exact ⟨by omega,by omega,by omega,by omega,by omega,by omega,ih (by omega)⟩
 have l:=loop (Sp.cnt a.natAbs) (Nat.le_refl _)
 rw [ZaB (Zaf _) (Nat.le_refl _)] at l
 rw [len];exact l
namespace Sp
noncomputable def dsA (x y z a s:Int) (q:Rat):Rat:=if s<0 then -(q-qi (alg x y z a)) else q-qi (alg x y z a)
noncomputable def dst (x y z a s r:Int) (q:Rat):Rat:=if a<2 then dsA x y z a s q-qi r else dsA x y z a s q
end Sp
theorem inI_M {n:Int} (h:Sp.pM n):Sp.inI n:=by unfold Sp.pM at h;unfold Sp.inI;omega
theorem okT_ok {k:Nat} {r:Rat} (h:Sp.okT k r) (hk:k<=90000):Sp.ok r.num:=by have:=h.1;unfold Sp.ok;omega
theorem okT_dsA {x y z a s:Int} {q:Rat} (hq:Sp.okT 2 q) (hp:Sp.pP x y z):Sp.okT 6 (Sp.dsA x y z a s q):=by
 have t:=Zev hq (ZaW (inI_M (alg_in hp a)))
 unfold Sp.dsA
 split
 ·exact Zew t
 ·exact t
theorem okT_dst {x y z a s r:Int} {q:Rat} (hq:Sp.okT 2 q) (hp:Sp.pP x y z) (hr:Sp.inI r):Sp.okT 10 (Sp.dst x y z a s r q):=by
 have t:=okT_dsA (a:=a) (s:=s) hq hp
 unfold Sp.dst
 split
 ·exact Zev t (ZaW hr)
 ·exact okT_le t (by omega)
theorem inI_W {a s r:Int} (h:Sp.pW a s r):Sp.inI r:=by have:=h.2.2;unfold Sp.inI;omega
end Go.Av

namespace Go.Av
open Go.Proofs
set_option maxRecDepth 100000
def fi10:Fi:=⟨94,[.cell 12 23,.tmp 13]⟩
def kp10:List (Nat × List Nat):=[(0,[1,2,4,5,6,9,12]),(1,[1,2,4,5,6,9,12,14]),(2,[1,2,4,5,6,9,12,32]),(3,[12,13]),(4,[1,2,4,5,6,9,12,36]),(5,[12,13]),(6,[1,2,4,5,6,9,12,15]),(7,[1,2,4,5,6,9,12,15,16]),(8,[1,2,4,5,6,9,12,15,16,17]),(9,[2,5,6,12,16,17,18]),(10,[2,5,6,12,16,17,18,59]),(11,[12,13]),(12,[2,5,6,12,16,17,19]),(13,[2,5,6,12,16,19,20]),(14,[2,6,12,16,19,73]),(15,[12,13]),(16,[2,6,12,16,21,22]),(17,[2,6,12,16,21,86]),(18,[12,13]),(19,[6,12]),(20,[12,13])]
def ZgF (f g:Bool) (q:Rat) (x y z a s r m:Int) (Q:AV->Heap->Prop):Prop:=Wp M1 (.run fi10 (atC (cd Try.f10) []) [(0,.agg [.int .i64 x,.int .i64 y,.int .i64 z]),(1,.int .i64 a),(2,.int .i64 s),(3,ratA f g q),(4,.int .i64 r),(5,.int .i64 m)] []) Q
def Zeu (f g:Bool) (q:Rat) (x y z s r m:Int) (Q:AV->Heap->Prop):Prop:=Wp M1 (.run fi10 (atC (cd Try.f10) []) [(0,.agg [.int .i64 x,.int .i64 y,.int .i64 z]),(1,.int .i64 0),(2,.int .i64 s),(3,ratA f g q),(4,.int .i64 r),(5,.int .i64 m)] []) Q
def Zet (f g:Bool) (q:Rat) (x y z s r m:Int) (Q:AV->Heap->Prop):Prop:=Wp M1 (.run fi10 (atC (cd Try.f10) []) [(0,.agg [.int .i64 x,.int .i64 y,.int .i64 z]),(1,.int .i64 1),(2,.int .i64 s),(3,ratA f g q),(4,.int .i64 r),(5,.int .i64 m)] []) Q
def Zes (f g:Bool) (q:Rat) (x y z s r m:Int) (Q:AV->Heap->Prop):Prop:=Wp M1 (.run fi10 (atC (cd Try.f10) []) [(0,.agg [.int .i64 x,.int .i64 y,.int .i64 z]),(1,.int .i64 2),(2,.int .i64 s),(3,ratA f g q),(4,.int .i64 r),(5,.int .i64 m)] []) Q
theorem call10 {args:List AV} {d:AV} (h:wc M1 fi10 Try.f10 args d):Ev M1 (.pure 10 args) d []:=pcl _ _ (by kernel_rfl) h
noncomputable abbrev zNpF1:=ag [vi 0,vi 0,vi 0]
theorem pTouchX (f g:Bool) (q:Rat) (x y z a s r m:Int)  (dq:AV) (H :
  (((¬Sp.chk a s r = 0) \/ (m < 0)) -> tu [ag [vi 0,vi 0,vi 0],vi 1] = dq) /\
  (¬((¬Sp.chk a s r = 0) \/ (m < 0)) -> ((¬(Sp.pP x y z)) -> tu [ag [vi 0,vi 0,vi 0],vi 11] = dq) /\
   (¬(¬(Sp.pP x y z)) -> False))) :
 ZgF f g q x y z a s r m (Zae dq):=by
 unfold ZgF
 refine Zac (G:=Zab kp10 [(1,3,.call (vi (Sp.chk a s r)) none)] []) 7 [] ⟨(atC (cd Try.f10) [1,0,1,1]),[(1,vi a),(2,vi s),(4,vi r),(5,vi m),(6,AV.ptr 0 0 0 0),(9,AV.ptr 1 0 0 0),(12,AV.ptr 2 0 0 0),(32,vb (bif Sp.chk a s r != 0 then true else decide (m < 0)))],[⟨[ag [vi x,vi y,vi z]],3,0,false,false⟩,⟨[ratA f g q],4,0,false,false⟩,⟨[zNpF1],3,0,false,false⟩],_,[],_⟩ (by kernel_rfl) b0 q0 (ce (@ev34 (a) (s) (r)) c0) ?_
 rcases xq H with ⟨d2,H⟩|⟨d2,H⟩
 ·exact Zag (G:=Zab kp10 [] []) 1000 [true] (tu [zNpF1,vi 1]) (by kernel_rfl) (bc (Zam ((Zbu i_ne Zaa).2 d2)) (bc rfl b0)) q0 c0 H
 ·refine Zac (G:=Zab kp10 [(4,1,.call (vb (decide (Sp.pP x y z))) none)] []) 5 [false] ⟨(atC (cd Try.f10) [1,1,0,1]),[(1,vi a),(2,vi s),(4,vi r),(5,vi m),(6,AV.ptr 0 0 0 0),(9,AV.ptr 1 0 0 0),(12,AV.ptr 2 0 0 0),(36,vb !decide (Sp.pP x y z))],[⟨[ag [vi x,vi y,vi z]],3,0,false,false⟩,⟨[ratA f g q],4,0,false,false⟩,⟨[zNpF1],3,0,false,false⟩],_,[],_⟩ (by kernel_rfl) (bc (Zal (fun h => d2 ((Zbu i_ne Zaa).1 h))) (bc rfl b0)) q0 (ce (@ev35 (x) (y) (z)) c0) ?_
  rcases xq H with ⟨d4,H⟩|⟨d4,H⟩
  ·exact Zag (G:=Zab kp10 [] []) 1000 [true] (tu [zNpF1,vi 11]) (by kernel_rfl) (bc (Zam ((Za0 Zaa).2 d4)) (bc rfl b0)) q0 c0 H
  ·exact False.elim H
noncomputable abbrev zNpF2:=ag [vi 0,vi 0,vi 0]
noncomputable abbrev zNpF3 (s:Int) (q:Rat) (r:Int):=Sp.pM (-Sp.flo (-(Sp.qi s*q-Sp.qi (Sp.rea 0 r))).num (↑(-(Sp.qi s*q-Sp.qi (Sp.rea 0 r))).den:Int))
noncomputable abbrev zNpF4 (x:Int) (y:Int) (z:Int):=ag [vi x,vi y,vi z]
noncomputable abbrev zNpF5 (s:Int) (q:Rat) (r:Int):=Sp.flo (-(Sp.qi s*q-Sp.qi (Sp.rea 0 r))).num (↑(-(Sp.qi s*q-Sp.qi (Sp.rea 0 r))).den:Int)
noncomputable abbrev zNpF6 (s:Int) (x:Int) (q:Rat) (r:Int):=Sp.sgnI ((Sp.qi (s*x)).num*(↑(Sp.qi s*q-Sp.qi (Sp.rea 0 r)).den:Int)-(Sp.qi s*q-Sp.qi (Sp.rea 0 r)).num*(↑(Sp.qi (s*x)).den:Int))>=0
noncomputable abbrev zNpF7 (s:Int) (q:Rat) (r:Int):=tu [vi (-Sp.flo (-(Sp.qi s*q-Sp.qi (Sp.rea 0 r))).num (↑(-(Sp.qi s*q-Sp.qi (Sp.rea 0 r))).den:Int)),vb true]
noncomputable abbrev zNpF8 (s:Int) (x:Int) (q:Rat) (r:Int):=Sp.sgnI ((Sp.qi (s*x)).num*(↑(Sp.qi s*q-Sp.qi (Sp.rea 0 r)).den:Int)-(Sp.qi s*q-Sp.qi (Sp.rea 0 r)).num*(↑(Sp.qi (s*x)).den:Int))
theorem pTouch0 (f g:Bool) (q:Rat) (x y z s r m:Int)  (dq:AV) (H :
  (((¬Sp.chk 0 s r = 0) \/ (m < 0)) -> tu [ag [vi 0,vi 0,vi 0],vi 1] = dq) /\
  (¬((¬Sp.chk 0 s r = 0) \/ (m < 0)) -> ((¬(Sp.pP x y z)) -> tu [ag [vi 0,vi 0,vi 0],vi 11] = dq) /\
   (¬(¬(Sp.pP x y z)) -> (Sp.inI s) /\
    (-9223372036854775808 <= s * x /\ s * x <= 9223372036854775807) /\
    (Sp.okR (Sp.qi s) /\ Sp.okR q) /\
    (Sp.inI (Sp.rea 0 r)) /\
    (Sp.okR (Sp.qi s * q) /\ Sp.okR (Sp.qi (Sp.rea 0 r))) /\
    (Sp.inI (s * x)) /\
    (Sp.okR (Sp.qi (s * x)) /\ Sp.okR (Sp.qi s * q - Sp.qi (Sp.rea 0 r))) /\
    ((Sp.sgnI ((Sp.qi (s * x)).num * (↑(Sp.qi s * q - Sp.qi (Sp.rea 0 r)).den:Int) - (Sp.qi s * q - Sp.qi (Sp.rea 0 r)).num * (↑(Sp.qi (s * x)).den:Int)) >= 0) -> tu [ag [vi x,vi y,vi z],vi 0] = dq) /\
    (¬(Sp.sgnI ((Sp.qi (s * x)).num * (↑(Sp.qi s * q - Sp.qi (Sp.rea 0 r)).den:Int) - (Sp.qi s * q - Sp.qi (Sp.rea 0 r)).num * (↑(Sp.qi (s * x)).den:Int)) >= 0) -> (Sp.okB (Sp.qi s * q - Sp.qi (Sp.rea 0 r)).num) /\
     (Sp.okB (-(Sp.qi s * q - Sp.qi (Sp.rea 0 r))).num /\ Sp.okB (↑(-(Sp.qi s * q - Sp.qi (Sp.rea 0 r))).den:Int)) /\
     (Sp.okB (Sp.flo (-(Sp.qi s * q - Sp.qi (Sp.rea 0 r))).num (↑(-(Sp.qi s * q - Sp.qi (Sp.rea 0 r))).den:Int))) /\
     (Sp.okB (-Sp.flo (-(Sp.qi s * q - Sp.qi (Sp.rea 0 r))).num (↑(-(Sp.qi s * q - Sp.qi (Sp.rea 0 r))).den:Int)) /\ Sp.okB (s * x)) /\
     (Sp.inI m) /\
     (Sp.okB (-Sp.flo (-(Sp.qi s * q - Sp.qi (Sp.rea 0 r))).num (↑(-(Sp.qi s * q - Sp.qi (Sp.rea 0 r))).den:Int) - s * x) /\ Sp.okB m) /\
     ((Sp.sgnI (-Sp.flo (-(Sp.qi s * q - Sp.qi (Sp.rea 0 r))).num (↑(-(Sp.qi s * q - Sp.qi (Sp.rea 0 r))).den:Int) - s * x - m) > 0) -> tu [ag [vi 0,vi 0,vi 0],vi 4] = dq) /\
     (¬(Sp.sgnI (-Sp.flo (-(Sp.qi s * q - Sp.qi (Sp.rea 0 r))).num (↑(-(Sp.qi s * q - Sp.qi (Sp.rea 0 r))).den:Int) - s * x - m) > 0) -> (-2000000000000000000 <= -Sp.flo (-(Sp.qi s * q - Sp.qi (Sp.rea 0 r))).num (↑(-(Sp.qi s * q - Sp.qi (Sp.rea 0 r))).den:Int) /\ -Sp.flo (-(Sp.qi s * q - Sp.qi (Sp.rea 0 r))).num (↑(-(Sp.qi s * q - Sp.qi (Sp.rea 0 r))).den:Int) <= 2000000000000000000) /\
      ((¬(Sp.pM (-Sp.flo (-(Sp.qi s * q - Sp.qi (Sp.rea 0 r))).num (↑(-(Sp.qi s * q - Sp.qi (Sp.rea 0 r))).den:Int)))) -> tu [ag [vi 0,vi 0,vi 0],vi 11] = dq) /\
      (¬(¬(Sp.pM (-Sp.flo (-(Sp.qi s * q - Sp.qi (Sp.rea 0 r))).num (↑(-(Sp.qi s * q - Sp.qi (Sp.rea 0 r))).den:Int)))) -> (-9223372036854775808 <= s * -Sp.flo (-(Sp.qi s * q - Sp.qi (Sp.rea 0 r))).num (↑(-(Sp.qi s * q - Sp.qi (Sp.rea 0 r))).den:Int) /\ s * -Sp.flo (-(Sp.qi s * q - Sp.qi (Sp.rea 0 r))).num (↑(-(Sp.qi s * q - Sp.qi (Sp.rea 0 r))).den:Int) <= 9223372036854775807) /\
       tu [ag [vi (s * -Sp.flo (-(Sp.qi s * q - Sp.qi (Sp.rea 0 r))).num (↑(-(Sp.qi s * q - Sp.qi (Sp.rea 0 r))).den:Int)),vi y,vi z],vi 0] = dq)))))) :
 Zeu f g q x y z s r m (Zae dq):=by
 unfold Zeu
 refine Zac (G:=Zab kp10 [(1,3,.call (vi (Sp.chk 0 s r)) none)] []) 7 [] ⟨(atC (cd Try.f10) [1,0,1,1]),[(1,vi 0),(2,vi s),(4,vi r),(5,vi m),(6,AV.ptr 0 0 0 0),(9,AV.ptr 1 0 0 0),(12,AV.ptr 2 0 0 0),(32,vb (bif Sp.chk 0 s r != 0 then true else decide (m < 0)))],[⟨[(zNpF4 x y z)],3,0,false,false⟩,⟨[ratA f g q],4,0,false,false⟩,⟨[zNpF2],3,0,false,false⟩],_,[],_⟩ (by kernel_rfl) b0 q0 (ce (@ev34 (0) (s) (r)) c0) ?_
 rcases xq H with ⟨d2,H⟩|⟨d2,H⟩
 ·exact Zag (G:=Zab kp10 [] []) 1000 [true] (tu [zNpF2,vi 1]) (by kernel_rfl) (bc (Zam ((Zbu i_ne Zaa).2 d2)) (bc rfl b0)) q0 c0 H
 ·refine Zac (G:=Zab kp10 [(4,1,.call (vb (decide (Sp.pP x y z))) none)] []) 5 [false] ⟨(atC (cd Try.f10) [1,1,0,1]),[(1,vi 0),(2,vi s),(4,vi r),(5,vi m),(6,AV.ptr 0 0 0 0),(9,AV.ptr 1 0 0 0),(12,AV.ptr 2 0 0 0),(36,vb !decide (Sp.pP x y z))],[⟨[(zNpF4 x y z)],3,0,false,false⟩,⟨[ratA f g q],4,0,false,false⟩,⟨[zNpF2],3,0,false,false⟩],_,[],_⟩ (by kernel_rfl) (bc (Zal (fun h => d2 ((Zbu i_ne Zaa).1 h))) (bc rfl b0)) q0 (ce (@ev35 (x) (y) (z)) c0) ?_
  rcases xq H with ⟨d4,H⟩|⟨d4,H⟩
  ·exact Zag (G:=Zab kp10 [] []) 1000 [true] (tu [zNpF2,vi 11]) (by kernel_rfl) (bc (Zam ((Za0 Zaa).2 d4)) (bc rfl b0)) q0 c0 H
  ·obtain ⟨k5,k6,H⟩:=H
   have w7:wi (s * x) = s * x:=wI64 k6
   obtain ⟨k8,k9,k10,k11,k12,H⟩:=H
   refine Zac (G:=Zab kp10 [(6,1,.call (ratF (Sp.qi s)) none),(7,1,.call (AV.ptr 0 0 0 0) none),(9,2,.call (ratF (Sp.qi s * q)) none),(9,5,.call (vi (Sp.rea 0 r)) none),(9,6,.call (ratF (Sp.qi (Sp.rea 0 r))) none),(9,7,.call (ratF (Sp.qi s * q - Sp.qi (Sp.rea 0 r))) none),(10,1,.call (ratF (Sp.qi (s * x))) none),(10,3,.call (vi (zNpF8 s x q r)) none)] []) 13 [false] ⟨(atC (cd Try.f10) [1,1,1,1,1,1,1,0,1]),[(2,vi s),(5,vi m),(6,AV.ptr 0 0 0 0),(12,AV.ptr 2 0 0 0),(16,AV.ptr 0 0 0 0),(17,vi (wi (s * x))),(18,AV.ptr 4 0 0 0),(59,vb (decide (zNpF6 s x q r)))],[⟨[(zNpF4 x y z)],3,0,false,false⟩,⟨[ratA f g q],4,0,false,false⟩,⟨[zNpF2],3,0,false,false⟩,⟨[ratF (Sp.qi s)],4,0,false,false⟩,⟨[ratF (Sp.qi s * q - Sp.qi (Sp.rea 0 r))],4,0,false,false⟩],_,[],[⟨true,false,36,[vi s],[],ratF (Sp.qi s),[]⟩,⟨true,true,37,[AV.ptr 0 0 0 0,vi 0],[⟨[(zNpF4 x y z)],3,0,false,false⟩],AV.ptr 0 0 0 0,[⟨[(zNpF4 x y z)],3,0,false,false⟩]⟩,⟨true,false,39,[ratF (Sp.qi s),ratA f g q],[],ratF (Sp.qi s * q),[]⟩,⟨true,false,40,[vi 0,vi r],[],vi (Sp.rea 0 r),[]⟩,⟨true,false,36,[vi (Sp.rea 0 r)],[],ratF (Sp.qi (Sp.rea 0 r)),[]⟩,⟨true,false,38,[ratF (Sp.qi s * q),ratF (Sp.qi (Sp.rea 0 r))],[],ratF (Sp.qi s * q - Sp.qi (Sp.rea 0 r)),[]⟩,⟨true,false,36,[vi (wi (s * x))],[],ratF (Sp.qi (s * x)),[]⟩,⟨true,false,41,[ratF (Sp.qi (s * x)),ratF (Sp.qi s * q - Sp.qi (Sp.rea 0 r))],[],vi (zNpF8 s x q r),[]⟩]⟩ (by kernel_rfl) (bc (Zal (fun h => d4 ((Za0 Zaa).1 h))) (bc rfl (bc rfl (bc rfl (bc rfl (bc rfl (bc rfl b0))))))) q0 (cc (fun _ => (@ev36 (s) k5)) (cc (fun _ => (@evo37_a (x) (y) (z))) (cc (fun _ => (@ev39 (false) (false) (f) (g) (Sp.qi s) (q) k8)) (cc (fun _ => (@ev40 (0) (r))) (cc (fun _ => (@ev36 (Sp.rea 0 r) k9)) (cc (fun _ => (@ev38 (false) (false) (false) (false) (Sp.qi s * q) (Sp.qi (Sp.rea 0 r)) k10)) (cc (fun _ => (by (try rw [w7]);all_goals exact (@ev36 (s * x) k11))) (cc (fun _ => (@ev41 (false) (false) (false) (false) (Sp.qi (s * x)) (Sp.qi s * q - Sp.qi (Sp.rea 0 r)) k12)) c0)))))))) ?_
   rcases xq H with ⟨d14,H⟩|⟨d14,H⟩
   ·exact Zag (G:=Zab kp10 [] []) 1000 [true] (tu [(zNpF4 x y z),vi 0]) (by kernel_rfl) (bc (Zam (Zaa.2 d14)) (bc rfl (bc rfl b0))) q0 c0 H
   ·obtain ⟨k15,k16,k17,k18,k19,k20,H⟩:=H
    refine Zac (G:=Zab kp10 [(12,1,.call (ratF (-(Sp.qi s * q - Sp.qi (Sp.rea 0 r)))) none),(12,2,.call (bigA false (zNpF5 s q r)) none),(12,3,.call (bigA false (-Sp.flo (-(Sp.qi s * q - Sp.qi (Sp.rea 0 r))).num (↑(-(Sp.qi s * q - Sp.qi (Sp.rea 0 r))).den:Int))) none),(13,2,.call (bigA false (s * x)) none),(13,3,.call (bigA false (-Sp.flo (-(Sp.qi s * q - Sp.qi (Sp.rea 0 r))).num (↑(-(Sp.qi s * q - Sp.qi (Sp.rea 0 r))).den:Int) - s * x)) none),(14,2,.call (bigA false m) none),(14,3,.call (vi (Sp.sgnI (-Sp.flo (-(Sp.qi s * q - Sp.qi (Sp.rea 0 r))).num (↑(-(Sp.qi s * q - Sp.qi (Sp.rea 0 r))).den:Int) - s * x - m))) none)] []) 9 [false] ⟨(atC (cd Try.f10) [1,1,1,1,1,1,1,1,1,1,0,1]),[(2,vi s),(6,AV.ptr 0 0 0 0),(12,AV.ptr 2 0 0 0),(16,AV.ptr 0 0 0 0),(19,AV.ptr 5 0 0 0),(73,vb (decide (Sp.sgnI (-Sp.flo (-(Sp.qi s * q - Sp.qi (Sp.rea 0 r))).num (↑(-(Sp.qi s * q - Sp.qi (Sp.rea 0 r))).den:Int) - s * x - m) > 0)))],[⟨[(zNpF4 x y z)],3,0,false,false⟩,⟨[ratA f g q],4,0,false,false⟩,⟨[zNpF2],3,0,false,false⟩,⟨[ratF (Sp.qi s)],4,0,false,false⟩,⟨[ratF (Sp.qi s * q - Sp.qi (Sp.rea 0 r))],4,0,false,false⟩,⟨[bigA false (-Sp.flo (-(Sp.qi s * q - Sp.qi (Sp.rea 0 r))).num (↑(-(Sp.qi s * q - Sp.qi (Sp.rea 0 r))).den:Int))],2,0,false,false⟩,⟨[bigA false (-Sp.flo (-(Sp.qi s * q - Sp.qi (Sp.rea 0 r))).num (↑(-(Sp.qi s * q - Sp.qi (Sp.rea 0 r))).den:Int) - s * x)],2,0,false,false⟩],_,[],[pc 44 [ratF (Sp.qi s * q - Sp.qi (Sp.rea 0 r))] (ratF (-(Sp.qi s * q - Sp.qi (Sp.rea 0 r)))),pc 43 [ratF (-(Sp.qi s * q - Sp.qi (Sp.rea 0 r)))] (bigA false (zNpF5 s q r)),pc 42 [bigA false (zNpF5 s q r)] (bigA false (-Sp.flo (-(Sp.qi s * q - Sp.qi (Sp.rea 0 r))).num (↑(-(Sp.qi s * q - Sp.qi (Sp.rea 0 r))).den:Int))),pc 46 [vi (wi (s * x))] (bigA false (s * x)),pc 45 [bigA false (-Sp.flo (-(Sp.qi s * q - Sp.qi (Sp.rea 0 r))).num (↑(-(Sp.qi s * q - Sp.qi (Sp.rea 0 r))).den:Int)),bigA false (s * x)] (bigA false (-Sp.flo (-(Sp.qi s * q - Sp.qi (Sp.rea 0 r))).num (↑(-(Sp.qi s * q - Sp.qi (Sp.rea 0 r))).den:Int) - s * x)),pc 46 [vi m] (bigA false m),pc 47 [bigA false (-Sp.flo (-(Sp.qi s * q - Sp.qi (Sp.rea 0 r))).num (↑(-(Sp.qi s * q - Sp.qi (Sp.rea 0 r))).den:Int) - s * x),bigA false m] (vi (Sp.sgnI (-Sp.flo (-(Sp.qi s * q - Sp.qi (Sp.rea 0 r))).num (↑(-(Sp.qi s * q - Sp.qi (Sp.rea 0 r))).den:Int) - s * x - m)))]⟩ (by kernel_rfl) (bc (Zal (fun h => d14 (Zaa.1 h))) (bc rfl (bc rfl (bc rfl (bc rfl (bc rfl b0)))))) q0 (ce (@ev44 (false) (false) (Sp.qi s * q - Sp.qi (Sp.rea 0 r)) k15) (ce (@ev43 (false) (false) (-(Sp.qi s * q - Sp.qi (Sp.rea 0 r))) k16) (ce (@ev42 (false) (zNpF5 s q r) k17) (ce (by (try rw [w7]);all_goals exact (@ev46 (s * x) k11)) (ce (@ev45 (false) (false) (-Sp.flo (-(Sp.qi s * q - Sp.qi (Sp.rea 0 r))).num (↑(-(Sp.qi s * q - Sp.qi (Sp.rea 0 r))).den:Int)) (s * x) k18) (ce (@ev46 (m) k19) (ce (@ev47 (false) (false) (-Sp.flo (-(Sp.qi s * q - Sp.qi (Sp.rea 0 r))).num (↑(-(Sp.qi s * q - Sp.qi (Sp.rea 0 r))).den:Int) - s * x) (m) k20) c0))))))) ?_
    rcases xq H with ⟨d22,H⟩|⟨d22,H⟩
    ·exact Zag (G:=Zab kp10 [] []) 1000 [true] (tu [zNpF2,vi 4]) (by kernel_rfl) (bc (Zam (Zaa.2 d22)) (bc rfl b0)) q0 c0 H
    ·obtain ⟨k23,H⟩:=H
     refine Zac (G:=Zab kp10 [(16,1,.call ((zNpF7 s q r)) none),(17,4,.call (vb (decide (zNpF3 s q r))) none)] []) 7 [false] ⟨(atC (cd Try.f10) [1,1,1,1,1,1,1,1,1,1,1,1,0,1]),[(2,vi s),(6,AV.ptr 0 0 0 0),(12,AV.ptr 2 0 0 0),(16,AV.ptr 0 0 0 0),(21,vi (-Sp.flo (-(Sp.qi s * q - Sp.qi (Sp.rea 0 r))).num (↑(-(Sp.qi s * q - Sp.qi (Sp.rea 0 r))).den:Int))),(86,vb !decide (zNpF3 s q r))],[⟨[(zNpF4 x y z)],3,0,false,false⟩,⟨[ratA f g q],4,0,false,false⟩,⟨[zNpF2],3,0,false,false⟩,⟨[ratF (Sp.qi s)],4,0,false,false⟩,⟨[ratF (Sp.qi s * q - Sp.qi (Sp.rea 0 r))],4,0,false,false⟩,⟨[bigA false (-Sp.flo (-(Sp.qi s * q - Sp.qi (Sp.rea 0 r))).num (↑(-(Sp.qi s * q - Sp.qi (Sp.rea 0 r))).den:Int))],2,0,false,false⟩,⟨[bigA false (-Sp.flo (-(Sp.qi s * q - Sp.qi (Sp.rea 0 r))).num (↑(-(Sp.qi s * q - Sp.qi (Sp.rea 0 r))).den:Int) - s * x)],2,0,false,false⟩],_,[],[⟨true,false,48,[bigA false (-Sp.flo (-(Sp.qi s * q - Sp.qi (Sp.rea 0 r))).num (↑(-(Sp.qi s * q - Sp.qi (Sp.rea 0 r))).den:Int))],[],(zNpF7 s q r),[]⟩,⟨false == false && true && true,false,49,[vi (-Sp.flo (-(Sp.qi s * q - Sp.qi (Sp.rea 0 r))).num (↑(-(Sp.qi s * q - Sp.qi (Sp.rea 0 r))).den:Int))],[],vb (decide (zNpF3 s q r)),[]⟩]⟩ (by kernel_rfl) (bc (Zal (fun h => d22 (Zaa.1 h))) (bc rfl b0)) q0 (cc (fun _ => (@ev48 (false) (-Sp.flo (-(Sp.qi s * q - Sp.qi (Sp.rea 0 r))).num (↑(-(Sp.qi s * q - Sp.qi (Sp.rea 0 r))).den:Int)) k23)) (cc (fun hc => ((@ev49 (-Sp.flo (-(Sp.qi s * q - Sp.qi (Sp.rea 0 r))).num (↑(-(Sp.qi s * q - Sp.qi (Sp.rea 0 r))).den:Int))):Ev M1 (Conf.pure 49 [vi (-Sp.flo (-(Sp.qi s * q - Sp.qi (Sp.rea 0 r))).num (↑(-(Sp.qi s * q - Sp.qi (Sp.rea 0 r))).den:Int))]) (vb (decide (zNpF3 s q r))) [])) c0)) ?_
     rcases xq H with ⟨d26,H⟩|⟨d26,H⟩
     ·exact Zag (G:=Zab kp10 [] []) 1000 [true] (tu [zNpF2,vi 11]) (by kernel_rfl) (bc (Zam ((Za0 Zaa).2 d26)) (bc rfl b0)) q0 c0 H
     ·obtain ⟨k27,H⟩:=H
      have w28:wi (s * -Sp.flo (-(Sp.qi s * q - Sp.qi (Sp.rea 0 r))).num (↑(-(Sp.qi s * q - Sp.qi (Sp.rea 0 r))).den:Int)) = s * -Sp.flo (-(Sp.qi s * q - Sp.qi (Sp.rea 0 r))).num (↑(-(Sp.qi s * q - Sp.qi (Sp.rea 0 r))).den:Int):=wI64 k27
      exact Zag (G:=Zab kp10 [] []) 1000 [false] (asm:=[(!decide (zNpF3 s q r)) == false,0 == 0,true,true]) (tu [ag [vi (wi (s * -Sp.flo (-(Sp.qi s * q - Sp.qi (Sp.rea 0 r))).num (↑(-(Sp.qi s * q - Sp.qi (Sp.rea 0 r))).den:Int))),vi y,vi z],vi 0]) (by kernel_rfl) (bc (Zal (fun h => d26 ((Za0 Zaa).1 h))) (bc (beq_self_eq_true _) (bc rfl (bc rfl b0)))) q0 c0 (by (try rw [w28]);all_goals exact H)
noncomputable abbrev zNpF9:=ag [vi 0,vi 0,vi 0]
noncomputable abbrev zNpF10 (s:Int) (q:Rat) (r:Int):=Sp.pM (-Sp.flo (-(Sp.qi s*q-Sp.qi (Sp.rea 1 r))).num (↑(-(Sp.qi s*q-Sp.qi (Sp.rea 1 r))).den:Int))
noncomputable abbrev ZeM (x:Int) (y:Int) (z:Int):=ag [vi x,vi y,vi z]
noncomputable abbrev zNpF12 (s:Int) (q:Rat) (r:Int):=Sp.flo (-(Sp.qi s*q-Sp.qi (Sp.rea 1 r))).num (↑(-(Sp.qi s*q-Sp.qi (Sp.rea 1 r))).den:Int)
noncomputable abbrev zNpF13 (s:Int) (y:Int) (q:Rat) (r:Int):=Sp.sgnI ((Sp.qi (s*y)).num*(↑(Sp.qi s*q-Sp.qi (Sp.rea 1 r)).den:Int)-(Sp.qi s*q-Sp.qi (Sp.rea 1 r)).num*(↑(Sp.qi (s*y)).den:Int))>=0
noncomputable abbrev zNpF14 (s:Int) (q:Rat) (r:Int):=tu [vi (-Sp.flo (-(Sp.qi s*q-Sp.qi (Sp.rea 1 r))).num (↑(-(Sp.qi s*q-Sp.qi (Sp.rea 1 r))).den:Int)),vb true]
noncomputable abbrev zNpF15 (s:Int) (y:Int) (q:Rat) (r:Int):=Sp.sgnI ((Sp.qi (s*y)).num*(↑(Sp.qi s*q-Sp.qi (Sp.rea 1 r)).den:Int)-(Sp.qi s*q-Sp.qi (Sp.rea 1 r)).num*(↑(Sp.qi (s*y)).den:Int))
theorem pTouch1 (f g:Bool) (q:Rat) (x y z s r m:Int)  (dq:AV) (H :
  (((¬Sp.chk 1 s r = 0) \/ (m < 0)) -> tu [ag [vi 0,vi 0,vi 0],vi 1] = dq) /\
  (¬((¬Sp.chk 1 s r = 0) \/ (m < 0)) -> ((¬(Sp.pP x y z)) -> tu [ag [vi 0,vi 0,vi 0],vi 11] = dq) /\
   (¬(¬(Sp.pP x y z)) -> (Sp.inI s) /\
    (-9223372036854775808 <= s * y /\ s * y <= 9223372036854775807) /\
    (Sp.okR (Sp.qi s) /\ Sp.okR q) /\
    (Sp.inI (Sp.rea 1 r)) /\
    (Sp.okR (Sp.qi s * q) /\ Sp.okR (Sp.qi (Sp.rea 1 r))) /\
    (Sp.inI (s * y)) /\
    (Sp.okR (Sp.qi (s * y)) /\ Sp.okR (Sp.qi s * q - Sp.qi (Sp.rea 1 r))) /\
    ((Sp.sgnI ((Sp.qi (s * y)).num * (↑(Sp.qi s * q - Sp.qi (Sp.rea 1 r)).den:Int) - (Sp.qi s * q - Sp.qi (Sp.rea 1 r)).num * (↑(Sp.qi (s * y)).den:Int)) >= 0) -> tu [ag [vi x,vi y,vi z],vi 0] = dq) /\
    (¬(Sp.sgnI ((Sp.qi (s * y)).num * (↑(Sp.qi s * q - Sp.qi (Sp.rea 1 r)).den:Int) - (Sp.qi s * q - Sp.qi (Sp.rea 1 r)).num * (↑(Sp.qi (s * y)).den:Int)) >= 0) -> (Sp.okB (Sp.qi s * q - Sp.qi (Sp.rea 1 r)).num) /\
     (Sp.okB (-(Sp.qi s * q - Sp.qi (Sp.rea 1 r))).num /\ Sp.okB (↑(-(Sp.qi s * q - Sp.qi (Sp.rea 1 r))).den:Int)) /\
     (Sp.okB (Sp.flo (-(Sp.qi s * q - Sp.qi (Sp.rea 1 r))).num (↑(-(Sp.qi s * q - Sp.qi (Sp.rea 1 r))).den:Int))) /\
     (Sp.okB (-Sp.flo (-(Sp.qi s * q - Sp.qi (Sp.rea 1 r))).num (↑(-(Sp.qi s * q - Sp.qi (Sp.rea 1 r))).den:Int)) /\ Sp.okB (s * y)) /\
     (Sp.inI m) /\
     (Sp.okB (-Sp.flo (-(Sp.qi s * q - Sp.qi (Sp.rea 1 r))).num (↑(-(Sp.qi s * q - Sp.qi (Sp.rea 1 r))).den:Int) - s * y) /\ Sp.okB m) /\
     ((Sp.sgnI (-Sp.flo (-(Sp.qi s * q - Sp.qi (Sp.rea 1 r))).num (↑(-(Sp.qi s * q - Sp.qi (Sp.rea 1 r))).den:Int) - s * y - m) > 0) -> tu [ag [vi 0,vi 0,vi 0],vi 4] = dq) /\
     (¬(Sp.sgnI (-Sp.flo (-(Sp.qi s * q - Sp.qi (Sp.rea 1 r))).num (↑(-(Sp.qi s * q - Sp.qi (Sp.rea 1 r))).den:Int) - s * y - m) > 0) -> (-2000000000000000000 <= -Sp.flo (-(Sp.qi s * q - Sp.qi (Sp.rea 1 r))).num (↑(-(Sp.qi s * q - Sp.qi (Sp.rea 1 r))).den:Int) /\ -Sp.flo (-(Sp.qi s * q - Sp.qi (Sp.rea 1 r))).num (↑(-(Sp.qi s * q - Sp.qi (Sp.rea 1 r))).den:Int) <= 2000000000000000000) /\
      ((¬(Sp.pM (-Sp.flo (-(Sp.qi s * q - Sp.qi (Sp.rea 1 r))).num (↑(-(Sp.qi s * q - Sp.qi (Sp.rea 1 r))).den:Int)))) -> tu [ag [vi 0,vi 0,vi 0],vi 11] = dq) /\
      (¬(¬(Sp.pM (-Sp.flo (-(Sp.qi s * q - Sp.qi (Sp.rea 1 r))).num (↑(-(Sp.qi s * q - Sp.qi (Sp.rea 1 r))).den:Int)))) -> (-9223372036854775808 <= s * -Sp.flo (-(Sp.qi s * q - Sp.qi (Sp.rea 1 r))).num (↑(-(Sp.qi s * q - Sp.qi (Sp.rea 1 r))).den:Int) /\ s * -Sp.flo (-(Sp.qi s * q - Sp.qi (Sp.rea 1 r))).num (↑(-(Sp.qi s * q - Sp.qi (Sp.rea 1 r))).den:Int) <= 9223372036854775807) /\
       tu [ag [vi x,vi (s * -Sp.flo (-(Sp.qi s * q - Sp.qi (Sp.rea 1 r))).num (↑(-(Sp.qi s * q - Sp.qi (Sp.rea 1 r))).den:Int)),vi z],vi 0] = dq)))))) :
 Zet f g q x y z s r m (Zae dq):=by
 unfold Zet
 refine Zac (G:=Zab kp10 [(1,3,.call (vi (Sp.chk 1 s r)) none)] []) 7 [] ⟨(atC (cd Try.f10) [1,0,1,1]),[(1,vi 1),(2,vi s),(4,vi r),(5,vi m),(6,AV.ptr 0 0 0 0),(9,AV.ptr 1 0 0 0),(12,AV.ptr 2 0 0 0),(32,vb (bif Sp.chk 1 s r != 0 then true else decide (m < 0)))],[⟨[(ZeM x y z)],3,0,false,false⟩,⟨[ratA f g q],4,0,false,false⟩,⟨[zNpF9],3,0,false,false⟩],_,[],_⟩ (by kernel_rfl) b0 q0 (ce (@ev34 (1) (s) (r)) c0) ?_
 rcases xq H with ⟨d2,H⟩|⟨d2,H⟩
 ·exact Zag (G:=Zab kp10 [] []) 1000 [true] (tu [zNpF9,vi 1]) (by kernel_rfl) (bc (Zam ((Zbu i_ne Zaa).2 d2)) (bc rfl b0)) q0 c0 H
 ·refine Zac (G:=Zab kp10 [(4,1,.call (vb (decide (Sp.pP x y z))) none)] []) 5 [false] ⟨(atC (cd Try.f10) [1,1,0,1]),[(1,vi 1),(2,vi s),(4,vi r),(5,vi m),(6,AV.ptr 0 0 0 0),(9,AV.ptr 1 0 0 0),(12,AV.ptr 2 0 0 0),(36,vb !decide (Sp.pP x y z))],[⟨[(ZeM x y z)],3,0,false,false⟩,⟨[ratA f g q],4,0,false,false⟩,⟨[zNpF9],3,0,false,false⟩],_,[],_⟩ (by kernel_rfl) (bc (Zal (fun h => d2 ((Zbu i_ne Zaa).1 h))) (bc rfl b0)) q0 (ce (@ev35 (x) (y) (z)) c0) ?_
  rcases xq H with ⟨d4,H⟩|⟨d4,H⟩
  ·exact Zag (G:=Zab kp10 [] []) 1000 [true] (tu [zNpF9,vi 11]) (by kernel_rfl) (bc (Zam ((Za0 Zaa).2 d4)) (bc rfl b0)) q0 c0 H
  ·obtain ⟨k5,k6,H⟩:=H
   have w7:wi (s * y) = s * y:=wI64 k6
   obtain ⟨k8,k9,k10,k11,k12,H⟩:=H
   refine Zac (G:=Zab kp10 [(6,1,.call (ratF (Sp.qi s)) none),(7,1,.call (AV.ptr 0 0 0 1) none),(9,2,.call (ratF (Sp.qi s * q)) none),(9,5,.call (vi (Sp.rea 1 r)) none),(9,6,.call (ratF (Sp.qi (Sp.rea 1 r))) none),(9,7,.call (ratF (Sp.qi s * q - Sp.qi (Sp.rea 1 r))) none),(10,1,.call (ratF (Sp.qi (s * y))) none),(10,3,.call (vi (zNpF15 s y q r)) none)] []) 13 [false] ⟨(atC (cd Try.f10) [1,1,1,1,1,1,1,0,1]),[(2,vi s),(5,vi m),(6,AV.ptr 0 0 0 0),(12,AV.ptr 2 0 0 0),(16,AV.ptr 0 0 0 1),(17,vi (wi (s * y))),(18,AV.ptr 4 0 0 0),(59,vb (decide (zNpF13 s y q r)))],[⟨[(ZeM x y z)],3,0,false,false⟩,⟨[ratA f g q],4,0,false,false⟩,⟨[zNpF9],3,0,false,false⟩,⟨[ratF (Sp.qi s)],4,0,false,false⟩,⟨[ratF (Sp.qi s * q - Sp.qi (Sp.rea 1 r))],4,0,false,false⟩],_,[],[⟨true,false,36,[vi s],[],ratF (Sp.qi s),[]⟩,⟨true,true,37,[AV.ptr 0 0 0 0,vi 1],[⟨[(ZeM x y z)],3,0,false,false⟩],AV.ptr 0 0 0 1,[⟨[(ZeM x y z)],3,0,false,false⟩]⟩,⟨true,false,39,[ratF (Sp.qi s),ratA f g q],[],ratF (Sp.qi s * q),[]⟩,⟨true,false,40,[vi 1,vi r],[],vi (Sp.rea 1 r),[]⟩,⟨true,false,36,[vi (Sp.rea 1 r)],[],ratF (Sp.qi (Sp.rea 1 r)),[]⟩,⟨true,false,38,[ratF (Sp.qi s * q),ratF (Sp.qi (Sp.rea 1 r))],[],ratF (Sp.qi s * q - Sp.qi (Sp.rea 1 r)),[]⟩,⟨true,false,36,[vi (wi (s * y))],[],ratF (Sp.qi (s * y)),[]⟩,⟨true,false,41,[ratF (Sp.qi (s * y)),ratF (Sp.qi s * q - Sp.qi (Sp.rea 1 r))],[],vi (zNpF15 s y q r),[]⟩]⟩ (by kernel_rfl) (bc (Zal (fun h => d4 ((Za0 Zaa).1 h))) (bc rfl (bc rfl (bc rfl (bc rfl (bc rfl (bc rfl b0))))))) q0 (cc (fun _ => (@ev36 (s) k5)) (cc (fun _ => (@evo37_b (x) (y) (z))) (cc (fun _ => (@ev39 (false) (false) (f) (g) (Sp.qi s) (q) k8)) (cc (fun _ => (@ev40 (1) (r))) (cc (fun _ => (@ev36 (Sp.rea 1 r) k9)) (cc (fun _ => (@ev38 (false) (false) (false) (false) (Sp.qi s * q) (Sp.qi (Sp.rea 1 r)) k10)) (cc (fun _ => (by (try rw [w7]);all_goals exact (@ev36 (s * y) k11))) (cc (fun _ => (@ev41 (false) (false) (false) (false) (Sp.qi (s * y)) (Sp.qi s * q - Sp.qi (Sp.rea 1 r)) k12)) c0)))))))) ?_
   rcases xq H with ⟨d14,H⟩|⟨d14,H⟩
   ·exact Zag (G:=Zab kp10 [] []) 1000 [true] (tu [(ZeM x y z),vi 0]) (by kernel_rfl) (bc (Zam (Zaa.2 d14)) (bc rfl (bc rfl b0))) q0 c0 H
   ·obtain ⟨k15,k16,k17,k18,k19,k20,H⟩:=H
    refine Zac (G:=Zab kp10 [(12,1,.call (ratF (-(Sp.qi s * q - Sp.qi (Sp.rea 1 r)))) none),(12,2,.call (bigA false (zNpF12 s q r)) none),(12,3,.call (bigA false (-Sp.flo (-(Sp.qi s * q - Sp.qi (Sp.rea 1 r))).num (↑(-(Sp.qi s * q - Sp.qi (Sp.rea 1 r))).den:Int))) none),(13,2,.call (bigA false (s * y)) none),(13,3,.call (bigA false (-Sp.flo (-(Sp.qi s * q - Sp.qi (Sp.rea 1 r))).num (↑(-(Sp.qi s * q - Sp.qi (Sp.rea 1 r))).den:Int) - s * y)) none),(14,2,.call (bigA false m) none),(14,3,.call (vi (Sp.sgnI (-Sp.flo (-(Sp.qi s * q - Sp.qi (Sp.rea 1 r))).num (↑(-(Sp.qi s * q - Sp.qi (Sp.rea 1 r))).den:Int) - s * y - m))) none)] []) 9 [false] ⟨(atC (cd Try.f10) [1,1,1,1,1,1,1,1,1,1,0,1]),[(2,vi s),(6,AV.ptr 0 0 0 0),(12,AV.ptr 2 0 0 0),(16,AV.ptr 0 0 0 1),(19,AV.ptr 5 0 0 0),(73,vb (decide (Sp.sgnI (-Sp.flo (-(Sp.qi s * q - Sp.qi (Sp.rea 1 r))).num (↑(-(Sp.qi s * q - Sp.qi (Sp.rea 1 r))).den:Int) - s * y - m) > 0)))],[⟨[(ZeM x y z)],3,0,false,false⟩,⟨[ratA f g q],4,0,false,false⟩,⟨[zNpF9],3,0,false,false⟩,⟨[ratF (Sp.qi s)],4,0,false,false⟩,⟨[ratF (Sp.qi s * q - Sp.qi (Sp.rea 1 r))],4,0,false,false⟩,⟨[bigA false (-Sp.flo (-(Sp.qi s * q - Sp.qi (Sp.rea 1 r))).num (↑(-(Sp.qi s * q - Sp.qi (Sp.rea 1 r))).den:Int))],2,0,false,false⟩,⟨[bigA false (-Sp.flo (-(Sp.qi s * q - Sp.qi (Sp.rea 1 r))).num (↑(-(Sp.qi s * q - Sp.qi (Sp.rea 1 r))).den:Int) - s * y)],2,0,false,false⟩],_,[],[pc 44 [ratF (Sp.qi s * q - Sp.qi (Sp.rea 1 r))] (ratF (-(Sp.qi s * q - Sp.qi (Sp.rea 1 r)))),pc 43 [ratF (-(Sp.qi s * q - Sp.qi (Sp.rea 1 r)))] (bigA false (zNpF12 s q r)),pc 42 [bigA false (zNpF12 s q r)] (bigA false (-Sp.flo (-(Sp.qi s * q - Sp.qi (Sp.rea 1 r))).num (↑(-(Sp.qi s * q - Sp.qi (Sp.rea 1 r))).den:Int))),pc 46 [vi (wi (s * y))] (bigA false (s * y)),pc 45 [bigA false (-Sp.flo (-(Sp.qi s * q - Sp.qi (Sp.rea 1 r))).num (↑(-(Sp.qi s * q - Sp.qi (Sp.rea 1 r))).den:Int)),bigA false (s * y)] (bigA false (-Sp.flo (-(Sp.qi s * q - Sp.qi (Sp.rea 1 r))).num (↑(-(Sp.qi s * q - Sp.qi (Sp.rea 1 r))).den:Int) - s * y)),pc 46 [vi m] (bigA false m),pc 47 [bigA false (-Sp.flo (-(Sp.qi s * q - Sp.qi (Sp.rea 1 r))).num (↑(-(Sp.qi s * q - Sp.qi (Sp.rea 1 r))).den:Int) - s * y),bigA false m] (vi (Sp.sgnI (-Sp.flo (-(Sp.qi s * q - Sp.qi (Sp.rea 1 r))).num (↑(-(Sp.qi s * q - Sp.qi (Sp.rea 1 r))).den:Int) - s * y - m)))]⟩ (by kernel_rfl) (bc (Zal (fun h => d14 (Zaa.1 h))) (bc rfl (bc rfl (bc rfl (bc rfl (bc rfl b0)))))) q0 (ce (@ev44 (false) (false) (Sp.qi s * q - Sp.qi (Sp.rea 1 r)) k15) (ce (@ev43 (false) (false) (-(Sp.qi s * q - Sp.qi (Sp.rea 1 r))) k16) (ce (@ev42 (false) (zNpF12 s q r) k17) (ce (by (try rw [w7]);all_goals exact (@ev46 (s * y) k11)) (ce (@ev45 (false) (false) (-Sp.flo (-(Sp.qi s * q - Sp.qi (Sp.rea 1 r))).num (↑(-(Sp.qi s * q - Sp.qi (Sp.rea 1 r))).den:Int)) (s * y) k18) (ce (@ev46 (m) k19) (ce (@ev47 (false) (false) (-Sp.flo (-(Sp.qi s * q - Sp.qi (Sp.rea 1 r))).num (↑(-(Sp.qi s * q - Sp.qi (Sp.rea 1 r))).den:Int) - s * y) (m) k20) c0))))))) ?_
    rcases xq H with ⟨d22,H⟩|⟨d22,H⟩
    ·exact Zag (G:=Zab kp10 [] []) 1000 [true] (tu [zNpF9,vi 4]) (by kernel_rfl) (bc (Zam (Zaa.2 d22)) (bc rfl b0)) q0 c0 H
    ·obtain ⟨k23,H⟩:=H
     refine Zac (G:=Zab kp10 [(16,1,.call ((zNpF14 s q r)) none),(17,4,.call (vb (decide (zNpF10 s q r))) none)] []) 7 [false] ⟨(atC (cd Try.f10) [1,1,1,1,1,1,1,1,1,1,1,1,0,1]),[(2,vi s),(6,AV.ptr 0 0 0 0),(12,AV.ptr 2 0 0 0),(16,AV.ptr 0 0 0 1),(21,vi (-Sp.flo (-(Sp.qi s * q - Sp.qi (Sp.rea 1 r))).num (↑(-(Sp.qi s * q - Sp.qi (Sp.rea 1 r))).den:Int))),(86,vb !decide (zNpF10 s q r))],[⟨[(ZeM x y z)],3,0,false,false⟩,⟨[ratA f g q],4,0,false,false⟩,⟨[zNpF9],3,0,false,false⟩,⟨[ratF (Sp.qi s)],4,0,false,false⟩,⟨[ratF (Sp.qi s * q - Sp.qi (Sp.rea 1 r))],4,0,false,false⟩,⟨[bigA false (-Sp.flo (-(Sp.qi s * q - Sp.qi (Sp.rea 1 r))).num (↑(-(Sp.qi s * q - Sp.qi (Sp.rea 1 r))).den:Int))],2,0,false,false⟩,⟨[bigA false (-Sp.flo (-(Sp.qi s * q - Sp.qi (Sp.rea 1 r))).num (↑(-(Sp.qi s * q - Sp.qi (Sp.rea 1 r))).den:Int) - s * y)],2,0,false,false⟩],_,[],[⟨true,false,48,[bigA false (-Sp.flo (-(Sp.qi s * q - Sp.qi (Sp.rea 1 r))).num (↑(-(Sp.qi s * q - Sp.qi (Sp.rea 1 r))).den:Int))],[],(zNpF14 s q r),[]⟩,⟨false == false && true && true,false,49,[vi (-Sp.flo (-(Sp.qi s * q - Sp.qi (Sp.rea 1 r))).num (↑(-(Sp.qi s * q - Sp.qi (Sp.rea 1 r))).den:Int))],[],vb (decide (zNpF10 s q r)),[]⟩]⟩ (by kernel_rfl) (bc (Zal (fun h => d22 (Zaa.1 h))) (bc rfl b0)) q0 (cc (fun _ => (@ev48 (false) (-Sp.flo (-(Sp.qi s * q - Sp.qi (Sp.rea 1 r))).num (↑(-(Sp.qi s * q - Sp.qi (Sp.rea 1 r))).den:Int)) k23)) (cc (fun hc => ((@ev49 (-Sp.flo (-(Sp.qi s * q - Sp.qi (Sp.rea 1 r))).num (↑(-(Sp.qi s * q - Sp.qi (Sp.rea 1 r))).den:Int))):Ev M1 (Conf.pure 49 [vi (-Sp.flo (-(Sp.qi s * q - Sp.qi (Sp.rea 1 r))).num (↑(-(Sp.qi s * q - Sp.qi (Sp.rea 1 r))).den:Int))]) (vb (decide (zNpF10 s q r))) [])) c0)) ?_
     rcases xq H with ⟨d26,H⟩|⟨d26,H⟩
     ·exact Zag (G:=Zab kp10 [] []) 1000 [true] (tu [zNpF9,vi 11]) (by kernel_rfl) (bc (Zam ((Za0 Zaa).2 d26)) (bc rfl b0)) q0 c0 H
     ·obtain ⟨k27,H⟩:=H
      have w28:wi (s * -Sp.flo (-(Sp.qi s * q - Sp.qi (Sp.rea 1 r))).num (↑(-(Sp.qi s * q - Sp.qi (Sp.rea 1 r))).den:Int)) = s * -Sp.flo (-(Sp.qi s * q - Sp.qi (Sp.rea 1 r))).num (↑(-(Sp.qi s * q - Sp.qi (Sp.rea 1 r))).den:Int):=wI64 k27
      exact Zag (G:=Zab kp10 [] []) 1000 [false] (asm:=[(!decide (zNpF10 s q r)) == false,0 == 0,true,true]) (tu [ag [vi x,vi (wi (s * -Sp.flo (-(Sp.qi s * q - Sp.qi (Sp.rea 1 r))).num (↑(-(Sp.qi s * q - Sp.qi (Sp.rea 1 r))).den:Int))),vi z],vi 0]) (by kernel_rfl) (bc (Zal (fun h => d26 ((Za0 Zaa).1 h))) (bc (beq_self_eq_true _) (bc rfl (bc rfl b0)))) q0 c0 (by (try rw [w28]);all_goals exact H)
noncomputable abbrev ZdV:=ag [vi 0,vi 0,vi 0]
noncomputable abbrev zNpF17 (s:Int) (q:Rat) (r:Int):=Sp.pM (-Sp.flo (-(Sp.qi s*q-Sp.qi (Sp.rea 2 r))).num (↑(-(Sp.qi s*q-Sp.qi (Sp.rea 2 r))).den:Int))
noncomputable abbrev ZeL (x:Int) (y:Int) (z:Int):=ag [vi x,vi y,vi z]
noncomputable abbrev zNpF19 (s:Int) (q:Rat) (r:Int):=Sp.flo (-(Sp.qi s*q-Sp.qi (Sp.rea 2 r))).num (↑(-(Sp.qi s*q-Sp.qi (Sp.rea 2 r))).den:Int)
noncomputable abbrev zNpF20 (s:Int) (z:Int) (q:Rat) (r:Int):=Sp.sgnI ((Sp.qi (s*z)).num*(↑(Sp.qi s*q-Sp.qi (Sp.rea 2 r)).den:Int)-(Sp.qi s*q-Sp.qi (Sp.rea 2 r)).num*(↑(Sp.qi (s*z)).den:Int))>=0
noncomputable abbrev zNpF21 (s:Int) (q:Rat) (r:Int):=tu [vi (-Sp.flo (-(Sp.qi s*q-Sp.qi (Sp.rea 2 r))).num (↑(-(Sp.qi s*q-Sp.qi (Sp.rea 2 r))).den:Int)),vb true]
noncomputable abbrev zNpF22 (s:Int) (z:Int) (q:Rat) (r:Int):=Sp.sgnI ((Sp.qi (s*z)).num*(↑(Sp.qi s*q-Sp.qi (Sp.rea 2 r)).den:Int)-(Sp.qi s*q-Sp.qi (Sp.rea 2 r)).num*(↑(Sp.qi (s*z)).den:Int))
theorem pTouch2 (f g:Bool) (q:Rat) (x y z s r m:Int)  (dq:AV) (H :
  (((¬Sp.chk 2 s r = 0) \/ (m < 0)) -> tu [ag [vi 0,vi 0,vi 0],vi 1] = dq) /\
  (¬((¬Sp.chk 2 s r = 0) \/ (m < 0)) -> ((¬(Sp.pP x y z)) -> tu [ag [vi 0,vi 0,vi 0],vi 11] = dq) /\
   (¬(¬(Sp.pP x y z)) -> (Sp.inI s) /\
    (-9223372036854775808 <= s * z /\ s * z <= 9223372036854775807) /\
    (Sp.okR (Sp.qi s) /\ Sp.okR q) /\
    (Sp.inI (Sp.rea 2 r)) /\
    (Sp.okR (Sp.qi s * q) /\ Sp.okR (Sp.qi (Sp.rea 2 r))) /\
    (Sp.inI (s * z)) /\
    (Sp.okR (Sp.qi (s * z)) /\ Sp.okR (Sp.qi s * q - Sp.qi (Sp.rea 2 r))) /\
    ((Sp.sgnI ((Sp.qi (s * z)).num * (↑(Sp.qi s * q - Sp.qi (Sp.rea 2 r)).den:Int) - (Sp.qi s * q - Sp.qi (Sp.rea 2 r)).num * (↑(Sp.qi (s * z)).den:Int)) >= 0) -> tu [ag [vi x,vi y,vi z],vi 0] = dq) /\
    (¬(Sp.sgnI ((Sp.qi (s * z)).num * (↑(Sp.qi s * q - Sp.qi (Sp.rea 2 r)).den:Int) - (Sp.qi s * q - Sp.qi (Sp.rea 2 r)).num * (↑(Sp.qi (s * z)).den:Int)) >= 0) -> (Sp.okB (Sp.qi s * q - Sp.qi (Sp.rea 2 r)).num) /\
     (Sp.okB (-(Sp.qi s * q - Sp.qi (Sp.rea 2 r))).num /\ Sp.okB (↑(-(Sp.qi s * q - Sp.qi (Sp.rea 2 r))).den:Int)) /\
     (Sp.okB (Sp.flo (-(Sp.qi s * q - Sp.qi (Sp.rea 2 r))).num (↑(-(Sp.qi s * q - Sp.qi (Sp.rea 2 r))).den:Int))) /\
     (Sp.okB (-Sp.flo (-(Sp.qi s * q - Sp.qi (Sp.rea 2 r))).num (↑(-(Sp.qi s * q - Sp.qi (Sp.rea 2 r))).den:Int)) /\ Sp.okB (s * z)) /\
     (Sp.inI m) /\
     (Sp.okB (-Sp.flo (-(Sp.qi s * q - Sp.qi (Sp.rea 2 r))).num (↑(-(Sp.qi s * q - Sp.qi (Sp.rea 2 r))).den:Int) - s * z) /\ Sp.okB m) /\
     ((Sp.sgnI (-Sp.flo (-(Sp.qi s * q - Sp.qi (Sp.rea 2 r))).num (↑(-(Sp.qi s * q - Sp.qi (Sp.rea 2 r))).den:Int) - s * z - m) > 0) -> tu [ag [vi 0,vi 0,vi 0],vi 4] = dq) /\
     (¬(Sp.sgnI (-Sp.flo (-(Sp.qi s * q - Sp.qi (Sp.rea 2 r))).num (↑(-(Sp.qi s * q - Sp.qi (Sp.rea 2 r))).den:Int) - s * z - m) > 0) -> (-2000000000000000000 <= -Sp.flo (-(Sp.qi s * q - Sp.qi (Sp.rea 2 r))).num (↑(-(Sp.qi s * q - Sp.qi (Sp.rea 2 r))).den:Int) /\ -Sp.flo (-(Sp.qi s * q - Sp.qi (Sp.rea 2 r))).num (↑(-(Sp.qi s * q - Sp.qi (Sp.rea 2 r))).den:Int) <= 2000000000000000000) /\
      ((¬(Sp.pM (-Sp.flo (-(Sp.qi s * q - Sp.qi (Sp.rea 2 r))).num (↑(-(Sp.qi s * q - Sp.qi (Sp.rea 2 r))).den:Int)))) -> tu [ag [vi 0,vi 0,vi 0],vi 11] = dq) /\
      (¬(¬(Sp.pM (-Sp.flo (-(Sp.qi s * q - Sp.qi (Sp.rea 2 r))).num (↑(-(Sp.qi s * q - Sp.qi (Sp.rea 2 r))).den:Int)))) -> (-9223372036854775808 <= s * -Sp.flo (-(Sp.qi s * q - Sp.qi (Sp.rea 2 r))).num (↑(-(Sp.qi s * q - Sp.qi (Sp.rea 2 r))).den:Int) /\ s * -Sp.flo (-(Sp.qi s * q - Sp.qi (Sp.rea 2 r))).num (↑(-(Sp.qi s * q - Sp.qi (Sp.rea 2 r))).den:Int) <= 9223372036854775807) /\
       tu [ag [vi x,vi y,vi (s * -Sp.flo (-(Sp.qi s * q - Sp.qi (Sp.rea 2 r))).num (↑(-(Sp.qi s * q - Sp.qi (Sp.rea 2 r))).den:Int))],vi 0] = dq)))))) :
 Zes f g q x y z s r m (Zae dq):=by
 unfold Zes
 refine Zac (G:=Zab kp10 [(1,3,.call (vi (Sp.chk 2 s r)) none)] []) 7 [] ⟨(atC (cd Try.f10) [1,0,1,1]),[(1,vi 2),(2,vi s),(4,vi r),(5,vi m),(6,AV.ptr 0 0 0 0),(9,AV.ptr 1 0 0 0),(12,AV.ptr 2 0 0 0),(32,vb (bif Sp.chk 2 s r != 0 then true else decide (m < 0)))],[⟨[(ZeL x y z)],3,0,false,false⟩,⟨[ratA f g q],4,0,false,false⟩,⟨[ZdV],3,0,false,false⟩],_,[],_⟩ (by kernel_rfl) b0 q0 (ce (@ev34 (2) (s) (r)) c0) ?_
 rcases xq H with ⟨d2,H⟩|⟨d2,H⟩
 ·exact Zag (G:=Zab kp10 [] []) 1000 [true] (tu [ZdV,vi 1]) (by kernel_rfl) (bc (Zam ((Zbu i_ne Zaa).2 d2)) (bc rfl b0)) q0 c0 H
 ·refine Zac (G:=Zab kp10 [(4,1,.call (vb (decide (Sp.pP x y z))) none)] []) 5 [false] ⟨(atC (cd Try.f10) [1,1,0,1]),[(1,vi 2),(2,vi s),(4,vi r),(5,vi m),(6,AV.ptr 0 0 0 0),(9,AV.ptr 1 0 0 0),(12,AV.ptr 2 0 0 0),(36,vb !decide (Sp.pP x y z))],[⟨[(ZeL x y z)],3,0,false,false⟩,⟨[ratA f g q],4,0,false,false⟩,⟨[ZdV],3,0,false,false⟩],_,[],_⟩ (by kernel_rfl) (bc (Zal (fun h => d2 ((Zbu i_ne Zaa).1 h))) (bc rfl b0)) q0 (ce (@ev35 (x) (y) (z)) c0) ?_
  rcases xq H with ⟨d4,H⟩|⟨d4,H⟩
  ·exact Zag (G:=Zab kp10 [] []) 1000 [true] (tu [ZdV,vi 11]) (by kernel_rfl) (bc (Zam ((Za0 Zaa).2 d4)) (bc rfl b0)) q0 c0 H
  ·obtain ⟨k5,k6,H⟩:=H
   have w7:wi (s * z) = s * z:=wI64 k6
   obtain ⟨k8,k9,k10,k11,k12,H⟩:=H
   refine Zac (G:=Zab kp10 [(6,1,.call (ratF (Sp.qi s)) none),(7,1,.call (AV.ptr 0 0 0 2) none),(9,2,.call (ratF (Sp.qi s * q)) none),(9,5,.call (vi (Sp.rea 2 r)) none),(9,6,.call (ratF (Sp.qi (Sp.rea 2 r))) none),(9,7,.call (ratF (Sp.qi s * q - Sp.qi (Sp.rea 2 r))) none),(10,1,.call (ratF (Sp.qi (s * z))) none),(10,3,.call (vi (zNpF22 s z q r)) none)] []) 13 [false] ⟨(atC (cd Try.f10) [1,1,1,1,1,1,1,0,1]),[(2,vi s),(5,vi m),(6,AV.ptr 0 0 0 0),(12,AV.ptr 2 0 0 0),(16,AV.ptr 0 0 0 2),(17,vi (wi (s * z))),(18,AV.ptr 4 0 0 0),(59,vb (decide (zNpF20 s z q r)))],[⟨[(ZeL x y z)],3,0,false,false⟩,⟨[ratA f g q],4,0,false,false⟩,⟨[ZdV],3,0,false,false⟩,⟨[ratF (Sp.qi s)],4,0,false,false⟩,⟨[ratF (Sp.qi s * q - Sp.qi (Sp.rea 2 r))],4,0,false,false⟩],_,[],[⟨true,false,36,[vi s],[],ratF (Sp.qi s),[]⟩,⟨true,true,37,[AV.ptr 0 0 0 0,vi 2],[⟨[(ZeL x y z)],3,0,false,false⟩],AV.ptr 0 0 0 2,[⟨[(ZeL x y z)],3,0,false,false⟩]⟩,⟨true,false,39,[ratF (Sp.qi s),ratA f g q],[],ratF (Sp.qi s * q),[]⟩,⟨true,false,40,[vi 2,vi r],[],vi (Sp.rea 2 r),[]⟩,⟨true,false,36,[vi (Sp.rea 2 r)],[],ratF (Sp.qi (Sp.rea 2 r)),[]⟩,⟨true,false,38,[ratF (Sp.qi s * q),ratF (Sp.qi (Sp.rea 2 r))],[],ratF (Sp.qi s * q - Sp.qi (Sp.rea 2 r)),[]⟩,⟨true,false,36,[vi (wi (s * z))],[],ratF (Sp.qi (s * z)),[]⟩,⟨true,false,41,[ratF (Sp.qi (s * z)),ratF (Sp.qi s * q - Sp.qi (Sp.rea 2 r))],[],vi (zNpF22 s z q r),[]⟩]⟩ (by kernel_rfl) (bc (Zal (fun h => d4 ((Za0 Zaa).1 h))) (bc rfl (bc rfl (bc rfl (bc rfl (bc rfl (bc rfl b0))))))) q0 (cc (fun _ => (@ev36 (s) k5)) (cc (fun _ => (@evo37_c (x) (y) (z))) (cc (fun _ => (@ev39 (false) (false) (f) (g) (Sp.qi s) (q) k8)) (cc (fun _ => (@ev40 (2) (r))) (cc (fun _ => (@ev36 (Sp.rea 2 r) k9)) (cc (fun _ => (@ev38 (false) (false) (false) (false) (Sp.qi s * q) (Sp.qi (Sp.rea 2 r)) k10)) (cc (fun _ => (by (try rw [w7]);all_goals exact (@ev36 (s * z) k11))) (cc (fun _ => (@ev41 (false) (false) (false) (false) (Sp.qi (s * z)) (Sp.qi s * q - Sp.qi (Sp.rea 2 r)) k12)) c0)))))))) ?_
   rcases xq H with ⟨d14,H⟩|⟨d14,H⟩
   ·exact Zag (G:=Zab kp10 [] []) 1000 [true] (tu [(ZeL x y z),vi 0]) (by kernel_rfl) (bc (Zam (Zaa.2 d14)) (bc rfl (bc rfl b0))) q0 c0 H
   ·obtain ⟨k15,k16,k17,k18,k19,k20,H⟩:=H
    refine Zac (G:=Zab kp10 [(12,1,.call (ratF (-(Sp.qi s * q - Sp.qi (Sp.rea 2 r)))) none),(12,2,.call (bigA false (zNpF19 s q r)) none),(12,3,.call (bigA false (-Sp.flo (-(Sp.qi s * q - Sp.qi (Sp.rea 2 r))).num (↑(-(Sp.qi s * q - Sp.qi (Sp.rea 2 r))).den:Int))) none),(13,2,.call (bigA false (s * z)) none),(13,3,.call (bigA false (-Sp.flo (-(Sp.qi s * q - Sp.qi (Sp.rea 2 r))).num (↑(-(Sp.qi s * q - Sp.qi (Sp.rea 2 r))).den:Int) - s * z)) none),(14,2,.call (bigA false m) none),(14,3,.call (vi (Sp.sgnI (-Sp.flo (-(Sp.qi s * q - Sp.qi (Sp.rea 2 r))).num (↑(-(Sp.qi s * q - Sp.qi (Sp.rea 2 r))).den:Int) - s * z - m))) none)] []) 9 [false] ⟨(atC (cd Try.f10) [1,1,1,1,1,1,1,1,1,1,0,1]),[(2,vi s),(6,AV.ptr 0 0 0 0),(12,AV.ptr 2 0 0 0),(16,AV.ptr 0 0 0 2),(19,AV.ptr 5 0 0 0),(73,vb (decide (Sp.sgnI (-Sp.flo (-(Sp.qi s * q - Sp.qi (Sp.rea 2 r))).num (↑(-(Sp.qi s * q - Sp.qi (Sp.rea 2 r))).den:Int) - s * z - m) > 0)))],[⟨[(ZeL x y z)],3,0,false,false⟩,⟨[ratA f g q],4,0,false,false⟩,⟨[ZdV],3,0,false,false⟩,⟨[ratF (Sp.qi s)],4,0,false,false⟩,⟨[ratF (Sp.qi s * q - Sp.qi (Sp.rea 2 r))],4,0,false,false⟩,⟨[bigA false (-Sp.flo (-(Sp.qi s * q - Sp.qi (Sp.rea 2 r))).num (↑(-(Sp.qi s * q - Sp.qi (Sp.rea 2 r))).den:Int))],2,0,false,false⟩,⟨[bigA false (-Sp.flo (-(Sp.qi s * q - Sp.qi (Sp.rea 2 r))).num (↑(-(Sp.qi s * q - Sp.qi (Sp.rea 2 r))).den:Int) - s * z)],2,0,false,false⟩],_,[],[pc 44 [ratF (Sp.qi s * q - Sp.qi (Sp.rea 2 r))] (ratF (-(Sp.qi s * q - Sp.qi (Sp.rea 2 r)))),pc 43 [ratF (-(Sp.qi s * q - Sp.qi (Sp.rea 2 r)))] (bigA false (zNpF19 s q r)),pc 42 [bigA false (zNpF19 s q r)] (bigA false (-Sp.flo (-(Sp.qi s * q - Sp.qi (Sp.rea 2 r))).num (↑(-(Sp.qi s * q - Sp.qi (Sp.rea 2 r))).den:Int))),pc 46 [vi (wi (s * z))] (bigA false (s * z)),pc 45 [bigA false (-Sp.flo (-(Sp.qi s * q - Sp.qi (Sp.rea 2 r))).num (↑(-(Sp.qi s * q - Sp.qi (Sp.rea 2 r))).den:Int)),bigA false (s * z)] (bigA false (-Sp.flo (-(Sp.qi s * q - Sp.qi (Sp.rea 2 r))).num (↑(-(Sp.qi s * q - Sp.qi (Sp.rea 2 r))).den:Int) - s * z)),pc 46 [vi m] (bigA false m),pc 47 [bigA false (-Sp.flo (-(Sp.qi s * q - Sp.qi (Sp.rea 2 r))).num (↑(-(Sp.qi s * q - Sp.qi (Sp.rea 2 r))).den:Int) - s * z),bigA false m] (vi (Sp.sgnI (-Sp.flo (-(Sp.qi s * q - Sp.qi (Sp.rea 2 r))).num (↑(-(Sp.qi s * q - Sp.qi (Sp.rea 2 r))).den:Int) - s * z - m)))]⟩ (by kernel_rfl) (bc (Zal (fun h => d14 (Zaa.1 h))) (bc rfl (bc rfl (bc rfl (bc rfl (bc rfl b0)))))) q0 (ce (@ev44 (false) (false) (Sp.qi s * q - Sp.qi (Sp.rea 2 r)) k15) (ce (@ev43 (false) (false) (-(Sp.qi s * q - Sp.qi (Sp.rea 2 r))) k16) (ce (@ev42 (false) (zNpF19 s q r) k17) (ce (by (try rw [w7]);all_goals exact (@ev46 (s * z) k11)) (ce (@ev45 (false) (false) (-Sp.flo (-(Sp.qi s * q - Sp.qi (Sp.rea 2 r))).num (↑(-(Sp.qi s * q - Sp.qi (Sp.rea 2 r))).den:Int)) (s * z) k18) (ce (@ev46 (m) k19) (ce (@ev47 (false) (false) (-Sp.flo (-(Sp.qi s * q - Sp.qi (Sp.rea 2 r))).num (↑(-(Sp.qi s * q - Sp.qi (Sp.rea 2 r))).den:Int) - s * z) (m) k20) c0))))))) ?_
    rcases xq H with ⟨d22,H⟩|⟨d22,H⟩
    ·exact Zag (G:=Zab kp10 [] []) 1000 [true] (tu [ZdV,vi 4]) (by kernel_rfl) (bc (Zam (Zaa.2 d22)) (bc rfl b0)) q0 c0 H
    ·obtain ⟨k23,H⟩:=H
     refine Zac (G:=Zab kp10 [(16,1,.call ((zNpF21 s q r)) none),(17,4,.call (vb (decide (zNpF17 s q r))) none)] []) 7 [false] ⟨(atC (cd Try.f10) [1,1,1,1,1,1,1,1,1,1,1,1,0,1]),[(2,vi s),(6,AV.ptr 0 0 0 0),(12,AV.ptr 2 0 0 0),(16,AV.ptr 0 0 0 2),(21,vi (-Sp.flo (-(Sp.qi s * q - Sp.qi (Sp.rea 2 r))).num (↑(-(Sp.qi s * q - Sp.qi (Sp.rea 2 r))).den:Int))),(86,vb !decide (zNpF17 s q r))],[⟨[(ZeL x y z)],3,0,false,false⟩,⟨[ratA f g q],4,0,false,false⟩,⟨[ZdV],3,0,false,false⟩,⟨[ratF (Sp.qi s)],4,0,false,false⟩,⟨[ratF (Sp.qi s * q - Sp.qi (Sp.rea 2 r))],4,0,false,false⟩,⟨[bigA false (-Sp.flo (-(Sp.qi s * q - Sp.qi (Sp.rea 2 r))).num (↑(-(Sp.qi s * q - Sp.qi (Sp.rea 2 r))).den:Int))],2,0,false,false⟩,⟨[bigA false (-Sp.flo (-(Sp.qi s * q - Sp.qi (Sp.rea 2 r))).num (↑(-(Sp.qi s * q - Sp.qi (Sp.rea 2 r))).den:Int) - s * z)],2,0,false,false⟩],_,[],[⟨true,false,48,[bigA false (-Sp.flo (-(Sp.qi s * q - Sp.qi (Sp.rea 2 r))).num (↑(-(Sp.qi s * q - Sp.qi (Sp.rea 2 r))).den:Int))],[],(zNpF21 s q r),[]⟩,⟨false == false && true && true,false,49,[vi (-Sp.flo (-(Sp.qi s * q - Sp.qi (Sp.rea 2 r))).num (↑(-(Sp.qi s * q - Sp.qi (Sp.rea 2 r))).den:Int))],[],vb (decide (zNpF17 s q r)),[]⟩]⟩ (by kernel_rfl) (bc (Zal (fun h => d22 (Zaa.1 h))) (bc rfl b0)) q0 (cc (fun _ => (@ev48 (false) (-Sp.flo (-(Sp.qi s * q - Sp.qi (Sp.rea 2 r))).num (↑(-(Sp.qi s * q - Sp.qi (Sp.rea 2 r))).den:Int)) k23)) (cc (fun hc => ((@ev49 (-Sp.flo (-(Sp.qi s * q - Sp.qi (Sp.rea 2 r))).num (↑(-(Sp.qi s * q - Sp.qi (Sp.rea 2 r))).den:Int))):Ev M1 (Conf.pure 49 [vi (-Sp.flo (-(Sp.qi s * q - Sp.qi (Sp.rea 2 r))).num (↑(-(Sp.qi s * q - Sp.qi (Sp.rea 2 r))).den:Int))]) (vb (decide (zNpF17 s q r))) [])) c0)) ?_
     rcases xq H with ⟨d26,H⟩|⟨d26,H⟩
     ·exact Zag (G:=Zab kp10 [] []) 1000 [true] (tu [ZdV,vi 11]) (by kernel_rfl) (bc (Zam ((Za0 Zaa).2 d26)) (bc rfl b0)) q0 c0 H
     ·obtain ⟨k27,H⟩:=H
      have w28:wi (s * -Sp.flo (-(Sp.qi s * q - Sp.qi (Sp.rea 2 r))).num (↑(-(Sp.qi s * q - Sp.qi (Sp.rea 2 r))).den:Int)) = s * -Sp.flo (-(Sp.qi s * q - Sp.qi (Sp.rea 2 r))).num (↑(-(Sp.qi s * q - Sp.qi (Sp.rea 2 r))).den:Int):=wI64 k27
      exact Zag (G:=Zab kp10 [] []) 1000 [false] (asm:=[(!decide (zNpF17 s q r)) == false,0 == 0,true,true]) (tu [ag [vi x,vi y,vi (wi (s * -Sp.flo (-(Sp.qi s * q - Sp.qi (Sp.rea 2 r))).num (↑(-(Sp.qi s * q - Sp.qi (Sp.rea 2 r))).den:Int)))],vi 0]) (by kernel_rfl) (bc (Zal (fun h => d26 ((Za0 Zaa).1 h))) (bc (beq_self_eq_true _) (bc rfl (bc rfl b0)))) q0 c0 (by (try rw [w28]);all_goals exact H)
end Go.Av

namespace Go.Av
open Go.Proofs
theorem pcmp_ge {r s:Rat}:Sp.sgnI (r.num * (s.den:Int) - s.num * (r.den:Int)) >= 0 ↔ s <= r:=by
 rw [Rat.le_iff]
 generalize r.num * (s.den:Int) = u
 generalize s.num * (r.den:Int) = v
 unfold Sp.sgnI
 split
 ·omega
 ·split <;> omega
theorem sgn_le {n:Int}:Sp.sgnI n <= 0 ↔ n <= 0:=by
 unfold Sp.sgnI
 split
 ·omega
 ·split <;> omega
theorem sgn_gt {n:Int}:Sp.sgnI n > 0 ↔ 0 < n:=by
 unfold Sp.sgnI
 split
 ·omega
 ·split <;> omega
theorem cl_eq (r:Rat):-Sp.flo (-r).num ((-r).den:Int) = r.ceil:=by
 rw [Zc3 (by have:=(-r).den_pos;omega),Rat.ceil_eq_neg_floor_neg,Rat.floor_def]
theorem ceil_add (r:Rat) (n:Int):(r + Sp.qi n).ceil = r.ceil + n:=by
 rw [Zby,Rat.ceil_eq_neg_floor_neg,Rat.ceil_eq_neg_floor_neg,show -(r + (n:Rat)) = -r + ((-n:Int):Rat) by rw [Rat.intCast_neg];grind,Rat.floor_add_intCast]
 omega
theorem ceil_bd {d:Rat} {B:Int} (h1:(((-B):Int):Rat) <= d) (h2:d <= ((B:Int):Rat)):-B <= d.ceil /\ d.ceil <= B:=by
 rw [Rat.ceil_eq_neg_floor_neg]
 have e1:-B <= (-d).floor:=Rat.le_floor_iff.2 (by rw [Rat.intCast_neg] at *;grind)
 have e2:(-d).floor <= B:=by
  have m:=Rat.floor_monotone (a:=-d) (b:=((B:Int):Rat)) (by rw [Rat.intCast_neg] at h1;grind)
  rwa [Rat.floor_intCast] at m
 omega
theorem okT2_bd {q:Rat} (h:Sp.okT 2 q):(((-1000000000000000000:Int)):Rat) <= q /\ q <= (((1000000000000000000:Int)):Rat):=by
 have f:q.num.natAbs < 1000000000000000000:=by
  have:=Zat.2 h.1
  unfold Sp.fits at this;simpa using this
 have p:=q.den_pos
 rw [Rat.le_iff,Rat.le_iff,Rat.num_intCast,Rat.den_intCast,Rat.num_intCast,Rat.den_intCast]
 constructor <;> omega
theorem qi_le {a b:Int} (h:a<=b):Sp.qi a<=Sp.qi b:=by rw [Zby,Zby];exact Rat.intCast_le_intCast.2 h
theorem ZcZ (a:Int):-Sp.qi a=Sp.qi (-a):=by rw [Zby,Zby,Rat.intCast_neg]
theorem Zeq (a b:Int):Sp.qi a+Sp.qi b=Sp.qi (a+b):=by rw [Zby,Zby,Zby,Rat.intCast_add]
theorem dst_bd {x y z a s r:Int} {q:Rat} (hq:Sp.okT 2 q) (hp:Sp.pP x y z) (hw:Sp.pW a s r):-1100000000000000000 <= (Sp.dst x y z a s r q).ceil /\ (Sp.dst x y z a s r q).ceil <= 1100000000000000000:=by
 have b:=okT2_bd hq
 rw [<- Zby,<- Zby] at b
 have al:=alg_in hp a
 unfold Sp.pM at al
 have a1:=qi_le al.1
 have a2:=qi_le al.2
 have r1:=qi_le hw.2.2.1
 have r2:=qi_le hw.2.2.2
 have e1:Sp.qi 1 = 1:=by rw [Zby];rfl
 have s1:Sp.qi 1000000000000000000 + Sp.qi 10000000 + Sp.qi 10000000 <= Sp.qi 1100000000000000000:=by rw [Zeq,Zeq];exact qi_le (by omega)
 have n1:=ZcZ 1000000000000000000
 have n2:=ZcZ 10000000
 have n3:=ZcZ 1100000000000000000
 have n4:=qi_le (show (0:Int) <= 10000000 by omega)
 have e0:Sp.qi 0 = 0:=by rw [Zby];rfl
 refine ceil_bd ?_ ?_ <;> rw [<- Zby] <;> unfold Sp.dst Sp.dsA <;> split <;> split <;> grind
namespace Sp
noncomputable def tcC (x y z a s r:Int) (q:Rat):Int:=(dst x y z a s r q).ceil
noncomputable def tcP (x y z a s r:Int) (q:Rat):Int:=alg x y z a+s*tcC x y z a s r q
noncomputable def Zcc (x y z a s r m:Int) (q:Rat):Int:=if pW a s r/\0<=m then (if pP x y z then (if dst x y z a s r q<=0 then 0 else if m<tcC x y z a s r q then 4 else if pM (tcP x y z a s r q) then 0 else 11) else 11) else 1
noncomputable def Za9 (x y z a s r m:Int) (q:Rat):Int:=if Zcc x y z a s r m q=0 then (if dst x y z a s r q<=0 then x else putX x a (tcP x y z a s r q)) else 0
noncomputable def Zbd (x y z a s r m:Int) (q:Rat):Int:=if Zcc x y z a s r m q=0 then (if dst x y z a s r q<=0 then y else putY y a (tcP x y z a s r q)) else 0
noncomputable def Zbc (x y z a s r m:Int) (q:Rat):Int:=if Zcc x y z a s r m q=0 then (if dst x y z a s r q<=0 then z else putZ z a (tcP x y z a s r q)) else 0
end Sp
noncomputable abbrev tchR (x y z a s r m:Int) (q:Rat):AV:=.tup [.agg [.int .i64 (Sp.Za9 x y z a s r m q),.int .i64 (Sp.Zbd x y z a s r m q),.int .i64 (Sp.Zbc x y z a s r m q)],.int .i64 (Sp.Zcc x y z a s r m q)]
theorem ZcI {x y z a s r m k:Int} {q:Rat} (h:Sp.Zcc x y z a s r m q = k) (hk:k ≠ 0):AV.tup [.agg [.int .i64 0,.int .i64 0,.int .i64 0],.int .i64 k] = tchR x y z a s r m q:=by
 have n:¬Sp.Zcc x y z a s r m q = 0:=by rw [h];exact hk
 show _ = AV.tup _
 unfold Sp.Za9 Sp.Zbd Sp.Zbc
 rw [if_neg n,if_neg n,if_neg n,h]
theorem tch_1 {x y z a s r m:Int} {q:Rat} (h:(¬Sp.pW a s r) \/ m < 0):Sp.Zcc x y z a s r m q = 1:=by
 unfold Sp.Zcc;rw [if_neg fun k => h.elim (fun j => j k.1) fun j => by omega]
theorem tch_11 {x y z a s r m:Int} {q:Rat} (h:Sp.pW a s r /\ 0 <= m) (k:¬Sp.pP x y z):Sp.Zcc x y z a s r m q = 11:=by
 unfold Sp.Zcc;rw [if_pos h,if_neg k]
theorem tch_at {x y z a s r m:Int} {q:Rat} (h:Sp.pW a s r /\ 0 <= m) (k:Sp.pP x y z) (d:Sp.dst x y z a s r q <= 0):AV.tup [.agg [.int .i64 x,.int .i64 y,.int .i64 z],.int .i64 0] = tchR x y z a s r m q:=by
 have e:Sp.Zcc x y z a s r m q = 0:=by unfold Sp.Zcc;rw [if_pos h,if_pos k,if_pos d]
 show _ = AV.tup _
 unfold Sp.Za9 Sp.Zbd Sp.Zbc
 rw [e,if_pos rfl,if_pos rfl,if_pos rfl,if_pos d,if_pos d,if_pos d]
theorem tch_4 {x y z a s r m:Int} {q:Rat} (h:Sp.pW a s r /\ 0 <= m) (k:Sp.pP x y z) (d:¬Sp.dst x y z a s r q <= 0) (c:m < Sp.tcC x y z a s r q):Sp.Zcc x y z a s r m q = 4:=by
 unfold Sp.Zcc;rw [if_pos h,if_pos k,if_neg d,if_pos c]
theorem tch_out {x y z a s r m:Int} {q:Rat} (h:Sp.pW a s r /\ 0 <= m) (k:Sp.pP x y z) (d:¬Sp.dst x y z a s r q <= 0) (c:¬m < Sp.tcC x y z a s r q) (p:¬Sp.pM (Sp.tcP x y z a s r q)):Sp.Zcc x y z a s r m q = 11:=by
 unfold Sp.Zcc;rw [if_pos h,if_pos k,if_neg d,if_neg c,if_neg p]
theorem tch_mv {x y z a s r m:Int} {q:Rat} (h:Sp.pW a s r /\ 0 <= m) (k:Sp.pP x y z) (d:¬Sp.dst x y z a s r q <= 0) (c:¬m < Sp.tcC x y z a s r q) (p:Sp.pM (Sp.tcP x y z a s r q)):AV.tup [.agg [.int .i64 (Sp.putX x a (Sp.tcP x y z a s r q)),.int .i64 (Sp.putY y a (Sp.tcP x y z a s r q)),.int .i64 (Sp.putZ z a (Sp.tcP x y z a s r q))],.int .i64 0] = tchR x y z a s r m q:=by
 have e:Sp.Zcc x y z a s r m q = 0:=by unfold Sp.Zcc;rw [if_pos h,if_pos k,if_neg d,if_neg c,if_pos p]
 show _ = AV.tup _
 unfold Sp.Za9 Sp.Zbd Sp.Zbc
 rw [e,if_pos rfl,if_pos rfl,if_pos rfl,if_neg d,if_neg d,if_neg d]
theorem wm_of {a s r m:Int} (h:¬((¬Sp.chk a s r=0)\/m<0)):Sp.pW a s r/\0<=m:=⟨Classical.not_not.1 fun k=>h (.inl fun j=>k (ZgQ.1 j)),by omega⟩
theorem edge_d {x y z a s r:Int} {q:Rat} (hw:Sp.pW a s r):Sp.qi s * q - Sp.qi (Sp.rea a r) = Sp.dst x y z a s r q + Sp.qi (s * Sp.alg x y z a):=by
 have e1:Sp.qi 1 = 1:=by rw [Zby];rfl
 have e2:Sp.qi (-1) = -1:=by rw [Zby];rfl
 have e0:Sp.qi 0 = 0:=by rw [Zby];rfl
 have n:=ZcZ (Sp.alg x y z a)
 have hr:Sp.qi (Sp.rea a r) = if a < 2 then Sp.qi r else 0:=by
  unfold Sp.rea
  by_cases k:a = 2
  ·rw [if_pos k,if_neg (by omega),e0]
  ·rw [if_neg k,if_pos (by have:=hw.1;omega)]
 rw [hr]
 unfold Sp.dst Sp.dsA
 rcases hw.2.1 with rfl | rfl
 ·rw [if_neg (show ¬(1:Int) < 0 by decide),Int.one_mul,e1]
  split <;> grind
 ·rw [if_pos (show (-1:Int) < 0 by decide),show (-1:Int) * Sp.alg x y z a = -Sp.alg x y z a by omega,<- n,e2]
  split <;> grind
theorem s_sq {a s r:Int} (hw:Sp.pW a s r) (t:Int):s * (s * t) = t /\ (Sp.pM (s * t) ↔ Sp.pM t):=by
 rcases hw.2.1 with rfl | rfl
 ·rw [Int.one_mul,Int.one_mul];exact ⟨rfl,Iff.rfl⟩
 ·refine ⟨by omega,?_⟩
  unfold Sp.pM;omega
theorem tch_prog {x y z a s r m:Int} {q:Rat} (hq:Sp.okT 2 q) (hp:Sp.pP x y z) (hw:Sp.pW a s r) (hm:0 <= m) (hi:m <= 9223372036854775807) {u v w:Int} {X:Int} (hX:X = s * Sp.alg x y z a) :
  ((Sp.sgnI ((Sp.qi X).num * (↑(Sp.qi s * q - Sp.qi (Sp.rea a r)).den:Int) - (Sp.qi s * q - Sp.qi (Sp.rea a r)).num * (↑(Sp.qi X).den:Int)) >= 0) ↔ Sp.dst x y z a s r q <= 0) /\
  -Sp.flo (-(Sp.qi s * q - Sp.qi (Sp.rea a r))).num (↑(-(Sp.qi s * q - Sp.qi (Sp.rea a r))).den:Int) = Sp.tcC x y z a s r q + X /\
  s * (Sp.tcC x y z a s r q + X) = Sp.tcP x y z a s r q:=by
 have e:=edge_d (x:=x) (y:=y) (z:=z) (q:=q) hw
 rw [pcmp_ge,cl_eq,e,hX]
 refine ⟨?_,ceil_add _ _,?_⟩
 ·constructor <;> intro h <;> grind
 ·unfold Sp.tcP
  rw [Int.mul_add,(s_sq hw _).1];omega
theorem touch0 (f g:Bool) (q:Rat) (x y z s r m:Int) (h:Sp.okT 2 q) (hw:Sp.pW 0 s r) (hm:m <= 9223372036854775807):Zeu f g q x y z s r m (Zae (tchR x y z 0 s r m q)):=by
 refine pTouch0 _ _ _ _ _ _ _ _ _ _ ⟨fun k => ZcI (tch_1 (k.imp (fun j i => j (ZgQ.2 i)) id)) (by decide),fun k => ⟨fun j => ZcI (tch_11 (wm_of k) j) (by decide),fun j => ?_⟩⟩
 have hm0:=wm_of k
 have hp:=Classical.not_not.1 j
 have tp:=tch_prog (m:=m) (X:=s * x) h hp hw hm0.2 hm (u:=0) (v:=0) (w:=0) rfl
 have bd:=dst_bd h hp hw
 have td:=okT_dst (a:=0) (s:=s) h hp (inI_W hw)
 have cc:(Sp.dst x y z 0 s r q).ceil = Sp.tcC x y z 0 s r q:=rfl
 rw [cc] at bd
 obtain ⟨t1,t2,t3⟩:=tp
 have hx:-10000000 <= x /\ x <= 10000000:=hp.1
 have sx:s * x = x \/ s * x = -x:=by
  rcases hw.2.1 with rfl | rfl
  ·left;omega
  ·right;omega
 have hs:Sp.inI s:=by have:=hw.2.1;unfold Sp.inI;omega
 have ri:Sp.inI (Sp.rea 0 r):=by have:=hw.2.2;unfold Sp.rea Sp.inI;split <;> omega
 have xi:Sp.inI (s * x):=by unfold Sp.inI;omega
 have te:=Zev (Zex (ZaW hs) h) (ZaW ri)
 have fb:Sp.flo (-(Sp.qi s * q - Sp.qi (Sp.rea 0 r))).num (↑(-(Sp.qi s * q - Sp.qi (Sp.rea 0 r))).den:Int) = -(Sp.tcC x y z 0 s r q + s * x):=by omega
 rw [t1,t2,fb]
 rw [show Sp.tcC x y z 0 s r q + s * x - s * x = Sp.tcC x y z 0 s r q by omega,sgn_gt,t3]
 have nt:=Zew te
 have B {n:Int} (h:n.natAbs < 1000000000000000000000000000):Sp.okB n:=okB3 h
 have pq:Sp.pM (Sp.tcC x y z 0 s r q + s * x) ↔ Sp.pM (Sp.tcP x y z 0 s r q):=by rw [<- t3,(s_sq hw _).2]
 have tcb:-3000000000000000000 <= Sp.tcP x y z 0 s r q /\ Sp.tcP x y z 0 s r q <= 3000000000000000000:=by
  rw [<- t3]
  rcases hw.2.1 with rfl | rfl <;> omega
 refine ⟨hs,by omega,⟨Zbz (ZaW hs) (by omega),Zbz h (by omega)⟩,ri,⟨Zbz (Zex (ZaW hs) h) (by omega),Zbz (ZaW ri) (by omega)⟩,xi,⟨Zbz (ZaW xi) (by omega),Zbz te (by omega)⟩,fun d => tch_at hm0 hp d,fun d => ⟨?_,⟨?_,?_⟩,B (by omega),⟨B (by omega),B (by omega)⟩,by unfold Sp.inI;omega,⟨B (by omega),B (by omega)⟩,fun c => ZcI (tch_4 hm0 hp d (by omega)) (by decide),fun c => ⟨by omega,fun p => ZcI (tch_out hm0 hp d (by omega) (fun i => p (pq.2 i))) (by decide),fun p => ⟨by omega,tch_mv hm0 hp d (by omega) (pq.1 (Classical.not_not.1 p))⟩⟩⟩⟩
 ·exact (ZcR (Zbz te (by omega))).1
 ·exact (ZcR (Zbz nt (by omega))).1
 ·exact (ZcR (Zbz nt (by omega))).2
theorem touch1 (f g:Bool) (q:Rat) (x y z s r m:Int) (h:Sp.okT 2 q) (hw:Sp.pW 1 s r) (hm:m <= 9223372036854775807):Zet f g q x y z s r m (Zae (tchR x y z 1 s r m q)):=by
 refine pTouch1 _ _ _ _ _ _ _ _ _ _ ⟨fun k => ZcI (tch_1 (k.imp (fun j i => j (ZgQ.2 i)) id)) (by decide),fun k => ⟨fun j => ZcI (tch_11 (wm_of k) j) (by decide),fun j => ?_⟩⟩
 have hm0:=wm_of k
 have hp:=Classical.not_not.1 j
 have tp:=tch_prog (m:=m) (X:=s * y) h hp hw hm0.2 hm (u:=0) (v:=0) (w:=0) rfl
 have bd:=dst_bd h hp hw
 have td:=okT_dst (a:=1) (s:=s) h hp (inI_W hw)
 have cc:(Sp.dst x y z 1 s r q).ceil = Sp.tcC x y z 1 s r q:=rfl
 rw [cc] at bd
 obtain ⟨t1,t2,t3⟩:=tp
 have hx:-10000000 <= y /\ y <= 10000000:=hp.2.1
 have sx:s * y = y \/ s * y = -y:=by
  rcases hw.2.1 with rfl | rfl
  ·left;omega
  ·right;omega
 have hs:Sp.inI s:=by have:=hw.2.1;unfold Sp.inI;omega
 have ri:Sp.inI (Sp.rea 1 r):=by have:=hw.2.2;unfold Sp.rea Sp.inI;split <;> omega
 have xi:Sp.inI (s * y):=by unfold Sp.inI;omega
 have te:=Zev (Zex (ZaW hs) h) (ZaW ri)
 have fb:Sp.flo (-(Sp.qi s * q - Sp.qi (Sp.rea 1 r))).num (↑(-(Sp.qi s * q - Sp.qi (Sp.rea 1 r))).den:Int) = -(Sp.tcC x y z 1 s r q + s * y):=by omega
 rw [t1,t2,fb]
 rw [show Sp.tcC x y z 1 s r q + s * y - s * y = Sp.tcC x y z 1 s r q by omega,sgn_gt,t3]
 have nt:=Zew te
 have B {n:Int} (h:n.natAbs < 1000000000000000000000000000):Sp.okB n:=okB3 h
 have pq:Sp.pM (Sp.tcC x y z 1 s r q + s * y) ↔ Sp.pM (Sp.tcP x y z 1 s r q):=by rw [<- t3,(s_sq hw _).2]
 have tcb:-3000000000000000000 <= Sp.tcP x y z 1 s r q /\ Sp.tcP x y z 1 s r q <= 3000000000000000000:=by
  rw [<- t3]
  rcases hw.2.1 with rfl | rfl <;> omega
 refine ⟨hs,by omega,⟨Zbz (ZaW hs) (by omega),Zbz h (by omega)⟩,ri,⟨Zbz (Zex (ZaW hs) h) (by omega),Zbz (ZaW ri) (by omega)⟩,xi,⟨Zbz (ZaW xi) (by omega),Zbz te (by omega)⟩,fun d => tch_at hm0 hp d,fun d => ⟨?_,⟨?_,?_⟩,B (by omega),⟨B (by omega),B (by omega)⟩,by unfold Sp.inI;omega,⟨B (by omega),B (by omega)⟩,fun c => ZcI (tch_4 hm0 hp d (by omega)) (by decide),fun c => ⟨by omega,fun p => ZcI (tch_out hm0 hp d (by omega) (fun i => p (pq.2 i))) (by decide),fun p => ⟨by omega,tch_mv hm0 hp d (by omega) (pq.1 (Classical.not_not.1 p))⟩⟩⟩⟩
 ·exact (ZcR (Zbz te (by omega))).1
 ·exact (ZcR (Zbz nt (by omega))).1
 ·exact (ZcR (Zbz nt (by omega))).2
theorem touch2 (f g:Bool) (q:Rat) (x y z s r m:Int) (h:Sp.okT 2 q) (hw:Sp.pW 2 s r) (hm:m <= 9223372036854775807):Zes f g q x y z s r m (Zae (tchR x y z 2 s r m q)):=by
 refine pTouch2 _ _ _ _ _ _ _ _ _ _ ⟨fun k => ZcI (tch_1 (k.imp (fun j i => j (ZgQ.2 i)) id)) (by decide),fun k => ⟨fun j => ZcI (tch_11 (wm_of k) j) (by decide),fun j => ?_⟩⟩
 have hm0:=wm_of k
 have hp:=Classical.not_not.1 j
 have tp:=tch_prog (m:=m) (X:=s * z) h hp hw hm0.2 hm (u:=0) (v:=0) (w:=0) rfl
 have bd:=dst_bd h hp hw
 have td:=okT_dst (a:=2) (s:=s) h hp (inI_W hw)
 have cc:(Sp.dst x y z 2 s r q).ceil = Sp.tcC x y z 2 s r q:=rfl
 rw [cc] at bd
 obtain ⟨t1,t2,t3⟩:=tp
 have hx:-10000000 <= z /\ z <= 10000000:=hp.2.2
 have sx:s * z = z \/ s * z = -z:=by
  rcases hw.2.1 with rfl | rfl
  ·left;omega
  ·right;omega
 have hs:Sp.inI s:=by have:=hw.2.1;unfold Sp.inI;omega
 have ri:Sp.inI (Sp.rea 2 r):=by have:=hw.2.2;unfold Sp.rea Sp.inI;split <;> omega
 have xi:Sp.inI (s * z):=by unfold Sp.inI;omega
 have te:=Zev (Zex (ZaW hs) h) (ZaW ri)
 have fb:Sp.flo (-(Sp.qi s * q - Sp.qi (Sp.rea 2 r))).num (↑(-(Sp.qi s * q - Sp.qi (Sp.rea 2 r))).den:Int) = -(Sp.tcC x y z 2 s r q + s * z):=by omega
 rw [t1,t2,fb]
 rw [show Sp.tcC x y z 2 s r q + s * z - s * z = Sp.tcC x y z 2 s r q by omega,sgn_gt,t3]
 have nt:=Zew te
 have B {n:Int} (h:n.natAbs < 1000000000000000000000000000):Sp.okB n:=okB3 h
 have pq:Sp.pM (Sp.tcC x y z 2 s r q + s * z) ↔ Sp.pM (Sp.tcP x y z 2 s r q):=by rw [<- t3,(s_sq hw _).2]
 have tcb:-3000000000000000000 <= Sp.tcP x y z 2 s r q /\ Sp.tcP x y z 2 s r q <= 3000000000000000000:=by
  rw [<- t3]
  rcases hw.2.1 with rfl | rfl <;> omega
 refine ⟨hs,by omega,⟨Zbz (ZaW hs) (by omega),Zbz h (by omega)⟩,ri,⟨Zbz (Zex (ZaW hs) h) (by omega),Zbz (ZaW ri) (by omega)⟩,xi,⟨Zbz (ZaW xi) (by omega),Zbz te (by omega)⟩,fun d => tch_at hm0 hp d,fun d => ⟨?_,⟨?_,?_⟩,B (by omega),⟨B (by omega),B (by omega)⟩,by unfold Sp.inI;omega,⟨B (by omega),B (by omega)⟩,fun c => ZcI (tch_4 hm0 hp d (by omega)) (by decide),fun c => ⟨by omega,fun p => ZcI (tch_out hm0 hp d (by omega) (fun i => p (pq.2 i))) (by decide),fun p => ⟨by omega,tch_mv hm0 hp d (by omega) (pq.1 (Classical.not_not.1 p))⟩⟩⟩⟩
 ·exact (ZcR (Zbz te (by omega))).1
 ·exact (ZcR (Zbz nt (by omega))).1
 ·exact (ZcR (Zbz nt (by omega))).2
theorem ev10 (f g:Bool) (q:Rat) (x y z a s r m:Int) (h:Sp.okT 2 q /\ Sp.inI m):Ev M1 (.pure 10 [.agg [.int .i64 x,.int .i64 y,.int .i64 z],.int .i64 a,.int .i64 s,ratA f g q,.int .i64 r,.int .i64 m]) (.tup [.agg [.int .i64 (Sp.Za9 x y z a s r m q),.int .i64 (Sp.Zbd x y z a s r m q),.int .i64 (Sp.Zbc x y z a s r m q)],.int .i64 (Sp.Zcc x y z a s r m q)]) []:=by
 by_cases hw:Sp.pW a s r
 ·have ha:a = 0 \/ a = 1 \/ a = 2:=by have:=hw.1;omega
  rcases ha with rfl | rfl | rfl
  ·exact call10 (touch0 _ _ _ _ _ _ _ _ _ h.1 hw h.2.2)
  ·exact call10 (touch1 _ _ _ _ _ _ _ _ _ h.1 hw h.2.2)
  ·exact call10 (touch2 _ _ _ _ _ _ _ _ _ h.1 hw h.2.2)
 ·exact call10 (pTouchX _ _ _ _ _ _ _ _ _ _ _ ⟨fun _ => ZcI (tch_1 (.inl hw)) (by decide),fun k => absurd (wm_of k).1 hw⟩)
end Go.Av

namespace Go.Av
open Go.Proofs
set_option maxRecDepth 100000
def fi8:Fi:=⟨80,[.tmp 0]⟩
def kp8:List (Nat × List Nat):=[(0,[]),(1,[1,2]),(2,[1,2,3,4]),(3,[1,2,3,4,5,6]),(4,[1,2,3,4,5,6,7,8]),(5,[1,2,3,4,5,6,7,8,9,10]),(6,[0])]
def pAwake_at  (Q:AV->Heap->Prop):Prop:=Wp M1 (.run fi8 (atC (cd Try.f8) []) [] []) Q
theorem call8 {args:List AV} {d:AV} (h:wc M1 fi8 Try.f8 args d):Ev M1 (.pure 8 args) d []:=pcl _ _ (by kernel_rfl) h
noncomputable abbrev zNpG1:=Sp.Zbd 0 0 0 0 1 2000 20000 (Sp.qi 10000)==0&&(Sp.Zbc 0 0 0 0 1 2000 20000 (Sp.qi 10000)==0&&true)
noncomputable abbrev zNpG2:=Sp.Zbd 0 0 0 0 1 2000 20000 (Sp.qf 20001 2)==0&&(Sp.Zbc 0 0 0 0 1 2000 20000 (Sp.qf 20001 2)==0&&true)
theorem pAwake   (dq:AV) (H :
  (Sp.inI 10000) /\
  (Sp.okT 2 (Sp.qi 10000) /\ Sp.inI 20000) /\
  (Sp.okF 20001 2) /\
  (Sp.okT 2 (Sp.qf 20001 2) /\ Sp.inI 20000) /\
  (Sp.inI 100) /\
  (Sp.okT 2 (Sp.qi 100) /\ Sp.inI 20000) /\
  vb (bif bif bif bif bif bif bif bif bif Sp.Zcc 0 0 0 0 1 2000 20000 (Sp.qi 10000) == 0 then Sp.Zcc 0 0 0 0 1 2000 20000 (Sp.qf 20001 2) == 0 else false then Sp.Zcc 0 0 5000 2 (-1) 2000 20000 (Sp.qi 100) == 0 else false then Sp.Za8 (Sp.Za9 0 0 0 0 1 2000 20000 (Sp.qi 10000)) (Sp.Zbd 0 0 0 0 1 2000 20000 (Sp.qi 10000)) (Sp.Zbc 0 0 0 0 1 2000 20000 (Sp.qi 10000)) 0 1 2000 == 0 else false then Sp.Za8 (Sp.Za9 0 0 0 0 1 2000 20000 (Sp.qf 20001 2)) (Sp.Zbd 0 0 0 0 1 2000 20000 (Sp.qf 20001 2)) (Sp.Zbc 0 0 0 0 1 2000 20000 (Sp.qf 20001 2)) 0 1 2000 == 0 else false then Sp.Za9 0 0 0 0 1 2000 20000 (Sp.qi 10000) == 8000 && (Sp.Zbd 0 0 0 0 1 2000 20000 (Sp.qi 10000) == 0 && (Sp.Zbc 0 0 0 0 1 2000 20000 (Sp.qi 10000) == 0 && true)) else false then Sp.Za9 0 0 0 0 1 2000 20000 (Sp.qf 20001 2) == 8001 && (Sp.Zbd 0 0 0 0 1 2000 20000 (Sp.qf 20001 2) == 0 && (Sp.Zbc 0 0 0 0 1 2000 20000 (Sp.qf 20001 2) == 0 && true)) else false then Sp.Za9 0 0 5000 2 (-1) 2000 20000 (Sp.qi 100) == 0 && (Sp.Zbd 0 0 5000 2 (-1) 2000 20000 (Sp.qi 100) == 0 && (Sp.Zbc 0 0 5000 2 (-1) 2000 20000 (Sp.qi 100) == 100 && true)) else false then Sp.ZaU (Sp.Za9 0 0 0 0 1 2000 20000 (Sp.qi 10000)) (Sp.Zbd 0 0 0 0 1 2000 20000 (Sp.qi 10000)) (Sp.Zbc 0 0 0 0 1 2000 20000 (Sp.qi 10000)) 0 1 2000 == 10000 else false then Sp.ZaU (Sp.Za9 0 0 0 0 1 2000 20000 (Sp.qf 20001 2)) (Sp.Zbd 0 0 0 0 1 2000 20000 (Sp.qf 20001 2)) (Sp.Zbc 0 0 0 0 1 2000 20000 (Sp.qf 20001 2)) 0 1 2000 == 10001 else false) = dq) :
 pAwake_at  (Zae dq):=by
 unfold pAwake_at
 obtain ⟨k1,k2,k3,k4,k5,k6,H⟩:=H
 exact Zag (G:=Zab kp8 [(1,1,.call (ratF (Sp.qi 10000)) none),(1,2,.call (tu [ag [vi (Sp.Za9 0 0 0 0 1 2000 20000 (Sp.qi 10000)),vi (Sp.Zbd 0 0 0 0 1 2000 20000 (Sp.qi 10000)),vi (Sp.Zbc 0 0 0 0 1 2000 20000 (Sp.qi 10000))],vi (Sp.Zcc 0 0 0 0 1 2000 20000 (Sp.qi 10000))]) none),(2,1,.call (ratF (Sp.qf 20001 2)) none),(2,2,.call (tu [ag [vi (Sp.Za9 0 0 0 0 1 2000 20000 (Sp.qf 20001 2)),vi (Sp.Zbd 0 0 0 0 1 2000 20000 (Sp.qf 20001 2)),vi (Sp.Zbc 0 0 0 0 1 2000 20000 (Sp.qf 20001 2))],vi (Sp.Zcc 0 0 0 0 1 2000 20000 (Sp.qf 20001 2))]) none),(3,1,.call (ratF (Sp.qi 100)) none),(3,2,.call (tu [ag [vi (Sp.Za9 0 0 5000 2 (-1) 2000 20000 (Sp.qi 100)),vi (Sp.Zbd 0 0 5000 2 (-1) 2000 20000 (Sp.qi 100)),vi (Sp.Zbc 0 0 5000 2 (-1) 2000 20000 (Sp.qi 100))],vi (Sp.Zcc 0 0 5000 2 (-1) 2000 20000 (Sp.qi 100))]) none),(4,1,.call (tu [vi (Sp.ZaU (Sp.Za9 0 0 0 0 1 2000 20000 (Sp.qi 10000)) (Sp.Zbd 0 0 0 0 1 2000 20000 (Sp.qi 10000)) (Sp.Zbc 0 0 0 0 1 2000 20000 (Sp.qi 10000)) 0 1 2000),vi (Sp.Za8 (Sp.Za9 0 0 0 0 1 2000 20000 (Sp.qi 10000)) (Sp.Zbd 0 0 0 0 1 2000 20000 (Sp.qi 10000)) (Sp.Zbc 0 0 0 0 1 2000 20000 (Sp.qi 10000)) 0 1 2000)]) none),(5,1,.call (tu [vi (Sp.ZaU (Sp.Za9 0 0 0 0 1 2000 20000 (Sp.qf 20001 2)) (Sp.Zbd 0 0 0 0 1 2000 20000 (Sp.qf 20001 2)) (Sp.Zbc 0 0 0 0 1 2000 20000 (Sp.qf 20001 2)) 0 1 2000),vi (Sp.Za8 (Sp.Za9 0 0 0 0 1 2000 20000 (Sp.qf 20001 2)) (Sp.Zbd 0 0 0 0 1 2000 20000 (Sp.qf 20001 2)) (Sp.Zbc 0 0 0 0 1 2000 20000 (Sp.qf 20001 2)) 0 1 2000)]) none)] []) 1000 [] (asm:=[true,true,true,true,true,!((bif bif bif bif Sp.Zcc 0 0 0 0 1 2000 20000 (Sp.qi 10000) == 0 then Sp.Zcc 0 0 0 0 1 2000 20000 (Sp.qf 20001 2) == 0 else false then Sp.Zcc 0 0 5000 2 (-1) 2000 20000 (Sp.qi 100) == 0 else false then Sp.Za8 (Sp.Za9 0 0 0 0 1 2000 20000 (Sp.qi 10000)) (Sp.Zbd 0 0 0 0 1 2000 20000 (Sp.qi 10000)) (Sp.Zbc 0 0 0 0 1 2000 20000 (Sp.qi 10000)) 0 1 2000 == 0 else false then Sp.Za8 (Sp.Za9 0 0 0 0 1 2000 20000 (Sp.qf 20001 2)) (Sp.Zbd 0 0 0 0 1 2000 20000 (Sp.qf 20001 2)) (Sp.Zbc 0 0 0 0 1 2000 20000 (Sp.qf 20001 2)) 0 1 2000 == 0 else false) == true && true) || true,!((bif bif bif bif bif Sp.Zcc 0 0 0 0 1 2000 20000 (Sp.qi 10000) == 0 then Sp.Zcc 0 0 0 0 1 2000 20000 (Sp.qf 20001 2) == 0 else false then Sp.Zcc 0 0 5000 2 (-1) 2000 20000 (Sp.qi 100) == 0 else false then Sp.Za8 (Sp.Za9 0 0 0 0 1 2000 20000 (Sp.qi 10000)) (Sp.Zbd 0 0 0 0 1 2000 20000 (Sp.qi 10000)) (Sp.Zbc 0 0 0 0 1 2000 20000 (Sp.qi 10000)) 0 1 2000 == 0 else false then Sp.Za8 (Sp.Za9 0 0 0 0 1 2000 20000 (Sp.qf 20001 2)) (Sp.Zbd 0 0 0 0 1 2000 20000 (Sp.qf 20001 2)) (Sp.Zbc 0 0 0 0 1 2000 20000 (Sp.qf 20001 2)) 0 1 2000 == 0 else false then Sp.Za9 0 0 0 0 1 2000 20000 (Sp.qi 10000) == 8000 && zNpG1 else false) == true && true) || true,!((bif bif bif bif bif bif Sp.Zcc 0 0 0 0 1 2000 20000 (Sp.qi 10000) == 0 then Sp.Zcc 0 0 0 0 1 2000 20000 (Sp.qf 20001 2) == 0 else false then Sp.Zcc 0 0 5000 2 (-1) 2000 20000 (Sp.qi 100) == 0 else false then Sp.Za8 (Sp.Za9 0 0 0 0 1 2000 20000 (Sp.qi 10000)) (Sp.Zbd 0 0 0 0 1 2000 20000 (Sp.qi 10000)) (Sp.Zbc 0 0 0 0 1 2000 20000 (Sp.qi 10000)) 0 1 2000 == 0 else false then Sp.Za8 (Sp.Za9 0 0 0 0 1 2000 20000 (Sp.qf 20001 2)) (Sp.Zbd 0 0 0 0 1 2000 20000 (Sp.qf 20001 2)) (Sp.Zbc 0 0 0 0 1 2000 20000 (Sp.qf 20001 2)) 0 1 2000 == 0 else false then Sp.Za9 0 0 0 0 1 2000 20000 (Sp.qi 10000) == 8000 && zNpG1 else false then Sp.Za9 0 0 0 0 1 2000 20000 (Sp.qf 20001 2) == 8001 && zNpG2 else false) == true && true) || true]) (vb (bif bif bif bif bif bif bif bif bif Sp.Zcc 0 0 0 0 1 2000 20000 (Sp.qi 10000) == 0 then Sp.Zcc 0 0 0 0 1 2000 20000 (Sp.qf 20001 2) == 0 else false then Sp.Zcc 0 0 5000 2 (-1) 2000 20000 (Sp.qi 100) == 0 else false then Sp.Za8 (Sp.Za9 0 0 0 0 1 2000 20000 (Sp.qi 10000)) (Sp.Zbd 0 0 0 0 1 2000 20000 (Sp.qi 10000)) (Sp.Zbc 0 0 0 0 1 2000 20000 (Sp.qi 10000)) 0 1 2000 == 0 else false then Sp.Za8 (Sp.Za9 0 0 0 0 1 2000 20000 (Sp.qf 20001 2)) (Sp.Zbd 0 0 0 0 1 2000 20000 (Sp.qf 20001 2)) (Sp.Zbc 0 0 0 0 1 2000 20000 (Sp.qf 20001 2)) 0 1 2000 == 0 else false then Sp.Za9 0 0 0 0 1 2000 20000 (Sp.qi 10000) == 8000 && zNpG1 else false then Sp.Za9 0 0 0 0 1 2000 20000 (Sp.qf 20001 2) == 8001 && zNpG2 else false then Sp.Za9 0 0 5000 2 (-1) 2000 20000 (Sp.qi 100) == 0 && (Sp.Zbd 0 0 5000 2 (-1) 2000 20000 (Sp.qi 100) == 0 && (Sp.Zbc 0 0 5000 2 (-1) 2000 20000 (Sp.qi 100) == 100 && true)) else false then Sp.ZaU (Sp.Za9 0 0 0 0 1 2000 20000 (Sp.qi 10000)) (Sp.Zbd 0 0 0 0 1 2000 20000 (Sp.qi 10000)) (Sp.Zbc 0 0 0 0 1 2000 20000 (Sp.qi 10000)) 0 1 2000 == 10000 else false then Sp.ZaU (Sp.Za9 0 0 0 0 1 2000 20000 (Sp.qf 20001 2)) (Sp.Zbd 0 0 0 0 1 2000 20000 (Sp.qf 20001 2)) (Sp.Zbc 0 0 0 0 1 2000 20000 (Sp.qf 20001 2)) 0 1 2000 == 10001 else false)) (by kernel_rfl) (bc rfl (bc rfl (bc rfl (bc rfl (bc rfl (bc (Bool.or_true _) (bc (Bool.or_true _) (bc (Bool.or_true _) b0)))))))) q0 (ce (@ev14 (10000) k1) (ce (@ev10 (false) (false) (Sp.qi 10000) (0) (0) (0) (0) (1) (2000) (20000) k2) (ce (@ev32 (20001) (2) k3) (ce (@ev10 (false) (false) (Sp.qf 20001 2) (0) (0) (0) (0) (1) (2000) (20000) k4) (ce (@ev14 (100) k5) (ce (@ev10 (false) (false) (Sp.qi 100) (0) (0) (5000) (2) (-1) (2000) (20000) k6) (ce (@ev12 (Sp.Za9 0 0 0 0 1 2000 20000 (Sp.qi 10000)) (Sp.Zbd 0 0 0 0 1 2000 20000 (Sp.qi 10000)) (Sp.Zbc 0 0 0 0 1 2000 20000 (Sp.qi 10000)) (0) (1) (2000)) (ce (@ev12 (Sp.Za9 0 0 0 0 1 2000 20000 (Sp.qf 20001 2)) (Sp.Zbd 0 0 0 0 1 2000 20000 (Sp.qf 20001 2)) (Sp.Zbc 0 0 0 0 1 2000 20000 (Sp.qf 20001 2)) (0) (1) (2000)) c0)))))))) H
end Go.Av

namespace Go.Av
open Go.Proofs
theorem tch_mv4 {x y z a s r m:Int} {q:Rat} (h:Sp.pW a s r /\ 0 <= m) (k:Sp.pP x y z) (d:¬Sp.dst x y z a s r q <= 0) (c:¬m < Sp.tcC x y z a s r q) (p:Sp.pM (Sp.tcP x y z a s r q)):Sp.Za9 x y z a s r m q = Sp.putX x a (Sp.tcP x y z a s r q) /\ Sp.Zbd x y z a s r m q = Sp.putY y a (Sp.tcP x y z a s r q) /\ Sp.Zbc x y z a s r m q = Sp.putZ z a (Sp.tcP x y z a s r q) /\ Sp.Zcc x y z a s r m q = 0:=by
 have e:Sp.Zcc x y z a s r m q = 0:=by unfold Sp.Zcc;rw [if_pos h,if_pos k,if_neg d,if_neg c,if_pos p]
 refine ⟨?_,?_,?_,e⟩
 ·unfold Sp.Za9;rw [e,if_pos rfl,if_neg d]
 ·unfold Sp.Zbd;rw [e,if_pos rfl,if_neg d]
 ·unfold Sp.Zbc;rw [e,if_pos rfl,if_neg d]
theorem tch_val {x y z a s r m c t:Int} {q:Rat} (h:Sp.pW a s r) (hm:0 <= m) (k:Sp.pP x y z) (hc:(Sp.dst x y z a s r q).ceil = c) (h0:0 < c) (h1:c <= m) (ht:Sp.alg x y z a + s * c = t) (p:Sp.pM t):Sp.Za9 x y z a s r m q = Sp.putX x a t /\ Sp.Zbd x y z a s r m q = Sp.putY y a t /\ Sp.Zbc x y z a s r m q = Sp.putZ z a t /\ Sp.Zcc x y z a s r m q = 0:=by
 have e1:Sp.tcC x y z a s r q = c:=hc
 have e2:Sp.tcP x y z a s r q = t:=by unfold Sp.tcP;rw [e1,ht]
 rw [<- e2] at p ⊢
 refine tch_mv4 ⟨h,hm⟩ k (fun d => ?_) (by omega) p
 rw [Rat.ceil_eq_neg_floor_neg] at hc
 have:0 <= (-Sp.dst x y z a s r q).floor:=Rat.le_floor_iff.2 (by show ((0:Int):Rat) <= _;have e:((0:Int):Rat) = 0:=rfl;rw [e];grind)
 omega
theorem ceil_int (n:Int):(Sp.qi n).ceil = n:=by
 rw [Zby,Rat.ceil_eq_neg_floor_neg,<- Rat.intCast_neg,Rat.floor_intCast];omega
theorem ZdR (a b:Int):Sp.qi a-Sp.qi b=Sp.qi (a-b):=by rw [Zby,Zby,Zby,Rat.intCast_sub]
theorem okT_1 {n:Int} (h:n.natAbs < 1000000000):Sp.okT 2 (Sp.qi n):=by
 have f:Sp.cnt n.natAbs <= 1:=Zat.1 (by unfold Sp.fits;omega)
 rw [Zby]
 refine ⟨by rw [Rat.num_intCast];omega,?_⟩
 rw [Rat.den_intCast]
 exact Nat.le_trans (Zat.1 (by unfold Sp.fits;omega:Sp.fits 1 1)) (by omega)
theorem ev8:Ev M1 (.pure 8 []) (.bool true) []:=by
 have e0:Sp.qi 0 = 0:=by rw [Zby];rfl
 have f0:Sp.okF 20001 2:=by unfold Sp.okF Sp.inI;omega
 have qf:Sp.qf 20001 2 = 20001 / 2:=by rw [qf_eq,Rat.divInt_eq_div];rfl
 have t2:Sp.okT 2 (Sp.qf 20001 2):=by
  rw [qf]
  refine ⟨?_,?_⟩
  ·rw [show ((20001:Rat) / 2).num = 20001 by decide +kernel]
   exact Nat.le_trans (Zat.1 (by unfold Sp.fits;decide:Sp.fits 1 _)) (by omega)
  ·rw [show ((20001:Rat) / 2).den = 2 by decide +kernel]
   exact Nat.le_trans (Zat.1 (by unfold Sp.fits;decide:Sp.fits 1 _)) (by omega)
 have a1:=tch_val (x:=0) (y:=0) (z:=0) (a:=0) (s:=1) (r:=2000) (m:=20000) (c:=8000) (t:=8000) (q:=Sp.qi 10000) (by unfold Sp.pW;omega) (by omega) (by unfold Sp.pP Sp.pM;omega) (by
  unfold Sp.dst Sp.dsA Sp.alg
  rw [if_pos (by omega),if_neg (by omega),if_pos rfl,ZdR,ZdR,ceil_int];rfl) (by omega) (by omega) (by decide) (by unfold Sp.pM;omega)
 have a2:=tch_val (x:=0) (y:=0) (z:=0) (a:=0) (s:=1) (r:=2000) (m:=20000) (c:=8001) (t:=8001) (q:=Sp.qf 20001 2) (by unfold Sp.pW;omega) (by omega) (by unfold Sp.pP Sp.pM;omega) (by
  unfold Sp.dst Sp.dsA Sp.alg
  rw [if_pos (by omega),if_neg (by omega),if_pos rfl,qf,Zby,Zby];decide +kernel) (by omega) (by omega) (by decide) (by unfold Sp.pM;omega)
 have a3:=tch_val (x:=0) (y:=0) (z:=5000) (a:=2) (s:=-1) (r:=2000) (m:=20000) (c:=4900) (t:=100) (q:=Sp.qi 100) (by unfold Sp.pW;omega) (by omega) (by unfold Sp.pP Sp.pM;omega) (by
  unfold Sp.dst Sp.dsA Sp.alg
  rw [if_neg (by omega),if_pos (by omega),if_neg (by omega),if_neg (by omega),ZdR,ZcZ,ceil_int];rfl) (by omega) (by omega) (by decide) (by unfold Sp.pM;omega)
 refine call8 (pAwake _ ⟨by unfold Sp.inI;omega,⟨okT_1 (by decide),by unfold Sp.inI;omega⟩,f0,⟨t2,by unfold Sp.inI;omega⟩,by unfold Sp.inI;omega,⟨okT_1 (by decide),by unfold Sp.inI;omega⟩,?_⟩)
 rw [a1.1,a1.2.1,a1.2.2.1,a1.2.2.2,a2.1,a2.2.1,a2.2.2.1,a2.2.2.2,a3.1,a3.2.1,a3.2.2.1,a3.2.2.2]
 refine congrArg AV.bool ?_
 decide +kernel
def Sp.hb (n:Int):Prop:=-2000000<=n/\n<=2000000
end Go.Av

namespace Go.Av
open Go.Proofs
set_option maxRecDepth 100000
def fi4:Fi:=⟨105,[.tmp 6]⟩
def kp4:List (Nat × List Nat):=[(0,[2,3,4]),(1,[2,3,4,19]),(2,[6]),(3,[3,4,7,8]),(4,[3,4,7,42]),(5,[6]),(6,[4,9,10]),(7,[4,9,10,55]),(8,[6]),(9,[4,9,10,11]),(10,[4,9,10,11,12]),(11,[4,9,11,75]),(12,[6]),(13,[6])]
def lwErr_at (f g:Bool) (q:Rat) (x y z a s r m:Int) (Q:AV->Heap->Prop):Prop:=Wp M1 (.run fi4 (atC (cd Try.f4) []) [(0,.agg [.int .i64 x,.int .i64 y,.int .i64 z,.int .i64 a,.int .i64 s,.int .i64 r]),(1,ratA f g q),(2,.int .i64 m)] []) Q
def lwErrR_at (s1 t1 f1 g1:Bool) (x1 y1:List Int) (x y z a s r m:Int) (Q:AV->Heap->Prop):Prop:=Wp M1 (.run fi4 (atC (cd Try.f4) []) [(0,.agg [.int .i64 x,.int .i64 y,.int .i64 z,.int .i64 a,.int .i64 s,.int .i64 r]),(1,.agg [.bool s1,.vec f1 1 (x1.map (.int .u32)),.bool t1,.vec g1 1 (y1.map (.int .u32))]),(2,.int .i64 m)] []) Q
theorem call4 {args:List AV} {d:AV} (h:wc M1 fi4 Try.f4 args d):Ev M1 (.pure 4 args) d []:=pcl _ _ (by kernel_rfl) h
noncomputable abbrev ZaE (x:Int) (y:Int) (z:Int) (a:Int) (s:Int) (r:Int) (m:Int) (q:Rat):=Sp.ZaU (Sp.Za9 x y z a s r m q) (Sp.Zbd x y z a s r m q) (Sp.Zbc x y z a s r m q) a s r
noncomputable abbrev zNpH3 (x:Int) (y:Int) (z:Int) (a:Int) (s:Int) (r:Int) (m:Int) (q:Rat):=Sp.sgnI ((Sp.qi (ZaE x y z a s r m q)-q).num*(↑(Sp.qi 1).den:Int)-(Sp.qi 1).num*(↑(Sp.qi (ZaE x y z a s r m q)-q).den:Int))>=0
noncomputable abbrev zNpH4 (x:Int) (y:Int) (z:Int) (a:Int) (s:Int) (r:Int):=ag [vi x,vi y,vi z,vi a,vi s,vi r]
noncomputable abbrev zNpH5 (x:Int) (y:Int) (z:Int) (a:Int) (s:Int) (r:Int) (m:Int) (q:Rat):=bif Sp.Za8 (Sp.Za9 x y z a s r m q) (Sp.Zbd x y z a s r m q) (Sp.Zbc x y z a s r m q) a s r != 0 then true else decide (zNpH3 x y z a s r m q)
noncomputable abbrev zNpH6 (x:Int) (y:Int) (z:Int) (a:Int) (s:Int) (r:Int) (m:Int) (q:Rat):=ag [vi (Sp.Za9 x y z a s r m q),vi (Sp.Zbd x y z a s r m q),vi (Sp.Zbc x y z a s r m q)]
noncomputable abbrev zNpH7 (x:Int) (y:Int) (z:Int) (a:Int) (s:Int) (r:Int) (m:Int) (q:Rat):=bif bif Sp.Za8 (Sp.Za9 x y z a s r m q) (Sp.Zbd x y z a s r m q) (Sp.Zbc x y z a s r m q) a s r != 0 then true else decide (zNpH3 x y z a s r m q) then true else decide (Sp.sgnI ((Sp.qi (ZaE x y z a s r m q)-q).num*(↑(-Sp.qi 1).den:Int)-(-Sp.qi 1).num*(↑(Sp.qi (ZaE x y z a s r m q)-q).den:Int))<=0)
noncomputable abbrev Zgf (x:Int) (y:Int) (z:Int) (a:Int) (s:Int) (r:Int) (m:Int) (q:Rat):=Sp.sgnI (Sp.qi (ZaE x y z a s r m q)-q).num != 0
noncomputable abbrev zNpH9 (x:Int) (y:Int) (z:Int) (a:Int) (s:Int) (r:Int) (m:Int) (q:Rat):=Sp.sgnI ((Sp.qi (ZaE x y z a s r m q)-q).num*(↑(-Sp.qi 1).den:Int)-(-Sp.qi 1).num*(↑(Sp.qi (ZaE x y z a s r m q)-q).den:Int))
noncomputable abbrev zNpH10 (x:Int) (y:Int) (z:Int) (a:Int) (s:Int) (r:Int) (m:Int) (q:Rat):=Sp.sgnI ((Sp.qi (ZaE x y z a s r m q)-q).num*(↑(Sp.qi 1).den:Int)-(Sp.qi 1).num*(↑(Sp.qi (ZaE x y z a s r m q)-q).den:Int))
theorem lwErr (f g:Bool) (q:Rat) (x y z a s r m:Int)  (dq:AV) (H :
  (Sp.okU 2 (Sp.Zak q.num) (Sp.Zak (↑q.den:Int))) /\
  ((¬(Sp.Zde 2 (Sp.Zad q.num) (Sp.Zak q.num) (Sp.Zad (↑q.den:Int)) (Sp.Zak (↑q.den:Int)) = true)) -> vb true = dq) /\
  (¬(¬(Sp.Zde 2 (Sp.Zad q.num) (Sp.Zak q.num) (Sp.Zad (↑q.den:Int)) (Sp.Zak (↑q.den:Int)) = true)) -> (Sp.okT 2 q /\ Sp.inI m) /\
   (((¬Sp.Zcc x y z a s r m q = 0) \/ ((Sp.Za9 x y z a s r m q = x) /\ ((Sp.Zbd x y z a s r m q = y) /\ (Sp.Zbc x y z a s r m q = z)))) -> vb true = dq) /\
   (¬((¬Sp.Zcc x y z a s r m q = 0) \/ ((Sp.Za9 x y z a s r m q = x) /\ ((Sp.Zbd x y z a s r m q = y) /\ (Sp.Zbc x y z a s r m q = z)))) -> ((Sp.Za8 (Sp.Za9 x y z a s r m q) (Sp.Zbd x y z a s r m q) (Sp.Zbc x y z a s r m q) a s r = 11) -> vb true = dq) /\
    (¬(Sp.Za8 (Sp.Za9 x y z a s r m q) (Sp.Zbd x y z a s r m q) (Sp.Zbc x y z a s r m q) a s r = 11) -> (Sp.inI (Sp.ZaU (Sp.Za9 x y z a s r m q) (Sp.Zbd x y z a s r m q) (Sp.Zbc x y z a s r m q) a s r)) /\
     (Sp.okR (Sp.qi (Sp.ZaU (Sp.Za9 x y z a s r m q) (Sp.Zbd x y z a s r m q) (Sp.Zbc x y z a s r m q) a s r)) /\ Sp.okR q) /\
     (Sp.inI 1) /\
     ((¬(¬Sp.Za8 (Sp.Za9 x y z a s r m q) (Sp.Zbd x y z a s r m q) (Sp.Zbc x y z a s r m q) a s r = 0)) -> (Sp.okR (Sp.qi (Sp.ZaU (Sp.Za9 x y z a s r m q) (Sp.Zbd x y z a s r m q) (Sp.Zbc x y z a s r m q) a s r) - q) /\ Sp.okR (Sp.qi 1))) /\
     ((¬((¬Sp.Za8 (Sp.Za9 x y z a s r m q) (Sp.Zbd x y z a s r m q) (Sp.Zbc x y z a s r m q) a s r = 0) \/ (Sp.sgnI ((Sp.qi (Sp.ZaU (Sp.Za9 x y z a s r m q) (Sp.Zbd x y z a s r m q) (Sp.Zbc x y z a s r m q) a s r) - q).num * (↑(Sp.qi 1).den:Int) - (Sp.qi 1).num * (↑(Sp.qi (Sp.ZaU (Sp.Za9 x y z a s r m q) (Sp.Zbd x y z a s r m q) (Sp.Zbc x y z a s r m q) a s r) - q).den:Int)) >= 0))) -> (Sp.ok (Sp.qi 1).num)) /\
     ((¬((¬Sp.Za8 (Sp.Za9 x y z a s r m q) (Sp.Zbd x y z a s r m q) (Sp.Zbc x y z a s r m q) a s r = 0) \/ (Sp.sgnI ((Sp.qi (Sp.ZaU (Sp.Za9 x y z a s r m q) (Sp.Zbd x y z a s r m q) (Sp.Zbc x y z a s r m q) a s r) - q).num * (↑(Sp.qi 1).den:Int) - (Sp.qi 1).num * (↑(Sp.qi (Sp.ZaU (Sp.Za9 x y z a s r m q) (Sp.Zbd x y z a s r m q) (Sp.Zbc x y z a s r m q) a s r) - q).den:Int)) >= 0))) -> (Sp.okR (Sp.qi (Sp.ZaU (Sp.Za9 x y z a s r m q) (Sp.Zbd x y z a s r m q) (Sp.Zbc x y z a s r m q) a s r) - q) /\ Sp.okR (-Sp.qi 1))) /\
     ((((¬Sp.Za8 (Sp.Za9 x y z a s r m q) (Sp.Zbd x y z a s r m q) (Sp.Zbc x y z a s r m q) a s r = 0) \/ (Sp.sgnI ((Sp.qi (Sp.ZaU (Sp.Za9 x y z a s r m q) (Sp.Zbd x y z a s r m q) (Sp.Zbc x y z a s r m q) a s r) - q).num * (↑(Sp.qi 1).den:Int) - (Sp.qi 1).num * (↑(Sp.qi (Sp.ZaU (Sp.Za9 x y z a s r m q) (Sp.Zbd x y z a s r m q) (Sp.Zbc x y z a s r m q) a s r) - q).den:Int)) >= 0)) \/ (Sp.sgnI ((Sp.qi (Sp.ZaU (Sp.Za9 x y z a s r m q) (Sp.Zbd x y z a s r m q) (Sp.Zbc x y z a s r m q) a s r) - q).num * (↑(-Sp.qi 1).den:Int) - (-Sp.qi 1).num * (↑(Sp.qi (Sp.ZaU (Sp.Za9 x y z a s r m q) (Sp.Zbd x y z a s r m q) (Sp.Zbc x y z a s r m q) a s r) - q).den:Int)) <= 0)) -> vb false = dq) /\
     (¬(((¬Sp.Za8 (Sp.Za9 x y z a s r m q) (Sp.Zbd x y z a s r m q) (Sp.Zbc x y z a s r m q) a s r = 0) \/ (Sp.sgnI ((Sp.qi (Sp.ZaU (Sp.Za9 x y z a s r m q) (Sp.Zbd x y z a s r m q) (Sp.Zbc x y z a s r m q) a s r) - q).num * (↑(Sp.qi 1).den:Int) - (Sp.qi 1).num * (↑(Sp.qi (Sp.ZaU (Sp.Za9 x y z a s r m q) (Sp.Zbd x y z a s r m q) (Sp.Zbc x y z a s r m q) a s r) - q).den:Int)) >= 0)) \/ (Sp.sgnI ((Sp.qi (Sp.ZaU (Sp.Za9 x y z a s r m q) (Sp.Zbd x y z a s r m q) (Sp.Zbc x y z a s r m q) a s r) - q).num * (↑(-Sp.qi 1).den:Int) - (-Sp.qi 1).num * (↑(Sp.qi (Sp.ZaU (Sp.Za9 x y z a s r m q) (Sp.Zbd x y z a s r m q) (Sp.Zbc x y z a s r m q) a s r) - q).den:Int)) <= 0)) -> (((¬(¬(↑(Sp.Zak (↑q.den:Int)).length:Int) = 1)) /\ ((!decide (Sp.qi (Sp.ZaU (Sp.Za9 x y z a s r m q) (Sp.Zbd x y z a s r m q) (Sp.Zbc x y z a s r m q) a s r) = q)) = (Sp.sgnI (Sp.qi (Sp.ZaU (Sp.Za9 x y z a s r m q) (Sp.Zbd x y z a s r m q) (Sp.Zbc x y z a s r m q) a s r) - q).num != 0))) -> (0 < (Sp.Zak (↑q.den:Int)).length)) /\
      (vb (bif (!decide (Sp.qi (Sp.ZaU (Sp.Za9 x y z a s r m q) (Sp.Zbd x y z a s r m q) (Sp.Zbc x y z a s r m q) a s r) = q)) == (Sp.sgnI (Sp.qi (Sp.ZaU (Sp.Za9 x y z a s r m q) (Sp.Zbd x y z a s r m q) (Sp.Zbc x y z a s r m q) a s r) - q).num != 0) then bif bif (↑(Sp.Zak (↑q.den:Int)).length:Int) != 1 then true else (Sp.Zak (↑q.den:Int)).getD 0 default != 1 then true else Sp.sgnI (Sp.qi (Sp.ZaU (Sp.Za9 x y z a s r m q) (Sp.Zbd x y z a s r m q) (Sp.Zbc x y z a s r m q) a s r) - q).num == 0 else false)) = dq))))) :
 lwErr_at f g q x y z a s r m (Zae dq):=by
 unfold lwErr_at
 obtain ⟨k1,H⟩:=H
 refine Zac (G:=Zab kp4 [(1,0,.call (vb true) none),(1,4,.call (vb (Sp.Zde 2 (Sp.Zad q.num) (Sp.Zak q.num) (Sp.Zad (↑q.den:Int)) (Sp.Zak (↑q.den:Int)))) none)] []) 5 [] ⟨(atC (cd Try.f4) [1,0,1]),[(2,vi m),(3,AV.ptr 0 0 0 0),(4,AV.ptr 1 0 0 0),(19,vb !Sp.Zde 2 (Sp.Zad q.num) (Sp.Zak q.num) (Sp.Zad (↑q.den:Int)) (Sp.Zak (↑q.den:Int)))],[⟨[(zNpH4 x y z a s r)],6,0,false,false⟩,⟨[ratA f g q],4,0,false,false⟩],_,[],_⟩ (by kernel_rfl) (bc rfl b0) q0 (ce (@ev8 ) (ce (@ev9 (Sp.Zad q.num) (f) (Sp.Zad (↑q.den:Int)) (g) (Sp.Zak q.num) (Sp.Zak (↑q.den:Int)) (2) k1) c0)) ?_
 rcases xq H with ⟨d3,H⟩|⟨d3,H⟩
 ·exact Zag (G:=Zab kp4 [(2,0,.call (vb true) none)] []) 1000 [true] (asm:=[(!Sp.Zde 2 (Sp.Zad q.num) (Sp.Zak q.num) (Sp.Zad (↑q.den:Int)) (Sp.Zak (↑q.den:Int))) == true]) (vb true) (by kernel_rfl) (bc (Zam ((Za0 (ZbF _)).2 d3)) b0) q0 (ce (@ev8 ) c0) H
 ·obtain ⟨k4,H⟩:=H
  refine Zac (G:=Zab kp4 [(3,10,.call (tu [(zNpH6 x y z a s r m q),vi (Sp.Zcc x y z a s r m q)]) none)] []) 7 [false] ⟨(atC (cd Try.f4) [1,1,1,0,1]),[(3,AV.ptr 0 0 0 0),(4,AV.ptr 1 0 0 0),(7,AV.ptr 2 0 0 0),(42,vb (bif Sp.Zcc x y z a s r m q != 0 then true else Sp.Za9 x y z a s r m q == x && (Sp.Zbd x y z a s r m q == y && (Sp.Zbc x y z a s r m q == z && true))))],[⟨[(zNpH4 x y z a s r)],6,0,false,false⟩,⟨[ratA f g q],4,0,false,false⟩,⟨[(zNpH6 x y z a s r m q)],3,0,false,false⟩],[(!Sp.Zde 2 (Sp.Zad q.num) (Sp.Zak q.num) (Sp.Zad (↑q.den:Int)) (Sp.Zak (↑q.den:Int))) == false,true,true,true,true,true,true,!((Sp.Zcc x y z a s r m q != 0) == false && true) || true,!((Sp.Zcc x y z a s r m q != 0) == false && true) || true],[],_⟩ (by kernel_rfl) (bc (Zal (fun h => d3 ((Za0 (ZbF _)).1 h))) (bc rfl (bc rfl (bc rfl (bc rfl (bc rfl (bc rfl (bc (Bool.or_true _) (bc (Bool.or_true _) b0))))))))) q0 (ce (@ev10 (f) (g) (q) (x) (y) (z) (a) (s) (r) (m) k4) c0) ?_
  rcases xq H with ⟨d6,H⟩|⟨d6,H⟩
  ·exact Zag (G:=Zab kp4 [] []) 1000 [true] (vb true) (by kernel_rfl) (bc (Zam ((Zbu i_ne (i_and i_eq (i_and i_eq (i_at i_eq)))).2 d6)) b0) q0 c0 H
  ·refine Zac (G:=Zab kp4 [(6,7,.call (tu [vi (ZaE x y z a s r m q),vi (Sp.Za8 (Sp.Za9 x y z a s r m q) (Sp.Zbd x y z a s r m q) (Sp.Zbc x y z a s r m q) a s r)]) none)] []) 7 [false] ⟨(atC (cd Try.f4) [1,1,1,1,1,0,1]),[(4,AV.ptr 1 0 0 0),(9,vi (ZaE x y z a s r m q)),(10,vi (Sp.Za8 (Sp.Za9 x y z a s r m q) (Sp.Zbd x y z a s r m q) (Sp.Zbc x y z a s r m q) a s r)),(55,vb (Sp.Za8 (Sp.Za9 x y z a s r m q) (Sp.Zbd x y z a s r m q) (Sp.Zbc x y z a s r m q) a s r == 11))],[⟨[(zNpH4 x y z a s r)],6,0,false,false⟩,⟨[ratA f g q],4,0,false,false⟩,⟨[(zNpH6 x y z a s r m q)],3,0,false,false⟩],_,[],_⟩ (by kernel_rfl) (bc (Zal (fun h => d6 ((Zbu i_ne (i_and i_eq (i_and i_eq (i_at i_eq)))).1 h))) (bc rfl (bc rfl (bc rfl (bc rfl b0))))) q0 (ce (@ev12 (Sp.Za9 x y z a s r m q) (Sp.Zbd x y z a s r m q) (Sp.Zbc x y z a s r m q) (a) (s) (r)) c0) ?_
   rcases xq H with ⟨d8,H⟩|⟨d8,H⟩
   ·exact Zag (G:=Zab kp4 [] []) 1000 [true] (vb true) (by kernel_rfl) (bc (Zam (i_eq.2 d8)) b0) q0 c0 H
   ·obtain ⟨k9,k10,k11,k13,k15,k17,H⟩:=H
    refine Zac (G:=Zab kp4 [(9,1,.call (ratF (Sp.qi (ZaE x y z a s r m q))) none),(9,3,.call (ratF (Sp.qi (ZaE x y z a s r m q) - q)) none),(10,0,.call (ratF (Sp.qi 1)) none),(11,5,.call (vi (zNpH10 x y z a s r m q)) none),(11,11,.call (ratF (-Sp.qi 1)) none),(11,12,.call (vi (zNpH9 x y z a s r m q)) none)] []) 9 [false] ⟨(atC (cd Try.f4) [1,1,1,1,1,1,1,1,0,1]),[(4,AV.ptr 1 0 0 0),(9,vi (ZaE x y z a s r m q)),(11,AV.ptr 3 0 0 0),(75,vb (zNpH7 x y z a s r m q))],[⟨[(zNpH4 x y z a s r)],6,0,false,false⟩,⟨[ratA f g q],4,0,false,false⟩,⟨[(zNpH6 x y z a s r m q)],3,0,false,false⟩,⟨[ratF (Sp.qi (ZaE x y z a s r m q) - q)],4,0,false,false⟩,⟨[ratF (Sp.qi 1)],4,0,false,false⟩],[(Sp.Za8 (Sp.Za9 x y z a s r m q) (Sp.Zbd x y z a s r m q) (Sp.Zbc x y z a s r m q) a s r == 11) == false,true,true,true,!((Sp.Za8 (Sp.Za9 x y z a s r m q) (Sp.Zbd x y z a s r m q) (Sp.Zbc x y z a s r m q) a s r != 0) == false && true) || true,!((Sp.Za8 (Sp.Za9 x y z a s r m q) (Sp.Zbd x y z a s r m q) (Sp.Zbc x y z a s r m q) a s r != 0) == false && true) || true,!((zNpH5 x y z a s r m q) == false && true) || true,!((zNpH5 x y z a s r m q) == false && true) || true],[],[⟨true,false,14,[vi (ZaE x y z a s r m q)],[],ratF (Sp.qi (ZaE x y z a s r m q)),[]⟩,⟨true,false,13,[ratF (Sp.qi (ZaE x y z a s r m q)),ratA f g q],[],ratF (Sp.qi (ZaE x y z a s r m q) - q),[]⟩,⟨true,false,14,[vi 1],[],ratF (Sp.qi 1),[]⟩,⟨(Sp.Za8 (Sp.Za9 x y z a s r m q) (Sp.Zbd x y z a s r m q) (Sp.Zbc x y z a s r m q) a s r != 0) == false && true && true,false,15,[ratF (Sp.qi (ZaE x y z a s r m q) - q),ratF (Sp.qi 1)],[],vi (zNpH10 x y z a s r m q),[]⟩,⟨(zNpH5 x y z a s r m q) == false && true && true,false,16,[ratF (Sp.qi 1)],[],ratF (-Sp.qi 1),[]⟩,⟨(zNpH5 x y z a s r m q) == false && true && true,false,15,[ratF (Sp.qi (ZaE x y z a s r m q) - q),ratF (-Sp.qi 1)],[],vi (zNpH9 x y z a s r m q),[]⟩]⟩ (by kernel_rfl) (bc (Zal (fun h => d8 (i_eq.1 h))) (bc rfl (bc rfl (bc rfl (bc (Bool.or_true _) (bc (Bool.or_true _) (bc (Bool.or_true _) (bc (Bool.or_true _) b0)))))))) q0 (cc (fun _ => (@ev14 (ZaE x y z a s r m q) k9)) (cc (fun _ => (@ev13 (false) (false) (f) (g) (Sp.qi (ZaE x y z a s r m q)) (q) k10)) (cc (fun _ => (@ev14 (1) k11)) (cc (fun hc => ((@ev15 (false) (false) (false) (false) (Sp.qi (ZaE x y z a s r m q) - q) (Sp.qi 1) (k13 ((i_at (i_at (i_bf i_ne))).1 hc))):Ev M1 (Conf.pure 15 [ratF (Sp.qi (ZaE x y z a s r m q) - q),ratF (Sp.qi 1)]) (vi (zNpH10 x y z a s r m q)) [])) (cc (fun hc => ((@ev16 (false) (false) (Sp.qi 1) (k15 ((i_at (i_at (i_bf (Zbu i_ne Zaa)))).1 hc))):Ev M1 (Conf.pure 16 [ratF (Sp.qi 1)]) (ratF (-Sp.qi 1)) [])) (cc (fun hc => ((@ev15 (false) (false) (false) (false) (Sp.qi (ZaE x y z a s r m q) - q) (-Sp.qi 1) (k17 ((i_at (i_at (i_bf (Zbu i_ne Zaa)))).1 hc))):Ev M1 (Conf.pure 15 [ratF (Sp.qi (ZaE x y z a s r m q) - q),ratF (-Sp.qi 1)]) (vi (zNpH9 x y z a s r m q)) [])) c0)))))) ?_
    rcases xq H with ⟨d19,H⟩|⟨d19,H⟩
    ·exact Zag (G:=Zab kp4 [] []) 1000 [true] (vb false) (by kernel_rfl) (bc (Zam ((Zbu (Zbu i_ne Zaa) Zaa).2 d19)) b0) q0 c0 H
    ·have w20:(us (Sp.Zak (↑q.den:Int))).length = (Sp.Zak (↑q.den:Int)).length:=List.length_map ..
     have i21:((bif (↑(us (Sp.Zak (↑q.den:Int))).length:Int) != 1 then true else (Sp.Zak (↑q.den:Int)).getD 0 default != 1) == false && (((!decide (Sp.qi (ZaE x y z a s r m q) = q)) == (Zgf x y z a s r m q)) == true && true) && true) = true ↔ ((¬((¬(↑(Sp.Zak (↑q.den:Int)).length:Int) = 1) \/ (¬(Sp.Zak (↑q.den:Int)).getD 0 default = 1))) /\ ((!decide (Sp.qi (ZaE x y z a s r m q) = q)) = (Sp.sgnI (Sp.qi (ZaE x y z a s r m q) - q).num != 0))):=(by (try rw [w20]);all_goals exact (i_at (i_and (i_bf (Zbu i_ne i_ne)) (i_at (i_bt i_eq)))))
     have i22:(!(((↑(us (Sp.Zak (↑q.den:Int))).length:Int) != 1) == false && (((!decide (Sp.qi (ZaE x y z a s r m q) = q)) == (Zgf x y z a s r m q)) == true && true)) || decide (0 < (us (Sp.Zak (↑q.den:Int))).length)) = true ↔ (((¬(¬(↑(Sp.Zak (↑q.den:Int)).length:Int) = 1)) /\ ((!decide (Sp.qi (ZaE x y z a s r m q) = q)) = (Sp.sgnI (Sp.qi (ZaE x y z a s r m q) - q).num != 0))) -> (0 < (Sp.Zak (↑q.den:Int)).length)):=(by (try rw [w20]);all_goals exact (ZeF (i_and (i_bf i_ne) (i_at (i_bt i_eq))) Zaa))
     obtain ⟨k23,H⟩:=H
     exact Zag (G:=Zab kp4 [(13,1,.call (ratF (Sp.qi (ZaE x y z a s r m q))) none),(13,3,.call (vb (decide (Sp.qi (ZaE x y z a s r m q) = q))) none),(13,6,.call (vi (Sp.sgnI (Sp.qi (ZaE x y z a s r m q) - q).num)) none),(13,20,.elem (vu ((Sp.Zak (↑q.den:Int)).getD 0 default))),(13,25,.call (vi (Sp.sgnI (Sp.qi (ZaE x y z a s r m q) - q).num)) none)] []) 1000 [false] (asm:=[(zNpH7 x y z a s r m q) == false,true,true,!(((!decide (Sp.qi (ZaE x y z a s r m q) = q)) == (Zgf x y z a s r m q)) == true && true) || true,!(((↑(us (Sp.Zak (↑q.den:Int))).length:Int) != 1) == false && (((!decide (Sp.qi (ZaE x y z a s r m q) = q)) == (Zgf x y z a s r m q)) == true && true)) || true,!(((↑(us (Sp.Zak (↑q.den:Int))).length:Int) != 1) == false && (((!decide (Sp.qi (ZaE x y z a s r m q) = q)) == (Zgf x y z a s r m q)) == true && true)) || true,!(((↑(us (Sp.Zak (↑q.den:Int))).length:Int) != 1) == false && (((!decide (Sp.qi (ZaE x y z a s r m q) = q)) == (Zgf x y z a s r m q)) == true && true)) || decide (0 < (us (Sp.Zak (↑q.den:Int))).length),!((bif (↑(us (Sp.Zak (↑q.den:Int))).length:Int) != 1 then true else (Sp.Zak (↑q.den:Int)).getD 0 default != 1) == false && (((!decide (Sp.qi (ZaE x y z a s r m q) = q)) == (Zgf x y z a s r m q)) == true && true)) || true]) (eqs:=[((((↑(us (Sp.Zak (↑q.den:Int))).length:Int) != 1) == false && (((!decide (Sp.qi (ZaE x y z a s r m q) = q)) == (Zgf x y z a s r m q)) == true && true)) = true -> (us (Sp.Zak (↑q.den:Int))).get?Internal 0 = some (vu ((Sp.Zak (↑q.den:Int)).getD 0 default)))]) (calls:=[⟨true,false,14,[vi (ZaE x y z a s r m q)],[],ratF (Sp.qi (ZaE x y z a s r m q)),[]⟩,⟨true,false,17,[ratF (Sp.qi (ZaE x y z a s r m q)),ratA f g q],[],vb (decide (Sp.qi (ZaE x y z a s r m q) = q)),[]⟩,⟨true,false,18,[ratF (Sp.qi (ZaE x y z a s r m q) - q)],[],vi (Sp.sgnI (Sp.qi (ZaE x y z a s r m q) - q).num),[]⟩,⟨(bif (↑(us (Sp.Zak (↑q.den:Int))).length:Int) != 1 then true else (Sp.Zak (↑q.den:Int)).getD 0 default != 1) == false && (((!decide (Sp.qi (ZaE x y z a s r m q) = q)) == (Zgf x y z a s r m q)) == true && true) && true,false,18,[ratF (Sp.qi (ZaE x y z a s r m q) - q)],[],vi (Sp.sgnI (Sp.qi (ZaE x y z a s r m q) - q).num),[]⟩]) (vb (bif (!decide (Sp.qi (ZaE x y z a s r m q) = q)) == (Zgf x y z a s r m q) then bif bif (↑(us (Sp.Zak (↑q.den:Int))).length:Int) != 1 then true else (Sp.Zak (↑q.den:Int)).getD 0 default != 1 then true else Sp.sgnI (Sp.qi (ZaE x y z a s r m q) - q).num == 0 else false)) (by kernel_rfl) (bc (Zal (fun h => d19 ((Zbu (Zbu i_ne Zaa) Zaa).1 h))) (bc rfl (bc rfl (bc (Bool.or_true _) (bc (Bool.or_true _) (bc (Bool.or_true _) (bc (i22.2 k23) (bc (Bool.or_true _) b0)))))))) (qc (by (try rw [w20]);all_goals exact (fun h => Zaq (k23 ((i_and (i_bf i_ne) (i_at (i_bt i_eq))).1 h)))) q0) (cc (fun _ => (@ev14 (ZaE x y z a s r m q) k9)) (cc (fun _ => (@ev17 (false) (false) (f) (g) (Sp.qi (ZaE x y z a s r m q)) (q) k10)) (cc (fun _ => (@ev18 (false) (false) ((Sp.qi (ZaE x y z a s r m q) - q).num) ((↑(Sp.qi (ZaE x y z a s r m q) - q).den:Int)))) (cc (fun hc => ((@ev18 (false) (false) ((Sp.qi (ZaE x y z a s r m q) - q).num) ((↑(Sp.qi (ZaE x y z a s r m q) - q).den:Int))):Ev M1 (Conf.pure 18 [ratF (Sp.qi (ZaE x y z a s r m q) - q)]) (vi (Sp.sgnI (Sp.qi (ZaE x y z a s r m q) - q).num)) [])) c0)))) (by (try rw [w20]);all_goals exact H)
theorem lwErrR (s1 t1 f1 g1:Bool) (x1 y1:List Int) (x y z a s r m:Int)  (dq:AV) (H :
  (Sp.okU 2 x1 y1) /\
  ((¬(Sp.Zde 2 s1 x1 t1 y1 = true)) -> vb true = dq) /\
  (¬(¬(Sp.Zde 2 s1 x1 t1 y1 = true)) -> False)) :
 lwErrR_at s1 t1 f1 g1 x1 y1 x y z a s r m (Zae dq):=by
 unfold lwErrR_at
 obtain ⟨k1,H⟩:=H
 refine Zac (G:=Zab kp4 [(1,0,.call (vb true) none),(1,4,.call (vb (Sp.Zde 2 s1 x1 t1 y1)) none)] []) 5 [] ⟨(atC (cd Try.f4) [1,0,1]),[(2,vi m),(3,AV.ptr 0 0 0 0),(4,AV.ptr 1 0 0 0),(19,vb !Sp.Zde 2 s1 x1 t1 y1)],[⟨[ag [vi x,vi y,vi z,vi a,vi s,vi r]],6,0,false,false⟩,⟨[ag [vb s1,AV.vec f1 1 (us x1),vb t1,AV.vec g1 1 (us y1)]],4,0,false,false⟩],_,[],_⟩ (by kernel_rfl) (bc rfl b0) q0 (ce (@ev8 ) (ce (@ev9 (s1) (f1) (t1) (g1) (x1) (y1) (2) k1) c0)) ?_
 rcases xq H with ⟨d3,H⟩|⟨d3,H⟩
 ·exact Zag (G:=Zab kp4 [(2,0,.call (vb true) none)] []) 1000 [true] (asm:=[(!Sp.Zde 2 s1 x1 t1 y1) == true]) (vb true) (by kernel_rfl) (bc (Zam ((Za0 (ZbF _)).2 d3)) b0) q0 (ce (@ev8 ) c0) H
 ·exact False.elim H
end Go.Av

namespace Go.Av
open Go.Proofs
theorem small_ratP {s t:Bool} {x y:List Int} (h:Sp.Zde 2 s x t y = true):∃ r:Rat,Sp.okT 2 r /\ s = Sp.Zad r.num /\ x = Sp.Zak r.num /\ t = Sp.Zad (r.den:Int) /\ y = Sp.Zak (r.den:Int):=by
 obtain ⟨h1,h2,r,rfl,rfl,rfl,rfl⟩:=smallB_iff.1 h
 rw [show (Sp.Zak r.num).length = Sp.cnt r.num.natAbs from Zaz _] at h1
 rw [show (Sp.Zak (r.den:Int)).length = Sp.cnt (r.den:Int).natAbs from Zaz _,Int.natAbs_natCast] at h2
 exact ⟨r,⟨by omega,by omega⟩,rfl,rfl,rfl,rfl⟩
theorem tch_inv {x y z a s r m:Int} {q:Rat} (h:¬((¬Sp.Zcc x y z a s r m q = 0) \/ ((Sp.Za9 x y z a s r m q = x) /\ ((Sp.Zbd x y z a s r m q = y) /\ (Sp.Zbc x y z a s r m q = z))))):Sp.pW a s r /\ Sp.pP x y z /\ ¬Sp.dst x y z a s r q <= 0 /\ Sp.pM (Sp.tcP x y z a s r q) /\ Sp.Za9 x y z a s r m q = Sp.putX x a (Sp.tcP x y z a s r q) /\ Sp.Zbd x y z a s r m q = Sp.putY y a (Sp.tcP x y z a s r q) /\ Sp.Zbc x y z a s r m q = Sp.putZ z a (Sp.tcP x y z a s r q):=by
 have e:Sp.Zcc x y z a s r m q = 0:=Classical.not_not.1 fun k => h (.inl k)
 have n:¬((Sp.Za9 x y z a s r m q = x) /\ ((Sp.Zbd x y z a s r m q = y) /\ (Sp.Zbc x y z a s r m q = z))):=fun k => h (.inr k)
 have hw:Sp.pW a s r /\ 0 <= m:=Classical.byContradiction fun k => by
  have:Sp.Zcc x y z a s r m q = 1:=by unfold Sp.Zcc;rw [if_neg k]
  omega
 have hp:Sp.pP x y z:=Classical.byContradiction fun k => by have:=tch_11 (q:=q) hw k;omega
 have d:¬Sp.dst x y z a s r q <= 0:=fun d => n (by
  unfold Sp.Za9 Sp.Zbd Sp.Zbc
  rw [e,if_pos rfl,if_pos rfl,if_pos rfl,if_pos d,if_pos d,if_pos d]
  exact ⟨rfl,rfl,rfl⟩)
 have c:¬m < Sp.tcC x y z a s r q:=fun c => by have:=tch_4 hw hp d c;omega
 have p:Sp.pM (Sp.tcP x y z a s r q):=Classical.byContradiction fun k => by have:=tch_out hw hp d c k;omega
 have v:=tch_mv4 hw hp d c p
 exact ⟨hw.1,hp,d,p,v.1,v.2.1,v.2.2.1⟩
theorem alg_put {x y z a s r t:Int} (h:Sp.pW a s r):Sp.alg (Sp.putX x a t) (Sp.putY y a t) (Sp.putZ z a t) a = t:=by
 have ha:a = 0 \/ a = 1 \/ a = 2:=by have:=h.1;omega
 rcases ha with rfl | rfl | rfl <;> rfl
theorem put_in {x y z a t:Int} (h:Sp.pP x y z) (p:Sp.pM t):Sp.pP (Sp.putX x a t) (Sp.putY y a t) (Sp.putZ z a t):=by
 unfold Sp.putX Sp.putY Sp.putZ
 refine ⟨?_,?_,?_⟩
 ·split
  ·exact p
  ·exact h.1
 ·split
  ·exact h.2.1
  ·split
   ·exact p
   ·exact h.2.1
 ·split
  ·exact h.2.2
  ·split
   ·exact h.2.2
   ·exact p
theorem ceil_lt (d:Rat):d <= Sp.qi d.ceil /\ Sp.qi d.ceil < d + 1:=by
 rw [Rat.ceil_eq_neg_floor_neg,Zby,Rat.intCast_neg]
 have h1:=Rat.floor_le (-d)
 have h2:=Rat.lt_floor (x:=-d)
 constructor <;> grind
theorem err_d {x y z a s r:Int} {q:Rat} (hw:Sp.pW a s r):Sp.qi (Sp.tcP x y z a s r q + s * Sp.rea a r) - q = Sp.qi s * (Sp.qi (Sp.tcC x y z a s r q) - Sp.dst x y z a s r q):=by
 have e:=edge_d (x:=x) (y:=y) (z:=z) (q:=q) hw
 have e1:Sp.qi 1 = 1:=by rw [Zby];rfl
 have e2:Sp.qi (-1) = -1:=by rw [Zby];rfl
 unfold Sp.tcP
 generalize Sp.tcC x y z a s r q = c
 generalize Sp.dst x y z a s r q = d at *
 generalize Sp.alg x y z a = t at *
 generalize Sp.rea a r = ρ at *
 rcases hw.2.1 with rfl | rfl
 ·rw [Int.one_mul] at e ⊢
  rw [Int.one_mul,<- Zeq,<- Zeq,e1] at *
  grind
 ·rw [show t + -1 * c + -1 * ρ = -(-t + c + ρ) by omega,<- ZcZ,<- Zeq,<- Zeq,<- ZcZ,e2]
  rw [show (-1:Int) * t = -t by omega,e2,<- ZcZ t] at e
  grind
theorem den_one {q:Rat} (h1:((Sp.Zak (q.den:Int)).length:Int) = 1) (h2:(Sp.Zak (q.den:Int)).getD 0 default = 1):q = Sp.qi q.num:=by
 have l:(Sp.Zak (q.den:Int)).length = Sp.cnt q.den:=Zaz _
 have c1:Sp.cnt q.den = 1:=by omega
 have g:(Sp.Zak (q.den:Int)).getD 0 default = ((q.den / 1000000000 ^ 0 % 1000000000:Nat):Int):=Zas _ (show 0 < Sp.cnt q.den by omega)
 have f:=Zat.2 (show Sp.cnt q.den <= 1 by omega)
 unfold Sp.fits at f
 rw [Nat.pow_one] at f
 rw [h2,Nat.pow_zero,Nat.div_one,Nat.mod_eq_of_lt f] at g
 rw [Zby]
 exact Rat.ext (by rw [Rat.num_intCast]) (by rw [Rat.den_intCast];omega)
theorem pcmp_le {r s:Rat}:Sp.sgnI (r.num * (s.den:Int) - s.num * (r.den:Int)) <= 0 ↔ r <= s:=by
 rw [sgn_le,Rat.le_iff]
 constructor <;> intro h <;> omega
theorem ev4 (s1 t1:Bool) (x1 y1:List Int) (x y z a s r m:Int) (h:Sp.okU 2 x1 y1) (hm:Sp.inI m):Ev M1 (.pure 4 [.agg [.int .i64 x,.int .i64 y,.int .i64 z,.int .i64 a,.int .i64 s,.int .i64 r],.agg [.bool s1,.vec false 1 (x1.map (.int .u32)),.bool t1,.vec false 1 (y1.map (.int .u32))],.int .i64 m]) (.bool true) []:=by
 by_cases k1:Sp.Zde 2 s1 x1 t1 y1 = true
 case neg => exact call4 (lwErrR _ _ _ _ _ _ _ _ _ _ _ _ _ _ ⟨h,fun _ => rfl,fun j => j k1⟩)
 obtain ⟨q,hq,rfl,rfl,rfl,rfl⟩:=small_ratP k1
 refine call4 (lwErr _ _ _ _ _ _ _ _ _ _ _ ⟨h,fun j => absurd k1 j,fun _ => ⟨⟨hq,hm⟩,fun _ => rfl,fun mv => ?_⟩⟩)
 obtain ⟨hw,hp,d0,pm,v1,v2,v3⟩:=tch_inv mv
 have pp:=put_in (a:=a) hp pm
 have al:=alg_put (x:=x) (y:=y) (z:=z) (t:=Sp.tcP x y z a s r q) hw
 rw [v1,v2,v3]
 generalize hX:Sp.putX x a (Sp.tcP x y z a s r q) = X at *
 generalize hY:Sp.putY y a (Sp.tcP x y z a s r q) = Y at *
 generalize hZ:Sp.putZ z a (Sp.tcP x y z a s r q) = Z at *
 refine ⟨fun _ => rfl,fun n11 => ?_⟩
 have w0:Sp.Za8 X Y Z a s r = 0:=by
  unfold Sp.Za8 at n11 ⊢
  rw [if_pos hw,if_pos pp] at n11 ⊢
  split at n11
  ·next k => rw [if_pos k]
  ·exact absurd rfl n11
 have wv:Sp.ZaU X Y Z a s r = Sp.tcP x y z a s r q + s * Sp.rea a r:=by
  unfold Sp.ZaU;rw [if_pos w0];unfold Sp.wal;rw [al]
 have sr:=(sr_in hw).1
 have inn:Sp.inI (Sp.ZaU X Y Z a s r):=by rw [wv];unfold Sp.pM at pm;unfold Sp.inI;omega
 have e1:Sp.qi 1 = 1:=by rw [Zby];rfl
 have e2:Sp.qi (-1) = -1:=by rw [Zby];rfl
 have hd:Sp.qi (Sp.ZaU X Y Z a s r) - q = Sp.qi s * (Sp.qi (Sp.tcC x y z a s r q) - Sp.dst x y z a s r q):=by rw [wv];exact err_d hw
 have cl:=ceil_lt (Sp.dst x y z a s r q)
 have i1:Sp.inI 1:=by unfold Sp.inI;omega
 have tn:=ZaW inn
 have td:=Zev tn hq
 have small:Sp.qi (Sp.ZaU X Y Z a s r) - q < 1 /\ -1 < Sp.qi (Sp.ZaU X Y Z a s r) - q:=by
  have cl:Sp.dst x y z a s r q <= Sp.qi (Sp.tcC x y z a s r q) /\ Sp.qi (Sp.tcC x y z a s r q) < Sp.dst x y z a s r q + 1:=cl
  rw [hd]
  rcases hw.2.1 with rfl | rfl
  ·rw [e1];constructor <;> grind
  ·rw [e2];constructor <;> grind
 have whole:((Sp.Zak (q.den:Int)).length:Int) = 1 -> (Sp.Zak (q.den:Int)).getD 0 default = 1 -> Sp.qi (Sp.ZaU X Y Z a s r) - q = 0:=fun j1 j2 => by
  have qe:=den_one j1 j2
  have ed:=edge_d (x:=x) (y:=y) (z:=z) (q:=q) hw
  have dn:∃ n:Int,Sp.dst x y z a s r q = Sp.qi n:=by
   rcases hw.2.1 with rfl | rfl
   ·refine ⟨q.num - Sp.rea a r - 1 * Sp.alg x y z a,?_⟩
    rw [<- ZdR,<- ZdR,<- qe]
    rw [e1] at ed;grind
   ·refine ⟨-q.num - Sp.rea a r - -1 * Sp.alg x y z a,?_⟩
    rw [<- ZdR,<- ZdR,<- ZcZ,<- qe]
    rw [e2] at ed;grind
  obtain ⟨n,hn⟩:=dn
  have tc:Sp.tcC x y z a s r q = n:=by unfold Sp.tcC;rw [hn,ceil_int]
  rw [hd,tc,hn];grind
 rw [pcmp_ge,pcmp_le]
 refine ⟨inn,⟨Zbz tn (by omega),Zbz hq (by omega)⟩,i1,fun _ => ⟨Zbz td (by omega),Zbz (ZaW i1) (by omega)⟩,fun _ => okT_ok (ZaW i1) (by omega),fun _ => ⟨Zbz td (by omega),Zbz (Zew (ZaW i1)) (by omega)⟩,fun bad => ?_,fun _ => ⟨fun _ => ?_,congrArg AV.bool ?_⟩⟩
 ·rw [e1] at bad
  rcases bad with (b | b) | b
  ·exact absurd w0 b
  ·grind
  ·grind
 ·have:(Sp.Zak (q.den:Int)).length = Sp.cnt q.den:=Zaz _
  have:Sp.cnt q.den ≠ 0:=fun e => by have:=Zax.1 e;have:=q.den_pos;omega
  omega
 ·have hz:(Sp.sgnI (Sp.qi (Sp.ZaU X Y Z a s r) - q).num = 0) ↔ Sp.qi (Sp.ZaU X Y Z a s r) - q = 0:=by rw [ZcJ,Rat.num_eq_zero]
  have hq2:(Sp.qi (Sp.ZaU X Y Z a s r) = q) ↔ Sp.qi (Sp.ZaU X Y Z a s r) - q = 0:=by constructor <;> intro k <;> grind
  by_cases k:Sp.qi (Sp.ZaU X Y Z a s r) - q = 0
  ·rw [decide_eq_true (hq2.2 k),hz.2 k]
   cases ((Sp.Zak (q.den:Int)).length:Int) != 1 <;> cases (Sp.Zak (q.den:Int)).getD 0 default != 1 <;> rfl
  ·have ns:(Sp.sgnI (Sp.qi (Sp.ZaU X Y Z a s r) - q).num != 0) = true:=by simpa using fun e => k (hz.1 e)
   rw [decide_eq_false fun e => k (hq2.1 e),ns]
   by_cases j1:((Sp.Zak (q.den:Int)).length:Int) = 1
   ·by_cases j2:(Sp.Zak (q.den:Int)).getD 0 default = 1
    ·exact absurd (whole j1 j2) k
    ·rw [show ((Sp.Zak (q.den:Int)).getD 0 default != 1) = true by simpa using j2]
     cases ((Sp.Zak (q.den:Int)).length:Int) != 1 <;> rfl
   ·rw [show (((Sp.Zak (q.den:Int)).length:Int) != 1) = true by simpa using j1];rfl
end Go.Av
